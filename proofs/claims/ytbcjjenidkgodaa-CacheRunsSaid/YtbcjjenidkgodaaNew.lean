/- New. -/
import Derived.Test.YtbcjjenidkgodaaPutW
import Derived.Laws.MakeOwn
namespace Go.Proofs.Ytbcjjenidkgodaa
open Go Go.RowKit

theorem made_flat (r : List Value) (N : Nat) (hr : 0 < r.length) : (madeCells r.toArray (N * r.length)).toList = (List.replicate N r).flatten := by
  apply List.ext_getElem?
  intro j
  have hfl := flat_len (sz := r.length) (List.replicate N r) (fun cs hcs => by rw [(List.mem_replicate.1 hcs).2])
  rw [List.length_replicate] at hfl
  by_cases hj : j < N * r.length
  · have h1 : j / r.length < N := Nat.div_lt_of_lt_mul (by rw [Nat.mul_comm]; exact hj)
    have h2 : j % r.length < r.length := Nat.mod_lt _ hr
    have h3 := flat_get (sz := r.length) (List.replicate N r) (fun cs hcs => by rw [(List.mem_replicate.1 hcs).2]) (j / r.length) r (by rw [List.getElem?_replicate, if_pos h1]) (j % r.length) _ (List.getElem?_eq_getElem h2)
    have he : j / r.length * r.length + j % r.length = j := by rw [Nat.mul_comm]; exact Nat.div_add_mod j _
    rw [he] at h3
    rw [h3]
    simp only [madeCells, Array.toList_map, Array.toList_range, List.getElem?_map, List.getElem?_range hj, Option.map_some]
    simp [h2]
  · rw [List.getElem?_eq_none (by simp [madeCells]; omega), List.getElem?_eq_none (by rw [hfl]; omega)]

def zrow : List Value := [.bool false, .int .i64 0, .int .i64 0, .slice none 0 0, .bool false, .bool false]

theorem slots_made (w : World) (N base : Nat) (S : Nat → Prop) (hN : 1 ≤ N) (hN2 : N ≤ 1000) (hb : base ≤ w.heap.size) :
    SlotsOwn (w.alloc (.cells (madeCells (Value.agg zrow.toArray).cells (N * 6)) 55)) base S w.heap.size N (List.replicate N Slot.zero) := by
  have hm := made_flat zrow N (by decide)
  have e : (Value.agg zrow.toArray).cells = zrow.toArray := by simp [zrow, Value.cells, go_sem]
  rw [e]
  refine ⟨List.replicate N zrow, ⟨fun cs hcs => ?_, ?_⟩, ?_⟩
  · obtain rfl := (List.mem_replicate.1 hcs).2
    exact ⟨rfl, by simp [zrow, Value.oneCell']⟩
  · have := World.ownsRow_lit (base := base) (e := 55) w (madeCells zrow.toArray (N * 6)) N hb (by simp [maxLen]; omega) (size_madeCells _ _)
    simp only [List.length_replicate]
    rw [← hm]
    exact this
  · refine ⟨by simp, fun i cs x h1 h2 => ?_⟩
    obtain rfl := (List.mem_replicate.1 (List.mem_of_getElem? h1)).2
    obtain rfl := (List.mem_replicate.1 (List.mem_of_getElem? h2)).2
    exact ⟨_, rfl, Arr.nil _ _ _ _⟩

def Ca.new (sets ways size : Nat) : Ca := ⟨sets, ways, size, List.replicate (sets * ways) Slot.zero⟩

theorem setL_new (sets ways size s : Nat) (h : s < sets) : (Ca.new sets ways size).setL s = List.replicate ways Slot.zero := by
  have := Nat.mul_le_mul_right ways (show s + 1 ≤ sets by omega)
  rw [Nat.add_mul, Nat.one_mul] at this
  simp only [Ca.setL, Ca.new, List.drop_replicate, List.take_replicate]
  congr 1
  omega

theorem validC_new (sets ways size : Nat) (h1 : 1 ≤ sets) (h2 : sets ≤ 8) (h3 : 1 ≤ ways) (h4 : ways ≤ 4) (h5 : 1 ≤ size) (h6 : size ≤ 32) : ValidC (Ca.new sets ways size) where
  sets1 := h1
  sets8 := h2
  ways1 := h3
  ways4 := h4
  size1 := h5
  size32 := h6
  len := by simp [Ca.new]
  right_ := fun s hs => ⟨0, by
    have hs' : s < sets := hs
    rw [setL_new _ _ _ _ hs']
    exact ⟨Nat.zero_le _, fun i s h => absurd h (by omega), fun i s _ h => (List.mem_replicate.1 (List.mem_of_getElem? h)).2, fun i j s t h h2 => absurd h2 (by omega)⟩⟩

set_option maxHeartbeats 1000000 in
theorem new_calls (w : World) (sets ways size : Nat) (S : Nat → Prop) (h1 : 1 ≤ sets) (h2 : sets ≤ 8) (h3 : 1 ≤ ways) (h4 : ways ≤ 4) (h5 : 1 ≤ size) (h6 : size ≤ 32) :
    Calls Try.prog 7 #[.int .i64 sets, .int .i64 ways, .int .i64 size] w fun e w' =>
      e = .returned (.tuple #[.agg (cacheCells (Ca.new sets ways size) (.slice (some ⟨w.heap.size + 1, 0, none⟩) (sets * ways) (sets * ways))).toArray, .int .i64 0]) ∧
      SlotsOwn w' (w.heap.size + 1) S (w.heap.size + 1) (sets * ways) (Ca.new sets ways size).slots ∧ KF w w' := by
  obtain ⟨i0, hi, hz0, hz1, hz2⟩ := info_parts info_slot
  obtain ⟨N, hN⟩ : ∃ N, N = sets * ways := ⟨_, rfl⟩
  have hN1 : 1 ≤ N := by rw [hN]; exact Nat.mul_le_mul h1 h3
  have hN2 : N ≤ 32 := by rw [hN]; exact Nat.mul_le_mul h2 h4
  have hc : (sets : Int) * (ways : Int) = (N : Int) := by rw [hN]; simp
  have hw : wrap64 ((sets : Int) * (ways : Int)) = (N : Int) := by rw [hc]; exact IntWalk.wrap64_in _ (by omega)
  have hmk : ∀ w : World, (Instr.makeSlice 27 (.int .i64 (N : Int)) (.int .i64 (N : Int))).run Try.prog w = .ok (.slice (some ⟨w.heap.size, 0, none⟩) N N) (w.alloc (.cells (madeCells (Value.agg zrow.toArray).cells (N * 6)) 55)) := fun w => by
    have := run_make (P := Try.prog) w 27 55 i0 (.agg zrow.toArray) Try.underlying27 hi hz0 .i64 .i64 N N (by omega) (by omega) (by rw [hz2]; omega) (by omega)
    simpa [hz1] using this
  have hsl := fun W (h : w.heap.size + 1 ≤ W.heap.size) => slots_made W N (w.heap.size + 1) S hN1 (by omega) h
  have hca : (Ca.new sets ways size).slots = List.replicate N Slot.zero := by rw [hN]; rfl
  rw [hca]
  have hmk' := Lib.hid hmk
  have hsl' := Lib.hid hsl
  clear hmk hsl hca hc hi hz0 hz1 hz2
  have hN' := Lib.hid hN
  clear hN
  go_enter Try.func7, Try.ntmps7
  go_wp2_with fail
  refine (sized_calls _ _ _ _ (by simp only [sizedB, Bool.and_eq_true, decide_eq_true_eq]; omega)).mono ?_
  rintro e w1 ⟨rfl, rfl⟩
  have hmk := hmk'.out
  go_wp2
  rw [← hN'.out]
  refine bodyPost_ret (v := .tuple #[.agg #[.int .i64 sets, .int .i64 ways, .int .i64 size, .slice (some ⟨w.heap.size + 1, 0, none⟩) N N], .int .i64 0]) (by simp [results, Try.results7, go_sem]) rfl ⟨rfl, ?_, ((Keep.refl _ w).alloc _).alloc _⟩
  have := hsl'.out (w.alloc (.cells #[.int .i64 sets, .int .i64 ways, .int .i64 size, .slice (some ⟨w.heap.size + 1, 0, none⟩) N N] 29)) (by simp)
  have ez : (Value.agg zrow.toArray).cells = zrow.toArray := by simp [zrow, Value.cells, go_sem]
  rw [ez] at this
  simpa using this
end Go.Proofs.Ytbcjjenidkgodaa
