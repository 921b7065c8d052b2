/- Valid and set, of valid caches. -/
import Derived.Test.YtbcjjenidkgodaaRight
namespace Go.Proofs.Ytbcjjenidkgodaa
open Go Go.RowKit

structure Ca where
  sets : Nat
  ways : Nat
  size : Nat
  slots : List Slot

def Ca.setL (c : Ca) (s : Nat) : List Slot := (c.slots.drop (s * c.ways)).take c.ways

structure ValidC (c : Ca) : Prop where
  sets1 : 1 ≤ c.sets
  sets8 : c.sets ≤ 8
  ways1 : 1 ≤ c.ways
  ways4 : c.ways ≤ 4
  size1 : 1 ≤ c.size
  size32 : c.size ≤ 32
  len : c.slots.length = c.sets * c.ways
  right_ : ∀ s, s < c.sets → ∃ used, RightL c.sets c.size s (c.setL s) used

theorem ValidC.bound {c : Ca} (h : ValidC c) : c.slots.length ≤ 32 := by
  rw [h.len]
  have := Nat.mul_le_mul h.sets8 h.ways4
  omega
theorem ValidC.pos {c : Ca} (h : ValidC c) : 1 ≤ c.slots.length := by
  rw [h.len]
  have := Nat.mul_le_mul h.sets1 h.ways1
  omega

def cacheCells (c : Ca) (v : Value) : List Value := [.int .i64 c.sets, .int .i64 c.ways, .int .i64 c.size, v]

theorem RSlots.slice {w : World} {S : Nat → Prop} {b off n c : Nat} {ss : List Slot} (h : RSlots w S (.slice (some ⟨b, off, none⟩) n c) ss) (lo hi : Nat) (hl : lo < hi) (hh : hi ≤ n) (hnc : n ≤ c) :
    RSlots w S (.slice (some ⟨b, off + lo * 6, none⟩) (hi - lo) (c - lo)) ((ss.drop lo).take (hi - lo)) := by
  obtain ⟨css, h1, h2⟩ := h
  have h3 := h1.slice lo hi (by omega) hh
  rw [if_neg (by omega)] at h3
  refine ⟨_, ?_, h2.slice lo (hi - lo)⟩
  have e : (some (⟨b, off, none⟩ : Addr)).map (·.add (lo * 6)) = some ⟨b, off + lo * 6, none⟩ := by
    simp only [Option.map_some, Option.some.injEq]
    unfold Addr.add
    by_cases hz : lo * 6 = 0 <;> simp [hz]
  rw [e] at h3
  exact h3

set_option maxHeartbeats 2000000 in
theorem valid_calls (w : World) (S : Nat → Prop) (c : Ca) (v : Value) (hv : RSlots w S v c.slots) (hV : ValidC c) :
    Calls Try.prog 14 #[.agg (cacheCells c v).toArray] w fun e w' => e = .returned (.bool true) ∧ KF w w' := by
  obtain ⟨sets, ways, size, slots⟩ := c
  obtain ⟨A, cap, rfl, hc1, hc2, hcell⟩ := hv.cases
  obtain ⟨b, off, rfl, hbl, hSb, -⟩ := hcell (by intro h; have := hV.pos; simp only [] at h this; rw [h] at this; simp at this)
  have hbd := hV.bound
  obtain ⟨v1, v2, v3, v4, v5, v6, v7, v8⟩ := hV
  simp only [Ca.setL] at *
  have hml : (sets : Int) * (ways : Int) = (slots.length : Int) := by rw [v7]; simp
  have hmlb : ((slots.length : Int) != (sets : Int) * (ways : Int)) = false := by rw [hml]; simp
  have hm0 : 0 ≤ (sets : Int) * (ways : Int) := by rw [hml]; omega
  have hm1 : (sets : Int) * (ways : Int) ≤ 32 := by rw [hml]; omega
  have hv7 := Lib.hid v7
  have hml' := Lib.hid hml
  clear v7 hml hcell
  go_enter Try.func14, Try.ntmps14
  unfold cacheCells
  go_wp2_with fail
  refine (sized_calls _ _ _ _ (by simp only [sizedB, Bool.and_eq_true, decide_eq_true_eq]; omega)).mono ?_
  rintro e w1 ⟨rfl, rfl⟩
  go_wp2_with fail
  go_loopw [25] (fun x wr => ∃ k : Nat, k ≤ sets ∧ x = .int .i64 (k : Int) ∧ KF w wr ∧ wr.heap[w.heap.size]? = some (.cells #[.int .i64 sets, .int .i64 ways, .int .i64 size, .slice (some ⟨b, off, none⟩) slots.length cap] 29 (0, 0))) (fun x _ => sets - (intOf x).toNat)
  case atStart => exact ⟨0, Nat.zero_le _, rfl, (Keep.refl _ w).alloc _, at_new rfl⟩
  case round =>
    obtain ⟨k, hk, rfl, hkr, hbox⟩ := hrel
    by_cases hlt : k < sets
    · obtain ⟨used, hR⟩ := v8 k hlt
      have hkw : (k + 1) * ways ≤ slots.length := by rw [hv7.out]; exact Nat.mul_le_mul_right _ hlt
      have hkw' : k * ways + ways ≤ slots.length := by rw [Nat.add_mul, Nat.one_mul] at hkw; exact hkw
      have e1 : (k : Int) * (ways : Int) = ((k * ways : Nat) : Int) := by simp
      have e2 : ((k : Int) + 1) * (ways : Int) = ((k * ways + ways : Nat) : Int) := by rw [Int.add_mul, e1]; simp
      have b1 : 0 ≤ (k : Int) * (ways : Int) ∧ (k : Int) * (ways : Int) ≤ 32 := by rw [e1]; omega
      have b2 : 0 ≤ ((k : Int) + 1) * (ways : Int) ∧ ((k : Int) + 1) * (ways : Int) ≤ 32 := by rw [e2]; omega
      have b3 : (k : Int) * (ways : Int) < ((k : Int) + 1) * (ways : Int) ∧ ((k : Int) + 1) * (ways : Int) ≤ slots.length := by rw [e1, e2]; omega
      obtain ⟨lo, hlo⟩ : ∃ lo, lo = k * ways := ⟨_, rfl⟩
      rw [← hlo] at e1 e2 hkw' hR
      have hw1 : IntKind.i64.wrap ((k : Int) + 1) = (k : Int) + 1 := IntWalk.i64_in _ (by omega)
      have hw2 : IntKind.i64.wrap ((k : Int) * (ways : Int)) = (lo : Int) := by rw [IntWalk.i64_in _ (by omega), e1]
      have hw3 : IntKind.i64.wrap (((k : Int) + 1) * (ways : Int)) = (lo : Int) + (ways : Int) := by rw [IntWalk.i64_in _ (by omega), e2]; simp
      have hq1 : (lo : Int) + (ways : Int) ≤ (cap : Int) := by omega
      have hq2 : ((lo : Int) + (ways : Int)).toNat = lo + ways := by omega
      have hq3 : max ((lo : Int) + (ways : Int)) 0 = (lo : Int) + (ways : Int) := by omega
      have hq4 : ¬ cap = lo := by omega
      have hq5 : 0 ≤ (lo : Int) + (ways : Int) := by omega
      have e1' := Lib.hid e1
      have e2' := Lib.hid e2
      have hvr := Lib.hid ((hv.keep hkr (fun _ _ h => h)).slice lo (lo + ways) (by omega) hkw' hc1)
      have hR' := Lib.hid hR
      rw [show lo + ways - lo = ways by omega] at hvr
      have p1 : ∀ i, wr.cell? ⟨w.heap.size, i, none⟩ = #[Value.int .i64 sets, .int .i64 ways, .int .i64 size, .slice (some ⟨b, off, none⟩) slots.length cap][i]? := fun i => cell_of_row wr _ i _ _ _ hbox
      have hbox' := Lib.hid hbox
      clear hbox hv hR v8 e1 e2 hkw hkw' b1 b2 b3 hlo
      go_wp2_with fail
      refine wp_region_plan (fun w' => ∀ i, w'.cell? ⟨w.heap.size, i, none⟩ = #[Value.int .i64 sets, .int .i64 ways, .int .i64 size, .slice (some ⟨b, off, none⟩) slots.length cap][i]?) (.q 0 (.q 1 (.q 2 (.q 3 (.q 4 (.q 5 (.q 6 (.q 7 (.q 8 (.q 9 (.q 10 (.q 11 (.q 12 (.q 13 (.l1 14 (.q 15 .stop)))))))))))))))) (by kernel_rfl) (by kernel_rfl) (by kernel_rfl) p1 ?_
      iterate 14 (first | (refine plan_pure rfl (fun K hK => ?_); go_simp; refine hK _ _ ?_; clear hK K) | (refine plan_val ?_ rfl (by rfl) (fun w' hC => ?_) (fun K hK => ?_); rotate_left; (focus (go_simp; try rfl)); go_simp; refine hK _ _ ?_; clear hK K))
      refine plan_l1 rfl ?_
      go_wp2_with fail
      refine (right_calls wr.drew S _ _ sets ways size k _ used (hvr.out.keep (Keep.refl _ wr).drew (fun _ _ h => h)) hR'.out (by simp; omega) (by omega) (by omega) (by omega) (by omega) (by omega) (some ⟨b, off, none⟩) slots.length cap rfl).mono ?_
      rintro e w1 ⟨rfl, hk1⟩
      have hk2 : KF wr w1 := (Keep.refl _ wr).drew.trans hk1 (fun _ _ h => h)
      obtain ⟨hB, p2, -⟩ := hk2.box hbox'.out (fun h => h)
      go_wp2_with fail
      refine NQ_normal ⟨p2, ?_⟩
      clear p1 p2 hw1 hw2 hw3 hq1 hq2 hq3 hq4 hq5
      (first | (refine plan_pure rfl (fun K hK => ?_); go_simp; refine hK _ _ ?_; clear hK K) | (refine plan_val ?_ rfl (by rfl) (fun w' hC => ?_) (fun K hK => ?_); rotate_left; (focus (go_simp; try rfl)); go_simp; refine hK _ _ ?_; clear hK K))
      refine plan_stop ?_
      go_wp2
      go_roundw
      case rel => exact ⟨k + 1, by omega, by go_num, hkr.trans hk2 (fun _ _ h => h), hB⟩
      case measure => simp [intOf]; omega
    · obtain rfl : k = sets := by omega
      clear hv v8 hbox
      go_wp2
      go_ret
      exact ⟨rfl, hkr⟩

/-- The set of an address. -/
def Ca.lo (c : Ca) (a : Int) : Nat := (a % (c.sets : Int)).toNat * c.ways
theorem Ca.lo_le {c : Ca} (h : ValidC c) (a : Int) : c.lo a + c.ways ≤ c.slots.length := by
  have h1 := Int.emod_lt_of_pos a (show 0 < (c.sets : Int) by have := h.sets1; omega)
  have h2 := Int.emod_nonneg a (show (c.sets : Int) ≠ 0 by have := h.sets1; omega)
  have h3 : (a % (c.sets : Int)).toNat + 1 ≤ c.sets := by omega
  rw [h.len]
  have := Nat.mul_le_mul_right c.ways h3
  rw [Nat.add_mul, Nat.one_mul] at this
  exact this

set_option maxHeartbeats 1000000 in
theorem set_calls (w : World) (S : Nat → Prop) (c : Ca) (b off cap : Nat) (a : Int) (hv : RSlots w S (.slice (some ⟨b, off, none⟩) c.slots.length cap) c.slots) (hV : ValidC c) (ha : 0 ≤ a) (hcap : c.slots.length ≤ cap ∧ cap ≤ 9223372036854775807) :
    Calls Try.prog 18 #[.agg (cacheCells c (.slice (some ⟨b, off, none⟩) c.slots.length cap)).toArray, .int .i64 a] w fun e w' => e = .returned (.slice (some ⟨b, off + c.lo a * 6, none⟩) c.ways (cap - c.lo a)) ∧ KF w w' := by
  have hvc := valid_calls (w.alloc (.cells (cacheCells c (.slice (some ⟨b, off, none⟩) c.slots.length cap)).toArray 29)) S c _ (hv.keep ((Keep.refl (fun _ => False) w).alloc _) (fun _ _ h => h)) hV
  have hll := Ca.lo_le hV a
  have hbd := hV.bound
  have v1 := hV.sets1
  have v2 := hV.sets8
  have v3 := hV.ways1
  have v4 := hV.ways4
  obtain ⟨lo, hlo⟩ : ∃ lo, lo = c.lo a := ⟨_, rfl⟩
  rw [← hlo] at hll ⊢
  unfold Ca.lo at hlo
  have h1 := Int.emod_lt_of_pos a (show 0 < (c.sets : Int) by omega)
  have h2 := Int.emod_nonneg a (show (c.sets : Int) ≠ 0 by omega)
  have e1 : (a % (c.sets : Int)) * (c.ways : Int) = (lo : Int) := by rw [hlo]; rw [Int.natCast_mul, Int.toNat_of_nonneg h2]
  have e2 : (a % (c.sets : Int) + 1) * (c.ways : Int) = (lo : Int) + c.ways := by rw [Int.add_mul, e1]; omega
  have H := Lib.hid hvc
  obtain ⟨c1, c2⟩ := hcap
  have hq1 : (lo : Int) + (c.ways : Int) ≤ (cap : Int) := by omega
  have hq2 : ((lo : Int) + (c.ways : Int)).toNat = lo + c.ways := by omega
  have hq3 : max ((lo : Int) + (c.ways : Int)) 0 = (lo : Int) + (c.ways : Int) := by omega
  have hq4 : ¬ cap = lo := by omega
  have hq5 : 0 ≤ (lo : Int) + (c.ways : Int) := by omega
  have hq6 : lo + c.ways - lo = c.ways := by omega
  have b1 : 0 ≤ (a % (c.sets : Int)) * (c.ways : Int) ∧ (a % (c.sets : Int)) * (c.ways : Int) ≤ 32 := by rw [e1]; omega
  have b2 : 0 ≤ (a % (c.sets : Int) + 1) * (c.ways : Int) ∧ (a % (c.sets : Int) + 1) * (c.ways : Int) ≤ 32 := by rw [e2]; omega
  have b3 : (a % (c.sets : Int)) * (c.ways : Int) < (a % (c.sets : Int) + 1) * (c.ways : Int) ∧ (a % (c.sets : Int) + 1) * (c.ways : Int) ≤ c.slots.length := by rw [e1, e2]; omega
  clear hvc hlo hv hV b3
  obtain ⟨sets, ways, size, slots⟩ := c
  simp only [] at *
  have hw1 : wrap64 (a % (sets : Int) + 1) = a % (sets : Int) + 1 := IntWalk.wrap64_in _ (by omega)
  have hw2 : wrap64 (a % (sets : Int) * (ways : Int)) = (lo : Int) := by rw [IntWalk.wrap64_in _ (by omega), e1]
  have hw3 : wrap64 ((a % (sets : Int) + 1) * (ways : Int)) = (lo : Int) + ways := by rw [IntWalk.wrap64_in _ (by omega), e2]
  clear b1 b2
  go_enter Try.func18, Try.ntmps18
  unfold cacheCells
  go_wp2_with fail
  refine H.out.mono ?_
  rintro e w1 ⟨rfl, hk1⟩
  obtain ⟨hX, p1, -⟩ := hk1.box (k := w.heap.size) (at_new rfl) (fun h => h)
  unfold cacheCells at p1
  go_wp2
  go_ret
  exact ⟨rfl, ((Keep.refl _ w).alloc _).trans hk1 (fun _ _ h => h)⟩
end Go.Proofs.Ytbcjjenidkgodaa
