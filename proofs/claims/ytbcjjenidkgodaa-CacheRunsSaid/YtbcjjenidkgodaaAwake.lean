/- awake: the example of the chapter. -/
import Derived.Test.YtbcjjenidkgodaaPlainC
namespace Go.Proofs.Ytbcjjenidkgodaa
open Go Go.RowKit

def aL (n : Int) (b : UInt8) : Line := ⟨n, [b], false, false⟩

theorem lit1 (w : World) (S : Nat → Prop) (b : UInt8) (x : Int) (hx : x = b.toNat) (k : Nat) (hk : k = w.heap.size) (hS : S k) : Arr (w.alloc (.cells #[.int .u8 x] 5)) S 5 1 (.slice (some ⟨k, 0, none⟩) 1 1) (bcells [b]) := by
  subst hx
  subst hk
  exact Arr.lit w S 5 1 [.int .u8 (b.toNat : Int)] 1 (bcells [b]) rfl rfl (fun r hr => by
    obtain rfl : r = [.int .u8 (b.toNat : Int)] := by simpa [bcells] using hr
    exact ⟨rfl, by simp [Value.oneCell']⟩) (by decide) hS

theorem awake_plain : ∃ c1 c2 c3 c4 : Ca, ((Ca.new 1 2 1).put (aL 1 1) = (c1, Line.zero, false) ∧ ValidC c1 ∧ c1.size = 1) ∧ (c1.put (aL 2 2) = (c2, Line.zero, false) ∧ ValidC c2 ∧ c2.size = 1) ∧
    (c2.get 1 = (c3, aL 1 1, true) ∧ ValidC c3 ∧ c3.size = 1) ∧ (c3.put (aL 3 3) = (c4, aL 2 2, true) ∧ ValidC c4) := by
  have J0 := JC.new 1 2 1 (by decide) (by decide) (by decide) (by decide) (by decide) (by decide)
  obtain ⟨s1, l1, e1, J1⟩ := put_law_new J0 (z := aL 1 1) (by simp) (by simp [aL, Ca.new]) (by simp [hset, Ca.new])
  obtain ⟨s2, l2, e2, J2⟩ := put_law_new J1 (z := aL 2 2) (by simp [aL]) (by simp [aL, Ca.new]) (by simp [hset, aL, Ca.new, inSet, Ca.no])
  obtain ⟨s3, l3, e3, J3⟩ := get_law J2 (k := 0) (x := aL 1 1) rfl
  obtain ⟨s4, l4, e4, J4⟩ := put_law_full J3 (z := aL 3 3) (by simp [aL]) (by simp [aL, Ca.new]) (by simp [hset, aL, Ca.new, inSet, Ca.no]) (o := 0) (x := aL 2 2) rfl (by simp [inSet, aL, Ca.new, Ca.no]) rfl
  exact ⟨_, _, _, _, ⟨e1, J1.valid, rfl⟩, ⟨e2, J2.valid, rfl⟩, ⟨e3, J3.valid, rfl⟩, e4, J4.valid⟩

set_option maxHeartbeats 4000000 in
theorem awake_calls (w : World) : Calls Try.prog 5 #[] w fun e w' => e = .returned (.bool true) := by
  have V0 := validC_new 1 2 1 (by decide) (by decide) (by decide) (by decide) (by decide) (by decide)
  obtain ⟨c1, c2, c3, c4, ⟨e1, V1, z1⟩, ⟨e2, V2, z2⟩, ⟨e3, V3, z3⟩, e4, V4⟩ := awake_plain
  have hn := new_calls w 1 2 1 (fun _ => False) (by decide) (by decide) (by decide) (by decide) (by decide) (by decide)
  have z0 : (Ca.new 1 2 1).size = 1 := rfl
  have l0 : (Ca.new 1 2 1).slots.length = 2 := rfl
  generalize Ca.new 1 2 1 = c0 at *
  have z0' := Lib.hid z0
  have z1' := Lib.hid z1
  have z2' := Lib.hid z2
  have z3' := Lib.hid z3
  have e1' := Lib.hid e1
  have e2' := Lib.hid e2
  have e3' := Lib.hid e3
  have e4' := Lib.hid e4
  have hn' := Lib.hid hn
  have l0' := Lib.hid l0
  clear hn z0 z1 z2 z3 e1 e2 e3 e4 l0
  go_enter Try.func5, Try.ntmps5
  go_wp2_with fail
  refine hn'.out.mono ?_
  rintro e w1 ⟨rfl, hO1, hk1⟩
  have hR1 := hO1.reads
  rw [l0'.out] at hR1
  have hal := fun o1 o2 => hR1.keep (((Keep.refl (fun _ => False) w1).alloc o1).alloc o2) (fun _ _ h => h)
  have hput := fun o1 => put_calls ((w1.alloc o1).alloc (.cells #[.int .u8 1] 5)) _ (fun _ => True) c0 _ (aL 1 1) _ (hal o1 _) ⟨_, rfl, lit1 (w1.alloc o1) (fun _ => True) 1 1 rfl (w1.heap.size + 1) (by simp) trivial⟩ V0 (by rw [z0'.out]; rfl) (by decide) (by decide)
  simp only [e1'.out] at hput
  have hput' := Lib.hid hput
  clear hO1 hn' hk1 hR1 hal hput
  unfold cacheCells
  go_wp2_with fail
  refine (hput'.out _).mono ?_
  rintro e w2 ⟨g2, cap2, cs2, rfl, hO2, ⟨vz, rfl, hx2⟩, hg2, hk2⟩
  obtain ⟨Az, cz, rfl, -, -⟩ := hx2.len
  obtain ⟨hB, p1, p2⟩ := hk2.box (k := w1.heap.size) (at_old (at_new rfl)) (fun h => h)
  have hsx : ∀ o1 o2, ((w1.alloc o1).alloc o2).heap.size = w1.heap.size + 2 := fun _ _ => by simp
  rw [hsx] at hO2 hg2
  have hs2 : w1.heap.size < w2.heap.size := (Array.getElem?_eq_some_iff.1 hB).1
  have hput := fun W (hW : Keep (fun b => b = w1.heap.size) w2 W) (hWs : w2.heap.size = W.heap.size) => put_calls (W.alloc (.cells #[.int .u8 2] 5)) _ (fun _ => True) c1 _ (aL 2 2) _ ((hO2.reads.keep hW (fun b hb h => by omega)).keep ((Keep.refl (fun _ => False) W).alloc _) (fun _ _ h => h)) ⟨_, rfl, lit1 W (fun _ => True) 2 2 rfl w2.heap.size hWs trivial⟩ V1 (by rw [z1'.out]; rfl) (by decide) (by decide)
  simp only [e2'.out] at hput
  have hput2' := Lib.hid hput
  have hB' := Lib.hid hB
  clear hput hO2 hx2 hk2 hg2 hB hput' hsx
  unfold cacheCells
  go_wp2_with fail
  refine (hput2'.out _ (by repeat (first | (with_reducible refine Keep.setCell ?_ ?_ _; rotate_left; focus (intro hkb; first | (simp; done) | (simp at hkb; done) | (simp; omega) | omega | (simp at hkb ⊢; omega))) | with_reducible refine Keep.alloc ?_ _ | with_reducible refine Keep.drewN ?_ _ | with_reducible refine Keep.drew ?_ | with_reducible exact Keep.refl _ _ | with_reducible assumption)) (by simp)).mono ?_
  have hK2 : ∀ W, Keep (fun b => b = w1.heap.size) w2 W → W.heap.size ≥ w2.heap.size := fun W h => h.size
  rintro e w3 ⟨g3, cap3, cs3, rfl, hO3, ⟨vz3, rfl, hx3⟩, hg3, hk3⟩
  obtain ⟨Az3, cz3, rfl, -, -⟩ := hx3.len
  have hb3 := box4 w2 w1.heap.size _ _ _ _ _ (.int .i64 c1.sets) (.int .i64 c1.ways) (.int .i64 c1.size) (.slice (some ⟨g2, 0, none⟩) c1.slots.length cap2) hB'.out
  obtain ⟨hB3, p3, p4⟩ := hk3.box (k := w1.heap.size) (at_old hb3) (fun h => h)
  have hs3 : w1.heap.size < w3.heap.size := (Array.getElem?_eq_some_iff.1 hB3).1
  have hsy : ∀ v0 v1 v2 v3 o, (((((w2.setCell ⟨w1.heap.size, 0, none⟩ v0).setCell ⟨w1.heap.size, 1, none⟩ v1).setCell ⟨w1.heap.size, 2, none⟩ v2).setCell ⟨w1.heap.size, 3, none⟩ v3).alloc o).heap.size = w2.heap.size + 1 := fun _ _ _ _ _ => by simp
  rw [hsy] at hO3 hg3
  have hget := fun W (hW : Keep (fun b => b = w1.heap.size) w3 W) => get_calls W _ c2 _ 1 (hO3.reads.keep hW (fun b hb h => by omega)) V2 (by decide)
  simp only [e3'.out] at hget
  have hget' := Lib.hid hget
  have hB3' := Lib.hid hB3
  clear hget hO3 hg3 hx3 hk3 hB3 hb3 hB' p1 p2 hput2' hK2 hsy
  unfold cacheCells
  go_wp2_with fail
  refine (hget'.out _ (by repeat (first | (with_reducible refine Keep.setCell ?_ ?_ _; rotate_left; focus (intro hkb; first | (simp; done) | (simp at hkb; done) | (simp; omega) | omega | (simp at hkb ⊢; omega))) | with_reducible refine Keep.alloc ?_ _ | with_reducible refine Keep.drewN ?_ _ | with_reducible refine Keep.drew ?_ | with_reducible exact Keep.refl _ _ | with_reducible assumption))).mono ?_
  rintro e w4 ⟨g4, cap4, cs4, rfl, hO4, ⟨vz4, rfl, hx4⟩, hg4, hk4⟩
  obtain ⟨Az4, cz4, rfl, -, -⟩ := hx4.len
  have hb4 := box4 w3 w1.heap.size _ _ _ _ _ (.int .i64 c2.sets) (.int .i64 c2.ways) (.int .i64 c2.size) (.slice (some ⟨g3, 0, none⟩) c2.slots.length cap3) hB3'.out
  obtain ⟨hB4, p1, p2⟩ := hk4.box (k := w1.heap.size) hb4 (fun h => h)
  have hs4 : w1.heap.size < w4.heap.size := (Array.getElem?_eq_some_iff.1 hB4).1
  have hsy : ∀ v0 v1 v2 v3, ((((w3.setCell ⟨w1.heap.size, 0, none⟩ v0).setCell ⟨w1.heap.size, 1, none⟩ v1).setCell ⟨w1.heap.size, 2, none⟩ v2).setCell ⟨w1.heap.size, 3, none⟩ v3).heap.size = w3.heap.size := fun _ _ _ _ => by simp
  rw [hsy] at hO4 hg4
  have hput := fun W (hW : Keep (fun b => b = w1.heap.size) w4 W) k (hWs : k = W.heap.size) => put_calls (W.alloc (.cells #[.int .u8 3] 5)) _ (fun _ => True) c3 _ (aL 3 3) _ ((hO4.reads.keep hW (fun b hb h => by omega)).keep ((Keep.refl (fun _ => False) W).alloc _) (fun _ _ h => h)) ⟨_, rfl, lit1 W (fun _ => True) 3 3 rfl k hWs trivial⟩ V3 (by rw [z3'.out]; rfl) (by decide) (by decide)
  simp only [e4'.out] at hput
  have hput4' := Lib.hid hput
  have hB4' := Lib.hid hB4
  clear hput hO4 hx4 hk4 hg4 hB4 hb4 hB3' p3 p4 hget' hsy
  unfold cacheCells
  go_wp2_with fail
  refine (hput4'.out _ (by repeat (first | (with_reducible refine Keep.setCell ?_ ?_ _; rotate_left; focus (intro hkb; first | (simp; done) | (simp at hkb; done) | (simp; omega) | omega | (simp at hkb ⊢; omega))) | with_reducible refine Keep.alloc ?_ _ | with_reducible refine Keep.drewN ?_ _ | with_reducible refine Keep.drew ?_ | with_reducible exact Keep.refl _ _ | with_reducible assumption)) _ (by simp)).mono ?_
  rintro e w5 ⟨g5, cap5, cs5, rfl, hO5, ⟨vz5, rfl, hx5⟩, hg5, hk5⟩
  obtain ⟨Az5, cz5, rfl, -, -⟩ := hx5.len
  have hb5 := box4 w4 w1.heap.size _ _ _ _ _ (.int .i64 c3.sets) (.int .i64 c3.ways) (.int .i64 c3.size) (.slice (some ⟨g4, 0, none⟩) c3.slots.length cap4) hB4'.out
  have hsy : ∀ v0 v1 v2 v3, ((((w4.setCell ⟨w1.heap.size, 0, none⟩ v0).setCell ⟨w1.heap.size, 1, none⟩ v1).setCell ⟨w1.heap.size, 2, none⟩ v2).setCell ⟨w1.heap.size, 3, none⟩ v3).heap.size = w4.heap.size := fun _ _ _ _ => by simp
  obtain ⟨hB5, p3, p4⟩ := hk5.box (k := w1.heap.size) (at_old (at_old hb5)) (fun h => h)
  obtain ⟨hX5, x3, -⟩ := hk5.box (k := w4.heap.size) (at_old (at_new (hsy _ _ _ _).symm)) (fun h => h)
  have hs5 : w1.heap.size < w5.heap.size := (Array.getElem?_eq_some_iff.1 hB5).1
  have hs6 : w4.heap.size < w5.heap.size := (Array.getElem?_eq_some_iff.1 hX5).1
  have hsz : ∀ v0 v1 v2 v3 o1 o2, ((((((w4.setCell ⟨w1.heap.size, 0, none⟩ v0).setCell ⟨w1.heap.size, 1, none⟩ v1).setCell ⟨w1.heap.size, 2, none⟩ v2).setCell ⟨w1.heap.size, 3, none⟩ v3).alloc o1).alloc o2).heap.size = w4.heap.size + 2 := fun _ _ _ _ _ _ => by simp
  rw [hsz] at hO5 hg5
  have hval := fun W (hW : Keep (fun b => b = w1.heap.size) w5 W) => valid_calls W _ c4 _ (hO5.reads.keep hW (fun b hb h => by omega)) V4
  have hval' := Lib.hid hval
  have hkx : ∀ W, Keep (fun b => b = w1.heap.size) w5 W → ∀ i, W.cell? ⟨w4.heap.size, i, none⟩ = #[Value.int .i64 (aL 1 1).addr, .slice Az4 (bcells (aL 1 1).data).length cz4, .bool (aL 1 1).dirty, .bool (aL 1 1).poison][i]? := fun W hW => (hW.box hX5 (by omega)).2.1
  have hB5' := Lib.hid hB5
  clear hval hO5 hx5 hk5 hg5 hB5 hb5 hB4' p1 p2 hput4' hsy hsz hX5 hkx
  have a1 : (aL 1 1).addr = 1 := rfl
  have a2 : (aL 2 2).addr = 2 := rfl
  unfold cacheCells
  go_wp2_with fail
  refine (hval'.out _ (by repeat (first | (with_reducible refine Keep.setCell ?_ ?_ _; rotate_left; focus (intro hkb; first | (simp; done) | (simp at hkb; done) | (simp; omega) | omega | (simp at hkb ⊢; omega))) | with_reducible refine Keep.alloc ?_ _ | with_reducible refine Keep.drewN ?_ _ | with_reducible refine Keep.drew ?_ | with_reducible exact Keep.refl _ _ | with_reducible assumption))).mono ?_
  rintro e w6 ⟨rfl, hk6⟩
  go_wp2
  go_ret
  rfl
end Go.Proofs.Ytbcjjenidkgodaa
