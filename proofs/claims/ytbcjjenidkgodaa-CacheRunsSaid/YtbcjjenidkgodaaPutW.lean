/- Put, walked. -/
import Derived.Test.YtbcjjenidkgodaaPut
namespace Go.Proofs.Ytbcjjenidkgodaa
open Go Go.RowKit

set_option maxHeartbeats 8000000 in
theorem put_calls (w : World) (S S' : Nat → Prop) (c : Ca) (v : Value) (x : Line) (cs : List Value) (hv : RSlots w S v c.slots) (hx : RLine w S' cs x) (hV : ValidC c) (hxl : x.data.length = c.size) (ha : 0 ≤ x.addr) (ha2 : x.addr < 1048576) :
    Calls Try.prog 13 #[.agg (cacheCells c v).toArray, .agg cs.toArray] w fun e w' => ∃ g cap cs2,
      e = .returned (.tuple #[.agg (cacheCells (c.put x).1 (.slice (some ⟨g, 0, none⟩) (c.put x).1.slots.length cap)).toArray, .agg cs2.toArray, .bool (c.put x).2.2, .int .i64 0]) ∧
      SlotsOwn w' w.heap.size (g < ·) g cap (c.put x).1.slots ∧ RLine w' (w.heap.size ≤ ·) cs2 (c.put x).2.1 ∧ w.heap.size ≤ g ∧ KF w w' := by
  have hbnd := hV.bound
  have hpos := hV.pos
  have hab := age_bound hV
  have hcopy := fun W (hW : KF w W) => copy_calls W S c v (hv.below hW) (by intro h; rw [h] at hpos; simp at hpos) (by omega) (fun s hs => (hab s hs).2)
  have hll := Ca.lo_le hV x.addr
  obtain ⟨A, cap0, rfl, hc1, hc2, -⟩ := hv.cases
  obtain ⟨vx, rfl, hvx⟩ := hx
  obtain ⟨Ax, cx, rfl, -, -⟩ := hvx.len
  rw [bcells_len] at hvx
  rw [bcells_len]
  have H := Lib.hid hcopy
  have hab' := Lib.hid hab
  have hvx' := Lib.hid hvx
  have z1 := hV.size1
  have z2 := hV.size32
  have z6 : x.data.length ≤ 32 := by omega
  have hxl' : Hid ((x.data.length : Int) = c.size) := by show _ = _; omega
  clear hcopy hab hv hvx hxl
  go_enter Try.func13, Try.ntmps13
  unfold cacheCells
  go_wp2_with fail
  refine (H.out _ (((((Keep.refl (fun _ => False) w).alloc _).alloc _).alloc _).alloc _)).mono ?_
  rintro e w1 ⟨g, cap, rfl, hO1, hg1, hk1⟩
  have hk1a := hk1.alloc (.cells #[.int .i64 c.sets, .int .i64 c.ways, .int .i64 c.size, .slice (some ⟨g, 0, none⟩) c.slots.length cap] 29)
  obtain ⟨hB, b1, -⟩ := hk1a.box (k := w.heap.size) (at_old (at_old (at_old (at_new rfl)))) (fun h => h)
  obtain ⟨hX, x1, -⟩ := hk1a.box (k := w.heap.size + 1) (at_old (at_old (at_new (by simp)))) (fun h => h)
  obtain ⟨hY, -, -⟩ := hk1a.box (k := w.heap.size + 1 + 1) (at_old (at_new (by simp))) (fun h => h)
  obtain ⟨hZ, -, -⟩ := hk1a.box (k := w.heap.size + 1 + 1 + 1) (at_new (by simp)) (fun h => h)
  have hk1w : KF w w1 := (((((Keep.refl (fun _ => False) w).alloc _).alloc _).alloc _).alloc _).trans hk1 (fun _ _ h => h)
  have hs1 := hk1.size
  have hgl := (hO1.at_ (k := 0) (List.getElem?_eq_getElem (by omega))).1
  have hsz : ∀ o1 o2 o3 o4, ((((w.alloc o1).alloc o2).alloc o3).alloc o4).heap.size = w.heap.size + 4 := fun _ _ _ _ => by simp
  rw [hsz] at hs1 hg1 hO1
  have hO1' := Lib.hid hO1
  have hX' := Lib.hid hX
  have hY' := Lib.hid hY
  have hZ' := Lib.hid hZ
  clear H hO1 hsz hk1 hk1a hX hY hZ hB
  unfold cacheCells
  go_wp2_with fail
  have hal := fun o => (Keep.refl (fun _ => False) w1).alloc o
  refine (lineValid_calls _ _ _ _ _ _ _ _ (by omega) (by omega) hxl'.out ha ha2).mono ?_
  rintro e w2 ⟨rfl, hk2⟩
  have hk2w : KF w1 w2 := (hal _).trans hk2 (fun _ _ h => h)
  obtain ⟨hQ, q1, -⟩ := hk2.box (k := w1.heap.size) (at_new rfl) (fun h => h)
  obtain ⟨hX2, x2, -⟩ := hk2.box (k := w.heap.size + 1) hX'.out (fun h => h)
  obtain ⟨hY2, -, -⟩ := hk2.box (k := w.heap.size + 1 + 1) hY'.out (fun h => h)
  obtain ⟨hZ2, -, -⟩ := hk2.box (k := w.heap.size + 1 + 1 + 1) hZ'.out (fun h => h)
  have hO2 := hO1'.out.keep hk2w (fun _ _ _ h => h) (fun _ _ _ h => h)
  have hQ' := Lib.hid hQ
  have hO2' := Lib.hid hO2
  have hX2' := Lib.hid hX2
  have hY2' := Lib.hid hY2
  have hZ2' := Lib.hid hZ2
  clear hal hk2 hQ hX2 hY2 hZ2 hO2 x1 b1 hX' hY' hZ' hO1'
  go_wp2_with fail
  refine (set_calls0 _ _ c g cap x.addr hO2'.out.reads hV ha hO2'.out.cap).mono ?_
  rintro e w3 ⟨rfl, hk3⟩
  have z3 : ((c.ways : Int) == 0) = false := by have := hV.ways1; simp; omega
  have z4 := hV.ways4
  obtain ⟨lo, hlo⟩ : ∃ lo, c.lo x.addr = lo := ⟨_, rfl⟩
  rw [hlo] at hll ⊢
  have hlo' := Lib.hid hlo
  clear hlo
  have hk3a := hk3.alloc (.cells #[.slice (some ⟨g, lo * 6, none⟩) c.ways (cap - lo)] 27)
  obtain ⟨hX3, x3, -⟩ := hk3a.box (k := w.heap.size + 1) hX2'.out (fun h => h)
  obtain ⟨hY3, -, -⟩ := hk3a.box (k := w.heap.size + 1 + 1) hY2'.out (fun h => h)
  obtain ⟨hZ3, -, -⟩ := hk3a.box (k := w.heap.size + 1 + 1 + 1) hZ2'.out (fun h => h)
  obtain ⟨hQ3, -, -⟩ := hk3a.box hQ'.out (fun h => h)
  have hL3 : (w3.alloc (.cells #[.slice (some ⟨g, lo * 6, none⟩) c.ways (cap - lo)] 27)).heap[w3.heap.size]? = some (.cells #[.slice (some ⟨g, lo * 6, none⟩) c.ways (cap - lo)] 27 (0, 0)) := at_new rfl
  have hk3w : KF w (w3.alloc (.cells #[.slice (some ⟨g, lo * 6, none⟩) c.ways (cap - lo)] 27)) := ((hk1w.trans hk2w (fun _ _ h => h)).trans hk3 (fun _ _ h => h)).alloc _
  have hO3 := hO2'.out.keep hk3a (fun _ _ _ h => h) (fun _ _ _ h => h)
  have hs3 : w1.heap.size < w3.heap.size := Nat.lt_of_lt_of_le (Array.getElem?_eq_some_iff.1 hQ'.out).1 hk3.size
  have hsx : (w3.alloc (.cells #[.slice (some ⟨g, lo * 6, none⟩) c.ways (cap - lo)] 27)).heap.size = w3.heap.size + 1 := by simp
  have hO3' := Lib.hid hO3
  have hX3' := Lib.hid hX3
  have hY3' := Lib.hid hY3
  have hZ3' := Lib.hid hZ3
  have hQ3' := Lib.hid hQ3
  have hL3' := Lib.hid hL3
  have hsx' := Lib.hid hsx
  clear hO3 hX3 hY3 hZ3 hQ3 hX2' hY2' hZ2' hQ' hO2' q1 x2 hk2w hk1w hk3a hL3 hk3 hsx
  go_wp2_with fail
  refine (find_calls _ _ _ (c.setAt x.addr) x.addr (by have := hO3'.out.set hV x.addr; rw [hlo'.out] at this; exact this) (by unfold Ca.setAt; simp; omega)).mono ?_
  rintro e w4 ⟨rfl, hk4⟩
  obtain ⟨hX4, x4, -⟩ := hk4.box (k := w.heap.size + 1) hX3'.out (fun h => h)
  obtain ⟨hY4, y4, y5⟩ := hk4.box (k := w.heap.size + 1 + 1) hY3'.out (fun h => h)
  obtain ⟨hZ4, v4, v5⟩ := hk4.box (k := w.heap.size + 1 + 1 + 1) hZ3'.out (fun h => h)
  obtain ⟨hQ4, q4, -⟩ := hk4.box hQ3'.out (fun h => h)
  obtain ⟨hL4, l4, -⟩ := hk4.box hL3'.out (fun h => h)
  have hO4 := hO3'.out.keep hk4 (fun _ _ _ h => h) (fun _ _ _ h => h)
  have hs4 : w3.heap.size + 1 ≤ w4.heap.size := by have := hk4.size; rw [hsx'.out] at this; exact this
  have hk4w := hk3w.trans hk4 (fun _ _ h => h)
  have hvx4 := hvx'.out.keep hk4w (fun _ _ h => h)
  have hC : ∀ W, Keep (fun b => b = g ∨ b = w.heap.size + 1 + 1 ∨ b = w.heap.size + 1 + 1 + 1) w4 W →
      (∀ i, W.cell? ⟨w.heap.size + 1, i, none⟩ = #[Value.int .i64 x.addr, .slice Ax x.data.length cx, .bool x.dirty, .bool x.poison][i]?) ∧
      (∀ i, W.cell? ⟨w1.heap.size, i, none⟩ = #[Value.int .i64 c.sets, .int .i64 c.ways, .int .i64 c.size, .slice (some ⟨g, 0, none⟩) c.slots.length cap][i]?) ∧
      (∀ i, W.cell? ⟨w3.heap.size, i, none⟩ = #[Value.slice (some ⟨g, lo * 6, none⟩) c.ways (cap - lo)][i]?) := fun W hW =>
    ⟨fun i => (hW.cell (p := ⟨w.heap.size + 1, i, none⟩) (show w.heap.size + 1 < w4.heap.size by omega) (by simp only [not_or]; omega)).trans (x4 i),
     fun i => (hW.cell (p := ⟨w1.heap.size, i, none⟩) (show w1.heap.size < w4.heap.size by omega) (by simp only [not_or]; omega)).trans (q4 i),
     fun i => (hW.cell (p := ⟨w3.heap.size, i, none⟩) (show w3.heap.size < w4.heap.size by omega) (by simp only [not_or]; omega)).trans (l4 i)⟩
  have hYZ : ∀ W, Keep (fun b => b = g) w4 W →
      ((∀ i, W.cell? ⟨w.heap.size + 1 + 1, i, none⟩ = #[Value.int .i64 0, .int .i64 0, .int .i64 0, .slice none 0 0][i]?) ∧ ∀ i, W.frozen? ⟨w.heap.size + 1 + 1, i, none⟩ = false) ∧
      ((∀ i, W.cell? ⟨w.heap.size + 1 + 1 + 1, i, none⟩ = #[Value.int .i64 0, .slice none 0 0, .bool false, .bool false][i]?) ∧ ∀ i, W.frozen? ⟨w.heap.size + 1 + 1 + 1, i, none⟩ = false) := fun W hW => by
    obtain ⟨-, p, q⟩ := hW.box (k := w.heap.size + 1 + 1) hY4 (by omega)
    obtain ⟨-, r, s⟩ := hW.box (k := w.heap.size + 1 + 1 + 1) hZ4 (by omega)
    exact ⟨⟨p, q⟩, r, s⟩
  have hO4' := Lib.hid hO4
  have hC' := Lib.hid hC
  have hYZ' := Lib.hid hYZ
  have hvx4' := Lib.hid hvx4
  clear hO4 hC hYZ hX4 hY4 hZ4 hQ4 hL4 hO3' hX3' hY3' hZ3' hQ3' hL3' hsx' hvx4 x3 hk3w hk4 hvx' y4 y5 v4 v5
  cases hf : (c.setAt x.addr).findIdx? (hasAddr x.addr) with
  | some i =>
    rw [idx_is hf]
    obtain ⟨hiw, s, hs, -, -⟩ := idx_some hf
    rw [hlo'.out] at hs
    have hput : c.put x = ({ c with slots := putAt c.slots lo c.ways i { s with line := x } }, Line.zero, false) := by
      unfold Ca.put; rw [hf, hlo'.out]; simp only [List.getD_eq_getElem?_getD, hs]; rfl
    have hput' := Lib.hid hput
    clear hput hf
    obtain ⟨-, -, hfz, A5, c5, -, u0, u1, u2, u3, u4, u5⟩ := hO4'.out.at_ hs
    rw [show (lo + i) * 6 = lo * 6 + i * 6 by omega] at u0 u1 u2 u3 u4 u5
    obtain ⟨x5, q5, l5⟩ := hC'.out w4 (Keep.refl _ _)
    have hs' := Lib.hid hs
    clear x4 q4 l4 hs u0 u1 u2 u3 u4 u5 hfz
    go_wp2_with fail
    refine wp_region_plan (fun W => (∀ i, W.cell? ⟨w.heap.size + 1, i, none⟩ = #[Value.int .i64 x.addr, .slice Ax x.data.length cx, .bool x.dirty, .bool x.poison][i]?) ∧
      (∀ i, W.cell? ⟨w1.heap.size, i, none⟩ = #[Value.int .i64 c.sets, .int .i64 c.ways, .int .i64 c.size, .slice (some ⟨g, 0, none⟩) c.slots.length cap][i]?) ∧
      (∀ i, W.cell? ⟨w3.heap.size, i, none⟩ = #[Value.slice (some ⟨g, lo * 6, none⟩) c.ways (cap - lo)][i]?)) (.q 0 (.q 1 (.q 2 (.l1 3 (.q 4 (.q 5 (.l1 6 .stop))))))) (by kernel_rfl) (by kernel_rfl) (by kernel_rfl) ⟨x5, q5, l5⟩ ?_
    iterate 3 (first | (refine plan_pure rfl (fun K hK => ?_); go_simp; refine hK _ _ ?_; clear hK K) | (refine plan_val ?_ rfl (by rfl) (fun w' hC => ?_) (fun K hK => ?_); rotate_left; (focus (go_simp; try rfl)); go_simp; refine hK _ _ ?_; clear hK K))
    refine plan_l1 rfl ?_
    go_wp2_with fail
    refine (lineCopy_calls w4.drew _ _ x ⟨_, by simp, hvx4'.out.keep (Keep.refl (fun _ => False) w4).drew (fun _ _ h => h)⟩ (by omega)).mono ?_
    rintro e w5 ⟨cs2, rfl, ⟨v2, rfl, hv2⟩, hk5⟩
    obtain ⟨A6, c6, rfl, -, -⟩ := hv2.len
    rw [bcells_len] at hv2 ⊢
    have hk5w : KF w4 w5 := (Keep.refl (fun _ => False) w4).drew.trans hk5 (fun _ _ h => h)
    have hO5 := hO4'.out.keep hk5w (fun _ _ _ h => h) (fun _ _ _ h => h)
    obtain ⟨-, -, hfz, A7, c7, -, u0, u1, u2, u3, u4, u5⟩ := hO5.at_ hs'.out
    have hset := hO5.setLine hs'.out (fun b hb => by have : g < b := hb; omega) x A6 c6 (hv2.mono (fun b hb _ => by have : w4.heap.size ≤ b := hb; omega))
    rw [show (lo + i) * 6 = lo * 6 + i * 6 by omega] at u0 u1 u2 u3 u4 u5 hset
    have hset' := Lib.hid hset
    have hk5w' := Lib.hid hk5w
    have hC5 := hC'.out w5 (hk5w.mono (fun _ _ h => absurd h id))
    clear hset hO5 hk5 hk5w x5 q5 l5 u0 u1
    go_wp2_with fail
    refine NQ_normal ⟨hC5, ?_⟩
    iterate 2 (first | (refine plan_pure rfl (fun K hK => ?_); go_simp; refine hK _ _ ?_; clear hK K) | (refine plan_val ?_ rfl (by rfl) (fun w' hC => ?_) (fun K hK => ?_); rotate_left; (focus (go_simp; try rfl)); go_simp; refine hK _ _ ?_; clear hK K))
    refine plan_l1 rfl ?_
    have hk6 : Keep (fun b => b = g) w5 ((((w5.setCell ⟨g, lo * 6 + i * 6 + 2, none⟩ (.int .i64 x.addr)).setCell ⟨g, lo * 6 + i * 6 + 3, none⟩ (.slice A6 x.data.length c6)).setCell ⟨g, lo * 6 + i * 6 + 4, none⟩ (.bool x.dirty)).setCell ⟨g, lo * 6 + i * 6 + 5, none⟩ (.bool x.poison)) := (by repeat (first | (with_reducible refine Keep.setCell ?_ ?_ _; rotate_left; focus (intro hkb; first | (simp; done) | (simp at hkb; done) | (simp; omega) | omega | (simp at hkb ⊢; omega))) | with_reducible refine Keep.alloc ?_ _ | with_reducible refine Keep.drewN ?_ _ | with_reducible refine Keep.drew ?_ | with_reducible exact Keep.refl _ _ | with_reducible assumption))
    have hk6w := hk5w'.out.mono (M' := fun b => b = g) (fun _ _ h => absurd h id) |>.trans hk6 (fun _ _ h => h)
    have hC6 := hC'.out _ (hk6w.mono (fun _ _ h => .inl h))
    have hk6w' := Lib.hid hk6w
    clear hk6 hk6w hC5
    go_wp2
    refine NQ_normal ⟨hC6, plan_stop ?_⟩
    obtain ⟨x6, q6, l6⟩ := hC6
    clear u2 u3 u4 u5 hfz
    go_wp2_with fail
    have hage : ∀ t ∈ c.slots.set (lo + i) { s with line := x }, -1000 ≤ t.age ∧ t.age ≤ 1000 := fun t ht => by
      rcases List.mem_or_eq_of_mem_set ht with h | rfl
      · exact (hab'.out t h).1
      · exact (hab'.out s (List.mem_of_getElem? hs'.out)).1
    refine (touch_calls _ _ g cap (cap - lo) lo c.ways i _ _ hset'.out (fun b hb => by have : g < b := hb; omega) (by rw [List.length_set]; exact hll) hiw (by rw [List.length_set]; omega) hage).mono ?_
    rintro e w7 ⟨rfl, hO7, hk7⟩
    have hk7w := hk6w'.out.trans hk7 (fun _ _ h => h)
    obtain ⟨⟨y7, y8⟩, v7, v8⟩ := hYZ'.out _ hk7w
    obtain ⟨-, q7, -⟩ := hC'.out _ (hk7w.mono (fun _ _ h => .inl h))
    have hs7 := hk7w.size
    have hk4w' := Lib.hid (hk4w.trans hk7w (fun b hb h => by omega))
    have hO7' := Lib.hid hO7
    clear x6 q6 l6 hk7 hO7 hage hk7w hk4w
    go_wp2
    rw [hput'.out]
    refine bodyPost_ret (v := .tuple #[.agg #[.int .i64 c.sets, .int .i64 c.ways, .int .i64 c.size, .slice (some ⟨g, 0, none⟩) c.slots.length cap], .agg #[.int .i64 0, .slice none 0 0, .bool false, .bool false], .bool false, .int .i64 0]) (by simp [results, Try.results13, go_sem, y7, v7]) rfl ?_
    have hfin : ∀ W, Keep (fun b => b = w.heap.size + 1 + 1 ∨ b = w.heap.size + 1 + 1 + 1) w7 W → SlotsOwn W w.heap.size (g < ·) g cap (putAt c.slots lo c.ways i { s with line := x }) ∧ KF w W := fun W h =>
      ⟨(hO7'.out.keep h (fun b hb _ h => by omega) (fun b hb _ h => by omega)).lower (by omega), hk4w'.out.trans h (fun b hb h => by omega)⟩
    refine ⟨g, cap, [.int .i64 0, .slice none 0 0, .bool false, .bool false], ?_, ?_, ⟨_, rfl, Arr.nil _ _ _ _⟩, by omega, ?_⟩
    · simp only [cacheCells, putAt, touchAt_len, List.length_set]
    · exact (hfin _ (by repeat (first | (with_reducible refine Keep.setCell ?_ ?_ _; rotate_left; focus (intro hkb; first | (simp; done) | (simp at hkb; done) | (simp; omega) | omega | (simp at hkb ⊢; omega))) | with_reducible refine Keep.alloc ?_ _ | with_reducible refine Keep.drewN ?_ _ | with_reducible refine Keep.drew ?_ | with_reducible exact Keep.refl _ _ | with_reducible assumption))).1
    · exact (hfin _ (by repeat (first | (with_reducible refine Keep.setCell ?_ ?_ _; rotate_left; focus (intro hkb; first | (simp; done) | (simp at hkb; done) | (simp; omega) | omega | (simp at hkb ⊢; omega))) | with_reducible refine Keep.alloc ?_ _ | with_reducible refine Keep.drewN ?_ _ | with_reducible refine Keep.drew ?_ | with_reducible exact Keep.refl _ _ | with_reducible assumption))).2
  | none =>
    rw [idx_none hf]
    obtain ⟨x5, q5, l5⟩ := hC'.out w4 (Keep.refl _ _)
    clear x4 q4 l4
    go_wp2_with fail
    refine (indexf_calls 25 #[] isFree _ _ _ (c.setAt x.addr) (by have := hO4'.out.set hV x.addr; rw [hlo'.out] at this; exact this) (by unfold Ca.setAt; simp; omega) call_put1 ?_).mono ?_
    · intro w' s A1 c1 hk hR
      exact put1_calls w' s _
    rintro e w5 ⟨rfl, hk5⟩
    have hO5 := hO4'.out.keep hk5 (fun _ _ _ h => h) (fun _ _ _ h => h)
    have hC5 := fun W hW => hC'.out W ((hk5.mono (fun _ _ h => absurd h id)).trans hW (fun _ _ h => h))
    have hYZ5 := fun W hW => hYZ'.out W ((hk5.mono (fun _ _ h => absurd h id)).trans hW (fun _ _ h => h))
    have hs5 := hk5.size
    have hk5w := hk4w.trans hk5 (fun _ _ h => h)
    have hvx5 := hvx4'.out.keep hk5 (fun _ _ h => h)
    have hO5' := Lib.hid hO5
    have hC5' := Lib.hid hC5
    have hYZ5' := Lib.hid hYZ5
    have hvx5' := Lib.hid hvx5
    clear hO5 hC5 hYZ5 hvx5 hO4' hC' hYZ' hvx4' hk5 hk4w x5 q5 l5
    cases hf2 : (c.setAt x.addr).findIdx? isFree with
    | some i =>
      rw [idx_is hf2]
      obtain ⟨hiw, s, hs, -, -⟩ := idx_some hf2
      rw [hlo'.out] at hs
      have hput : c.put x = ({ c with slots := putAt c.slots lo c.ways i ⟨true, c.ways, x⟩ }, Line.zero, false) := by
        unfold Ca.put; rw [hf, hlo'.out]; simp only [hf2]
      have hput' := Lib.hid hput
      clear hput hf2 hf
      have hn0 : decide ((i : Int) < 0) = false := by simp
      obtain ⟨-, -, hfz, A7, c7, hA7, u0, u1, u2, u3, u4, u5⟩ := hO5'.out.at_ hs
      rw [show (lo + i) * 6 = lo * 6 + i * 6 by omega] at u0 u1 u2 u3 u4 u5
      obtain ⟨x6, q6, l6⟩ := hC5'.out w5 (Keep.refl _ _)
      have hA7' := Lib.hid hA7
      have hil : lo + i < c.slots.length := (List.getElem?_eq_some_iff.1 hs).1
      have hs' := Lib.hid hs
      have hsd := (hab'.out s (List.mem_of_getElem? hs)).2
      clear hA7 hs hfz
      have hka : KF w5 (w5.alloc (.cells #[.int .i64 s.line.addr, .slice A7 s.line.data.length c7, .bool s.line.dirty, .bool s.line.poison] 37)) := (Keep.refl (fun _ => False) w5).alloc _
      have hCa := hC5'.out _ (hka.mono (fun _ _ h => absurd h id))
      have hV := (Keep.refl (fun _ => False) (w5.alloc (.cells #[.int .i64 s.line.addr, .slice A7 s.line.data.length c7, .bool s.line.dirty, .bool s.line.poison] 37))).box (k := w5.heap.size) (at_new rfl) (fun h => h)
      obtain ⟨hVb, vv, -⟩ := hV
      have hO6 := hO5'.out.keep hka (fun _ _ _ h => h) (fun _ _ _ h => h)
      have hO6' := Lib.hid hO6
      have hvx6' := Lib.hid (hvx5'.out.keep hka (fun _ _ h => h))
      have hsa : (w5.alloc (.cells #[.int .i64 s.line.addr, .slice A7 s.line.data.length c7, .bool s.line.dirty, .bool s.line.poison] 37)).heap.size = w5.heap.size + 1 := by simp
      have hsa' := Lib.hid hsa
      have hVb' := Lib.hid hVb
      have hka' := Lib.hid hka
      clear hO6 hsa hVb hka
      go_wp2_with fail
      clear x6 q6 l6 u0 u1 u2 u3 u4 u5
      obtain ⟨x6, q6, l6⟩ := hCa
      refine wp_region_plan (fun W => ((∀ i, W.cell? ⟨w.heap.size + 1, i, none⟩ = #[Value.int .i64 x.addr, .slice Ax x.data.length cx, .bool x.dirty, .bool x.poison][i]?) ∧
        (∀ i, W.cell? ⟨w1.heap.size, i, none⟩ = #[Value.int .i64 c.sets, .int .i64 c.ways, .int .i64 c.size, .slice (some ⟨g, 0, none⟩) c.slots.length cap][i]?) ∧
        (∀ i, W.cell? ⟨w3.heap.size, i, none⟩ = #[Value.slice (some ⟨g, lo * 6, none⟩) c.ways (cap - lo)][i]?))) (.q 0 (.q 1 (.q 2 (.q 3 (.q 4 (.l1 5 (.q 6 (.q 7 (.l1 8 .stop))))))))) (by kernel_rfl) (by kernel_rfl) (by kernel_rfl) ⟨x6, q6, l6⟩ ?_
      iterate 5 (first | (refine plan_pure rfl (fun K hK => ?_); go_simp; refine hK _ _ ?_; clear hK K) | (refine plan_val ?_ rfl (by rfl) (fun w' hC => ?_) (fun K hK => ?_); rotate_left; (focus (go_simp; try rfl)); go_simp; refine hK _ _ ?_; clear hK K))
      refine plan_l1 rfl ?_
      clear x6 q6 l6
      go_wp2_with fail
      refine (lineCopy_calls _ _ _ x ⟨_, by simp, hvx6'.out.keep (Keep.refl (fun _ => False) _).drew (fun _ _ h => h)⟩ (by omega)).mono ?_
      rintro e w6 ⟨cs2, rfl, ⟨v2, rfl, hv2⟩, hk6⟩
      obtain ⟨A6, c6, rfl, -, -⟩ := hv2.len
      rw [bcells_len] at hv2 ⊢
      have hk6a := (Keep.refl (fun _ => False) (w5.alloc (.cells #[.int .i64 s.line.addr, .slice A7 s.line.data.length c7, .bool s.line.dirty, .bool s.line.poison] 37))).drew.trans hk6 (fun _ _ h => h)
      obtain ⟨hVb6, vv6, -⟩ := hk6a.box hVb'.out (fun h => h)
      have hs6 := hk6a.size
      rw [hsa'.out] at hs6
      have hk6w := hka'.out.trans hk6a (fun _ _ h => h)
      have hO7 := hO6'.out.keep hk6a (fun _ _ _ h => h) (fun _ _ _ h => h)
      obtain ⟨-, -, hfz, A8, c8, -, u0, u1, u2, u3, u4, u5⟩ := hO7.at_ hs'.out
      have hsw : (w5.alloc (.cells #[.int .i64 s.line.addr, .slice A7 s.line.data.length c7, .bool s.line.dirty, .bool s.line.poison] 37)).drew.heap.size = w5.heap.size + 1 := by simp
      rw [hsw] at hv2
      have hset := hO7.setSlot (k := lo + i) hil (fun b hb => by have : g < b := hb; omega) ⟨true, c.ways, x⟩ A6 c6 (hv2.mono (fun b hb _ => by have : w5.heap.size + 1 ≤ b := hb; omega))
      rw [show (lo + i) * 6 = lo * 6 + i * 6 by omega] at u0 u1 u2 u3 u4 u5 hset
      have hset' := Lib.hid hset
      have hk6w' := Lib.hid hk6w
      have hC6 := hC5'.out w6 (hk6w.mono (fun _ _ h => absurd h id))
      have hVb6' := Lib.hid hVb6
      clear hset hO7 hk6 hk6w hk6a hVb6 hsw vv hv2 hVb'
      go_wp2_with fail
      refine NQ_normal ⟨hC6, ?_⟩
      iterate 2 (first | (refine plan_pure rfl (fun K hK => ?_); go_simp; refine hK _ _ ?_; clear hK K) | (refine plan_val ?_ rfl (by rfl) (fun w' hC => ?_) (fun K hK => ?_); rotate_left; (focus (go_simp; try rfl)); go_simp; refine hK _ _ ?_; clear hK K))
      refine plan_l1 rfl ?_
      have hk7 : Keep (fun b => b = g) w6 ((((((w6.setCell ⟨g, lo * 6 + i * 6, none⟩ (.bool true)).setCell ⟨g, lo * 6 + i * 6 + 1, none⟩ (.int .i64 c.ways)).setCell ⟨g, lo * 6 + i * 6 + 2, none⟩ (.int .i64 x.addr)).setCell ⟨g, lo * 6 + i * 6 + 3, none⟩ (.slice A6 x.data.length c6)).setCell ⟨g, lo * 6 + i * 6 + 4, none⟩ (.bool x.dirty)).setCell ⟨g, lo * 6 + i * 6 + 5, none⟩ (.bool x.poison)) := (by repeat (first | (with_reducible refine Keep.setCell ?_ ?_ _; rotate_left; focus (intro hkb; first | (simp; done) | (simp at hkb; done) | (simp; omega) | omega | (simp at hkb ⊢; omega))) | with_reducible refine Keep.alloc ?_ _ | with_reducible refine Keep.drewN ?_ _ | with_reducible refine Keep.drew ?_ | with_reducible exact Keep.refl _ _ | with_reducible assumption))
      have hk7w := hk6w'.out.mono (M' := fun b => b = g) (fun _ _ h => absurd h id) |>.trans hk7 (fun _ _ h => h)
      have hC7 := hC5'.out _ (hk7w.mono (fun _ _ h => .inl h))
      obtain ⟨hVb7, vv7, -⟩ := hk7.box hVb6'.out (by omega)
      have hk7w' := Lib.hid hk7w
      have hk7' := Lib.hid hk7
      have hVb7' := Lib.hid hVb7
      clear hk7 hk7w hVb7 vv6
      go_wp2
      refine NQ_normal ⟨hC7, plan_stop ?_⟩
      obtain ⟨x7, q7, l7⟩ := hC7
      clear u0 u1 u2 u3 u4 u5 hfz hC6
      go_wp2_with fail
      have hage : ∀ t ∈ c.slots.set (lo + i) ⟨true, c.ways, x⟩, -1000 ≤ t.age ∧ t.age ≤ 1000 := fun t ht => by
        rcases List.mem_or_eq_of_mem_set ht with h | rfl
        · exact (hab'.out t h).1
        · simp only []; omega
      refine (touch_calls _ _ g cap (cap - lo) lo c.ways i _ _ hset'.out (fun b hb => by have : g < b := hb; omega) (by rw [List.length_set]; exact hll) hiw (by rw [List.length_set]; omega) hage).mono ?_
      rintro e w7 ⟨rfl, hO7, hk8⟩
      have hk8w := hk7w'.out.trans hk8 (fun _ _ h => h)
      obtain ⟨⟨y7, y8⟩, v7, v8⟩ := hYZ5'.out _ hk8w
      obtain ⟨-, q8, -⟩ := hC5'.out _ (hk8w.mono (fun _ _ h => .inl h))
      obtain ⟨hVb8, vv8, -⟩ := hk8.box hVb7'.out (by omega)
      have hs7 := hk8w.size
      have hk4w' := Lib.hid (hk5w.trans hk8w (fun b hb h => by omega))
      have hfin : ∀ W, Keep (fun b => b = w.heap.size + 1 + 1 ∨ b = w.heap.size + 1 + 1 + 1) w7 W → SlotsOwn W w.heap.size (g < ·) g cap (putAt c.slots lo c.ways i ⟨true, c.ways, x⟩) ∧ Arr W (w.heap.size ≤ ·) 5 1 (.slice A7 s.line.data.length c7) (bcells s.line.data) ∧ KF w W := fun W h =>
        ⟨(hO7.keep h (fun b hb _ h => by omega) (fun b hb _ h => by omega)).lower (by omega),
          ((hA7'.out.keep hk8w (fun b hb h => by have : g < b := hb; omega)).keep h (fun b hb h => by have : g < b := hb; omega)).mono (fun b hb _ => by have : g < b := hb; omega),
          hk4w'.out.trans h (fun b hb h => by omega)⟩
      have hfin' := Lib.hid hfin
      have hVb8' := Lib.hid hVb8
      have hCw : ∀ W, Keep (fun b => b = w.heap.size + 1 + 1 ∨ b = w.heap.size + 1 + 1 + 1) w7 W → (∀ i, W.cell? ⟨w1.heap.size, i, none⟩ = #[Value.int .i64 c.sets, .int .i64 c.ways, .int .i64 c.size, .slice (some ⟨g, 0, none⟩) c.slots.length cap][i]?) ∧ (∀ i, W.cell? ⟨w5.heap.size, i, none⟩ = #[Value.int .i64 s.line.addr, .slice A7 s.line.data.length c7, .bool s.line.dirty, .bool s.line.poison][i]?) := fun W hW =>
        ⟨(hC5'.out _ ((hk8w.mono (M' := fun b => b = g ∨ b = w.heap.size + 1 + 1 ∨ b = w.heap.size + 1 + 1 + 1) (fun _ _ h => .inl h)).trans hW (fun _ _ h => .inr h))).2.1,
          (hW.box hVb8'.out (by simp only [not_or]; omega)).2.1⟩
      have hCw' := Lib.hid hCw
      clear x7 q7 l7 hk8 hO7 hage hk8w hfin vv7 hVb8 hCw
      go_wp2
      rw [hput'.out]
      refine bodyPost_ret (v := .tuple #[.agg #[.int .i64 c.sets, .int .i64 c.ways, .int .i64 c.size, .slice (some ⟨g, 0, none⟩) c.slots.length cap], .agg #[.int .i64 0, .slice none 0 0, .bool false, .bool false], .bool false, .int .i64 0]) (by simp [results, Try.results13, go_sem, y7, v7]) rfl ?_
      refine ⟨g, cap, [.int .i64 0, .slice none 0 0, .bool false, .bool false], ?_, ?_, ⟨_, rfl, Arr.nil _ _ _ _⟩, by omega, ?_⟩
      · simp only [cacheCells, putAt, touchAt_len, List.length_set]
      · exact (hfin'.out _ (by repeat (first | (with_reducible refine Keep.setCell ?_ ?_ _; rotate_left; focus (intro hkb; first | (simp; done) | (simp at hkb; done) | (simp; omega) | omega | (simp at hkb ⊢; omega))) | with_reducible refine Keep.alloc ?_ _ | with_reducible refine Keep.drewN ?_ _ | with_reducible refine Keep.drew ?_ | with_reducible exact Keep.refl _ _ | with_reducible assumption))).1
      · exact (hfin'.out _ (by repeat (first | (with_reducible refine Keep.setCell ?_ ?_ _; rotate_left; focus (intro hkb; first | (simp; done) | (simp at hkb; done) | (simp; omega) | omega | (simp at hkb ⊢; omega))) | with_reducible refine Keep.alloc ?_ _ | with_reducible refine Keep.drewN ?_ _ | with_reducible refine Keep.drew ?_ | with_reducible exact Keep.refl _ _ | with_reducible assumption))).2.2
    | none =>
      rw [idx_none hf2]
      obtain ⟨x6, q6, l6⟩ := hC5'.out w5 (Keep.refl _ _)
      obtain ⟨i, hf3⟩ := old_some hV x.addr hf2
      go_wp2_with fail
      refine (indexf_calls 26 #[.pointer (some ⟨w3.heap.size, 0, none⟩)] (isOld c.ways) _ _ _ (c.setAt x.addr) (by have := hO5'.out.set hV x.addr; rw [hlo'.out] at this; exact this) (by unfold Ca.setAt; simp; omega) call_put2 ?_).mono ?_
      · intro w' s A1 c1 hk hR
        have hl := (hC5'.out w' (hk.mono (fun _ _ h => absurd h id))).2.2 0
        exact put2_calls w' w3.heap.size _ _ _ (hl.trans rfl) s _ (by have := hk.size; omega) (by omega)
      rintro e w5b ⟨rfl, hk5b⟩
      rw [idx_is hf3]
      obtain ⟨hiw, s, hs, -, -⟩ := idx_some hf3
      rw [hlo'.out] at hs
      have hput : c.put x = ({ c with slots := putAt c.slots lo c.ways i ⟨true, c.ways, x⟩ }, s.line, true) := by
        unfold Ca.put; rw [hf, hlo'.out]; simp only [hf2, hf3, List.getD_eq_getElem?_getD, hs]; rfl
      have hput' := Lib.hid hput
      have hO5 := hO5'.out.keep hk5b (fun _ _ _ h => h) (fun _ _ _ h => h)
      have hC5 := fun W hW => hC5'.out W ((hk5b.mono (fun _ _ h => absurd h id)).trans hW (fun _ _ h => h))
      have hYZ5 := fun W hW => hYZ5'.out W ((hk5b.mono (fun _ _ h => absurd h id)).trans hW (fun _ _ h => h))
      have hs5b := hk5b.size
      have hk5w := hk5w.trans hk5b (fun _ _ h => h)
      have hvx5 := hvx5'.out.keep hk5b (fun _ _ h => h)
      clear hO5' hC5' hYZ5' hvx5'
      have hO5' := Lib.hid hO5
      have hC5' := Lib.hid hC5
      have hYZ5' := Lib.hid hYZ5
      have hvx5' := Lib.hid hvx5
      clear hput hf3 hf2 hf hO5 hC5 hYZ5 hvx5 hk5b x6 q6 l6
      obtain ⟨-, -, hfz, A7, c7, hA7, u0, u1, u2, u3, u4, u5⟩ := hO5'.out.at_ hs
      rw [show (lo + i) * 6 = lo * 6 + i * 6 by omega] at u0 u1 u2 u3 u4 u5
      obtain ⟨x6, q6, l6⟩ := hC5'.out w5b (Keep.refl _ _)
      have hA7' := Lib.hid hA7
      have hil : lo + i < c.slots.length := (List.getElem?_eq_some_iff.1 hs).1
      have hs' := Lib.hid hs
      have hsd := (hab'.out s (List.mem_of_getElem? hs)).2
      clear hA7 hs hfz
      have hka : KF w5b (w5b.alloc (.cells #[.int .i64 s.line.addr, .slice A7 s.line.data.length c7, .bool s.line.dirty, .bool s.line.poison] 37)) := (Keep.refl (fun _ => False) w5b).alloc _
      have hCa := hC5'.out _ (hka.mono (fun _ _ h => absurd h id))
      have hV := (Keep.refl (fun _ => False) (w5b.alloc (.cells #[.int .i64 s.line.addr, .slice A7 s.line.data.length c7, .bool s.line.dirty, .bool s.line.poison] 37))).box (k := w5b.heap.size) (at_new rfl) (fun h => h)
      obtain ⟨hVb, vv, -⟩ := hV
      have hO6 := hO5'.out.keep hka (fun _ _ _ h => h) (fun _ _ _ h => h)
      have hO6' := Lib.hid hO6
      have hvx6' := Lib.hid (hvx5'.out.keep hka (fun _ _ h => h))
      have hsa : (w5b.alloc (.cells #[.int .i64 s.line.addr, .slice A7 s.line.data.length c7, .bool s.line.dirty, .bool s.line.poison] 37)).heap.size = w5b.heap.size + 1 := by simp
      have hsa' := Lib.hid hsa
      have hVb' := Lib.hid hVb
      have hka' := Lib.hid hka
      clear hO6 hsa hVb hka
      go_wp2_with fail
      clear x6 q6 l6 u0 u1 u2 u3 u4 u5
      obtain ⟨x6, q6, l6⟩ := hCa
      refine wp_region_plan (fun W => ((∀ i, W.cell? ⟨w.heap.size + 1, i, none⟩ = #[Value.int .i64 x.addr, .slice Ax x.data.length cx, .bool x.dirty, .bool x.poison][i]?) ∧
        (∀ i, W.cell? ⟨w1.heap.size, i, none⟩ = #[Value.int .i64 c.sets, .int .i64 c.ways, .int .i64 c.size, .slice (some ⟨g, 0, none⟩) c.slots.length cap][i]?) ∧
        (∀ i, W.cell? ⟨w3.heap.size, i, none⟩ = #[Value.slice (some ⟨g, lo * 6, none⟩) c.ways (cap - lo)][i]?))) (.q 0 (.q 1 (.q 2 (.q 3 (.q 4 (.l1 5 (.q 6 (.q 7 (.l1 8 .stop))))))))) (by kernel_rfl) (by kernel_rfl) (by kernel_rfl) ⟨x6, q6, l6⟩ ?_
      iterate 5 (first | (refine plan_pure rfl (fun K hK => ?_); go_simp; refine hK _ _ ?_; clear hK K) | (refine plan_val ?_ rfl (by rfl) (fun w' hC => ?_) (fun K hK => ?_); rotate_left; (focus (go_simp; try rfl)); go_simp; refine hK _ _ ?_; clear hK K))
      refine plan_l1 rfl ?_
      clear x6 q6 l6
      go_wp2_with fail
      refine (lineCopy_calls _ _ _ x ⟨_, by simp, hvx6'.out.keep (Keep.refl (fun _ => False) _).drew (fun _ _ h => h)⟩ (by omega)).mono ?_
      rintro e w6 ⟨cs2, rfl, ⟨v2, rfl, hv2⟩, hk6⟩
      obtain ⟨A6, c6, rfl, -, -⟩ := hv2.len
      rw [bcells_len] at hv2 ⊢
      have hk6a := (Keep.refl (fun _ => False) (w5b.alloc (.cells #[.int .i64 s.line.addr, .slice A7 s.line.data.length c7, .bool s.line.dirty, .bool s.line.poison] 37))).drew.trans hk6 (fun _ _ h => h)
      obtain ⟨hVb6, vv6, -⟩ := hk6a.box hVb'.out (fun h => h)
      have hs6 := hk6a.size
      rw [hsa'.out] at hs6
      have hk6w := hka'.out.trans hk6a (fun _ _ h => h)
      have hO7 := hO6'.out.keep hk6a (fun _ _ _ h => h) (fun _ _ _ h => h)
      obtain ⟨-, -, hfz, A8, c8, -, u0, u1, u2, u3, u4, u5⟩ := hO7.at_ hs'.out
      have hsw : (w5b.alloc (.cells #[.int .i64 s.line.addr, .slice A7 s.line.data.length c7, .bool s.line.dirty, .bool s.line.poison] 37)).drew.heap.size = w5b.heap.size + 1 := by simp
      rw [hsw] at hv2
      have hset := hO7.setSlot (k := lo + i) hil (fun b hb => by have : g < b := hb; omega) ⟨true, c.ways, x⟩ A6 c6 (hv2.mono (fun b hb _ => by have : w5b.heap.size + 1 ≤ b := hb; omega))
      rw [show (lo + i) * 6 = lo * 6 + i * 6 by omega] at u0 u1 u2 u3 u4 u5 hset
      have hset' := Lib.hid hset
      have hk6w' := Lib.hid hk6w
      have hC6 := hC5'.out w6 (hk6w.mono (fun _ _ h => absurd h id))
      have hVb6' := Lib.hid hVb6
      clear hset hO7 hk6 hk6w hk6a hVb6 hsw vv hv2 hVb'
      go_wp2_with fail
      refine NQ_normal ⟨hC6, ?_⟩
      iterate 2 (first | (refine plan_pure rfl (fun K hK => ?_); go_simp; refine hK _ _ ?_; clear hK K) | (refine plan_val ?_ rfl (by rfl) (fun w' hC => ?_) (fun K hK => ?_); rotate_left; (focus (go_simp; try rfl)); go_simp; refine hK _ _ ?_; clear hK K))
      refine plan_l1 rfl ?_
      have hk7 : Keep (fun b => b = g) w6 ((((((w6.setCell ⟨g, lo * 6 + i * 6, none⟩ (.bool true)).setCell ⟨g, lo * 6 + i * 6 + 1, none⟩ (.int .i64 c.ways)).setCell ⟨g, lo * 6 + i * 6 + 2, none⟩ (.int .i64 x.addr)).setCell ⟨g, lo * 6 + i * 6 + 3, none⟩ (.slice A6 x.data.length c6)).setCell ⟨g, lo * 6 + i * 6 + 4, none⟩ (.bool x.dirty)).setCell ⟨g, lo * 6 + i * 6 + 5, none⟩ (.bool x.poison)) := (by repeat (first | (with_reducible refine Keep.setCell ?_ ?_ _; rotate_left; focus (intro hkb; first | (simp; done) | (simp at hkb; done) | (simp; omega) | omega | (simp at hkb ⊢; omega))) | with_reducible refine Keep.alloc ?_ _ | with_reducible refine Keep.drewN ?_ _ | with_reducible refine Keep.drew ?_ | with_reducible exact Keep.refl _ _ | with_reducible assumption))
      have hk7w := hk6w'.out.mono (M' := fun b => b = g) (fun _ _ h => absurd h id) |>.trans hk7 (fun _ _ h => h)
      have hC7 := hC5'.out _ (hk7w.mono (fun _ _ h => .inl h))
      obtain ⟨hVb7, vv7, -⟩ := hk7.box hVb6'.out (by omega)
      have hk7w' := Lib.hid hk7w
      have hk7' := Lib.hid hk7
      have hVb7' := Lib.hid hVb7
      clear hk7 hk7w hVb7 vv6
      go_wp2
      refine NQ_normal ⟨hC7, plan_stop ?_⟩
      obtain ⟨x7, q7, l7⟩ := hC7
      clear u0 u1 u2 u3 u4 u5 hfz hC6
      go_wp2_with fail
      have hage : ∀ t ∈ c.slots.set (lo + i) ⟨true, c.ways, x⟩, -1000 ≤ t.age ∧ t.age ≤ 1000 := fun t ht => by
        rcases List.mem_or_eq_of_mem_set ht with h | rfl
        · exact (hab'.out t h).1
        · simp only []; omega
      refine (touch_calls _ _ g cap (cap - lo) lo c.ways i _ _ hset'.out (fun b hb => by have : g < b := hb; omega) (by rw [List.length_set]; exact hll) hiw (by rw [List.length_set]; omega) hage).mono ?_
      rintro e w7 ⟨rfl, hO7, hk8⟩
      have hk8w := hk7w'.out.trans hk8 (fun _ _ h => h)
      obtain ⟨⟨y7, y8⟩, v7, v8⟩ := hYZ5'.out _ hk8w
      obtain ⟨-, q8, -⟩ := hC5'.out _ (hk8w.mono (fun _ _ h => .inl h))
      obtain ⟨hVb8, vv8, -⟩ := hk8.box hVb7'.out (by omega)
      have hs7 := hk8w.size
      have hk4w' := Lib.hid (hk5w.trans hk8w (fun b hb h => by omega))
      have hfin : ∀ W, Keep (fun b => b = w.heap.size + 1 + 1 ∨ b = w.heap.size + 1 + 1 + 1) w7 W → SlotsOwn W w.heap.size (g < ·) g cap (putAt c.slots lo c.ways i ⟨true, c.ways, x⟩) ∧ Arr W (w.heap.size ≤ ·) 5 1 (.slice A7 s.line.data.length c7) (bcells s.line.data) ∧ KF w W := fun W h =>
        ⟨(hO7.keep h (fun b hb _ h => by omega) (fun b hb _ h => by omega)).lower (by omega),
          ((hA7'.out.keep hk8w (fun b hb h => by have : g < b := hb; omega)).keep h (fun b hb h => by have : g < b := hb; omega)).mono (fun b hb _ => by have : g < b := hb; omega),
          hk4w'.out.trans h (fun b hb h => by omega)⟩
      have hfin' := Lib.hid hfin
      have hVb8' := Lib.hid hVb8
      have hCw : ∀ W, Keep (fun b => b = w.heap.size + 1 + 1 ∨ b = w.heap.size + 1 + 1 + 1) w7 W → (∀ i, W.cell? ⟨w1.heap.size, i, none⟩ = #[Value.int .i64 c.sets, .int .i64 c.ways, .int .i64 c.size, .slice (some ⟨g, 0, none⟩) c.slots.length cap][i]?) ∧ (∀ i, W.cell? ⟨w5b.heap.size, i, none⟩ = #[Value.int .i64 s.line.addr, .slice A7 s.line.data.length c7, .bool s.line.dirty, .bool s.line.poison][i]?) := fun W hW =>
        ⟨(hC5'.out _ ((hk8w.mono (M' := fun b => b = g ∨ b = w.heap.size + 1 + 1 ∨ b = w.heap.size + 1 + 1 + 1) (fun _ _ h => .inl h)).trans hW (fun _ _ h => .inr h))).2.1,
          (hW.box hVb8'.out (by simp only [not_or]; omega)).2.1⟩
      have hCw' := Lib.hid hCw
      clear x7 q7 l7 hk8 hO7 hage hk8w hfin vv7 hVb8 hCw
      obtain ⟨p1, p2⟩ := hCw'.out _ (Keep.refl _ _)
      go_wp2_with fail
      refine wp_region_plan (fun W => (∀ i, W.cell? ⟨w1.heap.size, i, none⟩ = #[Value.int .i64 c.sets, .int .i64 c.ways, .int .i64 c.size, .slice (some ⟨g, 0, none⟩) c.slots.length cap][i]?) ∧ (∀ i, W.cell? ⟨w5b.heap.size, i, none⟩ = #[Value.int .i64 s.line.addr, .slice A7 s.line.data.length c7, .bool s.line.dirty, .bool s.line.poison][i]?))
        (.q 0 (.q 1 (.l1 2 (.l1 3 (.l1 4 (.l1 5 .stop)))))) (by kernel_rfl) (by kernel_rfl) (by kernel_rfl) ⟨p1, p2⟩ ?_
      iterate 2 (first | (refine plan_pure rfl (fun K hK => ?_); go_simp; refine hK _ _ ?_; clear hK K) | (refine plan_val ?_ rfl (by rfl) (fun w' hC => ?_) (fun K hK => ?_); rotate_left; (focus (go_simp; try rfl)); go_simp; refine hK _ _ ?_; clear hK K))
      clear p1 p2 q8 vv8
      refine plan_l1 rfl ?_
      go_wp2
      refine NQ_normal ⟨hCw'.out _ (by repeat (first | (with_reducible refine Keep.setCell ?_ ?_ _; rotate_left; focus (intro hkb; first | (simp; done) | (simp at hkb; done) | (simp; omega) | omega | (simp at hkb ⊢; omega))) | with_reducible refine Keep.alloc ?_ _ | with_reducible refine Keep.drewN ?_ _ | with_reducible refine Keep.drew ?_ | with_reducible exact Keep.refl _ _ | with_reducible assumption)), ?_⟩
      refine plan_l1 rfl ?_
      go_wp2
      refine NQ_normal ⟨hCw'.out _ (by repeat (first | (with_reducible refine Keep.setCell ?_ ?_ _; rotate_left; focus (intro hkb; first | (simp; done) | (simp at hkb; done) | (simp; omega) | omega | (simp at hkb ⊢; omega))) | with_reducible refine Keep.alloc ?_ _ | with_reducible refine Keep.drewN ?_ _ | with_reducible refine Keep.drew ?_ | with_reducible exact Keep.refl _ _ | with_reducible assumption)), ?_⟩
      refine plan_l1 rfl ?_
      go_wp2
      refine NQ_normal ⟨hCw'.out _ (by repeat (first | (with_reducible refine Keep.setCell ?_ ?_ _; rotate_left; focus (intro hkb; first | (simp; done) | (simp at hkb; done) | (simp; omega) | omega | (simp at hkb ⊢; omega))) | with_reducible refine Keep.alloc ?_ _ | with_reducible refine Keep.drewN ?_ _ | with_reducible refine Keep.drew ?_ | with_reducible exact Keep.refl _ _ | with_reducible assumption)), ?_⟩
      refine plan_l1 rfl ?_
      go_wp2
      refine NQ_normal ⟨hCw'.out _ (by repeat (first | (with_reducible refine Keep.setCell ?_ ?_ _; rotate_left; focus (intro hkb; first | (simp; done) | (simp at hkb; done) | (simp; omega) | omega | (simp at hkb ⊢; omega))) | with_reducible refine Keep.alloc ?_ _ | with_reducible refine Keep.drewN ?_ _ | with_reducible refine Keep.drew ?_ | with_reducible exact Keep.refl _ _ | with_reducible assumption)), plan_stop ?_⟩
      go_wp2
      rw [hput'.out]
      refine bodyPost_ret (v := .tuple #[.agg #[.int .i64 c.sets, .int .i64 c.ways, .int .i64 c.size, .slice (some ⟨g, 0, none⟩) c.slots.length cap], .agg #[.int .i64 s.line.addr, .slice A7 s.line.data.length c7, .bool s.line.dirty, .bool s.line.poison], .bool true, .int .i64 0]) (by simp [results, Try.results13, go_sem, y7, v7]) rfl ?_
      refine ⟨g, cap, [.int .i64 s.line.addr, .slice A7 s.line.data.length c7, .bool s.line.dirty, .bool s.line.poison], ?_, ?_, ⟨_, rfl, ?_⟩, by omega, ?_⟩
      · simp only [cacheCells, putAt, touchAt_len, List.length_set]
      · exact (hfin'.out _ (by repeat (first | (with_reducible refine Keep.setCell ?_ ?_ _; rotate_left; focus (intro hkb; first | (simp; done) | (simp at hkb; done) | (simp; omega) | omega | (simp at hkb ⊢; omega))) | with_reducible refine Keep.alloc ?_ _ | with_reducible refine Keep.drewN ?_ _ | with_reducible refine Keep.drew ?_ | with_reducible exact Keep.refl _ _ | with_reducible assumption))).1
      · exact (hfin'.out _ (by repeat (first | (with_reducible refine Keep.setCell ?_ ?_ _; rotate_left; focus (intro hkb; first | (simp; done) | (simp at hkb; done) | (simp; omega) | omega | (simp at hkb ⊢; omega))) | with_reducible refine Keep.alloc ?_ _ | with_reducible refine Keep.drewN ?_ _ | with_reducible refine Keep.drew ?_ | with_reducible exact Keep.refl _ _ | with_reducible assumption))).2.1
      · exact (hfin'.out _ (by repeat (first | (with_reducible refine Keep.setCell ?_ ?_ _; rotate_left; focus (intro hkb; first | (simp; done) | (simp at hkb; done) | (simp; omega) | omega | (simp at hkb ⊢; omega))) | with_reducible refine Keep.alloc ?_ _ | with_reducible refine Keep.drewN ?_ _ | with_reducible refine Keep.drew ?_ | with_reducible exact Keep.refl _ _ | with_reducible assumption))).2.2
end Go.Proofs.Ytbcjjenidkgodaa
