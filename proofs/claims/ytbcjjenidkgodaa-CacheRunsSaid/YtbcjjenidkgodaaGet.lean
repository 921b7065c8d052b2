/- Get. -/
import Derived.Test.YtbcjjenidkgodaaCopy
namespace Go.Proofs.Ytbcjjenidkgodaa
open Go Go.RowKit

def Ca.setAt (c : Ca) (a : Int) : List Slot := (c.slots.drop (c.lo a)).take c.ways
def Ca.get (c : Ca) (a : Int) : Ca × Line × Bool :=
  match (c.setAt a).findIdx? (hasAddr a) with
  | none => (c, Line.zero, false)
  | some i => ({ c with slots := touchAt c.slots (c.lo a) c.ways i }, (c.slots.getD (c.lo a + i) Slot.zero).line, true)

theorem idx_lt {c : Ca} {a : Int} {i : Nat} (h : (c.setAt a).findIdx? (hasAddr a) = some i) : i < c.ways ∧ c.lo a + i < c.slots.length ∧ ∃ s, c.slots[c.lo a + i]? = some s ∧ (c.setAt a)[i]? = some s := by
  obtain ⟨hl, _⟩ := List.findIdx?_eq_some_iff_getElem.1 h
  unfold Ca.setAt at hl
  simp only [List.length_take, List.length_drop] at hl
  have h1 : c.lo a + i < c.slots.length := by omega
  refine ⟨by omega, h1, c.slots[c.lo a + i], List.getElem?_eq_getElem h1, ?_⟩
  unfold Ca.setAt
  rw [List.getElem?_take, if_pos (by omega), List.getElem?_drop, List.getElem?_eq_getElem h1]

/-- The slots of a set, of a cache of the call's own. -/
theorem SlotsOwn.set {w : World} {base g cap : Nat} {S : Nat → Prop} {c : Ca} (h : SlotsOwn w base S g cap c.slots) (hV : ValidC c) (a : Int) :
    RSlots w (fun b => base ≤ b ∨ S b) (.slice (some ⟨g, c.lo a * 6, none⟩) c.ways (cap - c.lo a)) (c.setAt a) := by
  have h1 := h.reads
  have h2 := Ca.lo_le hV a
  have h3 := h.cap
  have := h1.slice (c.lo a) (c.lo a + c.ways) (by have := hV.ways1; omega) h2 h3.1
  rw [show c.lo a + c.ways - c.lo a = c.ways by omega, Nat.zero_add] at this
  exact this

theorem set_calls0 (w : World) (S : Nat → Prop) (c : Ca) (g cap : Nat) (a : Int) (hv : RSlots w S (.slice (some ⟨g, 0, none⟩) c.slots.length cap) c.slots) (hV : ValidC c) (ha : 0 ≤ a) (hcap : c.slots.length ≤ cap ∧ cap ≤ 9223372036854775807) :
    Calls Try.prog 18 #[.agg #[.int .i64 c.sets, .int .i64 c.ways, .int .i64 c.size, .slice (some ⟨g, 0, none⟩) c.slots.length cap], .int .i64 a] w fun e w' => e = .returned (.slice (some ⟨g, c.lo a * 6, none⟩) c.ways (cap - c.lo a)) ∧ KF w w' := by
  have := set_calls w S c g 0 cap a hv hV ha hcap
  rw [Nat.zero_add] at this
  exact this

theorem idx_cases (c : Ca) (a : Int) : (idxOf (hasAddr a) (c.setAt a) = -1 ∧ (c.setAt a).findIdx? (hasAddr a) = none) ∨ ∃ i : Nat, idxOf (hasAddr a) (c.setAt a) = (i : Int) ∧ (c.setAt a).findIdx? (hasAddr a) = some i := by
  unfold idxOf
  cases h : (c.setAt a).findIdx? (hasAddr a) with
  | none => exact .inl ⟨rfl, rfl⟩
  | some i => exact .inr ⟨i, rfl, rfl⟩

theorem age_bound {c : Ca} (hV : ValidC c) : ∀ s ∈ c.slots, (-1000 ≤ s.age ∧ s.age ≤ 1000) ∧ s.line.data.length ≤ 1000 := by
  intro s hs
  obtain ⟨j, hj, rfl⟩ := List.getElem_of_mem hs
  have hw : 0 < c.ways := hV.ways1
  have hq : j / c.ways < c.sets := by
    rw [Nat.div_lt_iff_lt_mul hw]
    rw [hV.len] at hj
    exact hj
  obtain ⟨used, hR⟩ := hV.right_ (j / c.ways) hq
  have hm : j % c.ways < c.ways := Nat.mod_lt _ hw
  have he : j / c.ways * c.ways + j % c.ways = j := by rw [Nat.mul_comm]; exact Nat.div_add_mod j c.ways
  have hs' : (c.setL (j / c.ways))[j % c.ways]? = some c.slots[j] := by
    unfold Ca.setL
    rw [List.getElem?_take, if_pos hm, List.getElem?_drop, he, List.getElem?_eq_getElem hj]
  have hul : used ≤ 32 := by
    have h1 := hR.le
    unfold Ca.setL at h1
    have h2 := hV.ways4
    simp only [List.length_take] at h1
    omega
  by_cases hu : j % c.ways < used
  · obtain ⟨_, h1, h2, _, _, h3, _⟩ := hR.used_ _ _ hu hs'
    have := hV.size32
    exact ⟨by omega, by omega⟩
  · rw [hR.empty _ _ (by omega) hs']
    exact ⟨by simp [Slot.zero], by simp [Slot.zero, Line.zero]⟩

theorem RSlots.below {w w' : World} {S : Nat → Prop} {v : Value} {ss : List Slot} (h : RSlots w S v ss) (hk : KF w w') : RSlots w' S v ss := h.keep hk (fun _ _ h => h)

theorem SlotsOwn.lower {w : World} {base base' g cap : Nat} {S : Nat → Prop} {ss : List Slot} (h : SlotsOwn w base S g cap ss) (hb : base' ≤ base) : SlotsOwn w base' S g cap ss := by
  obtain ⟨css, h1, h2⟩ := h
  exact ⟨css, h1.lower hb, h2⟩

theorem touchAt_self {ss : List Slot} {lo m i : Nat} {s : Slot} (hs : ss[lo + i]? = some s) (hi : i < m) : (touchAt ss lo m i)[lo + i]? = some { s with age := 0 } := by
  have hl : lo + i < ss.length := (List.getElem?_eq_some_iff.1 hs).1
  have ha : (ss.getD (lo + i) Slot.zero).age = s.age := by rw [List.getD_eq_getElem?_getD, hs]; rfl
  have h1 : (tgo s.age lo m ss)[lo + i]? = some s := by
    rw [tgo_get, if_pos (by omega), hs]
    simp [tstep]
  unfold touchAt
  simp only [ha]
  rw [List.getElem?_set_self (by rw [tgo_len]; exact hl), List.getD_eq_getElem?_getD, h1]
  rfl
theorem touchAt_len (ss : List Slot) (lo m i : Nat) : (touchAt ss lo m i).length = ss.length := by simp [touchAt, tgo_len]

set_option maxHeartbeats 2000000 in
theorem get_calls (w : World) (S : Nat → Prop) (c : Ca) (v : Value) (a : Int) (hv : RSlots w S v c.slots) (hV : ValidC c) (ha : 0 ≤ a) :
    Calls Try.prog 9 #[.agg (cacheCells c v).toArray, .int .i64 a] w fun e w' => ∃ g cap cs2,
      e = .returned (.tuple #[.agg (cacheCells (c.get a).1 (.slice (some ⟨g, 0, none⟩) (c.get a).1.slots.length cap)).toArray, .agg cs2.toArray, .bool (c.get a).2.2]) ∧
      SlotsOwn w' w.heap.size (g < ·) g cap (c.get a).1.slots ∧ RLine w' (w.heap.size ≤ ·) cs2 (c.get a).2.1 ∧ w.heap.size ≤ g ∧ KF w w' := by
  have hbnd := hV.bound
  have hpos := hV.pos
  have hab := age_bound hV
  have hcopy := fun W (hW : KF w W) => copy_calls W S c v (hv.below hW) (by intro h; rw [h] at hpos; simp at hpos) (by omega) (fun s hs => (hab s hs).2)
  have hll := Ca.lo_le hV a
  obtain ⟨A, cap0, rfl, hc1, hc2, -⟩ := hv.cases
  have H := Lib.hid hcopy
  have hab' := Lib.hid hab
  clear hcopy hab hv
  go_enter Try.func9, Try.ntmps9
  unfold cacheCells
  go_wp2_with fail
  refine (H.out _ ((((Keep.refl (fun _ => False) w).alloc _).alloc _).alloc _)).mono ?_
  rintro e w1 ⟨g, cap, rfl, hO1, hg1, hk1⟩
  obtain ⟨hY, -, -⟩ := hk1.box (k := w.heap.size + 1) (at_old (at_new (by simp))) (fun h => h)
  obtain ⟨hZ, -, -⟩ := hk1.box (k := w.heap.size + 2) (at_new (by simp)) (fun h => h)
  have hk1w : KF w w1 := ((((Keep.refl (fun _ => False) w).alloc _).alloc _).alloc _).trans hk1 (fun _ _ h => h)
  have hs1 := hk1.size
  have hgl := (hO1.at_ (k := 0) (List.getElem?_eq_getElem (by omega))).1
  have hsz : ∀ o1 o2 o3, (((w.alloc o1).alloc o2).alloc o3).heap.size = w.heap.size + 3 := fun _ _ _ => by simp
  rw [hsz] at hs1 hg1 hO1
  have hO1' := Lib.hid hO1
  clear H hO1 hsz hk1
  unfold cacheCells
  go_wp2_with fail
  have hal := fun o => (Keep.refl (fun _ => False) w1).alloc o
  refine (set_calls0 _ _ c g cap a ((hO1'.out.keep (hal _) (fun _ _ _ h => h) (fun _ _ _ h => h)).reads) hV ha hO1'.out.cap).mono ?_
  rintro e w2 ⟨rfl, hk2⟩
  have hk2w : KF w1 w2 := (hal _).trans hk2 (fun _ _ h => h)
  obtain ⟨hQ, -, -⟩ := hk2.box (k := w1.heap.size) (at_new rfl) (fun h => h)
  have hO2 := hO1'.out.keep hk2w (fun _ _ _ h => h) (fun _ _ _ h => h)
  have hO2' := Lib.hid hO2
  clear hO2 hal hk2
  go_wp2_with fail
  refine (find_calls _ _ _ (c.setAt a) a (hO2'.out.set hV a) (by unfold Ca.setAt; simp; omega)).mono ?_
  rintro e w3 ⟨rfl, hk3⟩
  have hO3 := hO2'.out.keep hk3 (fun _ _ _ h => h) (fun _ _ _ h => h)
  obtain ⟨hQ3, o1, -⟩ := hk3.box hQ (fun h => h)
  obtain ⟨hY3, y1, y2⟩ := (hk2w.trans hk3 (fun _ _ h => h)).box hY (fun h => h)
  obtain ⟨hZ3, z1, z2⟩ := (hk2w.trans hk3 (fun _ _ h => h)).box (k := w.heap.size + 1 + 1) hZ (fun h => h)
  have hk3w : KF w w3 := hk1w.trans (hk2w.trans hk3 (fun _ _ h => h)) (fun _ _ h => h)
  have hO3' := Lib.hid hO3
  have hQ3' := Lib.hid hQ3
  have hs3 : w1.heap.size < w3.heap.size := (Array.getElem?_eq_some_iff.1 hQ3).1
  clear hO3 hO1' hO2' hQ hY hZ hk2w hk3 hk1w hQ3
  rcases idx_cases c a with ⟨hi, hf⟩ | ⟨i, hi, hf⟩
  · rw [hi]
    have hget : c.get a = (c, Line.zero, false) := by unfold Ca.get; rw [hf]
    have hget' := Lib.hid hget
    clear hi hf hget
    go_wp2
    rw [hget'.out]
    refine bodyPost_ret (v := .tuple #[.agg #[.int .i64 c.sets, .int .i64 c.ways, .int .i64 c.size, .slice (some ⟨g, 0, none⟩) c.slots.length cap], .agg #[.int .i64 0, .slice none 0 0, .bool false, .bool false], .bool false]) (by simp [results, Try.results9, go_sem, y1, z1]) rfl ?_
    have hfin : ∀ W, Keep (fun b => b = w.heap.size + 1 ∨ b = w.heap.size + 1 + 1) w3 W → SlotsOwn W w.heap.size (g < ·) g cap c.slots ∧ KF w W := fun W h =>
      ⟨(hO3'.out.keep h (fun b hb _ h => by omega) (fun b hb _ h => by omega)).lower (by omega), hk3w.trans h (fun b hb h => by omega)⟩
    refine ⟨g, cap, [.int .i64 0, .slice none 0 0, .bool false, .bool false], rfl, ?_, ⟨_, rfl, Arr.nil _ _ _ _⟩, by omega, ?_⟩
    · exact (hfin _ (by repeat (first | (with_reducible refine Keep.setCell ?_ ?_ _; rotate_left; focus (intro hkb; first | (simp; done) | (simp at hkb; done) | (simp; omega) | omega | (simp at hkb ⊢; omega))) | with_reducible refine Keep.alloc ?_ _ | with_reducible refine Keep.drewN ?_ _ | with_reducible refine Keep.drew ?_ | with_reducible exact Keep.refl _ _ | with_reducible assumption))).1
    · exact (hfin _ (by repeat (first | (with_reducible refine Keep.setCell ?_ ?_ _; rotate_left; focus (intro hkb; first | (simp; done) | (simp at hkb; done) | (simp; omega) | omega | (simp at hkb ⊢; omega))) | with_reducible refine Keep.alloc ?_ _ | with_reducible refine Keep.drewN ?_ _ | with_reducible refine Keep.drew ?_ | with_reducible exact Keep.refl _ _ | with_reducible assumption))).2
  · rw [hi]
    obtain ⟨hiw, hil, s, hs, hs2⟩ := idx_lt hf
    have hget : c.get a = ({ c with slots := touchAt c.slots (c.lo a) c.ways i }, s.line, true) := by unfold Ca.get; rw [hf]; simp only [List.getD_eq_getElem?_getD, hs]; rfl
    have hget' := Lib.hid hget
    clear hi hf hget hs2
    go_wp2_with fail
    refine (touch_calls w3 _ g cap (cap - c.lo a) (c.lo a) c.ways i _ c.slots hO3'.out (fun b hb => by have : g < b := hb; omega) hll hiw (by omega) (fun s hs => (hab'.out s hs).1)).mono ?_
    rintro e w4 ⟨rfl, hO4, hk4⟩
    obtain ⟨hQ4, o4, -⟩ := hk4.box hQ3'.out (by omega)
    obtain ⟨hY4, y4, y5⟩ := hk4.box hY3 (by omega)
    obtain ⟨hZ4, z4, z5⟩ := hk4.box hZ3 (by omega)
    obtain ⟨-, -, -, A5, c5, hA5, -, -, u2, u3, u4, u5⟩ := hO4.at_ (touchAt_self hs hiw)
    have e1 : (c.lo a + i) * 6 = c.lo a * 6 + i * 6 := by omega
    rw [e1] at u2 u3 u4 u5
    simp only [] at u2 u3 u4 u5 hA5
    have hO4' := Lib.hid hO4
    have hA5' := Lib.hid hA5
    have hk4w : KF w w4 := hk3w.trans hk4 (fun b hb h => by omega)
    have hsd := (hab'.out s (List.mem_of_getElem? hs)).2
    have hQ4' := Lib.hid hQ4
    have hY4' := Lib.hid hY4
    have hZ4' := Lib.hid hZ4
    clear e1 hO4 hA5 hQ4 hY4 hZ4 hY3 hZ3 o1 y1 y2 z1 z2 hs
    go_wp2_with fail
    refine wp_region_plan (fun W => (∀ i, W.cell? ⟨w1.heap.size, i, none⟩ = #[Value.int .i64 c.sets, .int .i64 c.ways, .int .i64 c.size, .slice (some ⟨g, 0, none⟩) c.slots.length cap][i]?) ∧ W.cell? ⟨g, c.lo a * 6 + i * 6 + 2, none⟩ = some (.int .i64 s.line.addr) ∧
      W.cell? ⟨g, c.lo a * 6 + i * 6 + 3, none⟩ = some (.slice A5 s.line.data.length c5) ∧ W.cell? ⟨g, c.lo a * 6 + i * 6 + 4, none⟩ = some (.bool s.line.dirty) ∧ W.cell? ⟨g, c.lo a * 6 + i * 6 + 5, none⟩ = some (.bool s.line.poison))
      (.q 0 (.q 1 (.q 2 (.q 3 (.q 4 (.q 5 (.l1 6 (.l1 7 (.l1 8 (.l1 9 .stop)))))))))) (by kernel_rfl) (by kernel_rfl) (by kernel_rfl) ⟨o4, u2, u3, u4, u5⟩ ?_
    iterate 6 (first | (refine plan_pure rfl (fun K hK => ?_); go_simp; refine hK _ _ ?_; clear hK K) | (refine plan_val ?_ rfl (by rfl) (fun w' hC => ?_) (fun K hK => ?_); rotate_left; (focus (go_simp; try rfl)); go_simp; refine hK _ _ ?_; clear hK K))
    refine plan_l1 rfl ?_
    go_wp2_with fail
    refine (lineCopy_calls w4.drew _ _ s.line ⟨_, by simp, hA5'.out.keep (Keep.refl (fun _ => False) w4).drew (fun _ _ h => h)⟩ (by omega)).mono ?_
    rintro e w5 ⟨cs2, rfl, ⟨v2, rfl, hv2⟩, hk5⟩
    obtain ⟨A6, c6, rfl, -, -⟩ := hv2.len
    rw [bcells_len] at hv2 ⊢
    have hk5w : KF w4 w5 := (Keep.refl (fun _ => False) w4).drew.trans hk5 (fun _ _ h => h)
    have hs4 : w1.heap.size < w4.heap.size := (Array.getElem?_eq_some_iff.1 hQ4'.out).1
    obtain ⟨hY5, y6, y7⟩ := hk5w.box hY4'.out (fun h => h)
    obtain ⟨hZ5, z6, z7⟩ := hk5w.box hZ4'.out (fun h => h)
    have hC : ∀ W, Keep (fun b => b = w.heap.size + 1 ∨ b = w.heap.size + 1 + 1) w5 W → (∀ i, W.cell? ⟨w1.heap.size, i, none⟩ = #[Value.int .i64 c.sets, .int .i64 c.ways, .int .i64 c.size, .slice (some ⟨g, 0, none⟩) c.slots.length cap][i]?) ∧ W.cell? ⟨g, c.lo a * 6 + i * 6 + 2, none⟩ = some (.int .i64 s.line.addr) ∧
      W.cell? ⟨g, c.lo a * 6 + i * 6 + 3, none⟩ = some (.slice A5 s.line.data.length c5) ∧ W.cell? ⟨g, c.lo a * 6 + i * 6 + 4, none⟩ = some (.bool s.line.dirty) ∧ W.cell? ⟨g, c.lo a * 6 + i * 6 + 5, none⟩ = some (.bool s.line.poison) := fun W hW => by
      have hgo : ∀ b j, b < w4.heap.size → b ≠ w.heap.size + 1 → b ≠ w.heap.size + 1 + 1 → W.cell? ⟨b, j, none⟩ = w4.cell? ⟨b, j, none⟩ := fun b j h1 h2 h3 =>
        (hW.cell (p := ⟨b, j, none⟩) (Nat.lt_of_lt_of_le h1 hk5w.size) (by simp only [not_or]; exact ⟨h2, h3⟩)).trans (hk5w.cell (p := ⟨b, j, none⟩) h1 (fun h => h))
      exact ⟨fun j => (hgo _ j (by omega) (by omega) (by omega)).trans (o4 j), (hgo _ _ (by omega) (by omega) (by omega)).trans u2, (hgo _ _ (by omega) (by omega) (by omega)).trans u3, (hgo _ _ (by omega) (by omega) (by omega)).trans u4, (hgo _ _ (by omega) (by omega) (by omega)).trans u5⟩
    have hfin : ∀ W, Keep (fun b => b = w.heap.size + 1 ∨ b = w.heap.size + 1 + 1) w5 W → SlotsOwn W w.heap.size (g < ·) g cap (touchAt c.slots (c.lo a) c.ways i) ∧ Arr W (w.heap.size ≤ ·) 5 1 (.slice A6 s.line.data.length c6) (bcells s.line.data) ∧ KF w W := fun W hW =>
      ⟨((hO4'.out.keep hk5w (fun _ _ _ h => h) (fun _ _ _ h => h)).keep hW (fun b hb _ h => by omega) (fun b hb _ h => by omega)).lower (by omega),
        (hv2.keep hW (fun b hb h => by have : w4.heap.size ≤ b := hb; omega)).mono (fun b hb _ => by have : w4.heap.size ≤ b := hb; have := hk4w.size; omega),
        (hk4w.trans hk5w (fun _ _ h => h)).trans hW (fun b hb h => by omega)⟩
    have hC' := Lib.hid hC
    have hfin' := Lib.hid hfin
    clear hC hfin o4 u2 u3 u4 u5 y4 y5 z4 z5 hY5 hZ5 hv2 hk5 hk5w
    go_wp2_with fail
    refine NQ_normal ⟨hC'.out _ (Keep.refl _ _), ?_⟩
    refine plan_l1 rfl ?_
    go_wp2
    refine NQ_normal ⟨hC'.out _ (by repeat (first | (with_reducible refine Keep.setCell ?_ ?_ _; rotate_left; focus (intro hkb; first | (simp; done) | (simp at hkb; done) | (simp; omega) | omega | (simp at hkb ⊢; omega))) | with_reducible refine Keep.alloc ?_ _ | with_reducible refine Keep.drewN ?_ _ | with_reducible refine Keep.drew ?_ | with_reducible exact Keep.refl _ _ | with_reducible assumption)), ?_⟩
    refine plan_l1 rfl ?_
    go_wp2
    refine NQ_normal ⟨hC'.out _ (by repeat (first | (with_reducible refine Keep.setCell ?_ ?_ _; rotate_left; focus (intro hkb; first | (simp; done) | (simp at hkb; done) | (simp; omega) | omega | (simp at hkb ⊢; omega))) | with_reducible refine Keep.alloc ?_ _ | with_reducible refine Keep.drewN ?_ _ | with_reducible refine Keep.drew ?_ | with_reducible exact Keep.refl _ _ | with_reducible assumption)), ?_⟩
    refine plan_l1 rfl ?_
    go_wp2
    refine NQ_normal ⟨hC'.out _ (by repeat (first | (with_reducible refine Keep.setCell ?_ ?_ _; rotate_left; focus (intro hkb; first | (simp; done) | (simp at hkb; done) | (simp; omega) | omega | (simp at hkb ⊢; omega))) | with_reducible refine Keep.alloc ?_ _ | with_reducible refine Keep.drewN ?_ _ | with_reducible refine Keep.drew ?_ | with_reducible exact Keep.refl _ _ | with_reducible assumption)), plan_stop ?_⟩
    go_wp2
    rw [hget'.out]
    refine bodyPost_ret (v := .tuple #[.agg #[.int .i64 c.sets, .int .i64 c.ways, .int .i64 c.size, .slice (some ⟨g, 0, none⟩) c.slots.length cap], .agg #[.int .i64 s.line.addr, .slice A6 s.line.data.length c6, .bool s.line.dirty, .bool s.line.poison], .bool true]) (by simp [results, Try.results9, go_sem, y6, z6]) rfl ?_
    refine ⟨g, cap, [.int .i64 s.line.addr, .slice A6 s.line.data.length c6, .bool s.line.dirty, .bool s.line.poison], ?_, ?_, ⟨_, rfl, ?_⟩, by omega, ?_⟩
    · simp only [cacheCells, touchAt_len]
    · exact (hfin'.out _ (by repeat (first | (with_reducible refine Keep.setCell ?_ ?_ _; rotate_left; focus (intro hkb; first | (simp; done) | (simp at hkb; done) | (simp; omega) | omega | (simp at hkb ⊢; omega))) | with_reducible refine Keep.alloc ?_ _ | with_reducible refine Keep.drewN ?_ _ | with_reducible refine Keep.drew ?_ | with_reducible exact Keep.refl _ _ | with_reducible assumption))).1
    · exact (hfin'.out _ (by repeat (first | (with_reducible refine Keep.setCell ?_ ?_ _; rotate_left; focus (intro hkb; first | (simp; done) | (simp at hkb; done) | (simp; omega) | omega | (simp at hkb ⊢; omega))) | with_reducible refine Keep.alloc ?_ _ | with_reducible refine Keep.drewN ?_ _ | with_reducible refine Keep.drew ?_ | with_reducible exact Keep.refl _ _ | with_reducible assumption))).2.1
    · exact (hfin'.out _ (by repeat (first | (with_reducible refine Keep.setCell ?_ ?_ _; rotate_left; focus (intro hkb; first | (simp; done) | (simp at hkb; done) | (simp; omega) | omega | (simp at hkb ⊢; omega))) | with_reducible refine Keep.alloc ?_ _ | with_reducible refine Keep.drewN ?_ _ | with_reducible refine Keep.drew ?_ | with_reducible exact Keep.refl _ _ | with_reducible assumption))).2.2
end Go.Proofs.Ytbcjjenidkgodaa
