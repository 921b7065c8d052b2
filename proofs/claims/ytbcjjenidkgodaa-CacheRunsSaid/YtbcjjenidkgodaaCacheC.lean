/- Slots of the call's own; touch. -/
import Derived.Test.YtbcjjenidkgodaaCacheB
namespace Go.Proofs.Ytbcjjenidkgodaa
open Go Go.RowKit

theorem Own.setCell {w : World} {base e sz g n cap : Nat} {css : List (List Value)} (h : Own w base e sz (.slice (some ⟨g, 0, none⟩) n cap) css) {i j : Nat} {cs : List Value} (hi : css[i]? = some cs) (hj : j < sz) (x : Value) (hx : x.oneCell' = true) :
    Own (w.setCell ⟨g, i * sz + j, none⟩ x) base e sz (.slice (some ⟨g, 0, none⟩) n cap) (css.set i (cs.set j x)) := by
  have hn : n = css.length := by
    obtain ⟨A, c, hv, _⟩ := h.slice
    simp only [Value.slice.injEq] at hv
    exact hv.2.1
  subst hn
  obtain ⟨h0, h1⟩ := h
  have hil : i < css.length := (List.getElem?_eq_some_iff.1 hi).1
  have hcs := h0 cs (List.mem_of_getElem? hi)
  refine ⟨fun r hr => ?_, ?_⟩
  · rcases List.mem_or_eq_of_mem_set hr with hr | rfl
    · exact h0 r hr
    · refine ⟨by rw [List.length_set]; exact hcs.1, fun y hy => ?_⟩
      rcases List.mem_or_eq_of_mem_set hy with hy | rfl
      · exact hcs.2 y hy
      · exact hx
  · rw [List.length_set]
    have h2 := h1.stored (i * sz + j) x
    have hf : css.flatten.set (i * sz + j) x = (css.set i (cs.set j x)).flatten := by
      clear h1 h2 hx
      induction css generalizing i with
      | nil => simp at hil
      | cons c css ih =>
        have hc : c.length = sz := (h0 c (by simp)).1
        cases i with
        | zero =>
          simp only [List.getElem?_cons_zero, Option.some.injEq] at hi
          subst hi
          simp only [List.flatten_cons, List.set_cons_zero, Nat.zero_mul, Nat.zero_add]
          rw [List.set_append_left _ _ (by omega)]
        | succ i =>
          simp only [List.getElem?_cons_succ] at hi
          simp only [List.flatten_cons, List.set_cons_succ]
          rw [List.set_append_right _ _ (by rw [hc, Nat.add_mul]; omega), ← ih hi (fun r hr => h0 r (by simp [hr])) (by simpa using hil), hc]
          congr 2
          rw [Nat.add_mul]; omega
    rw [← hf]
    exact h2.1

/-- Slots of the call's own. -/
def SlotsOwn (w : World) (base : Nat) (S : Nat → Prop) (g cap : Nat) (ss : List Slot) : Prop :=
  ∃ css, Own w base 55 6 (.slice (some ⟨g, 0, none⟩) ss.length cap) css ∧ Rows2 (RSlot w S) css ss

theorem SlotsOwn.keep {w w' : World} {base g cap : Nat} {S M : Nat → Prop} {ss : List Slot} (h : SlotsOwn w base S g cap ss) (hk : Keep M w w') (hS : ∀ b, S b → b < w.heap.size → ¬ M b) (hM : ∀ b, base ≤ b → b < w.heap.size → ¬ M b) : SlotsOwn w' base S g cap ss := by
  obtain ⟨css, h1, h2⟩ := h
  refine ⟨css, h1.keep hk hM, h2.imp fun _ _ h => ?_⟩
  obtain ⟨v, h3, h4⟩ := h
  exact ⟨v, h3, h4.frame fun b hb hlt => hk.block b hlt (hS b hb hlt)⟩
theorem SlotsOwn.reads {w : World} {base g cap : Nat} {S : Nat → Prop} {ss : List Slot} (h : SlotsOwn w base S g cap ss) : RSlots w (fun b => base ≤ b ∨ S b) (.slice (some ⟨g, 0, none⟩) ss.length cap) ss := by
  obtain ⟨css, h1, h2⟩ := h
  exact ⟨css, h1.arr.mono (fun b hb _ => .inl hb), h2.imp fun _ _ h => h.mono (fun b hb _ => .inr hb)⟩
theorem SlotsOwn.cap {w : World} {base g cap : Nat} {S : Nat → Prop} {ss : List Slot} (h : SlotsOwn w base S g cap ss) : ss.length ≤ cap ∧ cap ≤ 9223372036854775807 := by
  obtain ⟨css, h1, h2⟩ := h
  obtain ⟨A, c, hv, h3, h4⟩ := h1.slice
  simp only [Value.slice.injEq] at hv
  obtain ⟨_, hn, rfl⟩ := hv
  exact ⟨by omega, h4⟩

/-- One slot's cells. -/
theorem SlotsOwn.at_ {w : World} {base g cap : Nat} {S : Nat → Prop} {ss : List Slot} (h : SlotsOwn w base S g cap ss) {k : Nat} {s : Slot} (hk : ss[k]? = some s) :
    g < w.heap.size ∧ base ≤ g ∧ (∀ j, w.frozen? ⟨g, j, none⟩ = false) ∧ ∃ A c, Arr w S 5 1 (.slice A s.line.data.length c) (bcells s.line.data) ∧
      w.cell? ⟨g, k * 6, none⟩ = some (.bool s.used) ∧ w.cell? ⟨g, k * 6 + 1, none⟩ = some (.int .i64 s.age) ∧ w.cell? ⟨g, k * 6 + 2, none⟩ = some (.int .i64 s.line.addr) ∧
      w.cell? ⟨g, k * 6 + 3, none⟩ = some (.slice A s.line.data.length c) ∧ w.cell? ⟨g, k * 6 + 4, none⟩ = some (.bool s.line.dirty) ∧ w.cell? ⟨g, k * 6 + 5, none⟩ = some (.bool s.line.poison) := by
  obtain ⟨css, h1, h2⟩ := h
  obtain ⟨cs, hc, v, hcs, hv⟩ := h2.get hk
  have hne : css ≠ [] := by rintro rfl; simp at hc
  obtain ⟨g', cap', cur, hg, hb, hlt, hblk, hl, hm, hsz, hcell⟩ := h1.block hne
  simp only [Value.slice.injEq, Option.some.injEq, Addr.mk.injEq, and_true, true_and] at hg
  obtain ⟨rfl, hn, rfl⟩ := hg
  obtain ⟨A, c, rfl, _, _⟩ := hv.len
  have cell : ∀ j, w.cell? ⟨g, k * 6 + j, none⟩ = cur[k * 6 + j]? := fun j => cell_of_row w g _ cur _ _ hblk
  rw [bcells_len] at hv hcs
  refine ⟨hlt, hb, fun j => by simp [World.frozen?, hblk], A, c, hv, ?_, ?_, ?_, ?_, ?_, ?_⟩
  · exact (cell 0).trans (hcell k cs hc 0 _ (by rw [hcs]; rfl))
  · exact (cell 1).trans (hcell k cs hc 1 _ (by rw [hcs]; rfl))
  · exact (cell 2).trans (hcell k cs hc 2 _ (by rw [hcs]; rfl))
  · exact (cell 3).trans (hcell k cs hc 3 _ (by rw [hcs]; rfl))
  · exact (cell 4).trans (hcell k cs hc 4 _ (by rw [hcs]; rfl))
  · exact (cell 5).trans (hcell k cs hc 5 _ (by rw [hcs]; rfl))

theorem SlotsOwn.setAge {w : World} {base g cap : Nat} {S : Nat → Prop} {ss : List Slot} (h : SlotsOwn w base S g cap ss) {k : Nat} {s : Slot} (hk : ss[k]? = some s) (hS : ∀ b, S b → b ≠ g) (a : Int) :
    SlotsOwn (w.setCell ⟨g, k * 6 + 1, none⟩ (.int .i64 a)) base S g cap (ss.set k { s with age := a }) := by
  obtain ⟨css, h1, h2⟩ := h
  obtain ⟨cs, hc, v, rfl, hv⟩ := h2.get hk
  refine ⟨css.set k _, by rw [List.length_set]; exact h1.setCell hc (j := 1) (by decide) _ rfl, ?_⟩
  have hkp : Keep (· = g) w (w.setCell ⟨g, k * 6 + 1, none⟩ (.int .i64 a)) := Keep.set1 _ _ _ _
  exact (h2.imp fun _ _ h => h.keep hkp (fun b hb => hS b hb)).set k ⟨v, rfl, hv.keep hkp (fun b hb => hS b hb)⟩

/-- A slot of the set from place lo on becomes the youngest one. -/
def tstep (a : Int) (s : Slot) : Slot := if s.used && decide (s.age < a) then { s with age := s.age + 1 } else s
def tgo (a : Int) (lo : Nat) : Nat → List Slot → List Slot
  | 0, ss => ss
  | k + 1, ss => (tgo a lo k ss).set (lo + k) (tstep a ((tgo a lo k ss).getD (lo + k) Slot.zero))
def touchAt (ss : List Slot) (lo m i : Nat) : List Slot :=
  let a := (ss.getD (lo + i) Slot.zero).age
  let r := tgo a lo m ss
  r.set (lo + i) { r.getD (lo + i) Slot.zero with age := 0 }
theorem tgo_len (a : Int) (lo : Nat) (ss : List Slot) : ∀ k, (tgo a lo k ss).length = ss.length
  | 0 => rfl
  | k + 1 => by simp [tgo, tgo_len a lo ss k]
theorem tgo_get (a : Int) (lo : Nat) (ss : List Slot) : ∀ (k j : Nat), (tgo a lo k ss)[j]? = if lo ≤ j ∧ j < lo + k then (ss[j]?).map (tstep a) else ss[j]?
  | 0, j => by rw [if_neg (by omega)]; rfl
  | k + 1, j => by
    simp only [tgo, List.getElem?_set, tgo_len]
    by_cases hj : lo + k = j
    · subst hj
      rw [if_pos rfl, if_pos (show lo ≤ lo + k ∧ lo + k < lo + (k + 1) by omega)]
      by_cases hl : lo + k < ss.length
      · rw [if_pos hl, List.getD_eq_getElem?_getD, tgo_get a lo ss k (lo + k), if_neg (by omega), List.getElem?_eq_getElem hl]
        rfl
      · rw [if_neg hl, List.getElem?_eq_none (by omega)]; rfl
    · rw [if_neg hj, tgo_get a lo ss k j]
      by_cases h : lo ≤ j ∧ j < lo + k
      · rw [if_pos h, if_pos (by omega)]
      · rw [if_neg h, if_neg (by omega)]

set_option maxHeartbeats 1000000 in
theorem touch_calls (w : World) (base g cap c lo m i : Nat) (S : Nat → Prop) (ss : List Slot) (hO : SlotsOwn w base S g cap ss) (hS : ∀ b, S b → b ≠ g) (hm : lo + m ≤ ss.length) (hi : i < m) (hss : ss.length ≤ 1000)
    (hage : ∀ s ∈ ss, -1000 ≤ s.age ∧ s.age ≤ 1000) :
    Calls Try.prog 20 #[.slice (some ⟨g, lo * 6, none⟩) m c, .int .i64 i] w fun e w' => e = .returned (.tuple #[]) ∧ SlotsOwn w' base S g cap (touchAt ss lo m i) ∧ Keep (· = g) w w' := by
  obtain ⟨si, hsi⟩ : ∃ si, ss[lo + i]? = some si := ⟨_, List.getElem?_eq_getElem (by omega)⟩
  have ha : (ss.getD (lo + i) Slot.zero).age = si.age := by rw [List.getD_eq_getElem?_getD, hsi]; rfl
  have hsa : -1000 ≤ si.age ∧ si.age ≤ 1000 := hage si (List.mem_of_getElem? hsi)
  have fin : ∀ (W : World), SlotsOwn W base S g cap ((tgo si.age lo m ss).set (lo + i) { (tgo si.age lo m ss).getD (lo + i) Slot.zero with age := 0 }) → SlotsOwn W base S g cap (touchAt ss lo m i) := fun W h => by
    unfold touchAt; rw [ha]; exact h
  clear ha
  go_enter Try.func20, Try.ntmps20
  go_wp2
  go_loopw [7] (fun x wr => ∃ k : Nat, k ≤ m ∧ x = .int .i64 (k : Int) ∧ SlotsOwn wr base S g cap (tgo si.age lo k ss) ∧ Keep (· = g) w wr) (fun x _ => m - (intOf x).toNat)
  case atStart => exact ⟨0, Nat.zero_le _, rfl, hO, Keep.refl _ _⟩
  case round =>
    obtain ⟨k, hk, rfl, hOr, hkr⟩ := hrel
    have hti : (tgo si.age lo k ss)[lo + i]? = some si := by
      rw [tgo_get, hsi]
      split
      · simp [tstep]
      · rfl
    by_cases hlt : k < m
    · obtain ⟨sk, hsk⟩ : ∃ sk, ss[lo + k]? = some sk := ⟨_, List.getElem?_eq_getElem (by omega)⟩
      have htk : (tgo si.age lo k ss)[lo + k]? = some sk := by rw [tgo_get, if_neg (by omega), hsk]
      have hsa' : -1000 ≤ sk.age ∧ sk.age ≤ 1000 := hage sk (List.mem_of_getElem? hsk)
      obtain ⟨hgw, hbg, hfz, A1, c1, -, u1, u2, -⟩ := hOr.at_ htk
      obtain ⟨-, -, -, A2, c2, -, v1, v2, -⟩ := hOr.at_ hti
      have e1 : (lo + k) * 6 = lo * 6 + k * 6 := by omega
      have e2 : (lo + i) * 6 = lo * 6 + i * 6 := by omega
      have hstep : tgo si.age lo (k + 1) ss = (tgo si.age lo k ss).set (lo + k) (tstep si.age sk) := by
        simp only [tgo, List.getD_eq_getElem?_getD, htk]; rfl
      have hset := hOr.setAge htk hS (sk.age + 1)
      rw [e1] at u1 u2 hset
      rw [e2] at v1 v2
      have f1 := hfz (lo * 6 + k * 6 + 1)
      have hH := Lib.hid hstep
      have hsame : Hid ((tgo si.age lo k ss).set (lo + k) sk = tgo si.age lo k ss) := by
        apply List.ext_getElem?
        intro j
        rw [List.getElem?_set]
        by_cases hj : lo + k = j
        · subst hj; rw [if_pos rfl, htk, if_pos (List.getElem?_eq_some_iff.1 htk).1]
        · rw [if_neg hj]
      have hbd : lo * 6 + m * 6 ≤ 6000 := by omega
      clear hstep e1 e2 hti htk hfz hsk hsi hO fin hage A1 c1 A2 c2
      by_cases hu : sk.used = true
      · rw [hu] at u1
        by_cases ha : sk.age < si.age
        · have hts : Hid (tstep si.age sk = { sk with age := sk.age + 1 }) := by unfold tstep; rw [if_pos (by simp [hu, ha])]; rfl
          clear hu
          go_wp2_with fail
          go_quiet (fail)
          go_wp2
          go_roundw
          case rel => exact ⟨k + 1, by omega, by go_num, by rw [hH.out, hts.out]; exact hset, (hkr.drewN nq).trans (Keep.set1 _ _ _ _) (fun _ _ h => h)⟩
          case measure => simp [intOf]; omega
        · have hts : Hid (tstep si.age sk = sk) := by unfold tstep; rw [if_neg (by simp [ha])]; rfl
          clear hu hset
          go_wp2_with fail
          go_quiet (fail)
          go_wp2
          go_roundw
          case rel => exact ⟨k + 1, by omega, by go_num, by rw [hH.out, hts.out, hsame.out]; exact hOr, hkr.drewN nq⟩
          case measure => simp [intOf]; omega
      · have hts : Hid (tstep si.age sk = sk) := by unfold tstep; rw [if_neg (by simp [hu])]; rfl
        rw [show sk.used = false by simpa using hu] at u1
        clear hu hset
        go_wp2_with fail
        go_quiet (fail)
        go_wp2
        go_roundw
        case rel => exact ⟨k + 1, by omega, by go_num, by rw [hH.out, hts.out, hsame.out]; exact hOr, hkr.drewN nq⟩
        case measure => simp [intOf]; omega
    · obtain rfl : k = m := by omega
      have hset := hOr.setAge hti hS 0
      have e2 : (lo + i) * 6 = lo * 6 + i * 6 := by omega
      obtain ⟨-, -, hfz, A2, c2, -, -, v2, -⟩ := hOr.at_ hti
      rw [e2] at hset v2
      have f1 := hfz (lo * 6 + i * 6 + 1)
      have fin := fin _ (by rw [List.getD_eq_getElem?_getD, hti]; exact hset)
      have hk2 := hkr.trans (Keep.set1 wr g (lo * 6 + i * 6 + 1) (.int .i64 0)) (fun _ _ h => h)
      have hbd : lo * 6 + k * 6 ≤ 6000 := by omega
      clear hset e2 hti hfz hsi hO hage hOr hkr A2 c2
      go_wp2
      go_end0
      exact ⟨rfl, fin, hk2⟩
end Go.Proofs.Ytbcjjenidkgodaa
