/- What Drop and Put do with slots: plain, and cells. -/
import Derived.Test.YtbcjjenidkgodaaGet
import Derived.Test.YtbcjjenidkgodaaCpy
namespace Go.Proofs.Ytbcjjenidkgodaa
open Go Go.RowKit

def fgo (f : Slot → Slot) (lo : Nat) : Nat → List Slot → List Slot
  | 0, ss => ss
  | k + 1, ss => (fgo f lo k ss).set (lo + k) (f ((fgo f lo k ss).getD (lo + k) Slot.zero))
theorem fgo_len (f : Slot → Slot) (lo : Nat) (ss : List Slot) : ∀ k, (fgo f lo k ss).length = ss.length
  | 0 => rfl
  | k + 1 => by simp [fgo, fgo_len f lo ss k]
theorem fgo_get (f : Slot → Slot) (lo : Nat) (ss : List Slot) : ∀ (k j : Nat), (fgo f lo k ss)[j]? = if lo ≤ j ∧ j < lo + k then (ss[j]?).map f else ss[j]?
  | 0, j => by rw [if_neg (by omega)]; rfl
  | k + 1, j => by
    simp only [fgo, List.getElem?_set, fgo_len]
    by_cases hj : lo + k = j
    · subst hj
      rw [if_pos rfl, if_pos (show lo ≤ lo + k ∧ lo + k < lo + (k + 1) by omega)]
      by_cases hl : lo + k < ss.length
      · rw [if_pos hl, List.getD_eq_getElem?_getD, fgo_get f lo ss k (lo + k), if_neg (by omega), List.getElem?_eq_getElem hl]
        rfl
      · rw [if_neg hl, List.getElem?_eq_none (by omega)]; rfl
    · rw [if_neg hj, fgo_get f lo ss k j]
      by_cases h : lo ≤ j ∧ j < lo + k
      · rw [if_pos h, if_pos (by omega)]
      · rw [if_neg h, if_neg (by omega)]

/-- The slots after the place close up. -/
def closeAt (ss : List Slot) (lo m i : Nat) : List Slot := ss.take (lo + i) ++ (ss.drop (lo + i + 1)).take (m - i - 1) ++ ss.drop (lo + m - 1)
def shiftAt (ss : List Slot) (lo m i : Nat) : List Slot := (closeAt ss lo m i).set (lo + m - 1) Slot.zero
def dstep (a : Int) (s : Slot) : Slot := if s.used && decide (a < s.age) then { s with age := s.age - 1 } else s
def dropAt (ss : List Slot) (lo m i : Nat) : List Slot := fgo (dstep (ss.getD (lo + i) Slot.zero).age) lo m (shiftAt ss lo m i)

theorem closeAt_len {ss : List Slot} {lo m i : Nat} (hi : i < m) (hm : lo + m ≤ ss.length) : (closeAt ss lo m i).length = ss.length := by
  simp [closeAt]; omega
theorem shiftAt_len {ss : List Slot} {lo m i : Nat} (hi : i < m) (hm : lo + m ≤ ss.length) : (shiftAt ss lo m i).length = ss.length := by
  rw [shiftAt, List.length_set, closeAt_len hi hm]
theorem dropAt_len {ss : List Slot} {lo m i : Nat} (hi : i < m) (hm : lo + m ≤ ss.length) : (dropAt ss lo m i).length = ss.length := by
  rw [dropAt, fgo_len, shiftAt_len hi hm]
theorem shiftAt_mem {ss : List Slot} {lo m i : Nat} {s : Slot} (h : s ∈ shiftAt ss lo m i) : s ∈ ss ∨ s = Slot.zero := by
  rcases List.mem_or_eq_of_mem_set h with h | h
  · left
    unfold closeAt at h
    rcases List.mem_append.1 h with h | h
    · rcases List.mem_append.1 h with h | h
      · exact List.mem_of_mem_take h
      · exact List.mem_of_mem_drop (List.mem_of_mem_take h)
    · exact List.mem_of_mem_drop h
  · exact .inr h

theorem set_self {ss : List Slot} {k : Nat} {s : Slot} (h : ss[k]? = some s) : ss.set k s = ss := by
  apply List.ext_getElem?
  intro j
  rw [List.getElem?_set]
  by_cases hj : k = j
  · subst hj; rw [if_pos rfl, h, if_pos (List.getElem?_eq_some_iff.1 h).1]
  · rw [if_neg hj]

/-- A whole slot is stored. -/
theorem SlotsOwn.setSlot {w : World} {base g cap : Nat} {S : Nat → Prop} {ss : List Slot} (h : SlotsOwn w base S g cap ss) {k : Nat} (hk : k < ss.length) (hS : ∀ b, S b → b ≠ g) (s : Slot) (A : Option Addr) (c : Nat)
    (hA : Arr w S 5 1 (.slice A s.line.data.length c) (bcells s.line.data)) :
    SlotsOwn ((((((w.setCell ⟨g, k * 6, none⟩ (.bool s.used)).setCell ⟨g, k * 6 + 1, none⟩ (.int .i64 s.age)).setCell ⟨g, k * 6 + 2, none⟩ (.int .i64 s.line.addr)).setCell ⟨g, k * 6 + 3, none⟩ (.slice A s.line.data.length c)).setCell ⟨g, k * 6 + 4, none⟩ (.bool s.line.dirty)).setCell ⟨g, k * 6 + 5, none⟩ (.bool s.line.poison)) base S g cap (ss.set k s) := by
  obtain ⟨css, h1, h2⟩ := h
  obtain ⟨cs, hc, v, rfl, hv⟩ := h2.get (List.getElem?_eq_getElem hk)
  have hl : k < css.length := (List.getElem?_eq_some_iff.1 hc).1
  have s0 := h1.setCell hc (j := 0) (by decide) (.bool s.used) rfl
  have s1 := s0.setCell (i := k) (List.getElem?_set_self hl) (j := 1) (by decide) (.int .i64 s.age) rfl
  rw [List.set_set] at s1
  have s2 := s1.setCell (i := k) (List.getElem?_set_self hl) (j := 2) (by decide) (.int .i64 s.line.addr) rfl
  rw [List.set_set] at s2
  have s3 := s2.setCell (i := k) (List.getElem?_set_self hl) (j := 3) (by decide) (.slice A s.line.data.length c) rfl
  rw [List.set_set] at s3
  have s4 := s3.setCell (i := k) (List.getElem?_set_self hl) (j := 4) (by decide) (.bool s.line.dirty) rfl
  rw [List.set_set] at s4
  have s5 := s4.setCell (i := k) (List.getElem?_set_self hl) (j := 5) (by decide) (.bool s.line.poison) rfl
  rw [List.set_set] at s5
  have hkp : Keep (· = g) w ((((((w.setCell ⟨g, k * 6, none⟩ (.bool s.used)).setCell ⟨g, k * 6 + 1, none⟩ (.int .i64 s.age)).setCell ⟨g, k * 6 + 2, none⟩ (.int .i64 s.line.addr)).setCell ⟨g, k * 6 + 3, none⟩ (.slice A s.line.data.length c)).setCell ⟨g, k * 6 + 4, none⟩ (.bool s.line.dirty)).setCell ⟨g, k * 6 + 5, none⟩ (.bool s.line.poison)) := (by repeat (first | (with_reducible refine Keep.setCell ?_ ?_ _; rotate_left; focus (intro hkb; first | (simp; done) | (simp at hkb; done) | (simp; omega) | omega | (simp at hkb ⊢; omega))) | with_reducible refine Keep.alloc ?_ _ | with_reducible refine Keep.drewN ?_ _ | with_reducible refine Keep.drew ?_ | with_reducible exact Keep.refl _ _ | with_reducible assumption))
  refine ⟨_, by rw [List.length_set]; exact s5, ?_⟩
  exact (h2.imp fun _ _ h => h.keep hkp (fun b hb => hS b hb)).set k ⟨_, rfl, hA.keep hkp (fun b hb => hS b hb)⟩

theorem addr_add (g o k : Nat) : (⟨g, o, none⟩ : Addr).add k = ⟨g, o + k, none⟩ := by unfold Addr.add; by_cases hz : k = 0 <;> simp [hz]

/-- A slice of a part of a slice: what the builtin copy reads. -/
theorem Own.part {w : World} {base e sz g n cap : Nat} {css : List (List Value)} (h : Own w base e sz (.slice (some ⟨g, 0, none⟩) n cap) css) (lo m i : Nat) (hi : i < m) (hm : lo + m ≤ n) (hc : n ≤ cap) :
    Arr w (base ≤ ·) e sz (.slice (if cap - lo = i + 1 then some ⟨g, lo * sz, none⟩ else some ⟨g, lo * sz + (i + 1) * sz, none⟩) (m - (i + 1)) (cap - lo - (i + 1))) ((css.drop (lo + i + 1)).take (m - i - 1)) := by
  have h1 := ((h.arr.slice lo (lo + m) (by omega) hm).slice (i + 1) (lo + m - lo) (by omega) (by omega))
  rw [if_neg (show ¬ cap = lo by omega)] at h1
  simp only [Option.map_some, addr_add, Nat.zero_add, show lo + m - lo = m by omega] at h1
  have e : ((css.drop lo).take m).drop (i + 1) = ((css.drop (lo + i + 1)).take (m - i - 1)) := by
    rw [List.drop_take, List.drop_drop, Nat.sub_sub, Nat.add_assoc]
  rw [e, List.take_take, show min (m - (i + 1)) (m - i - 1) = m - i - 1 by omega] at h1
  exact h1

/-- The slots close up. -/
theorem SlotsOwn.close {w : World} {base g cap : Nat} {S : Nat → Prop} {ss : List Slot} (h : SlotsOwn w base S g cap ss) (lo m i : Nat) (hi : i < m) (hm : lo + m ≤ ss.length) {w' : World} (hk : Keep (· = g) w w') (hS : ∀ b, S b → b ≠ g) (css : List (List Value)) (hR : Rows2 (RSlot w S) css ss)
    (hO : Own w' base 55 6 (.slice (some ⟨g, 0, none⟩) ss.length cap) (css.take (lo + i) ++ ((css.drop (lo + i + 1)).take (m - i - 1)).take (m - i - 1) ++ css.drop (lo + i + (m - i - 1)))) :
    SlotsOwn w' base S g cap (closeAt ss lo m i) := by
  have hR' := hR.imp fun _ _ h => h.keep hk (fun b hb => hS b hb)
  have e1 := hR'.slice 0 (lo + i)
  have e2 := hR'.slice (lo + i + 1) (m - i - 1)
  have e3 := hR'.slice (lo + m - 1) ss.length
  rw [List.drop_zero, List.drop_zero] at e1
  rw [List.take_of_length_le (by rw [List.length_drop, hR.1]; omega), List.take_of_length_le (by rw [List.length_drop]; omega)] at e3
  rw [List.take_take, Nat.min_self, show lo + i + (m - i - 1) = lo + m - 1 by omega] at hO
  exact ⟨_, by rw [closeAt_len hi hm]; exact hO, (e1.append e2).append e3⟩
end Go.Proofs.Ytbcjjenidkgodaa
