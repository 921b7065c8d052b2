/- Put. -/
import Derived.Test.YtbcjjenidkgodaaDrop
namespace Go.Proofs.Ytbcjjenidkgodaa
open Go Go.RowKit

def isFree (s : Slot) : Bool := !s.used
def isOld (n : Nat) (s : Slot) : Bool := s.age == (n : Int) - 1
def putAt (ss : List Slot) (lo m i : Nat) (s : Slot) : List Slot := touchAt (ss.set (lo + i) s) lo m i
/-- A line is put: the cache, the victim, and whether there is one. -/
def Ca.put (c : Ca) (x : Line) : Ca × Line × Bool :=
  let lo := c.lo x.addr
  match (c.setAt x.addr).findIdx? (hasAddr x.addr) with
  | some i => ({ c with slots := putAt c.slots lo c.ways i { c.slots.getD (lo + i) Slot.zero with line := x } }, Line.zero, false)
  | none =>
    match (c.setAt x.addr).findIdx? isFree with
    | some i => ({ c with slots := putAt c.slots lo c.ways i ⟨true, c.ways, x⟩ }, Line.zero, false)
    | none =>
      match (c.setAt x.addr).findIdx? (isOld c.ways) with
      | some i => ({ c with slots := putAt c.slots lo c.ways i ⟨true, c.ways, x⟩ }, (c.slots.getD (lo + i) Slot.zero).line, true)
      | none => (c, Line.zero, false)

/-- A line is stored. -/
theorem SlotsOwn.setLine {w : World} {base g cap : Nat} {S : Nat → Prop} {ss : List Slot} (h : SlotsOwn w base S g cap ss) {k : Nat} {s : Slot} (hk : ss[k]? = some s) (hS : ∀ b, S b → b ≠ g) (x : Line) (A : Option Addr) (c : Nat)
    (hA : Arr w S 5 1 (.slice A x.data.length c) (bcells x.data)) :
    SlotsOwn ((((w.setCell ⟨g, k * 6 + 2, none⟩ (.int .i64 x.addr)).setCell ⟨g, k * 6 + 3, none⟩ (.slice A x.data.length c)).setCell ⟨g, k * 6 + 4, none⟩ (.bool x.dirty)).setCell ⟨g, k * 6 + 5, none⟩ (.bool x.poison)) base S g cap (ss.set k { s with line := x }) := by
  obtain ⟨css, h1, h2⟩ := h
  obtain ⟨cs, hc, v, rfl, hv⟩ := h2.get hk
  have s4 := h1.setCell4 hc (.int .i64 x.addr) (.slice A x.data.length c) (.bool x.dirty) (.bool x.poison) rfl rfl rfl rfl
  have hkp : Keep (· = g) w ((((w.setCell ⟨g, k * 6 + 2, none⟩ (.int .i64 x.addr)).setCell ⟨g, k * 6 + 3, none⟩ (.slice A x.data.length c)).setCell ⟨g, k * 6 + 4, none⟩ (.bool x.dirty)).setCell ⟨g, k * 6 + 5, none⟩ (.bool x.poison)) := (by repeat (first | (with_reducible refine Keep.setCell ?_ ?_ _; rotate_left; focus (intro hkb; first | (simp; done) | (simp at hkb; done) | (simp; omega) | omega | (simp at hkb ⊢; omega))) | with_reducible refine Keep.alloc ?_ _ | with_reducible refine Keep.drewN ?_ _ | with_reducible refine Keep.drew ?_ | with_reducible exact Keep.refl _ _ | with_reducible assumption))
  refine ⟨_, by rw [List.length_set]; exact s4, ?_⟩
  exact (h2.imp fun _ _ h => h.keep hkp (fun b hb => hS b hb)).set k ⟨_, rfl, hA.keep hkp (fun b hb => hS b hb)⟩

theorem setAt_get {c : Ca} {a : Int} {i : Nat} {s : Slot} (h : (c.setAt a)[i]? = some s) : i < c.ways ∧ c.slots[c.lo a + i]? = some s := by
  unfold Ca.setAt at h
  rw [List.getElem?_take] at h
  split at h
  · rename_i hi
    rw [List.getElem?_drop] at h
    exact ⟨hi, h⟩
  · cases h

theorem idx_some {c : Ca} {a : Int} {i : Nat} {p : Slot → Bool} (h : (c.setAt a).findIdx? p = some i) : i < c.ways ∧ ∃ s, c.slots[c.lo a + i]? = some s ∧ (c.setAt a)[i]? = some s ∧ p s = true := by
  obtain ⟨hl, hp, _⟩ := List.findIdx?_eq_some_iff_getElem.1 h
  have h2 : (c.setAt a)[i]? = some ((c.setAt a)[i]) := List.getElem?_eq_getElem hl
  obtain ⟨h3, h4⟩ := setAt_get h2
  exact ⟨h3, _, h4, h2, hp⟩

/-- Naturals below m, all different, m of them: the greatest one is among them. -/
theorem has_max : ∀ (m : Nat) (f : Nat → Int), (∀ i, i < m → 0 ≤ f i ∧ f i < m) → (∀ i j, i < j → j < m → f i ≠ f j) → ∀ x : Int, 0 ≤ x → x < m → ∃ i, i < m ∧ f i = x
  | 0, _, _, _, x, h0, h1 => by omega
  | m + 1, f, hb, hd, x, h0, h1 => by
    by_cases hx : f m = x
    · exact ⟨m, by omega, hx⟩
    · -- swap the value m away
      have hfm := hb m (by omega)
      let g : Nat → Int := fun i => if f i = (m : Int) then f m else f i
      have hgb : ∀ i, i < m → 0 ≤ g i ∧ g i < m := by
        intro i hi
        have h1 := hb i (by omega)
        have h2 := hd i m hi (by omega)
        simp only [g]
        split
        · rename_i he
          omega
        · omega
      have hgd : ∀ i j, i < j → j < m → g i ≠ g j := by
        intro i j hij hj
        have h1 := hd i j hij (by omega)
        have h2 := hd i m (by omega) (by omega)
        have h3 := hd j m (by omega) (by omega)
        simp only [g]
        split <;> split <;> omega
      by_cases hxm : x = (m : Int)
      · -- then f m < m, and g's range has f m
        subst hxm
        have hlt : f m < (m : Int) := by omega
        obtain ⟨i, hi, he⟩ := has_max m g hgb hgd (f m) hfm.1 hlt
        have h2 := hd i m hi (by omega)
        simp only [g] at he
        split at he
        · rename_i h; exact ⟨i, by omega, h⟩
        · exact absurd he h2
      · by_cases hfx : f m = (m : Int)
        · obtain ⟨i, hi, he⟩ := has_max m g hgb hgd x h0 (by omega)
          simp only [g] at he
          split at he
          · rename_i h
            exact absurd (h.trans hfx.symm) (hd i m hi (by omega))
          · exact ⟨i, by omega, he⟩
        · obtain ⟨i, hi, he⟩ := has_max m g hgb hgd x h0 (by omega)
          simp only [g] at he
          split at he
          · exact absurd he hx
          · exact ⟨i, by omega, he⟩

/-- A set without a free slot has an oldest one. -/
theorem old_some {c : Ca} (hV : ValidC c) (a : Int) (hf : (c.setAt a).findIdx? isFree = none) : ∃ i, (c.setAt a).findIdx? (isOld c.ways) = some i := by
  have hs0 : (0 : Int) < (c.sets : Int) := by have := hV.sets1; omega
  have h1 := Int.emod_lt_of_pos a hs0
  have h2 := Int.emod_nonneg a (show (c.sets : Int) ≠ 0 by omega)
  obtain ⟨used, hR⟩ := hV.right_ (a % (c.sets : Int)).toNat (by omega)
  have hset : c.setAt a = c.setL (a % (c.sets : Int)).toNat := rfl
  rw [← hset] at hR
  have hlen : (c.setAt a).length = c.ways := by
    have := Ca.lo_le hV a
    unfold Ca.setAt
    simp; omega
  have hused : used = c.ways := by
    rcases Nat.lt_or_ge used c.ways with h | h
    · have hg : (c.setAt a)[used]? = some ((c.setAt a)[used]'(by omega)) := List.getElem?_eq_getElem _
      have he := hR.empty used _ (Nat.le_refl _) hg
      rw [List.findIdx?_eq_none_iff] at hf
      have := hf _ (List.mem_of_getElem? hg)
      rw [he] at this
      simp [isFree, Slot.zero] at this
    · have := hR.le; omega
  subst hused
  obtain ⟨i, hi, he⟩ := has_max c.ways (fun i => ((c.setAt a).getD i Slot.zero).age) (fun i hi => by
      have hg : (c.setAt a)[i]? = some ((c.setAt a)[i]'(by omega)) := List.getElem?_eq_getElem _
      have := hR.used_ i _ hi hg
      simp only [List.getD_eq_getElem?_getD, hg, Option.getD_some]
      omega) (fun i j hij hj => by
      have hg : (c.setAt a)[i]? = some ((c.setAt a)[i]'(by omega)) := List.getElem?_eq_getElem _
      have hg2 : (c.setAt a)[j]? = some ((c.setAt a)[j]'(by omega)) := List.getElem?_eq_getElem _
      simp only [List.getD_eq_getElem?_getD, hg, hg2, Option.getD_some]
      exact (hR.ages i j _ _ hij hj hg hg2).1) ((c.ways : Int) - 1) (by have := hV.ways1; omega) (by omega)
  cases hfi : (c.setAt a).findIdx? (isOld c.ways) with
  | some j => exact ⟨j, rfl⟩
  | none =>
    exfalso
    rw [List.findIdx?_eq_none_iff] at hfi
    have hg : (c.setAt a)[i]? = some ((c.setAt a)[i]'(by omega)) := List.getElem?_eq_getElem _
    have := hfi _ (List.mem_of_getElem? hg)
    simp only [List.getD_eq_getElem?_getD, hg, Option.getD_some] at he
    unfold isOld at this
    rw [he] at this
    simp at this

theorem idx_none {p : Slot → Bool} {ss : List Slot} (h : ss.findIdx? p = none) : idxOf p ss = -1 := by unfold idxOf; rw [h]
theorem idx_is {p : Slot → Bool} {ss : List Slot} {i : Nat} (h : ss.findIdx? p = some i) : idxOf p ss = (i : Int) := by unfold idxOf; rw [h]
end Go.Proofs.Ytbcjjenidkgodaa
