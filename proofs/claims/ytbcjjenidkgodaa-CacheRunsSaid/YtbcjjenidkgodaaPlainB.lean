/- The plain law of caches: what Get, Drop and Put answer. -/
import Derived.Test.YtbcjjenidkgodaaPlain
namespace Go.Proofs.Ytbcjjenidkgodaa
open Go Go.RowKit

theorem setL_get (c : Ca) (s j : Nat) : (c.setL s)[j]? = if j < c.ways then c.slots[s * c.ways + j]? else none := by
  unfold Ca.setL
  rw [List.getElem?_take]
  split
  · rw [List.getElem?_drop]
  · rfl
theorem setL_len {c : Ca} {Hs : List Line} (h : JC c Hs) {s : Nat} (hs : s < c.sets) : (c.setL s).length = c.ways := by
  have := Nat.mul_le_mul_right c.ways (show s + 1 ≤ c.sets by omega)
  rw [Nat.add_mul, Nat.one_mul] at this
  unfold Ca.setL
  have := h.len
  simp only [List.length_take, List.length_drop]
  omega

def Ca.no (c : Ca) (a : Int) : Nat := (a % (c.sets : Int)).toNat
theorem no_lt {c : Ca} {Hs : List Line} (h : JC c Hs) (a : Int) : c.no a < c.sets := by
  have h1 := Int.emod_lt_of_pos a (show 0 < (c.sets : Int) by have := h.sets1; omega)
  have h2 := Int.emod_nonneg a (show (c.sets : Int) ≠ 0 by have := h.sets1; omega)
  unfold Ca.no; omega
theorem no_eq {c : Ca} {Hs : List Line} (h : JC c Hs) (a : Int) : a % (c.sets : Int) = (c.no a : Int) := by
  have h2 := Int.emod_nonneg a (show (c.sets : Int) ≠ 0 by have := h.sets1; omega)
  unfold Ca.no; omega
theorem lo_no (c : Ca) (a : Int) : c.lo a = c.no a * c.ways := rfl
theorem setAt_no (c : Ca) (a : Int) : c.setAt a = c.setL (c.no a) := rfl

/-- Another set is not concerned by what happens between lo and lo + ways. -/
theorem other_set {c : Ca} {ss : List Slot} {s0 s : Nat} (hss : ∀ j, (j < s0 * c.ways ∨ s0 * c.ways + c.ways ≤ j) → ss[j]? = c.slots[j]?) (hne : s ≠ s0) : ({ c with slots := ss } : Ca).setL s = c.setL s := by
  apply List.ext_getElem?
  intro j
  rw [setL_get, setL_get]
  simp only []
  split
  · rename_i hj
    rw [hss]
    rcases Nat.lt_or_gt_of_ne hne with h | h
    · left
      have := Nat.mul_le_mul_right c.ways (show s + 1 ≤ s0 by omega)
      rw [Nat.add_mul, Nat.one_mul] at this
      omega
    · right
      have := Nat.mul_le_mul_right c.ways (show s0 + 1 ≤ s by omega)
      rw [Nat.add_mul, Nat.one_mul] at this
      omega
  · rfl

theorem filter_none {n s : Nat} {x : Line} (h : x.addr % (n : Int) ≠ s) : [x].filter (inSet n s) = [] := by simp [inSet, h]
theorem filter_some {n s : Nat} {x : Line} (h : x.addr % (n : Int) = s) : [x].filter (inSet n s) = [x] := by simp [inSet, h]

theorem split_at {α : Type} {l : List α} {i : Nat} {x : α} (h : l[i]? = some x) : l = l.take i ++ x :: l.drop (i + 1) := by
  obtain ⟨hi, rfl⟩ := List.getElem?_eq_some_iff.1 h
  rw [← List.drop_eq_getElem_cons hi, List.take_append_drop]

/-- One line goes from the order: its place in its set's order. -/
theorem hset_erase {size n s : Nat} {Hs : List Line} (h : HsOK size Hs) {at_ : Nat} {x : Line} (hx : Hs[at_]? = some x) (hxs : x.addr % (n : Int) = s) {a : Nat} {y : Line} (ha : (hset n s Hs)[a]? = some y) (hy : y.addr = x.addr) :
    y = x ∧ hset n s (Hs.take at_ ++ Hs.drop (at_ + 1)) = (hset n s Hs).eraseIdx a ∧ a = ((Hs.drop (at_ + 1)).filter (inSet n s)).length := by
  have e1 : hset n s Hs = ((Hs.drop (at_ + 1)).filter (inSet n s)).reverse ++ x :: ((Hs.take at_).filter (inSet n s)).reverse := by
    conv => lhs; rw [split_at hx]
    unfold hset
    rw [show Hs.take at_ ++ x :: Hs.drop (at_ + 1) = Hs.take at_ ++ ([x] ++ Hs.drop (at_ + 1)) from rfl, List.filter_append, List.filter_append, filter_some hxs]
    simp
  have hb : (hset n s Hs)[((Hs.drop (at_ + 1)).filter (inSet n s)).length]? = some x := by
    rw [e1, List.getElem?_append_right (by simp)]
    simp
  have hab := hset_inj h ha hb hy
  refine ⟨?_, ?_, hab⟩
  · rw [hab] at ha
    rw [ha] at hb
    simpa using hb
  · rw [e1, hab, List.eraseIdx_append_of_length_le (by simp)]
    unfold hset
    rw [List.filter_append]
    simp

theorem hset_other {n s : Nat} {Hs : List Line} {at_ : Nat} {x : Line} (hx : Hs[at_]? = some x) (hxs : x.addr % (n : Int) ≠ s) : hset n s (Hs.take at_ ++ Hs.drop (at_ + 1)) = hset n s Hs := by
  conv => rhs; rw [split_at hx]
  unfold hset
  rw [show Hs.take at_ ++ x :: Hs.drop (at_ + 1) = Hs.take at_ ++ ([x] ++ Hs.drop (at_ + 1)) from rfl, List.filter_append, List.filter_append, List.filter_append, filter_none hxs]
  simp

theorem hset_snoc_in {n s : Nat} (L : List Line) {z : Line} (h : z.addr % (n : Int) = s) : hset n s (L ++ [z]) = z :: hset n s L := by
  unfold hset; rw [List.filter_append, filter_some h]; simp
theorem hset_snoc_out {n s : Nat} (L : List Line) {z : Line} (h : z.addr % (n : Int) ≠ s) : hset n s (L ++ [z]) = hset n s L := by
  unfold hset; rw [List.filter_append, filter_none h]; simp

theorem HsOK.erase {size : Nat} {Hs : List Line} (h : HsOK size Hs) (i : Nat) : HsOK size (Hs.take i ++ Hs.drop (i + 1)) := by
  rw [← List.eraseIdx_eq_take_drop_succ]
  refine ⟨fun x hx => h.each x (List.mem_of_mem_eraseIdx hx), fun j k x y hjk hx hy => ?_⟩
  rw [erase_get] at hx hy
  split at hx <;> split at hy
  · exact h.apart j k x y hjk hx hy
  · exact h.apart j (k + 1) x y (by omega) hx hy
  · omega
  · exact h.apart (j + 1) (k + 1) x y (by omega) hx hy
theorem HsOK.snoc {size : Nat} {Hs : List Line} (h : HsOK size Hs) {z : Line} (hz : 0 ≤ z.addr ∧ z.addr < 1048576 ∧ z.data.length = size) (hn : ∀ x ∈ Hs, x.addr ≠ z.addr) : HsOK size (Hs ++ [z]) := by
  refine ⟨fun x hx => ?_, fun j k x y hjk hx hy => ?_⟩
  · rcases List.mem_append.1 hx with h1 | h1
    · exact h.each x h1
    · rw [List.mem_singleton.1 h1]; exact hz
  · have hkl : k < Hs.length + 1 := by simpa using (List.getElem?_eq_some_iff.1 hy).1
    rw [List.getElem?_append_left (by omega)] at hx
    by_cases hk : k < Hs.length
    · rw [List.getElem?_append_left hk] at hy
      exact h.apart j k x y hjk hx hy
    · rw [List.getElem?_append_right (by omega), show k - Hs.length = 0 by omega] at hy
      simp only [List.getElem?_cons_zero, Option.some.injEq] at hy
      subst hy
      exact hn x (List.mem_of_getElem? hx)
theorem HsOK.gone {size : Nat} {Hs : List Line} (h : HsOK size Hs) {i : Nat} {x : Line} (hx : Hs[i]? = some x) : ∀ y ∈ Hs.take i ++ Hs.drop (i + 1), y.addr ≠ x.addr := by
  rw [← List.eraseIdx_eq_take_drop_succ]
  intro y hy
  obtain ⟨j, hj⟩ := List.getElem?_of_mem hy
  rw [erase_get] at hj
  split at hj
  · exact h.apart j i y x (by omega) hj hx
  · exact fun e => h.apart i (j + 1) x y (by omega) hx hj e.symm

/-- A line that is there lies in a slot. -/
theorem slot_of {c : Ca} {Hs : List Line} (h : JC c Hs) {x : Line} (hx : x ∈ Hs) : ∃ i s, i < (hset c.sets (c.no x.addr) Hs).length ∧ (c.setL (c.no x.addr))[i]? = some s ∧ s.line = x := by
  have hS := h.set_ _ (no_lt h x.addr)
  obtain ⟨a, ha⟩ := List.getElem?_of_mem (hset_mem.2 ⟨hx, no_eq h x.addr⟩)
  have hal := (List.getElem?_eq_some_iff.1 ha).1
  have hget : ∀ i, i < (hset c.sets (c.no x.addr) Hs).length → ∃ s, (c.setL (c.no x.addr))[i]? = some s := fun i hi => ⟨_, List.getElem?_eq_getElem (Nat.lt_of_lt_of_le hi hS.le)⟩
  obtain ⟨i, hi, he⟩ := has_max (hset c.sets (c.no x.addr) Hs).length (fun i => ((c.setL (c.no x.addr)).getD i Slot.zero).age) (fun i hi => by
      obtain ⟨s, hs⟩ := hget i hi
      have := hS.used_ i s hi hs
      simp only [List.getD_eq_getElem?_getD, hs, Option.getD_some]
      omega) (fun i j hij hj => by
      obtain ⟨s, hs⟩ := hget i (by omega)
      obtain ⟨t, ht⟩ := hget j hj
      simp only [List.getD_eq_getElem?_getD, hs, ht, Option.getD_some]
      exact hS.ages i j s t hij hj hs ht) a (by omega) (by omega)
  obtain ⟨s, hs⟩ := hget i hi
  simp only [List.getD_eq_getElem?_getD, hs, Option.getD_some] at he
  obtain ⟨-, -, -, h4⟩ := hS.used_ i s hi hs
  rw [he, Int.toNat_natCast, ha] at h4
  exact ⟨i, s, hi, hs, by simpa using h4.symm⟩

theorem find_there {c : Ca} {Hs : List Line} (h : JC c Hs) {x : Line} (hx : x ∈ Hs) : ∃ i s, (c.setAt x.addr).findIdx? (hasAddr x.addr) = some i ∧ i < (hset c.sets (c.no x.addr) Hs).length ∧ (c.setL (c.no x.addr))[i]? = some s ∧ s.line = x := by
  have hS := h.set_ _ (no_lt h x.addr)
  obtain ⟨i, s, hi, hs, rfl⟩ := slot_of h hx
  cases hf : (c.setAt s.line.addr).findIdx? (hasAddr s.line.addr) with
  | none =>
    rw [List.findIdx?_eq_none_iff] at hf
    have := hf s (List.mem_of_getElem? hs)
    simp [hasAddr, (hS.used_ i s hi hs).1] at this
  | some j =>
    obtain ⟨hj, t, ht0, ht, hp⟩ := idx_some hf
    simp only [hasAddr, Bool.and_eq_true, beq_iff_eq] at hp
    have hjl : j < (hset c.sets (c.no s.line.addr) Hs).length := by
      rcases Nat.lt_or_ge j (hset c.sets (c.no s.line.addr) Hs).length with h1 | h1
      · exact h1
      · rw [hS.empty j t h1 ht] at hp; simp [Slot.zero] at hp
    refine ⟨j, t, rfl, hjl, ht, ?_⟩
    obtain ⟨-, a1, -, a3⟩ := hS.used_ i s hi hs
    obtain ⟨-, b1, -, b3⟩ := hS.used_ j t hjl ht
    have := hset_inj h.hs a3 b3 hp.2.symm
    rw [this, b3] at a3
    simpa using a3

theorem find_not {c : Ca} {Hs : List Line} (h : JC c Hs) {a : Int} (hx : ∀ x ∈ Hs, x.addr ≠ a) : (c.setAt a).findIdx? (hasAddr a) = none := by
  have hS := h.set_ _ (no_lt h a)
  rw [List.findIdx?_eq_none_iff]
  intro s hs
  obtain ⟨i, hi⟩ := List.getElem?_of_mem hs
  rcases Nat.lt_or_ge i (hset c.sets (c.no a) Hs).length with h1 | h1
  · obtain ⟨-, -, -, h4⟩ := hS.used_ i s h1 hi
    have := hx _ (hset_mem.1 (List.mem_of_getElem? h4)).1
    simp [hasAddr, this]
  · rw [hS.empty i s h1 hi]
    simp [hasAddr, Slot.zero]
end Go.Proofs.Ytbcjjenidkgodaa
