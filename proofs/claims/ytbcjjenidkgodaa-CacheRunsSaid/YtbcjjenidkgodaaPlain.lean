/- The plain law of caches: what is there, by the order of use. -/
import Derived.Test.YtbcjjenidkgodaaSame
namespace Go.Proofs.Ytbcjjenidkgodaa
open Go Go.RowKit

structure SetOK (l : List Slot) (H : List Line) : Prop where
  le : H.length ≤ l.length
  used_ : ∀ i s, i < H.length → l[i]? = some s → s.used = true ∧ 0 ≤ s.age ∧ s.age < H.length ∧ H[s.age.toNat]? = some s.line
  empty : ∀ i s, H.length ≤ i → l[i]? = some s → s = Slot.zero
  ages : ∀ i j s t, i < j → j < H.length → l[i]? = some s → l[j]? = some t → s.age ≠ t.age

/-- All that is there. -/
structure HsOK (size : Nat) (Hs : List Line) : Prop where
  each : ∀ x ∈ Hs, 0 ≤ x.addr ∧ x.addr < 1048576 ∧ x.data.length = size
  apart : ∀ (i j : Nat) (x y : Line), i < j → Hs[i]? = some x → Hs[j]? = some y → x.addr ≠ y.addr

def inSet (n s : Nat) (x : Line) : Bool := x.addr % (n : Int) == (s : Int)
def hset (n s : Nat) (Hs : List Line) : List Line := (Hs.filter (inSet n s)).reverse

theorem hset_mem {n s : Nat} {Hs : List Line} {x : Line} : x ∈ hset n s Hs ↔ x ∈ Hs ∧ x.addr % (n : Int) = s := by simp [hset, inSet]

theorem pair_of {size : Nat} {Hs : List Line} (h : HsOK size Hs) : Hs.Pairwise (fun x y => x.addr ≠ y.addr) := by
  rw [List.pairwise_iff_getElem]
  intro i j hi hj hij
  exact h.apart i j _ _ hij (List.getElem?_eq_getElem hi) (List.getElem?_eq_getElem hj)
theorem pair_hset {size n s : Nat} {Hs : List Line} (h : HsOK size Hs) : (hset n s Hs).Pairwise (fun x y => x.addr ≠ y.addr) := by
  unfold hset
  rw [List.pairwise_reverse]
  exact ((pair_of h).filter _).imp (fun h => fun e => h e.symm)

theorem hset_inj {size n s : Nat} {Hs : List Line} (h : HsOK size Hs) {i j : Nat} {x y : Line} (hi : (hset n s Hs)[i]? = some x) (hj : (hset n s Hs)[j]? = some y) (e : x.addr = y.addr) : i = j := by
  have hp := pair_hset (n := n) (s := s) h
  rw [List.pairwise_iff_getElem] at hp
  obtain ⟨hil, rfl⟩ := List.getElem?_eq_some_iff.1 hi
  obtain ⟨hjl, rfl⟩ := List.getElem?_eq_some_iff.1 hj
  rcases Nat.lt_trichotomy i j with h1 | h1 | h1
  · exact absurd e (hp i j hil hjl h1)
  · exact h1
  · exact absurd e.symm (hp j i hjl hil h1)

theorem SetOK.right_ {size n s : Nat} {Hs : List Line} {l : List Slot} (h : SetOK l (hset n s Hs)) (hH : HsOK size Hs) : RightL n size s l (hset n s Hs).length where
  le := h.le
  used_ := fun i t hi ht => by
    obtain ⟨h1, h2, h3, h4⟩ := h.used_ i t hi ht
    obtain ⟨h5, h6⟩ := hset_mem.1 (List.mem_of_getElem? h4)
    obtain ⟨h7, h8, h9⟩ := hH.each _ h5
    exact ⟨h1, h2, h3, h7, h8, by rw [h9], h6⟩
  empty := h.empty
  ages := fun i j t u hij hj h1 h2 => by
    have h3 := h.ages i j t u hij hj h1 h2
    refine ⟨h3, fun e => h3 ?_⟩
    obtain ⟨-, a1, -, a3⟩ := h.used_ i t (by omega) h1
    obtain ⟨-, b1, -, b3⟩ := h.used_ j u hj h2
    have := hset_inj hH a3 b3 e
    omega

/-- What is right of a cache and of what is there. -/
structure JC (c : Ca) (Hs : List Line) : Prop where
  sets1 : 1 ≤ c.sets
  sets8 : c.sets ≤ 8
  ways1 : 1 ≤ c.ways
  ways4 : c.ways ≤ 4
  size1 : 1 ≤ c.size
  size32 : c.size ≤ 32
  len : c.slots.length = c.sets * c.ways
  hs : HsOK c.size Hs
  set_ : ∀ s, s < c.sets → SetOK (c.setL s) (hset c.sets s Hs)

theorem JC.valid {c : Ca} {Hs : List Line} (h : JC c Hs) : ValidC c :=
  ⟨h.sets1, h.sets8, h.ways1, h.ways4, h.size1, h.size32, h.len, fun s hs => ⟨_, (h.set_ s hs).right_ h.hs⟩⟩

theorem JC.new (sets ways size : Nat) (h1 : 1 ≤ sets) (h2 : sets ≤ 8) (h3 : 1 ≤ ways) (h4 : ways ≤ 4) (h5 : 1 ≤ size) (h6 : size ≤ 32) : JC (Ca.new sets ways size) [] where
  sets1 := h1
  sets8 := h2
  ways1 := h3
  ways4 := h4
  size1 := h5
  size32 := h6
  len := by simp [Ca.new]
  hs := ⟨by simp, by simp⟩
  set_ := fun s hs => by
    have hs' : s < sets := hs
    rw [setL_new _ _ _ _ hs']
    refine ⟨by simp [hset], by simp [hset], fun i t _ ht => (List.mem_replicate.1 (List.mem_of_getElem? ht)).2, fun i j s t h h2 => absurd h2 (by simp [hset])⟩

theorem erase_get {α : Type} (H : List α) (a k : Nat) : (H.eraseIdx a)[k]? = if k < a then H[k]? else H[k + 1]? := by
  rw [List.getElem?_eraseIdx]

/-- One slot becomes the youngest one, of line z; the place a of the order goes (or there was none). -/
theorem touch_gen {l l' : List Slot} {H : List Line} {i a : Nat} {z : Line} (hl : l'.length = l.length) (hi : i < (H.eraseIdx a).length + 1) (hN : (H.eraseIdx a).length + 1 ≤ l.length)
    (ho : ∀ j t, j ≠ i → j < (H.eraseIdx a).length + 1 → l[j]? = some t → t.used = true ∧ 0 ≤ t.age ∧ t.age ≠ a ∧ H[t.age.toNat]? = some t.line)
    (he : ∀ j t, (H.eraseIdx a).length + 1 ≤ j → l[j]? = some t → t = Slot.zero)
    (hd : ∀ j k s t, j < k → k < (H.eraseIdx a).length + 1 → j ≠ i → k ≠ i → l[j]? = some s → l[k]? = some t → s.age ≠ t.age)
    (h' : ∀ j, j < l.length → l'[j]? = if j = i then some ⟨true, 0, z⟩ else (l[j]?).map (tstep a)) : SetOK l' (z :: H.eraseIdx a) := by
  have key : ∀ j t, j < (H.eraseIdx a).length + 1 → l'[j]? = some t → (j = i ∧ t = ⟨true, 0, z⟩) ∨ (j ≠ i ∧ ∃ s, l[j]? = some s ∧ t = tstep a s ∧ s.used = true ∧ 0 ≤ s.age ∧ s.age ≠ a ∧ H[s.age.toNat]? = some s.line) := by
    intro j t hj ht
    rw [h' j (by omega)] at ht
    by_cases hji : j = i
    · rw [if_pos hji] at ht
      exact .inl ⟨hji, by simpa using ht.symm⟩
    · rw [if_neg hji] at ht
      obtain ⟨s, hs, rfl⟩ := Option.map_eq_some_iff.1 ht
      obtain ⟨h1, h2, h3, h4⟩ := ho j s hji hj hs
      exact .inr ⟨hji, s, hs, rfl, h1, h2, h3, h4⟩
  have ag : ∀ s : Slot, s.used = true → tstep a s = { s with age := if s.age < a then s.age + 1 else s.age } := by
    intro s hs
    unfold tstep
    by_cases hlt : s.age < a
    · simp [hs, hlt]
    · simp [hlt]
  refine ⟨by rw [hl]; simpa using hN, fun j t hj ht => ?_, fun j t hj ht => ?_, fun j k s t hjk hk hs ht => ?_⟩
  · rw [List.length_cons] at hj ⊢
    rcases key j t hj ht with ⟨rfl, rfl⟩ | ⟨hji, s, hs, rfl, h1, h2, h3, h4⟩
    · exact ⟨rfl, by simp, by simp only [List.length_cons]; omega, by simp⟩
    · rw [ag s h1]
      have hsl : s.age.toNat < H.length := (List.getElem?_eq_some_iff.1 h4).1
      by_cases hlt : s.age < a
      · have e : ((z :: H.eraseIdx a)[(s.age + 1).toNat]?) = some s.line := by
          rw [show (s.age + 1).toNat = s.age.toNat + 1 by omega, List.getElem?_cons_succ, erase_get, if_pos (by omega), h4]
        have hlen := (List.getElem?_eq_some_iff.1 e).1
        rw [List.length_cons] at hlen
        simp only [hlt, if_true]
        exact ⟨h1, by omega, by omega, e⟩
      · have e : ((z :: H.eraseIdx a)[s.age.toNat]?) = some s.line := by
          rw [show s.age.toNat = s.age.toNat - 1 + 1 by omega, List.getElem?_cons_succ, erase_get, if_neg (by omega), show s.age.toNat - 1 + 1 = s.age.toNat by omega, h4]
        have hlen := (List.getElem?_eq_some_iff.1 e).1
        rw [List.length_cons] at hlen
        simp only [hlt, if_false]
        exact ⟨h1, by omega, by omega, e⟩
  · rw [List.length_cons] at hj
    have hjl : j < l.length := by rw [← hl]; exact (List.getElem?_eq_some_iff.1 ht).1
    rw [h' j hjl, if_neg (by omega)] at ht
    obtain ⟨s, hs, rfl⟩ := Option.map_eq_some_iff.1 ht
    rw [he j s hj hs]
    rfl
  · rw [List.length_cons] at hk
    rcases key j s (by omega) hs with ⟨rfl, rfl⟩ | ⟨hji, s0, hs0, rfl, h1, h2, h3, h4⟩
    · rcases key k t hk ht with ⟨rfl, rfl⟩ | ⟨hki, t0, ht0, rfl, g1, g2, g3, g4⟩
      · omega
      · rw [ag t0 g1]; simp only []; split <;> omega
    · rcases key k t hk ht with ⟨rfl, rfl⟩ | ⟨hki, t0, ht0, rfl, g1, g2, g3, g4⟩
      · rw [ag s0 h1]; simp only []; split <;> omega
      · have := hd j k s0 t0 hjk hk hji hki hs0 ht0
        rw [ag s0 h1, ag t0 g1]
        simp only []
        split <;> split <;> omega

/-- A slot goes, and those behind it close up. -/
theorem drop_gen {l l' : List Slot} {H : List Line} {i : Nat} {s : Slot} (h : SetOK l H) (hi : i < H.length) (hs : l[i]? = some s) (hl : l'.length = l.length)
    (h' : ∀ j, j < l.length → l'[j]? = if j < i then (l[j]?).map (dstep s.age) else if j + 1 < l.length then (l[j + 1]?).map (dstep s.age) else some Slot.zero) : SetOK l' (H.eraseIdx s.age.toNat) := by
  obtain ⟨s1, s2, s3, s4⟩ := h.used_ i s hi hs
  have hle := h.le
  have hlen : (H.eraseIdx s.age.toNat).length = H.length - 1 := by rw [List.length_eraseIdx, if_pos (by omega)]
  have key : ∀ j t, j < H.length - 1 → l'[j]? = some t → ∃ k u, k = (if j < i then j else j + 1) ∧ k ≠ i ∧ k < H.length ∧ l[k]? = some u ∧ t = dstep s.age u := by
    intro j t hj ht
    rw [h' j (by omega)] at ht
    by_cases hji : j < i
    · rw [if_pos hji] at ht
      obtain ⟨u, hu, rfl⟩ := Option.map_eq_some_iff.1 ht
      exact ⟨j, u, by rw [if_pos hji], by omega, by omega, hu, rfl⟩
    · rw [if_neg hji, if_pos (by omega)] at ht
      obtain ⟨u, hu, rfl⟩ := Option.map_eq_some_iff.1 ht
      exact ⟨j + 1, u, by rw [if_neg hji], by omega, by omega, hu, rfl⟩
  have ag : ∀ u : Slot, u.used = true → dstep s.age u = { u with age := if s.age < u.age then u.age - 1 else u.age } := by
    intro u hu
    unfold dstep
    by_cases hlt : s.age < u.age
    · simp [hu, hlt]
    · simp [hlt]
  have hne : ∀ k u, k ≠ i → k < H.length → l[k]? = some u → u.age ≠ s.age := by
    intro k u hk hkl hu
    rcases Nat.lt_or_gt_of_ne hk with h1 | h1
    · exact h.ages k i u s h1 hi hu hs
    · exact fun e => h.ages i k s u h1 hkl hs hu e.symm
  refine ⟨by rw [hlen, hl]; omega, fun j t hj ht => ?_, fun j t hj ht => ?_, fun j k t u hjk hk ht hu => ?_⟩
  · rw [hlen] at hj ⊢
    obtain ⟨k, u, -, hki, hkl, hu, rfl⟩ := key j t hj ht
    obtain ⟨u1, u2, u3, u4⟩ := h.used_ k u hkl hu
    have hua := hne k u hki hkl hu
    rw [ag u u1]
    by_cases hlt : s.age < u.age
    · simp only [hlt, if_true]
      refine ⟨u1, by omega, by omega, ?_⟩
      rw [erase_get, if_neg (by omega), show (u.age - 1).toNat + 1 = u.age.toNat by omega]
      exact u4
    · simp only [hlt, if_false]
      refine ⟨u1, by omega, by omega, ?_⟩
      rw [erase_get, if_pos (by omega)]
      exact u4
  · rw [hlen] at hj
    have hjl : j < l.length := by rw [← hl]; exact (List.getElem?_eq_some_iff.1 ht).1
    rw [h' j hjl, if_neg (by omega)] at ht
    split at ht
    · obtain ⟨u, hu, rfl⟩ := Option.map_eq_some_iff.1 ht
      rw [h.empty (j + 1) u (by omega) hu]
      rfl
    · simpa using ht.symm
  · rw [hlen] at hk
    obtain ⟨j', t', hj', hji, hjl, ht', rfl⟩ := key j t (by omega) ht
    obtain ⟨k', u', hk', hki, hkl, hu', rfl⟩ := key k u hk hu
    have hlt : j' < k' := by
      rw [hj', hk']
      split <;> split <;> omega
    have h1 := h.ages j' k' t' u' hlt hkl ht' hu'
    have h2 := hne j' t' hji hjl ht'
    have h3 := hne k' u' hki hkl hu'
    rw [ag t' (h.used_ j' t' hjl ht').1, ag u' (h.used_ k' u' hkl hu').1]
    simp only []
    split <;> split <;> omega
end Go.Proofs.Ytbcjjenidkgodaa
