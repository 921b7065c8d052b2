/- The plain law of caches: what Get, Drop and Put answer. -/
import Derived.Test.YtbcjjenidkgodaaPlainB
namespace Go.Proofs.Ytbcjjenidkgodaa
open Go Go.RowKit

theorem JC.step {c : Ca} {Hs Hs' : List Line} (h : JC c Hs) (a : Int) (ss : List Slot) (hl : ss.length = c.slots.length) (hss : ∀ j, (j < c.lo a ∨ c.lo a + c.ways ≤ j) → ss[j]? = c.slots[j]?)
    (hH : HsOK c.size Hs') (ho : ∀ s : Nat, a % (c.sets : Int) ≠ s → hset c.sets s Hs' = hset c.sets s Hs) (hs : SetOK (({ c with slots := ss } : Ca).setL (c.no a)) (hset c.sets (c.no a) Hs')) : JC { c with slots := ss } Hs' where
  sets1 := h.sets1
  sets8 := h.sets8
  ways1 := h.ways1
  ways4 := h.ways4
  size1 := h.size1
  size32 := h.size32
  len := by rw [← h.len]; exact hl
  hs := hH
  set_ := fun s hs' => by
    have hs2 : s < c.sets := hs'
    by_cases he : s = c.no a
    · subst he; exact hs
    · rw [other_set hss he]
      show SetOK _ (hset c.sets s Hs')
      rw [ho s (by rw [no_eq h a]; omega)]
      exact h.set_ s hs2

theorem touchAt_get {ss : List Slot} {lo m i : Nat} {s : Slot} (hs : ss[lo + i]? = some s) (hi : i < m) (j : Nat) :
    (touchAt ss lo m i)[j]? = if j = lo + i then some { s with age := 0 } else if lo ≤ j ∧ j < lo + m then (ss[j]?).map (tstep s.age) else ss[j]? := by
  by_cases hj : j = lo + i
  · subst hj; rw [if_pos rfl]; exact touchAt_self hs hi
  · rw [if_neg hj]
    have ha : (ss.getD (lo + i) Slot.zero).age = s.age := by rw [List.getD_eq_getElem?_getD, hs]; rfl
    unfold touchAt
    simp only [ha]
    rw [List.getElem?_set_ne (by omega), tgo_get]

/-- What Get and Put do to the set, by the one law. -/
theorem SetOK.touched {c : Ca} {a : Int} {H : List Line} {ss0 : List Slot} {i k : Nat} {s : Slot} (hll : c.lo a + c.ways ≤ c.slots.length) (hl0 : ss0.length = c.slots.length) (hi : i < c.ways) (hs : ss0[c.lo a + i]? = some s) (hsu : s.used = true)
    (hk : s.age = k) (hi2 : i < (H.eraseIdx k).length + 1) (hN : (H.eraseIdx k).length + 1 ≤ c.ways)
    (ho : ∀ j t, j ≠ i → j < (H.eraseIdx k).length + 1 → (({ c with slots := ss0 } : Ca).setL (c.no a))[j]? = some t → t.used = true ∧ 0 ≤ t.age ∧ t.age ≠ k ∧ H[t.age.toNat]? = some t.line)
    (he : ∀ j t, (H.eraseIdx k).length + 1 ≤ j → (({ c with slots := ss0 } : Ca).setL (c.no a))[j]? = some t → t = Slot.zero)
    (hd : ∀ j k' s t, j < k' → k' < (H.eraseIdx k).length + 1 → j ≠ i → k' ≠ i → (({ c with slots := ss0 } : Ca).setL (c.no a))[j]? = some s → (({ c with slots := ss0 } : Ca).setL (c.no a))[k']? = some t → s.age ≠ t.age) :
    SetOK (({ c with slots := touchAt ss0 (c.lo a) c.ways i } : Ca).setL (c.no a)) (s.line :: H.eraseIdx k) := by
  have hlen : ∀ ss1 : List Slot, ss1.length = c.slots.length → (({ c with slots := ss1 } : Ca).setL (c.no a)).length = c.ways := fun ss1 h1 => by
    have e := lo_no c a
    unfold Ca.setL
    simp only [List.length_take, List.length_drop]
    omega
  refine touch_gen (l := ({ c with slots := ss0 } : Ca).setL (c.no a)) (i := i) ?_ hi2 ?_ ho he hd ?_
  · rw [hlen _ (by rw [touchAt_len]; exact hl0), hlen _ hl0]
  · rw [hlen _ hl0]; exact hN
  · intro j hj
    rw [hlen _ hl0] at hj
    rw [setL_get, setL_get]
    simp only [if_pos hj, ← lo_no]
    rw [touchAt_get hs hi]
    by_cases hji : j = i
    · subst hji
      rw [if_pos rfl, if_pos rfl]
      simp [hsu]
    · rw [if_neg (by omega), if_neg hji, if_pos (by omega), hk]

theorem at_slot {c : Ca} {a : Int} {i : Nat} {s : Slot} (h : (c.setL (c.no a))[i]? = some s) : i < c.ways ∧ c.slots[c.lo a + i]? = some s := by
  rw [setL_get] at h
  split at h
  · rename_i hi; exact ⟨hi, h⟩
  · cases h

theorem get_law_not {c : Ca} {Hs : List Line} (h : JC c Hs) {a : Int} (hx : ∀ x ∈ Hs, x.addr ≠ a) : c.get a = (c, Line.zero, false) := by
  unfold Ca.get; rw [find_not h hx]

theorem drop_law_not {c : Ca} {Hs : List Line} (h : JC c Hs) {a : Int} (hx : ∀ x ∈ Hs, x.addr ≠ a) : c.drop a = (c, Line.zero, false) := by
  unfold Ca.drop; rw [find_not h hx]

/-- One line of the order and its slot: what holds of it. -/
structure Here (c : Ca) (Hs : List Line) (k : Nat) (x : Line) (i : Nat) (s : Slot) : Prop where
  find : (c.setAt x.addr).findIdx? (hasAddr x.addr) = some i
  iw : i < c.ways
  slot : c.slots[c.lo x.addr + i]? = some s
  slot2 : (c.setL (c.no x.addr))[i]? = some s
  line : s.line = x
  iH : i < (hset c.sets (c.no x.addr) Hs).length
  used : s.used = true
  age0 : 0 ≤ s.age
  ageH : s.age < (hset c.sets (c.no x.addr) Hs).length
  atH : (hset c.sets (c.no x.addr) Hs)[s.age.toNat]? = some x
  erase : hset c.sets (c.no x.addr) (Hs.take k ++ Hs.drop (k + 1)) = (hset c.sets (c.no x.addr) Hs).eraseIdx s.age.toNat

theorem here {c : Ca} {Hs : List Line} (h : JC c Hs) {k : Nat} {x : Line} (hx : Hs[k]? = some x) : ∃ i s, Here c Hs k x i s := by
  obtain ⟨i, s, hf, hi, hs, rfl⟩ := find_there h (List.mem_of_getElem? hx)
  have hS := h.set_ _ (no_lt h s.line.addr)
  obtain ⟨h1, h2, h3, h4⟩ := hS.used_ i s hi hs
  obtain ⟨h5, h6⟩ := at_slot hs
  obtain ⟨-, h8, -⟩ := hset_erase h.hs hx (no_eq h s.line.addr) h4 rfl
  exact ⟨i, s, hf, h5, h6, hs, rfl, hi, h1, h2, h3, h4, h8⟩

theorem get_law {c : Ca} {Hs : List Line} (h : JC c Hs) {k : Nat} {x : Line} (hx : Hs[k]? = some x) :
    ∃ ss, ss.length = c.slots.length ∧ c.get x.addr = ({ c with slots := ss }, x, true) ∧ JC { c with slots := ss } (Hs.take k ++ Hs.drop (k + 1) ++ [x]) := by
  obtain ⟨i, s, H⟩ := here h hx
  have hS := h.set_ _ (no_lt h x.addr)
  have hll := Ca.lo_le h.valid x.addr
  refine ⟨touchAt c.slots (c.lo x.addr) c.ways i, touchAt_len _ _ _ _, ?_, ?_⟩
  · unfold Ca.get
    rw [H.find]
    simp only [List.getD_eq_getElem?_getD, H.slot, Option.getD_some, H.line]
  · have hel : ((hset c.sets (c.no x.addr) Hs).eraseIdx s.age.toNat).length + 1 = (hset c.sets (c.no x.addr) Hs).length := by
      rw [List.length_eraseIdx, if_pos (by have := H.ageH; have := H.age0; omega)]
      have := H.iH; omega
    have hsl : (c.setL (c.no x.addr)).length = c.ways := setL_len h (no_lt h x.addr)
    refine h.step x.addr _ (touchAt_len _ _ _ _) (fun j hj => ?_) ((h.hs.erase k).snoc (h.hs.each x (List.mem_of_getElem? hx)) (h.hs.gone hx)) (fun t ht => ?_) ?_
    · rw [touchAt_get H.slot H.iw, if_neg (by have := H.iw; omega), if_neg (by omega)]
    · rw [hset_snoc_out _ ht, hset_other hx ht]
    · rw [hset_snoc_in _ (no_eq h x.addr), H.erase]
      have := SetOK.touched (H := hset c.sets (c.no x.addr) Hs) (k := s.age.toNat) hll rfl H.iw H.slot H.used (by have := H.age0; omega) (by rw [hel]; exact H.iH) (by rw [hel, ← hsl]; exact hS.le)
        (fun j t hji hj ht => by
          rw [hel] at hj
          obtain ⟨t1, t2, t3, t4⟩ := hS.used_ j t hj ht
          refine ⟨t1, t2, ?_, t4⟩
          have h0 := H.age0
          rcases Nat.lt_or_gt_of_ne hji with h1 | h1
          · have := hS.ages j i t s h1 H.iH ht H.slot2; omega
          · have := hS.ages i j s t h1 hj H.slot2 ht; omega)
        (fun j t hj ht => hS.empty j t (by omega) ht)
        (fun j k' s' t hjk hk _ _ hs' ht => hS.ages j k' s' t hjk (by omega) hs' ht)
      rw [H.line] at this
      exact this

theorem setL_set {c : Ca} {a : Int} {i : Nat} {s0 : Slot} (hi : c.slots[c.lo a + i]? = some s0) (hw : i < c.ways) (v : Slot) (j : Nat) :
    (({ c with slots := c.slots.set (c.lo a + i) v } : Ca).setL (c.no a))[j]? = if j = i then some v else (c.setL (c.no a))[j]? := by
  rw [setL_get, setL_get]
  simp only [← lo_no]
  by_cases hj : j = i
  · subst hj
    rw [if_pos hw, if_pos rfl, List.getElem?_set_self (List.getElem?_eq_some_iff.1 hi).1]
  · rw [if_neg hj]
    split
    · rw [List.getElem?_set_ne (by omega)]
    · rfl

theorem putAt_out {ss : List Slot} {lo m i : Nat} {v s0 : Slot} (h0 : ss[lo + i]? = some s0) (hi : i < m) (j : Nat) (hj : j < lo ∨ lo + m ≤ j) : (putAt ss lo m i v)[j]? = ss[j]? := by
  unfold putAt
  rw [touchAt_get (List.getElem?_set_self (List.getElem?_eq_some_iff.1 h0).1) hi, if_neg (by omega), if_neg (by omega), List.getElem?_set_ne (by omega)]
theorem putAt_len (ss : List Slot) (lo m i : Nat) (v : Slot) : (putAt ss lo m i v).length = ss.length := by simp [putAt, touchAt_len]

theorem put_law {c : Ca} {Hs : List Line} (h : JC c Hs) {k : Nat} {x z : Line} (hx : Hs[k]? = some x) (hz : z.addr = x.addr) (hz2 : 0 ≤ z.addr ∧ z.addr < 1048576 ∧ z.data.length = c.size) :
    ∃ ss, ss.length = c.slots.length ∧ c.put z = ({ c with slots := ss }, Line.zero, false) ∧ JC { c with slots := ss } (Hs.take k ++ Hs.drop (k + 1) ++ [z]) := by
  obtain ⟨i, s, H⟩ := here h hx
  have hS := h.set_ _ (no_lt h x.addr)
  have hll := Ca.lo_le h.valid x.addr
  refine ⟨putAt c.slots (c.lo x.addr) c.ways i { s with line := z }, putAt_len _ _ _ _ _, ?_, ?_⟩
  · unfold Ca.put
    simp only [hz, H.find, List.getD_eq_getElem?_getD, H.slot, Option.getD_some]
  · have hel : ((hset c.sets (c.no x.addr) Hs).eraseIdx s.age.toNat).length + 1 = (hset c.sets (c.no x.addr) Hs).length := by
      rw [List.length_eraseIdx, if_pos (by have := H.ageH; have := H.age0; omega)]
      have := H.iH; omega
    have hsl : (c.setL (c.no x.addr)).length = c.ways := setL_len h (no_lt h x.addr)
    refine h.step x.addr _ (putAt_len _ _ _ _ _) (putAt_out H.slot H.iw) ((h.hs.erase k).snoc hz2 (by rw [hz]; exact h.hs.gone hx)) (fun t ht => ?_) ?_
    · rw [hset_snoc_out _ (by rw [hz]; exact ht), hset_other hx ht]
    · rw [hset_snoc_in _ (by rw [hz]; exact no_eq h x.addr), H.erase]
      have hg := setL_set H.slot H.iw { s with line := z }
      exact SetOK.touched (H := hset c.sets (c.no x.addr) Hs) (k := s.age.toNat) (ss0 := c.slots.set (c.lo x.addr + i) { s with line := z }) (s := { s with line := z }) hll (List.length_set ..) H.iw (List.getElem?_set_self (List.getElem?_eq_some_iff.1 H.slot).1) H.used (by have := H.age0; simp only []; omega) (by rw [hel]; exact H.iH) (by rw [hel, ← hsl]; exact hS.le)
        (fun j t hji hj ht => by
          rw [hg, if_neg hji] at ht
          rw [hel] at hj
          obtain ⟨t1, t2, t3, t4⟩ := hS.used_ j t hj ht
          refine ⟨t1, t2, ?_, t4⟩
          have h0 := H.age0
          rcases Nat.lt_or_gt_of_ne hji with h1 | h1
          · have := hS.ages j i t s h1 H.iH ht H.slot2; omega
          · have := hS.ages i j s t h1 hj H.slot2 ht; omega)
        (fun j t hj ht => by
          rw [hg, if_neg (by have := H.iH; omega)] at ht
          exact hS.empty j t (by omega) ht)
        (fun j k' s' t hjk hk hji hki hs' ht => by
          rw [hg, if_neg hji] at hs'
          rw [hg, if_neg hki] at ht
          exact hS.ages j k' s' t hjk (by omega) hs' ht)

/-- What is there of a set fits into it. -/
theorem hset_le {c : Ca} {Hs : List Line} (h : JC c Hs) (a : Int) : (hset c.sets (c.no a) Hs).length ≤ c.ways := by
  rw [← setL_len h (no_lt h a)]
  exact (h.set_ _ (no_lt h a)).le

theorem find_free {c : Ca} {Hs : List Line} (h : JC c Hs) (a : Int) :
    (c.setAt a).findIdx? isFree = if (hset c.sets (c.no a) Hs).length < c.ways then some (hset c.sets (c.no a) Hs).length else none := by
  have hS := h.set_ _ (no_lt h a)
  have hsl : (c.setL (c.no a)).length = c.ways := setL_len h (no_lt h a)
  have hu : ∀ (i : Nat) (hi : i < (c.setAt a).length), i < (hset c.sets (c.no a) Hs).length → isFree (c.setAt a)[i] = false := fun i hi h1 => by
    have := (hS.used_ i _ h1 (List.getElem?_eq_getElem hi)).1
    unfold isFree
    simp only [Bool.not_eq_false']
    exact this
  split
  · rename_i hlt
    have hi : (hset c.sets (c.no a) Hs).length < (c.setAt a).length := by rw [setAt_no, hsl]; exact hlt
    rw [List.findIdx?_eq_some_iff_getElem]
    refine ⟨hi, ?_, fun j hj => by rw [hu j (by omega) hj]; simp⟩
    have := hS.empty _ _ (Nat.le_refl _) (List.getElem?_eq_getElem hi)
    rw [setAt_no] at *
    rw [this]; rfl
  · rename_i hge
    rw [List.findIdx?_eq_none_iff]
    intro s hs
    obtain ⟨j, hj, rfl⟩ := List.getElem_of_mem hs
    exact hu j hj (by rw [setAt_no, hsl] at hj; omega)

theorem put_law_new {c : Ca} {Hs : List Line} (h : JC c Hs) {z : Line} (hn : ∀ x ∈ Hs, x.addr ≠ z.addr) (hz2 : 0 ≤ z.addr ∧ z.addr < 1048576 ∧ z.data.length = c.size) (hlt : (hset c.sets (c.no z.addr) Hs).length < c.ways) :
    ∃ ss, ss.length = c.slots.length ∧ c.put z = ({ c with slots := ss }, Line.zero, false) ∧ JC { c with slots := ss } (Hs ++ [z]) := by
  have hS := h.set_ _ (no_lt h z.addr)
  have hll := Ca.lo_le h.valid z.addr
  have hff := find_free h z.addr
  rw [if_pos hlt] at hff
  obtain ⟨n, hnn⟩ : ∃ n, n = (hset c.sets (c.no z.addr) Hs).length := ⟨_, rfl⟩
  rw [← hnn] at hff hlt
  have h0 : c.slots[c.lo z.addr + n]? = some (c.slots[c.lo z.addr + n]'(by omega)) := List.getElem?_eq_getElem _
  refine ⟨putAt c.slots (c.lo z.addr) c.ways n ⟨true, c.ways, z⟩, putAt_len _ _ _ _ _, ?_, ?_⟩
  · unfold Ca.put
    simp only [find_not h hn, hff]
  · have hel : ((hset c.sets (c.no z.addr) Hs).eraseIdx c.ways) = hset c.sets (c.no z.addr) Hs := List.eraseIdx_of_length_le (by omega)
    refine h.step z.addr _ (putAt_len _ _ _ _ _) (putAt_out h0 hlt) (h.hs.snoc hz2 hn) (fun t ht => hset_snoc_out _ ht) ?_
    rw [hset_snoc_in _ (no_eq h z.addr)]
    have hg := setL_set h0 hlt ⟨true, c.ways, z⟩
    have := SetOK.touched (H := hset c.sets (c.no z.addr) Hs) (k := c.ways) (ss0 := c.slots.set (c.lo z.addr + n) ⟨true, c.ways, z⟩) (s := ⟨true, c.ways, z⟩) hll (List.length_set ..) hlt (List.getElem?_set_self (List.getElem?_eq_some_iff.1 h0).1) rfl rfl (by rw [hel]; omega) (by rw [hel]; omega)
        (fun j t hji hj ht => by
          rw [hg, if_neg hji] at ht
          rw [hel] at hj
          obtain ⟨t1, t2, t3, t4⟩ := hS.used_ j t (by omega) ht
          exact ⟨t1, t2, by omega, t4⟩)
        (fun j t hj ht => by
          rw [hel] at hj
          rw [hg, if_neg (by omega)] at ht
          exact hS.empty j t (by omega) ht)
        (fun j k' s' t hjk hk hji hki hs' ht => by
          rw [hel] at hk
          rw [hg, if_neg hji] at hs'
          rw [hg, if_neg hki] at ht
          exact hS.ages j k' s' t hjk (by omega) hs' ht)
    rw [hel] at this
    exact this

theorem put_law_full {c : Ca} {Hs : List Line} (h : JC c Hs) {z : Line} (hn : ∀ x ∈ Hs, x.addr ≠ z.addr) (hz2 : 0 ≤ z.addr ∧ z.addr < 1048576 ∧ z.data.length = c.size) (hge : (hset c.sets (c.no z.addr) Hs).length = c.ways)
    {o : Nat} {x : Line} (hx : Hs[o]? = some x) (hxs : inSet c.sets (c.no z.addr) x = true) (hfirst : (Hs.take o).filter (inSet c.sets (c.no z.addr)) = []) :
    ∃ ss, ss.length = c.slots.length ∧ c.put z = ({ c with slots := ss }, x, true) ∧ JC { c with slots := ss } (Hs.take o ++ Hs.drop (o + 1) ++ [z]) := by
  have hS := h.set_ _ (no_lt h z.addr)
  have hll := Ca.lo_le h.valid z.addr
  have hff := find_free h z.addr
  rw [if_neg (by omega)] at hff
  have hxs' : x.addr % (c.sets : Int) = c.no z.addr := by simpa [inSet] using hxs
  obtain ⟨i, hf3⟩ := old_some h.valid z.addr hff
  obtain ⟨hiw, s, hs, hs2, hp⟩ := idx_some hf3
  rw [setAt_no] at hs2
  simp only [isOld, beq_iff_eq] at hp
  obtain ⟨s1, s2, s3, s4⟩ := hS.used_ i s (by omega) hs2
  have e1 : hset c.sets (c.no z.addr) Hs = ((Hs.drop (o + 1)).filter (inSet c.sets (c.no z.addr))).reverse ++ [x] := by
    conv => lhs; rw [split_at hx]
    unfold hset
    rw [show Hs.take o ++ x :: Hs.drop (o + 1) = Hs.take o ++ ([x] ++ Hs.drop (o + 1)) from rfl, List.filter_append, List.filter_append, filter_some hxs', hfirst]
    simp
  have hlen : ((Hs.drop (o + 1)).filter (inSet c.sets (c.no z.addr))).length + 1 = c.ways := by
    rw [← hge, e1]; simp
  have hsx : s.line = x := by
    rw [e1, List.getElem?_append_right (by simp; omega)] at s4
    have : s.age.toNat - ((Hs.drop (o + 1)).filter (inSet c.sets (c.no z.addr))).reverse.length = 0 := by simp; omega
    rw [this] at s4
    simpa using s4.symm
  obtain ⟨-, herase, -⟩ := hset_erase h.hs hx hxs' s4 (by rw [hsx])
  refine ⟨putAt c.slots (c.lo z.addr) c.ways i ⟨true, c.ways, z⟩, putAt_len _ _ _ _ _, ?_, ?_⟩
  · unfold Ca.put
    simp only [find_not h hn, hff, hf3, List.getD_eq_getElem?_getD, hs, Option.getD_some, hsx]
  · have hel : ((hset c.sets (c.no z.addr) Hs).eraseIdx s.age.toNat).length + 1 = c.ways := by
      rw [List.length_eraseIdx, if_pos (by omega)]; omega
    refine h.step z.addr _ (putAt_len _ _ _ _ _) (putAt_out hs hiw) ((h.hs.erase o).snoc hz2 (fun y hy => hn y (by
      rcases List.mem_append.1 hy with h1 | h1
      · exact List.mem_of_mem_take h1
      · exact List.mem_of_mem_drop h1))) (fun t ht => ?_) ?_
    · rw [hset_snoc_out _ ht, hset_other hx (by rw [hxs', ← no_eq h z.addr]; exact ht)]
    · rw [hset_snoc_in _ (no_eq h z.addr), herase]
      have hg := setL_set hs hiw ⟨true, c.ways, z⟩
      have h1 : (c.slots.set (c.lo z.addr + i) ⟨true, c.ways, z⟩)[c.lo z.addr + i]? = some ⟨true, c.ways, z⟩ := List.getElem?_set_self (List.getElem?_eq_some_iff.1 hs).1
      have hlen' : ∀ ss1 : List Slot, ss1.length = c.slots.length → (({ c with slots := ss1 } : Ca).setL (c.no z.addr)).length = c.ways := fun ss1 h1 => by
        have e := lo_no c z.addr
        unfold Ca.setL
        simp only [List.length_take, List.length_drop]
        omega
      have hother : ∀ (j : Nat) t, j ≠ i → (c.setL (c.no z.addr))[j]? = some t → t.used = true ∧ 0 ≤ t.age ∧ t.age < c.ways ∧ t.age ≠ s.age ∧ (hset c.sets (c.no z.addr) Hs)[t.age.toNat]? = some t.line := fun j t hji ht => by
        have hjw := (at_slot ht).1
        obtain ⟨t1, t2, t3, t4⟩ := hS.used_ j t (by omega) ht
        refine ⟨t1, t2, by omega, ?_, t4⟩
        rcases Nat.lt_or_gt_of_ne hji with h1 | h1
        · exact hS.ages j i t s h1 (by omega) ht hs2
        · exact fun e => hS.ages i j s t h1 (by omega) hs2 ht e.symm
      refine touch_gen (l := ({ c with slots := c.slots.set (c.lo z.addr + i) ⟨true, c.ways, z⟩ } : Ca).setL (c.no z.addr)) (i := i) (a := s.age.toNat) ?_ (by rw [hel]; exact hiw) ?_ ?_ ?_ ?_ ?_
      · rw [hlen' _ (putAt_len _ _ _ _ _), hlen' _ (List.length_set ..)]
      · rw [hel, hlen' _ (List.length_set ..)]; exact Nat.le_refl _
      · intro j t hji hj ht
        rw [hg, if_neg hji] at ht
        obtain ⟨t1, t2, t3, t4, t5⟩ := hother j t hji ht
        exact ⟨t1, t2, by omega, t5⟩
      · intro j t hj ht
        rw [hel] at hj
        rw [hg, if_neg (by omega)] at ht
        have := (at_slot ht).1
        omega
      · intro j k' s' t hjk hk hji hki hs' ht
        rw [hg, if_neg hji] at hs'
        rw [hg, if_neg hki] at ht
        exact hS.ages j k' s' t hjk (by omega) hs' ht
      · intro j hj
        rw [hlen' _ (List.length_set ..)] at hj
        by_cases hji : j = i
        · subst hji
          rw [if_pos rfl, setL_get]
          simp only [if_pos hj, ← lo_no]
          unfold putAt
          rw [touchAt_get h1 hj, if_pos rfl]
        · rw [if_neg hji, hg, if_neg hji, setL_get]
          simp only [if_pos hj, ← lo_no]
          unfold putAt
          rw [touchAt_get h1 hiw, if_neg (by omega), if_pos (by omega), List.getElem?_set_ne (by omega)]
          have e : c.slots[c.lo z.addr + j]? = (c.setL (c.no z.addr))[j]? := by rw [setL_get, if_pos hj, ← lo_no]
          rw [e]
          obtain ⟨t, ht⟩ : ∃ t, (c.setL (c.no z.addr))[j]? = some t := ⟨_, List.getElem?_eq_getElem (by rw [setL_len h (no_lt h z.addr)]; exact hj)⟩
          obtain ⟨t1, t2, t3, t4, -⟩ := hother j t hji ht
          rw [ht]
          simp only [Option.map_some, tstep, t1, Bool.true_and]
          rw [if_pos (by simp; omega), if_pos (by simp; omega)]

theorem drop_law {c : Ca} {Hs : List Line} (h : JC c Hs) {k : Nat} {x : Line} (hx : Hs[k]? = some x) :
    ∃ ss, ss.length = c.slots.length ∧ c.drop x.addr = ({ c with slots := ss }, x, true) ∧ JC { c with slots := ss } (Hs.take k ++ Hs.drop (k + 1)) := by
  obtain ⟨i, s, H⟩ := here h hx
  have hS := h.set_ _ (no_lt h x.addr)
  have hll := Ca.lo_le h.valid x.addr
  have hsl : (c.setL (c.no x.addr)).length = c.ways := setL_len h (no_lt h x.addr)
  have hiw := H.iw
  have hdl := dropAt_len (ss := c.slots) H.iw hll
  have ha : (c.slots.getD (c.lo x.addr + i) Slot.zero).age = s.age := by rw [List.getD_eq_getElem?_getD, H.slot]; rfl
  -- the slots after it
  have hget : ∀ j, (dropAt c.slots (c.lo x.addr) c.ways i)[j]? = if c.lo x.addr ≤ j ∧ j < c.lo x.addr + c.ways then (if j < c.lo x.addr + i then (c.slots[j]?).map (dstep s.age) else if j + 1 < c.lo x.addr + c.ways then (c.slots[j + 1]?).map (dstep s.age) else some Slot.zero) else c.slots[j]? := by
    intro j
    have hcl := closeAt_len (ss := c.slots) H.iw hll
    unfold dropAt
    rw [ha, fgo_get]
    have hz : dstep s.age Slot.zero = Slot.zero := rfl
    have hclose : (closeAt c.slots (c.lo x.addr) c.ways i)[j]? = if j < c.lo x.addr + i then c.slots[j]? else if j + 1 < c.lo x.addr + c.ways then c.slots[j + 1]? else c.slots[j]? := by
      unfold closeAt
      rw [List.getElem?_append]
      simp only [List.length_append, List.length_take, List.length_drop]
      split
      · rename_i hj
        rw [List.getElem?_append]
        simp only [List.length_take]
        split
        · rename_i hj2
          rw [List.getElem?_take, if_pos (by omega), if_pos (by omega)]
        · rename_i hj2
          rw [List.getElem?_take, if_pos (by omega), List.getElem?_drop, if_neg (by omega), if_pos (by omega)]
          congr 1; omega
      · rename_i hj
        rw [List.getElem?_drop, if_neg (by omega), if_neg (by omega)]
        congr 1; omega
    have hshift : (shiftAt c.slots (c.lo x.addr) c.ways i)[j]? = if j = c.lo x.addr + c.ways - 1 then some Slot.zero else (closeAt c.slots (c.lo x.addr) c.ways i)[j]? := by
      unfold shiftAt
      by_cases hj : j = c.lo x.addr + c.ways - 1
      · subst hj
        rw [if_pos rfl, List.getElem?_set_self (by omega)]
      · rw [if_neg hj, List.getElem?_set_ne (by omega)]
    rw [hshift, hclose]
    by_cases h1 : c.lo x.addr ≤ j ∧ j < c.lo x.addr + c.ways
    · rw [if_pos h1, if_pos h1]
      by_cases h2 : j < c.lo x.addr + i
      · rw [if_pos h2, if_neg (by omega), if_pos h2]
      · rw [if_neg h2]
        by_cases h3 : j + 1 < c.lo x.addr + c.ways
        · rw [if_pos h3, if_neg (by omega), if_neg h2, if_pos h3]
        · rw [if_neg h3, if_pos (by omega), if_neg h2, if_neg h3]; rfl
    · rw [if_neg h1, if_neg h1, if_neg (by omega)]
      by_cases h2 : j < c.lo x.addr + i
      · rw [if_pos h2]
      · rw [if_neg h2, if_neg (by omega)]
  refine ⟨dropAt c.slots (c.lo x.addr) c.ways i, hdl, ?_, ?_⟩
  · unfold Ca.drop
    rw [H.find]
    simp only [List.getD_eq_getElem?_getD, H.slot, Option.getD_some, H.line]
  · refine h.step x.addr _ hdl (fun j hj => ?_) (h.hs.erase k) (fun t ht => hset_other hx ht) ?_
    · rw [hget, if_neg (by omega)]
    · rw [H.erase]
      have hlen' : (({ c with slots := dropAt c.slots (c.lo x.addr) c.ways i } : Ca).setL (c.no x.addr)).length = c.ways := by
        have e := lo_no c x.addr
        unfold Ca.setL
        simp only [List.length_take, List.length_drop]
        omega
      refine drop_gen hS H.iH H.slot2 (by rw [hlen', hsl]) (fun j hj => ?_)
      rw [hsl] at hj ⊢
      rw [setL_get]
      simp only [if_pos hj, ← lo_no]
      rw [hget, if_pos (by omega), setL_get, if_pos hj, ← lo_no]
      by_cases h1 : j < i
      · rw [if_pos (by omega), if_pos h1]
      · rw [if_neg (by omega), if_neg h1]
        by_cases h2 : j + 1 < c.ways
        · rw [if_pos (by omega), if_pos h2, setL_get, if_pos h2, ← lo_no]; rfl
        · rw [if_neg (by omega), if_neg h2]
end Go.Proofs.Ytbcjjenidkgodaa
