/- The builtin copy, of rows, into what the call itself made. -/
import Derived.Test.YtbcjjenidkgodaaCacheC
namespace Go.Proofs.Ytbcjjenidkgodaa
open Go Go.RowKit

theorem flat_take {sz : Nat} : ∀ (css : List (List Value)) (i : Nat), (∀ cs ∈ css, cs.length = sz) → css.flatten.take (i * sz) = (css.take i).flatten
  | [], i, _ => by simp
  | c :: css, 0, _ => by simp
  | c :: css, i + 1, h => by
    have hc : c.length = sz := h c (by simp)
    rw [List.flatten_cons, List.take_succ_cons, List.flatten_cons, Nat.add_mul, Nat.one_mul, Nat.add_comm, List.take_append, hc]
    rw [List.take_of_length_le (by omega)]
    congr 1
    rw [Nat.add_sub_cancel_left]
    exact flat_take css i (fun cs hcs => h cs (by simp [hcs]))
theorem flat_drop {sz : Nat} : ∀ (css : List (List Value)) (i : Nat), (∀ cs ∈ css, cs.length = sz) → css.flatten.drop (i * sz) = (css.drop i).flatten
  | [], i, _ => by simp
  | c :: css, 0, _ => by simp
  | c :: css, i + 1, h => by
    have hc : c.length = sz := h c (by simp)
    rw [List.flatten_cons, List.drop_succ_cons, Nat.add_mul, Nat.one_mul, Nat.add_comm, List.drop_append, hc]
    rw [List.drop_of_length_le (by omega), List.nil_append, Nat.add_sub_cancel_left]
    exact flat_drop css i (fun cs hcs => h cs (by simp [hcs]))

/-- A source's cells, one by one. -/
theorem Arr.flat {w : World} {S : Nat → Prop} {e sz : Nat} {b off n c : Nat} {dss : List (List Value)} (hsz : 0 < sz) (h : Arr w S e sz (.slice (some ⟨b, off, none⟩) n c) dss) : ∀ j u, dss.flatten[j]? = some u → w.cell? ((⟨b, off, none⟩ : Addr).add j) = some u := by
  obtain ⟨A, c', hv, h1, h2, h3, h4⟩ := h
  simp only [Value.slice.injEq] at hv
  obtain ⟨hA, hn, rfl⟩ := hv
  intro j u hj
  have hne : dss ≠ [] := by rintro rfl; simp at hj
  obtain ⟨b', off', C, fz, hA', hS, hb, hc⟩ := h4 hne
  rw [hA'] at hA
  simp only [Option.some.injEq, Addr.mk.injEq, and_true] at hA
  obtain ⟨rfl, rfl⟩ := hA
  have hfl := flat_len dss (fun cs hcs => (h3 cs hcs).1)
  have hjl : j < dss.flatten.length := (List.getElem?_eq_some_iff.1 hj).1
  rw [hfl] at hjl
  have hi1 : j / sz < dss.length := Nat.div_lt_of_lt_mul (by rw [Nat.mul_comm]; exact hjl)
  have hd1 : dss[j / sz]? = some (dss[j / sz]'hi1) := List.getElem?_eq_getElem hi1
  have hl1 : (dss[j / sz]'hi1).length = sz := (h3 _ (List.getElem_mem hi1)).1
  have hm1 : j % sz < (dss[j / sz]'hi1).length := by rw [hl1]; exact Nat.mod_lt _ hsz
  have hd2 : (dss[j / sz]'hi1)[j % sz]? = some ((dss[j / sz]'hi1)[j % sz]'hm1) := List.getElem?_eq_getElem hm1
  have h6 := flat_get dss (fun cs hcs => (h3 cs hcs).1) _ _ hd1 _ _ hd2
  have h7 := hc _ _ hd1 _ _ hd2
  have he : j / sz * sz + j % sz = j := by rw [Nat.mul_comm]; exact Nat.div_add_mod j sz
  rw [he, hj] at h6
  rw [Nat.add_assoc, he, ← h6] at h7
  have ha : (⟨b, off, none⟩ : Addr).add j = ⟨b, off + j, none⟩ := by unfold Addr.add; by_cases hz : j = 0 <;> simp [hz]
  rw [ha, cell_of_row w b _ C e fz hb]
  exact h7

theorem Arr.take {w : World} {S : Nat → Prop} {e sz : Nat} {A : Option Addr} {n c : Nat} {dss : List (List Value)} (h : Arr w S e sz (.slice A n c) dss) (k : Nat) (hk : k ≤ dss.length) : Arr w S e sz (.slice A k c) (dss.take k) := by
  obtain ⟨A', c', hv, h1, h2, h3, h4⟩ := h
  simp only [Value.slice.injEq] at hv
  obtain ⟨rfl, hn, rfl⟩ := hv
  have hl : (dss.take k).length = k := by simp; omega
  refine ⟨_, _, by rw [hl], by omega, h2, fun cs hcs => h3 cs (List.mem_of_mem_take hcs), fun hne => ?_⟩
  obtain ⟨b, off, C, fz, hA, hS, hb, hc⟩ := h4 (by rintro rfl; simp at hne)
  refine ⟨b, off, C, fz, hA, hS, hb, fun i cs hi => hc i cs ?_⟩
  rw [List.getElem?_take] at hi
  split at hi
  · exact hi
  · cases hi

theorem splice_take (L F : List Value) (a n b : Nat) (hb : b = a + F.length) (hbn : b ≤ n) (hn : n ≤ L.length) :
    (L.take a ++ F ++ L.drop (a + F.length)).toArray.toList.take n = (L.take n).take a ++ F ++ (L.take n).drop b := by
  subst hb
  apply List.ext_getElem?
  intro j
  simp only [List.getElem?_take, List.getElem?_append, List.getElem?_drop, List.length_append, List.length_take]
  rw [Nat.min_eq_left (by omega), Nat.min_eq_left (by omega)]
  by_cases h1 : j < a
  · rw [if_pos (by omega), if_pos (by omega), if_pos h1, if_pos h1, if_pos (by omega), if_pos h1, if_pos h1, if_pos (by omega)]
  · by_cases h2 : j < a + F.length
    · rw [if_pos (by omega), if_pos h2, if_neg h1, if_pos h2, if_neg h1]
    · rw [if_neg h2, if_neg h2]
      by_cases h3 : j < n
      · rw [if_pos h3, if_pos (by omega)]
      · rw [if_neg h3, if_neg (by omega)]

section
variable {P : Program} {ops : Array Oper} {Q : Exit → Act → World → Prop} {a : Act} {w : World} {rest : List Oper} {o : Oper}
theorem wpList_copy_rows (hgd : o.guard = none) (d s : Operand) (T : TypeId) (ho : o.op = .call { callee := .builtin .copy, args := #[d, s], argTypes := #[T, T] })
    (e : TypeId) (i : TypeInfo) (sz : Nat) (ht : P.underlying T = some (.slice e)) (hi : P.info? e = some i) (hsize : i.size = sz) (hsz : 0 < sz)
    (base g n cap : Nat) (css : List (List Value)) (hown : Own w base e sz (.slice (some ⟨g, 0, none⟩) n cap) css) (lo m c : Nat) (hd : a.eval d = .slice (some ⟨g, lo * sz, none⟩) m c) (hlm : lo + m ≤ css.length)
    (S : Nat → Prop) (vx : Value) (dss : List (List Value)) (hx : a.eval s = vx) (hsrc : Arr w S e sz vx dss) (k : Nat) (hk : k = min dss.length m)
    (h : ∀ w', Own w' base e sz (.slice (some ⟨g, 0, none⟩) n cap) (css.take lo ++ dss.take k ++ css.drop (lo + k)) → Keep (· = g) w w' → wpList P ops Q rest (a.put o.dst (goInt k)) w') : wpList P ops Q (o :: rest) a w := by
  obtain ⟨A, cx, rfl, -, -⟩ := hsrc.len
  have hrow := hsrc.row
  have hkd : k ≤ dss.length := by omega
  have hkm : k ≤ m := by omega
  have hT := hsrc.take k hkd
  have hne : css ≠ [] ∨ k = 0 := by
    rcases Nat.eq_zero_or_pos k with h0 | h0
    · exact .inr h0
    · left; rintro rfl; simp at hlm; omega
  have hfirst : (Builtin.firstCells sz k (.slice A dss.length cx)).run P w = .ok (dss.take k).flatten.toArray w := by
    rcases A with _ | ad
    · have : dss = [] := by
        rcases Classical.em (dss = []) with h | h
        · exact h
        · obtain ⟨_, _, _, _, _, _, h4⟩ := hsrc
          rename_i hv _ _ _
          simp only [Value.slice.injEq] at hv
          obtain ⟨_, _, _, _, hA, _⟩ := h4 h
          rw [← hv.1] at hA
          cases hA
      subst this
      simp [Builtin.firstCells]
    · have hlen : (dss.take k).flatten.length = k * sz := by rw [flat_len _ (fun cs hcs => (hrow cs (List.mem_of_mem_take hcs)).1), List.length_take, Nat.min_eq_left hkd]
      rcases Classical.em (dss = []) with h | h
      · subst h
        have : k = 0 := by simpa using hkd
        subst this
        exact run_firstCells_some (P := P) w sz 0 ad 0 cx [] (by simp) (by simp)
      · obtain ⟨b, off, c', hv, _⟩ := (hsrc.cases.resolve_left (fun h' => h h'.1)).2
        simp only [Value.slice.injEq, Option.some.injEq] at hv
        obtain ⟨rfl, _, _⟩ := hv
        exact run_firstCells_some (P := P) w sz k _ dss.length cx _ hlen (hT.flat hsz)
  have h1c : ∀ u ∈ (dss.take k).flatten, u.oneCell' = true := fun u hu => by
    obtain ⟨cs, hcs, hu⟩ := List.mem_flatten.1 hu
    exact (hrow cs (List.mem_of_mem_take hcs)).2 u hu
  obtain ⟨hr0, hfl, hown2⟩ := hown
  rcases hown2 with ⟨hv, _⟩ | ⟨g', cap', cur, hv, hbg, hg, hnc, hcm, hcs, htake⟩
  · simp at hv
  · simp only [Value.slice.injEq, Option.some.injEq, Addr.mk.injEq, and_true, true_and] at hv
    obtain ⟨rfl, hn, rfl⟩ := hv
    have hlen : (dss.take k).flatten.length = k * sz := by rw [flat_len _ (fun cs hcs => (hrow cs (List.mem_of_mem_take hcs)).1), List.length_take, Nat.min_eq_left hkd]
    have hfit : lo * sz + 0 + (dss.take k).flatten.length ≤ cur.size := by
      rw [hlen, hcs, Nat.add_zero, ← Nat.add_mul]
      exact Nat.mul_le_mul_right _ (by omega)
    have hst := run_storeCells_at P g (lo * sz) e (dss.take k).flatten 0 cur w hg hfit h1c
    simp only [Nat.add_zero] at hst
    have hrun : (Builtin.copy_ #[T, T] o.type #[.slice (some ⟨g, lo * sz, none⟩) m c, .slice A dss.length cx]).run P w = .ok (goInt k) (w.setRow g (cur.toList.take (lo * sz) ++ (dss.take k).flatten ++ cur.toList.drop (lo * sz + (dss.take k).flatten.length)).toArray) := by
      have hmin : Nat.min dss.length m = k := hk.symm
      simp [Builtin.copy_, run_underlying ht, sizeOf, typeInfo, hi, hsize, Builtin.lenOf, hmin, hfirst, hst]
    refine wpList_plain hgd fun K hK => ?_
    unfold Oper.wp execOp
    simp only [ho, resolve, invoke, builtin, Sem.run_bind, Sem.run_pure, Result.andThen_ok, List.map_toArray, List.map_cons, List.map_nil, hd, hx, hrun]
    refine hK _ _ (h _ ⟨fun cs hcs => ?_, ?_⟩ ⟨rfl, rfl, rfl, by simp, fun b _ hb => setRow_other w g b _ hb⟩)
    · rcases List.mem_append.1 hcs with hcs | hcs
      · rcases List.mem_append.1 hcs with hcs | hcs
        · exact hr0 cs (List.mem_of_mem_take hcs)
        · exact hrow cs (List.mem_of_mem_take hcs)
      · exact hr0 cs (List.mem_of_mem_drop hcs)
    · have hL : (css.take lo ++ dss.take k ++ css.drop (lo + k)).length = css.length := by simp; omega
      rw [hL]
      have hF : (css.take lo ++ dss.take k ++ css.drop (lo + k)).flatten = css.flatten.take (lo * sz) ++ (dss.take k).flatten ++ css.flatten.drop ((lo + k) * sz) := by
        rw [List.flatten_append, List.flatten_append, flat_take css lo (fun cs h => (hr0 cs h).1), flat_drop css (lo + k) (fun cs h => (hr0 cs h).1)]
      have hll : (lo + k) * sz ≤ css.length * sz := Nat.mul_le_mul_right _ (by omega)
      have hll2 : (lo + k) * sz = lo * sz + k * sz := Nat.add_mul _ _ _
      refine ⟨?_, .inr ⟨g, cap, _, by rw [hn], hbg, setRow_heap w g cur _ e _ hg, hnc, hcm, ?_, ?_⟩⟩
      · rw [hF]
        simp only [List.length_append, List.length_take, List.length_drop, hlen, hfl]
        omega
      · simp only [List.size_toArray, List.length_append, List.length_take, List.length_drop, Array.length_toList, hlen]
        omega
      · rw [hF, ← htake]
        have hcl : cur.toList.length = cap * sz := by simpa using hcs
        have hnl : css.length * sz ≤ cap * sz := Nat.mul_le_mul_right _ hnc
        exact splice_take cur.toList _ (lo * sz) (css.length * sz) ((lo + k) * sz) (by rw [hlen]; omega) (by omega) (by omega)
end
end Go.Proofs.Ytbcjjenidkgodaa
