/- What single operations do: values put together, new slices, boxes, fields. -/
import Derived.Test.YtbcjjenidkgodaaAw7
namespace Go.Proofs.Ytbcjjenidkgodaa
open Go Go.RowKit

def fillA (place : Nat → Option (Nat × Nat)) (cells : List CV) : List (Nat × List CV) → Option (List CV)
  | [] => some cells
  | (i, xs) :: rest => match place i with
    | none => none
    | some (off, size) => if xs.length = size ∧ off + size ≤ cells.length then fillA place (putRow cells off xs) rest else none

def partsV (st : St) : List (Nat × Operand) → Option (List (Nat × List CV))
  | [] => some []
  | (i, p) :: rest => match (st.ev p).bind FV.cells, partsV st rest with
    | some xs, some r => some ((i, xs) :: r)
    | _, _ => none

def structP (P : Program) (t : TypeId) : Option (List (Nat × Nat)) := match P.underlying t with
  | some (.struct fields) => fields.toList.mapM (fun f => (P.info? f.type).map fun i => (f.offset, i.size))
  | _ => none

/-- The rows of so many cells. -/
def chunk (m len : Nat) (cs : List CV) : List (List CV) := (List.range len).map fun i => (cs.drop (i * m)).take m

theorem getD_lt {α : Type} {l : List α} {i : Nat} {d : α} (h : i < l.length) : l.getD i d = l[i] := by simp [List.getD, h]

theorem put_fold (off : Nat) : ∀ (us : List Value) (k : Nat) (C : Array Value), off + k + us.length ≤ C.size →
    (us.zipIdx k).foldl (fun cs p => cs.setIfInBounds (off + p.2) p.1) C = (C.toList.take (off + k) ++ us ++ C.toList.drop (off + k + us.length)).toArray
  | [], k, C, _ => by simp
  | u :: us, k, C, h => by
    rw [List.zipIdx_cons, List.foldl_cons, put_fold off us (k + 1) _ (by simp at h ⊢; omega)]
    have e := list_seg_step C.toList (off + k) u us (by simp at h ⊢; omega)
    simp only [Array.toList_setIfInBounds, List.length_cons]
    rw [show off + (k + 1) = off + k + 1 by omega, e]

section
variable {P : Program} {n : Nat} {ops : Array Oper} {o : Oper} {st : St} {J : Env} {φ : Nat → Option Loc} {S : Nat → Prop} {a : Act} {w : World}

theorem All2.put {cells xs : List CV} {vs us : List Value} {off : Nat} (h : All2 (Rep S w φ) cells vs) (k : All2 (Rep S w φ) xs us) (hl : off + xs.length ≤ cells.length) :
    All2 (Rep S w φ) (putRow cells off xs) (vs.take off ++ us ++ vs.drop (off + us.length)) := by
  have hlen := h.1
  have hlen2 := k.1
  unfold putRow
  refine ⟨by simp; omega, fun j x y hx hy => ?_⟩
  have t1 : (cells.take off).length = off := by rw [List.length_take]; omega
  have t2 : (vs.take off).length = off := by rw [List.length_take]; omega
  by_cases h1 : j < off
  · rw [List.append_assoc, List.getElem?_append_left (by omega), List.getElem?_take_of_lt h1] at hx hy
    exact h.2 j x y hx hy
  · by_cases h2 : j < off + xs.length
    · rw [List.append_assoc, List.getElem?_append_right (by omega), t1, List.getElem?_append_left (by omega)] at hx
      rw [List.append_assoc, List.getElem?_append_right (by omega), t2, List.getElem?_append_left (by omega)] at hy
      exact k.2 _ x y hx hy
    · rw [List.getElem?_append_right (by rw [List.length_append]; omega), List.length_append, t1, List.getElem?_drop] at hx
      rw [List.getElem?_append_right (by rw [List.length_append]; omega), List.length_append, t2, List.getElem?_drop] at hy
      rw [hlen2] at hx
      exact h.2 _ x y hx hy

theorem fillA_rep {place : Nat → Option (Nat × Nat)} : ∀ (ps : List (Nat × List CV)) (qs : List (Nat × Value)) (cells cs : List CV) (vs : List Value), All2 (fun p q => p.1 = q.1 ∧ ∃ us : List Value, q.2.cells = us.toArray ∧ All2 (Rep S w φ) p.2 us) ps qs →
    All2 (Rep S w φ) cells vs → fillA place cells ps = some cs → ∃ us : List Value, Instr.fill place vs.toArray qs = some us.toArray ∧ All2 (Rep S w φ) cs us
  | [], [], cells, cs, vs, _, h, hf => by obtain rfl := Option.some.inj hf; exact ⟨vs, rfl, h⟩
  | [], _ :: _, _, _, _, h, _, _ => by have := h.1; simp at this
  | _ :: _, [], _, _, _, h, _, _ => by have := h.1; simp at this
  | (i, xs) :: ps, (i', v) :: qs, cells, cs, vs, hp, h, hf => by
    obtain ⟨hi, us, hus, hx⟩ := hp.2 0 _ _ rfl rfl
    simp only [] at hi hus hx
    subst hi
    simp only [fillA] at hf
    cases hpl : place i with
    | none => rw [hpl] at hf; cases hf
    | some q =>
      obtain ⟨off, size⟩ := q
      rw [hpl] at hf
      simp only [] at hf
      split at hf
      · rename_i hc
        have h2 := All2.put h hx (off := off) (by omega)
        have hul := hx.1
        have hvl := h.1
        obtain ⟨ws, hw1, hw2⟩ := fillA_rep ps qs _ cs _ ⟨by have := hp.1; simpa using this, fun j x y a b => hp.2 (j + 1) x y a b⟩ h2 hf
        refine ⟨ws, ?_, hw2⟩
        simp only [Instr.fill, hpl, hus, List.size_toArray]
        rw [if_neg (by simp; omega)]
        have e := put_fold off us 0 vs.toArray (by simp; omega)
        simp only [Nat.add_zero] at e
        rw [← hw1]
        congr 1
        rw [← Array.foldl_toList, Array.toList_zipIdx]
        exact e
      · cases hf

theorem partsV_rep {st2 : St} (hR : Rel J st2 φ S a w) : ∀ (parts : List (Nat × Operand)) (ps : List (Nat × List CV)), partsV st2 parts = some ps →
    All2 (fun p q => p.1 = q.1 ∧ ∃ us : List Value, q.2.cells = us.toArray ∧ All2 (Rep S w φ) p.2 us) ps (parts.map fun (i, x) => (i, a.eval x))
  | [], ps, h => by obtain rfl := Option.some.inj h; exact All2.nil _
  | (i, p) :: parts, ps, h => by
    simp only [partsV] at h
    split at h
    · rename_i xs r hx hr
      obtain rfl := Option.some.inj h
      obtain ⟨x, h1, h2⟩ := Option.bind_eq_some_iff.1 hx
      exact All2.cons ⟨rfl, repF_cells (ev_rep hR h1) h2⟩ (partsV_rep hR parts r hr)
    · cases h

theorem Agree.parts {e : Eff} {st2 : St} (h : Agree ops o e st st2) : ∀ (parts : List (Nat × Operand)), (∀ p ∈ parts, p.2 ∈ o.op.operands.toList) → partsV st2 parts = partsV st parts
  | [], _ => rfl
  | (i, p) :: parts, hm => by
    simp only [partsV]
    rw [h.ev (hm (i, p) (by simp)), Agree.parts h parts (fun q hq => hm q (by simp [hq]))]

theorem plain_all2 {l : List Value} (h : l.all plain = true) : All2 (Rep S w φ) (l.map .v) l := by
  refine ⟨by simp, fun j x y hx hy => ?_⟩
  rw [List.getElem?_map, hy] at hx
  simp only [Option.map_some, Option.some.injEq] at hx
  subst hx
  exact .v (List.all_eq_true.1 h y (List.mem_of_getElem? hy))

/-- A struct out of its fields. -/
theorem step_build {t : TypeId} {parts : Array (Nat × Operand)} {zl : List Value} {places : List (Nat × Nat)} {ps : List (Nat × List CV)} {cs : List CV} (ho : o.op = .build t parts) (hg : guardVal ops st o = some true) (hd : dstOk n o.dst = true)
    (hz : zeroOf P t = some zl) (hzp : zl.all plain = true) (hpl : structP P t = some places) (hps : partsV st parts.toList = some ps) (hf : fillA (places[·]?) (zl.map .v) ps = some cs) : Step P n ops o st ⟨some (.a (.agg cs)), [], [], []⟩ := by
  refine step_value hg hd fun st2 hA J φ S a w hR => ?_
  have hps2 := (Agree.parts hA parts.toList (fun p hp => by rw [ho]; simp only [Op.operands]; exact List.mem_map.2 ⟨p, hp, rfl⟩)).trans hps
  obtain ⟨us, h1, h2⟩ := fillA_rep ps _ _ cs zl (partsV_rep hR _ _ hps2) (plain_all2 hzp) hf
  refine ⟨.agg us.toArray, ?_, us, rfl, h2⟩
  unfold execOp
  simp only [ho]
  have hb : P.built t (parts.map fun (i, x) => (i, a.eval x)).toList = some us.toArray := by
    unfold zeroOf at hz
    unfold structP at hpl
    obtain ⟨it, hi, hzz⟩ := Option.bind_eq_some_iff.1 hz
    obtain ⟨z, hz1, hz2⟩ := Option.map_eq_some_iff.1 hzz
    split at hpl
    · rename_i fields hu
      unfold Program.built
      simp only [hi, hu, hz1, hpl]
      rw [← hz2] at h1
      simpa using h1
    · cases hpl
  rw [Sem.run_bind, run_build w t _ _ hb]; rfl

/-- An array out of its elements. -/
theorem step_buildArr {t e : TypeId} {len m : Nat} {ag : Bool} {parts : Array (Nat × Operand)} {zl : List Value} {ps : List (Nat × List CV)} {cs : List CV} (ho : o.op = .build t parts) (hg : guardVal ops st o = some true) (hd : dstOk n o.dst = true)
    (hz : zeroOf P t = some zl) (hzp : zl.all plain = true) (hpl : arOf P t = some (len, e, m, ag)) (hps : partsV st parts.toList = some ps) (hf : fillA (fun i => some (i * m, m)) (zl.map .v) ps = some cs) : Step P n ops o st ⟨some (.a (.agg cs)), [], [], []⟩ := by
  refine step_value hg hd fun st2 hA J φ S a w hR => ?_
  have hps2 := (Agree.parts hA parts.toList (fun p hp => by rw [ho]; simp only [Op.operands]; exact List.mem_map.2 ⟨p, hp, rfl⟩)).trans hps
  obtain ⟨us, h1, h2⟩ := fillA_rep ps _ _ cs zl (partsV_rep hR _ _ hps2) (plain_all2 hzp) hf
  refine ⟨.agg us.toArray, ?_, us, rfl, h2⟩
  unfold execOp
  simp only [ho]
  obtain ⟨g1, g2, g3⟩ := run_array hpl
  have hb : P.built t (parts.map fun (i, x) => (i, a.eval x)).toList = some us.toArray := by
    unfold zeroOf at hz
    obtain ⟨it, hi, hzz⟩ := Option.bind_eq_some_iff.1 hz
    obtain ⟨z, hz1, hz2⟩ := Option.map_eq_some_iff.1 hzz
    unfold szOf at g2
    obtain ⟨ie, hie, hsz⟩ := Option.map_eq_some_iff.1 g2
    unfold Program.built
    simp only [hi, g1, hz1, hie, hsz]
    rw [← hz2] at h1
    simpa using h1
  rw [Sem.run_bind, run_build w t _ _ hb]; rfl

theorem chunk_get {m len : Nat} {cs : List CV} {i j : Nat} {r : List CV} {x : CV} (hi : (chunk m len cs)[i]? = some r) (hj : r[j]? = some x) : cs[i * m + j]? = some x := by
  unfold chunk at hi
  rw [List.getElem?_map] at hi
  obtain ⟨q, hq, rfl⟩ := Option.map_eq_some_iff.1 hi
  have hlt := (List.getElem?_eq_some_iff.1 hq).1
  rw [List.getElem?_range (by simpa using hlt)] at hq
  obtain rfl := Option.some.inj hq
  rw [List.getElem?_take] at hj
  split at hj
  · rw [List.getElem?_drop] at hj; exact hj
  · cases hj
theorem chunk_len {m len : Nat} {cs : List CV} (h : cs.length = len * m) : ∀ r ∈ chunk m len cs, r.length = m := fun r hr => by
  unfold chunk at hr
  obtain ⟨i, hi, rfl⟩ := List.mem_map.1 hr
  have hi' : i < len := by simpa using hi
  have : (i + 1) * m ≤ len * m := Nat.mul_le_mul_right _ hi'
  rw [Nat.add_mul] at this
  rw [List.length_take, List.length_drop, h]
  omega

/-- A slice out of its elements. -/
theorem step_buildSlice {t e : TypeId} {len m id : Nat} {ag : Bool} {parts : Array (Nat × Operand)} {zl : List Value} {ps : List (Nat × List CV)} {cs : List CV} (ho : o.op = .buildSlice t len parts) (hg : guardVal ops st o = some true) (hd : dstOk n o.dst = true)
    (ht : elOf P t = some (e, m, ag)) (hz : zeroOf P e = some zl) (hzp : zl.all plain = true) (hzl : zl.length = m) (hm : 0 < m) (hlen : len * m ≤ 16777216) (hps : partsV st parts.toList = some ps)
    (hf : fillA (fun i => some (i * m, m)) ((List.range (len * m)).map fun q => .v (zl.getD (q % m) undef)) ps = some cs) (hid : st.u id = false) :
    Step P n ops o st ⟨some (.a (.c (.ref id 0 len))), [(id, some ⟨e, m, chunk m len cs⟩)], [id], []⟩ := by
  intro st2 hA
  refine Sound.of (hA.guard.trans hg) fun J φ S a w hJ hR => ?_
  have hps2 := (Agree.parts hA parts.toList (fun p hp => by rw [ho]; simp only [Op.operands]; exact List.mem_map.2 ⟨p, hp, rfl⟩)).trans hps
  obtain ⟨g1, g2, g3⟩ := run_elem ht
  have hzz := hz
  unfold zeroOf at hzz
  obtain ⟨it, hi, hzz⟩ := Option.bind_eq_some_iff.1 hzz
  obtain ⟨z, hz1, hz2⟩ := Option.map_eq_some_iff.1 hzz
  have hzs : z.cells.size = m := by rw [← hzl, ← hz2]; simp
  have hall : All2 (Rep S w φ) ((List.range (len * m)).map fun q => CV.v (zl.getD (q % m) undef)) ((List.range (len * m)).map fun q => zl.getD (q % m) undef) := by
    refine ⟨by simp, fun j x y hx hy => ?_⟩
    rw [List.getElem?_map] at hx hy
    obtain ⟨q, hq, rfl⟩ := Option.map_eq_some_iff.1 hx
    rw [hq] at hy
    simp only [Option.map_some, Option.some.injEq] at hy
    subst hy
    refine .v ?_
    have hlt : q % m < zl.length := by rw [hzl]; exact Nat.mod_lt _ hm
    rw [getD_lt hlt]
    exact List.all_eq_true.1 hzp _ (List.getElem_mem hlt)
  obtain ⟨us, h1, h2⟩ := fillA_rep ps _ _ cs _ (partsV_rep hR _ _ hps2) hall hf
  have hzc : ((List.range (len * m)).map fun q => zl.getD (q % m) undef).toArray = (Array.range (len * m)).map (z.cells[· % z.cells.size]!) := by
    apply Array.ext
    · simp
    · intro q a1 a2
      have hq : q < len * m := by simpa using a1
      have hlt : q % m < z.cells.size := by rw [hzs]; exact Nat.mod_lt _ hm
      simp only [List.getElem_toArray, List.getElem_map, List.getElem_range, Array.getElem_map, Array.getElem_range, hzs]
      rw [← hz2, getElem!_pos z.cells (q % m) hlt, getD_lt (by simpa using hlt)]
      simp
  have hcl : us.length = len * m := by
    have : ∀ (ps : List (Nat × List CV)) (c c' : List CV), fillA (fun i => some (i * m, m)) c ps = some c' → c'.length = c.length := fun ps => by
      induction ps with
      | nil => intro c c' h; obtain rfl := Option.some.inj h; rfl
      | cons p ps ih =>
        intro c c' h
        simp only [fillA] at h
        split at h
        · rw [ih _ _ h]; simp [putRow]; omega
        · cases h
    rw [← h2.1, this _ _ _ hf]; simp
  have hrun : (execOp a.eval o).run P w = .ok (.value (.slice (some ⟨w.heap.size, 0, none⟩) len len)) (w.alloc (.cells us.toArray e)) := by
    unfold execOp
    simp only [ho]
    have : (Instr.buildSlice t len (parts.map fun (i, x) => (i, a.eval x))).run P w = .ok (.slice (some ⟨w.heap.size, 0, none⟩) len len) (w.alloc (.cells us.toArray e)) := by
      unfold Instr.buildSlice
      simp only [Sem.run_bind, run_underlying g1, Result.andThen_ok, run_sizeOf g2]
      rw [if_neg (by omega)]
      have hzr : ((if len * m = 0 then pure #[] else do pure (← zeroValue e).cells : Sem (Array Value))).run P w = .ok (if len * m = 0 then #[] else z.cells) w := by
        split
        · rfl
        · simp [zeroValue, typeInfo, hi, hz1]
      by_cases h0 : len * m = 0
      · simp only [h0, if_true, Sem.run_pure, Result.andThen_ok] at hzr ⊢
        rw [hzc] at h1
        simp only [h0] at h1
        have h1' : Instr.fill (fun i => some (i * m, m)) ((Array.range 0).map fun x => (#[] : Array Value)[x % (#[] : Array Value).size]!) (parts.map fun (i, x) => (i, a.eval x)).toList = some us.toArray := by
          rw [show (Array.range 0).map (fun x => (#[] : Array Value)[x % (#[] : Array Value).size]!) = (Array.range 0).map (z.cells[· % z.cells.size]!) from by apply Array.ext <;> simp]
          simpa using h1
        simp only [h1', newRow, Sem.run_bind, Sem.run_pure, Result.andThen_ok]
        rfl
      · simp only [h0, if_false, Sem.run_bind, Sem.run_pure] at hzr ⊢
        rw [hzc] at h1
        have h1' : Instr.fill (fun i => some (i * m, m)) ((Array.range (len * m)).map (z.cells[· % z.cells.size]!)) (parts.map fun (i, x) => (i, a.eval x)).toList = some us.toArray := by simpa using h1
        simp only [zeroValue, typeInfo, hi, hz1, Sem.run_bind, run_program, Sem.run_pure, Result.andThen_ok]
        simp only [h1', newRow, Sem.run_bind, Sem.run_pure, Result.andThen_ok]
        rfl
    rw [Sem.run_bind, this]; rfl
  have hcs : cs.length = len * m := by rw [h2.1, hcl]
  have hlen0 : len ≤ 16777216 := Nat.le_trans (Nat.le_mul_of_pos_right _ hm) hlen
  obtain ⟨φ', h⟩ := hR.new (d := o.dst) (x := .a (.c (.ref id 0 len))) (y := .slice (some ⟨w.heap.size, 0, none⟩) len len) (rd := []) id ⟨e, m, chunk m len cs⟩ len us.toArray ((hA.u id (by simp)).trans hid) (by rw [hJ]; exact hd)
    (by simpa using hcl) (by simp [chunk]) (by omega) hm (chunk_len hcs) (fun i r j x a b => by
      obtain ⟨y, hy, hr⟩ := h2.get (chunk_get a b)
      exact ⟨y, by simpa using hy, hr⟩)
    (fun φ' h => by
      have := Rep.ref (S := S) (w := w.alloc (.cells us.toArray e)) (off := 0) (len := len) h rfl (by simp) (by simp only []; omega)
      simp only [Nat.zero_mul, Nat.sub_zero] at this
      exact this)
  exact ⟨_, _, _, S, _, hrun, .inl rfl, h⟩
end
end Go.Proofs.Ytbcjjenidkgodaa
