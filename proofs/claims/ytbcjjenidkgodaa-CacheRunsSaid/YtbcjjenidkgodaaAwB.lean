/- More operations; more ways to take a call. -/
import Derived.Test.YtbcjjenidkgodaaAwA
import Derived.Laws.MakeOwn
namespace Go.Proofs.Ytbcjjenidkgodaa
open Go Go.RowKit

section
variable {P : Program} {n : Nat} {ops : Array Oper} {o : Oper} {st : St} {J : Env} {φ : Nat → Option Loc} {S : Nat → Prop} {a : Act} {w : World} {Q : Exit → St → Prop}

theorem okC_ref {olds fz : List Nat} {i o' l : Nat} {k : Blk} (h : st.s i = some k) (hi : fz.contains i = true) (hl : o' + l ≤ k.rows.length) : CV.okC st olds fz (.ref i o' l) = true := by
  simp only [CV.okC, hi, if_true, h]; simpa using hl
theorem cvt_ref {ρ : Nat → Nat} {fz : List Nat} {i o' l : Nat} {k : Blk} {rows : List (List CV)} (h : st.s i = some k) (hi : fz.contains i = true) (hr : (k.rows.drop o').take l = rows) : CV.cvt st ρ fz (.ref i o' l) = .lst k.e rows := by
  simp only [CV.cvt, hi, if_true, h, hr]
/-- A block of one row, told cell by cell. -/
theorem allSC_row {ρ : Nat → Nat} {olds fz : List Nat} {i e sz : Nat} {r r' : List CV} {l : List (Nat × Blk)} (h : st.s i = some ⟨e, sz, [r]⟩) (ho : ∀ x ∈ r, CV.okC st olds fz x = true) (hr : r.map (CV.cvt st ρ fz) = r') (t : AllSC st ρ olds fz l) : AllSC st ρ olds fz ((i, ⟨e, sz, [r']⟩) :: l) :=
  ⟨⟨_, h, rfl, rfl, fun q hq x hx => by
    have : q = r := by simpa using hq
    subst this
    exact ho x hx, by simp [hr]⟩, t⟩
theorem res_cell {p t id row off m : Nat} {ag : Bool} {k : Blk} {r : List CV} {x : AV} (h1 : st.f p = some (.a (.c (.ptr id row off)))) (h2 : st.s id = some k) (h3 : szOf P t = some m) (h4 : aggP P t = some ag) (h5 : k.rows[row]? = some r) (h6 : readRow r off m ag = some (.a x)) : resA P st (.cell p t) = some x := by
  simp only [resA, h1, h2, h3, h4, h5, h6]
theorem resL_cons {r : ResultVar} {rs : List ResultVar} {x : AV} {xs : List AV} (h1 : resA P st r = some x) (h2 : resL P st rs = some xs) : resL P st (r :: rs) = some (x :: xs) := by
  simp only [resL, h1, h2]
theorem base_ref {id e m len : Nat} {k : Blk} (hk : st.s id = some k) (hl : k.rows.length = len) (he : k.e = e) (hm : k.sz = m) : baseRows st e m (.ref id 0 len) = some (some id, k.rows) := by
  simp only [baseRows, hk]; rw [if_pos ⟨hl, he, hm⟩]
theorem news_ref {id off len : Nat} {k : Blk} {rows : List (List CV)} (hk : st.s id = some k) (hl : off + len ≤ k.rows.length) (hr : (k.rows.drop off).take len = rows) : rowsOf st (.ref id off len) = some rows := by
  simp only [rowsOf, hk]; rw [if_pos hl, hr]
/-- A value put into a variable of its own. -/
theorem step_box {t : TypeId} {p : Operand} {x : FV} {cs : List CV} {id : Nat} (ho : o.op = .box t p) (hg : guardVal ops st o = some true) (hd : dstOk n o.dst = true) (hp : st.ev p = some x) (hx : x.cells = some cs) (hl : 0 < cs.length) (hid : st.u id = false) :
    Step P n ops o st ⟨some (.a (.c (.ptr id 0 0))), [(id, some ⟨t, cs.length, [cs]⟩)], [id], []⟩ := by
  intro st2 hA
  refine Sound.of (hA.guard.trans hg) fun J φ S a w hJ hR => ?_
  have e1 := ev_rep hR ((hA.ev (by rw [ho]; simp [Op.operands])).trans hp)
  obtain ⟨vs, hv, hvs⟩ := repF_cells e1 hx
  have hrun : (execOp a.eval o).run P w = .ok (.value (.pointer (some ⟨w.heap.size, 0, none⟩))) (w.alloc (.cells vs.toArray t)) := by
    unfold execOp
    simp only [ho, Instr.box, newVar, newRow, hv, Sem.run_bind, Sem.run_pure, Result.andThen_ok]
    rfl
  obtain ⟨φ', h⟩ := hR.new (d := o.dst) (x := .a (.c (.ptr id 0 0))) (y := .pointer (some ⟨w.heap.size, 0, none⟩)) (rd := []) id ⟨t, cs.length, [cs]⟩ 1 vs.toArray ((hA.u id (by simp)).trans hid) (by rw [hJ]; exact hd) (by simp [hvs.1]) (by simp) (by decide) hl
    (by simp) (fun i r j x h1 h2 => by
      cases i with
      | succ i => simp at h1
      | zero =>
        simp only [List.getElem?_cons_zero, Option.some.injEq] at h1
        subst h1
        obtain ⟨y, hy, hr⟩ := hvs.get h2
        exact ⟨y, by simpa using hy, hr⟩)
    (fun φ' h => by have := Rep.ptr (S := S) (w := w.alloc (.cells vs.toArray t)) (row := 0) (off := 0) h; simp only [Nat.zero_mul, Nat.zero_add] at this; exact this)
  exact ⟨_, _, _, S, _, hrun, .inl rfl, h⟩

/-- A slice made of zeros. -/
theorem step_make {t e m by_ id : Nat} {ag : Bool} {p q : Operand} {k1 k2 : IntKind} {l c : Int} {zl : List Value} (ho : o.op = .makeSlice t p q) (hg : guardVal ops st o = some true) (hd : dstOk n o.dst = true) (hp : st.ev p = some (.x (.int k1 l))) (hq : st.ev q = some (.x (.int k2 c)))
    (ht : elOf P t = some (e, m, ag)) (hby : bytesP P e = some by_) (hz : zeroOf P e = some zl) (hzp : zl.all plain = true) (hzl : zl.length = m) (hm : 0 < m) (h0 : 0 ≤ l) (hlc : l ≤ c) (hbytes : (by_ : Int) * c ≤ 281474976710656) (h63 : c ≤ 9223372036854775807) (hid : st.u id = false) :
    Step P n ops o st ⟨some (.a (.c (.ref id 0 l.toNat))), [(id, some ⟨e, m, List.replicate l.toNat (zl.map .v)⟩)], [id], []⟩ := by
  intro st2 hA
  refine Sound.of (hA.guard.trans hg) fun J φ S a w hJ hR => ?_
  have e1 := ev_x hR ((hA.ev (by rw [ho]; simp [Op.operands])).trans hp)
  have e2 := ev_x hR ((hA.ev (by rw [ho]; simp [Op.operands])).trans hq)
  obtain ⟨g1, g2, g3⟩ := run_elem ht
  have hzz := hz
  unfold zeroOf at hzz
  obtain ⟨it, hi, hzz⟩ := Option.bind_eq_some_iff.1 hzz
  obtain ⟨z, hz1, hz2⟩ := Option.map_eq_some_iff.1 hzz
  have hzs : z.cells.size = m := by rw [← hzl, ← hz2]; simp
  have hsize : it.size = m := by unfold szOf at g2; rw [hi] at g2; simpa using g2
  have hby' : it.bytes = by_ := by unfold bytesP at hby; rw [hi] at hby; simpa using hby
  have hrun : (execOp a.eval o).run P w = .ok (.value (.slice (some ⟨w.heap.size, 0, none⟩) l.toNat c.toNat)) (w.alloc (.cells (madeCells z.cells (c.toNat * m)) e)) := by
    unfold execOp
    simp only [ho, e1, e2]
    rw [Sem.run_bind, run_make w t e it z g1 hi hz1 k1 k2 l c h0 hlc (by rw [hby']; exact hbytes) h63, hsize]; rfl
  have hget : ∀ q, q < c.toNat * m → (madeCells z.cells (c.toNat * m))[q]? = some (zl.getD (q % m) undef) := fun q hq => by
    have hlt : q % m < z.cells.size := by rw [hzs]; exact Nat.mod_lt _ hm
    have hlt2 : q % m < zl.length := by rw [hzl]; exact Nat.mod_lt _ hm
    rw [Array.getElem?_eq_getElem (by rw [size_madeCells]; exact hq)]
    simp only [madeCells, Array.getElem_map, Array.getElem_range, hzs, getD_lt hlt2]
    rw [getElem!_pos z.cells (q % m) hlt]
    congr 1
    simp [← hz2]
  obtain ⟨φ', h⟩ := hR.new (d := o.dst) (x := .a (.c (.ref id 0 l.toNat))) (y := .slice (some ⟨w.heap.size, 0, none⟩) l.toNat c.toNat) (rd := []) id ⟨e, m, List.replicate l.toNat (zl.map .v)⟩ c.toNat (madeCells z.cells (c.toNat * m)) ((hA.u id (by simp)).trans hid) (by rw [hJ]; exact hd)
    (size_madeCells _ _) (by simp; omega) (by omega) hm (fun r hr => by rw [(List.mem_replicate.1 hr).2, List.length_map, hzl]) (fun i r j x h1 h2 => by
      have hil : i < l.toNat := by have := (List.getElem?_eq_some_iff.1 h1).1; simpa using this
      rw [List.getElem?_replicate, if_pos hil] at h1
      obtain rfl := Option.some.inj h1
      rw [List.getElem?_map] at h2
      obtain ⟨v, hv, rfl⟩ := Option.map_eq_some_iff.1 h2
      have hj : j < m := by rw [← hzl]; exact (List.getElem?_eq_some_iff.1 hv).1
      have h3 : (i + 1) * m ≤ c.toNat * m := Nat.mul_le_mul_right _ (by omega)
      rw [Nat.add_mul] at h3
      refine ⟨v, ?_, .v (List.all_eq_true.1 hzp v (List.mem_of_getElem? hv))⟩
      show (madeCells z.cells (c.toNat * m))[i * m + j]? = some v
      rw [hget _ (by omega), Nat.mul_comm i m, Nat.mul_add_mod, Nat.mod_eq_of_lt hj, getD_lt (by omega)]
      rw [List.getElem?_eq_getElem (by omega)] at hv
      exact hv)
    (fun φ' h => by
      have := Rep.ref (S := S) (w := w.alloc (.cells (madeCells z.cells (c.toNat * m)) e)) (off := 0) (len := l.toNat) h rfl (by simp only []; omega) (by simp only []; omega)
      simp only [Nat.zero_mul, Nat.sub_zero] at this
      exact this)
  exact ⟨_, _, _, S, _, hrun, .inl rfl, h⟩

/-- A nil slice taken as an own one. -/
theorem aw_nilref {c : Code} (t id e m : Nat) (ht : st.f t = some (.x (.slice none 0 0))) (hid : st.u id = false)
    (h : AW P J c Q ⟨updF st.f (some t) (some (.a (.c (.ref id 0 0)))), updS st.s [(id, some ⟨e, m, []⟩)], fun i => [id].contains i || st.u i⟩) : AW P J c Q st := fun φ S a w hR => by
  have hφid : φ id = none := by
    cases h : φ id with
    | none => rfl
    | some l => have := hR.use id l h; rw [hid] at this; cases this
  have hm : ∀ i l, φ i = some l → (fun i => if i = id then some (⟨0, m, 0, true⟩ : Loc) else φ i) i = some l := fun i l h => by
    simp only []
    rw [if_neg (fun e => by rw [e, hφid] at h; cases h)]
    exact h
  refine h (fun i => if i = id then some ⟨0, m, 0, true⟩ else φ i) S a w ?_
  refine Rel.turn hR id ⟨e, m, []⟩ ⟨0, m, 0, true⟩ (fun _ => False) (Keep.refl _ _) (fun _ h => h.elim) (fun _ => rfl) (.inl hφid) (fun i k2 h => ?_) (.inl rfl) rfl (.inl ⟨rfl, rfl⟩) (fun i h => ?_) hR.nd hR.sz (fun u x hx => ?_)
  · simp only [updS] at h
    by_cases hi : i = id
    · rw [if_pos hi] at h; exact .inl ⟨hi, (Option.some.inj h).symm⟩
    · rw [if_neg hi] at h; exact .inr ⟨hi, h⟩
  · rcases h with rfl | h
    · simp
    · simp [h]
  · simp only [updF] at hx
    split at hx
    · rename_i hu
      subst hu
      obtain rfl := Option.some.inj hx
      have := repF_x (hR.fr u _ ht)
      rw [this]
      exact Rep.refn (l := ⟨0, m, 0, true⟩) (by simp) rfl
    · exact (hR.fr u x hx).mono hm (fun _ h => h) (fun _ _ _ => rfl)

/-- A call without pointers; slices of its own are lent to it; what comes back is flat. -/
theorem step_callL {g : FuncId} {c : Call} {xs ys : List AV} {r : FV} (lent : List Nat) (ho : o.op = .call c) (hc : c.callee = .value (.func g)) (hcal : callable P g = true) (hg : guardVal ops st o = some true) (hd : dstOk n o.dst = true)
    (hx : evL st c.args.toList = some xs) (hl : All2 (LendA st (fun i => i) [] lent) xs ys) (hr : r.free = true) (hrf : r.flat = true) (hAC : AC P g ys none1 (fun r' σ' => r' = r ∧ σ' = none1)) : Step P n ops o st ⟨some r, [], [], lent⟩ := by
  have := step_call (st := st) (P := P) (n := n) (ops := ops) (τ := none1) (τ' := none1) (fun i => i) [] [] lent ho hc hcal hg hd hx hl (fun i k h => by cases h) (fun i h => by simp at h) (fun i j h => by simp at h) (fun j h => by simp at h) (fun i k h => by cases h) (FV.in_free hr) (fun i h => by simp) (.inr ⟨hrf, fun i k h => by cases h⟩) hAC
  rw [FV.ren_free hr] at this
  exact this

/-- Two blocks. -/
def two1 (i : Nat) (k : Blk) (j : Nat) (q : Blk) : Nat → Option Blk := fun a => if a = i then some k else if a = j then some q else none

/-- A call with one pointer, to a block of its own, that brings one new block. -/
theorem step_call1n {g : FuncId} {c : Call} {xs : List AV} {r r2 : FV} {id idn : Nat} {k k' kn : Blk} (ho : o.op = .call c) (hc : c.callee = .value (.func g)) (hcal : callable P g = true) (hg : guardVal ops st o = some true) (hd : dstOk n o.dst = true)
    (hx : evL st c.args.toList = some (.c (.ptr id 0 0) :: xs)) (hs : st.s id = some k) (hid : st.u idn = false) (hne : id ≠ idn) (hf : xs.all AV.free = true) (hk : k.free = true) (hk' : k'.free = true) (hkn : kn.free = true) (hr : r.inIds [0, 110] = true)
    (hr2 : r.ren (fun i => if i = 0 then id else idn) = r2)
    (hAC : AC P g (.c (.ptr 0 0 0) :: xs) (one1 0 k) (fun r' σ' => r' = r ∧ σ' = two1 0 k' 110 kn)) : Step P n ops o st ⟨some r2, [(id, some k'), (idn, some kn)], [idn], [id]⟩ := by
  have one : ∀ i (q p : Blk), one1 0 q i = some p → i = 0 ∧ p = q := fun i q p h => by
    simp only [one1] at h
    split at h
    · rename_i h0; exact ⟨h0, (Option.some.inj h).symm⟩
    · cases h
  have := step_call (st := st) (P := P) (n := n) (ops := ops) (τ := one1 0 k) (τ' := two1 0 k' 110 kn) (fun i => if i = 0 then id else idn) [0] [110] [] ho hc hcal hg hd hx (All2.cons (.c (.ptr (i := 0) (by simp))) (lend_free hf))
    (fun i p h => by simp [(one i k p h).1]) (fun i h => by
      have : i = 0 := by simpa using h
      subst this
      exact ⟨by decide, k, rfl, by rw [Blk.ren_free hk]; exact hs, Blk.in_free hk⟩) (fun i j h h' e => by
      simp at h h'
      rcases h with rfl | rfl <;> rcases h' with rfl | rfl <;> simp at e <;> first | rfl | exact absurd e hne | exact absurd e.symm hne) (fun j h => by
      have : j = 110 := by simpa using h
      subst this
      simpa using hid) (fun i p h => by
      simp only [two1] at h
      split at h
      · rename_i h0; subst h0; obtain rfl := Option.some.inj h; exact ⟨by simp, Blk.in_free hk'⟩
      · split at h
        · rename_i h0; subst h0; obtain rfl := Option.some.inj h; exact ⟨by simp, Blk.in_free hkn⟩
        · cases h) hr (fun i h => by simp at h) (.inl rfl) hAC
  rw [hr2] at this
  have e : ([0] ++ [110]).map (fun i => ((fun i => if i = 0 then id else idn : Nat → Nat) i, (two1 0 k' 110 kn i).map (Blk.ren (fun i => if i = 0 then id else idn)))) = [(id, some k'), (idn, some kn)] := by
    simp [two1, Blk.ren_free hk', Blk.ren_free hkn]
  rw [e] at this
  exact this

/-- A call without pointers that brings one new block. -/
theorem step_call0n {g : FuncId} {c : Call} {xs : List AV} {r r2 : FV} {idn : Nat} {kn : Blk} (ho : o.op = .call c) (hc : c.callee = .value (.func g)) (hcal : callable P g = true) (hg : guardVal ops st o = some true) (hd : dstOk n o.dst = true)
    (hx : evL st c.args.toList = some xs) (hid : st.u idn = false) (hf : xs.all AV.free = true) (hkn : kn.free = true) (hr : r.inIds [110] = true) (hr2 : r.ren (fun _ => idn) = r2)
    (hAC : AC P g xs none1 (fun r' σ' => r' = r ∧ σ' = one1 110 kn)) : Step P n ops o st ⟨some r2, [(idn, some kn)], [idn], []⟩ := by
  have := step_call (st := st) (P := P) (n := n) (ops := ops) (τ := none1) (τ' := one1 110 kn) (fun _ => idn) [] [110] [] ho hc hcal hg hd hx (lend_free hf)
    (fun i p h => by cases h) (fun i h => by simp at h) (fun i j h h' e => by
      simp at h h'; omega) (fun j h => hid) (fun i p h => by
      simp only [one1] at h
      split at h
      · rename_i h0; subst h0; obtain rfl := Option.some.inj h; exact ⟨by simp, Blk.in_free hkn⟩
      · cases h) hr (fun i h => by simp at h) (.inl rfl) hAC
  rw [hr2] at this
  have e : (([] : List Nat) ++ [110]).map (fun i => ((fun _ => idn : Nat → Nat) i, (one1 110 kn i).map (Blk.ren (fun _ => idn)))) = [(idn, some kn)] := by
    simp [one1, Blk.ren_free hkn]
  rw [e] at this
  exact this
end
end Go.Proofs.Ytbcjjenidkgodaa
