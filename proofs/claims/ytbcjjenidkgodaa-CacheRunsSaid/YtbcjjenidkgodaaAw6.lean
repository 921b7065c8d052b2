/- What single operations do: parts of slices, appends, values put together. -/
import Derived.Test.YtbcjjenidkgodaaAw5
namespace Go.Proofs.Ytbcjjenidkgodaa
open Go Go.RowKit

def bndV (st : St) (d : Int) : Option Operand → Option Int
  | none => some d
  | some q => match st.ev q with
    | some (.a (.c (.v (.int _ i)))) => some i
    | _ => none

def sliceV (e : Nat) (x : CV) (lo hi : Int) : Option CV := match x with
  | .v (.slice none 0 0) => if lo = 0 ∧ hi = 0 then some x else none
  | .ref id off len => if 0 ≤ lo ∧ lo ≤ hi ∧ hi ≤ len then some (.ref id (off + lo.toNat) (hi.toNat - lo.toNat)) else none
  | .lst e' rows => if 0 ≤ lo ∧ lo ≤ hi ∧ hi ≤ rows.length then some (.lst e' ((rows.drop lo.toNat).take (hi.toNat - lo.toNat))) else none
  | _ => none

section
variable {P : Program} {n : Nat} {ops : Array Oper} {o : Oper} {st : St} {J : Env} {φ : Nat → Option Loc} {S : Nat → Prop} {a : Act} {w : World}

theorem run_bnd {st2 : St} (hR : Rel J st2 φ S a w) {q : Option Operand} {d : Nat} {i : Int} (h : bndV st2 d q = some i) :
    (q = none ∧ i = d) ∨ ∃ p k, q = some p ∧ a.eval p = .int k i := by
  cases q with
  | none => simp only [bndV, Option.some.injEq] at h; exact .inl ⟨rfl, h.symm⟩
  | some p =>
    simp only [bndV] at h
    split at h
    · rename_i k j hj
      obtain rfl := Option.some.inj h
      exact .inr ⟨p, k, rfl, ev_x hR hj⟩
    · cases h

theorem run_sliceB {x : Value} {k : IntKind} {i : Int} {y : Nat} {c : BoundsCode} (hx : x = .int k i) (h0 : 0 ≤ i) (h1 : i ≤ y) : (Instr.sliceBound x y c).run P w = .ok i.toNat w := by
  subst hx
  unfold Instr.sliceBound
  simp only [asIntOf, Sem.run_bind, Sem.run_pure, Result.andThen_ok]
  rw [if_pos ⟨h0, h1⟩]; rfl

theorem sliceV_rep {e : Nat} {x z : CV} {lo hi : Int} {y : Value} {m : Nat} (h : Rep S w φ x y) (hz : sliceV e x lo hi = some z) (hsz : ∀ id off len, x = .ref id off len → ∃ l, φ id = some l ∧ l.sz = m)
    (hrow : ∀ e' rows, x = .lst e' rows → ∀ r ∈ rows, r.length = m) :
    ∃ A len c, y = .slice A len c ∧ 0 ≤ lo ∧ lo ≤ hi ∧ hi ≤ len ∧ len ≤ c ∧ Rep S w φ z (.slice (if c = lo.toNat then A else A.map (·.add (lo.toNat * m))) (hi.toNat - lo.toNat) (c - lo.toNat)) := by
  cases h with
  | v hp =>
    unfold sliceV at hz
    split at hz
    · rename_i h1
      simp only [CV.v.injEq] at h1
      subst h1
      split at hz
      · rename_i h2
        obtain ⟨rfl, rfl⟩ := h2
        obtain rfl := Option.some.inj hz
        exact ⟨none, 0, 0, rfl, by omega, by omega, by omega, by omega, .v rfl⟩
      · cases hz
    · rename_i h1; cases h1
    · rename_i h1; cases h1
    · cases hz
  | @ref _ id off len l h1 hn h2 h3 =>
    simp only [sliceV] at hz
    split at hz
    · rename_i hb
      obtain rfl := Option.some.inj hz
      obtain ⟨l2, hl2, rfl⟩ := hsz id off len rfl
      rw [h1] at hl2
      obtain rfl := Option.some.inj hl2
      refine ⟨_, _, _, rfl, hb.1, hb.2.1, hb.2.2, by omega, ?_⟩
      by_cases he : lo = hi
      · by_cases h0 : off + lo.toNat = 0
        · have hlo : lo = 0 := by omega
          have hof : off = 0 := by omega
          subst hlo; subst hof
          have := Rep.ref (S := S) (w := w) (off := 0) (len := hi.toNat - 0) h1 hn (by omega) h3
          simpa [Addr.add] using this
        · rw [he, Nat.sub_self]
          exact .refe h1 (by omega) (by omega)
      · rw [if_neg (by omega)]
        have := Rep.ref (S := S) (w := w) (off := off + lo.toNat) (len := hi.toNat - lo.toNat) h1 hn (by omega) h3
        rw [Nat.add_mul, show l.cap - (off + lo.toNat) = l.cap - off - lo.toNat by omega] at this
        simpa [addr_add2] using this
    · cases hz
  | @refn _ id l h1 hn =>
    simp only [sliceV] at hz
    split at hz
    · rename_i hb
      obtain rfl := Option.some.inj hz
      have h0 : lo = 0 := by omega
      have h4 : hi = 0 := by omega
      subst h0; subst h4
      exact ⟨none, 0, 0, rfl, by omega, by omega, by omega, by omega, .refn h1 hn⟩
    · cases hz
  | @refe _ id off l A c h1 h2 h3 =>
    simp only [sliceV] at hz
    split at hz
    · rename_i hb
      obtain rfl := Option.some.inj hz
      have h0 : lo = 0 := by omega
      have h4 : hi = 0 := by omega
      subst h0; subst h4
      exact ⟨_, _, _, rfl, by omega, by omega, by omega, by omega, .refe h1 (by omega) (by omega)⟩
    · cases hz
  | @nil _ e' A c hc =>
    simp only [sliceV, List.length_nil] at hz
    split at hz
    · rename_i hb
      obtain rfl := Option.some.inj hz
      have h0 : lo = 0 := by omega
      have h4 : hi = 0 := by omega
      subst h0; subst h4
      refine ⟨_, _, _, rfl, by omega, by omega, by omega, by omega, ?_⟩
      simp only [List.drop_nil, List.take_nil]
      exact .nil (by omega)
    · cases hz
  | @lst _ e' rows b o' c sz e1' C fz hS hh he0 hlen hc hr hex hrep =>
    simp only [sliceV] at hz
    split at hz
    · rename_i hb
      obtain rfl := Option.some.inj hz
      refine ⟨_, _, _, rfl, hb.1, hb.2.1, hb.2.2, hlen, ?_⟩
      have hl2 : ((rows.drop lo.toNat).take (hi.toNat - lo.toNat)).length = hi.toNat - lo.toNat := by simp; omega
      by_cases he : lo = hi
      · rw [he, Nat.sub_self, List.take_zero]
        exact .nil (by omega)
      · rw [if_neg (by omega)]
        have hr0 : ∃ r, rows[0]? = some r := ⟨_, List.getElem?_eq_getElem (by omega)⟩
        obtain ⟨r0, hr0⟩ := hr0
        have hszm : sz = m := by rw [← hr r0 (List.mem_of_getElem? hr0)]; exact hrow e' rows rfl r0 (List.mem_of_getElem? hr0)
        subst hszm
        have key : ∀ i r, ((rows.drop lo.toNat).take (hi.toNat - lo.toNat))[i]? = some r → rows[lo.toNat + i]? = some r := fun i r h => by
          rw [List.getElem?_take] at h
          split at h
          · rw [List.getElem?_drop] at h; exact h
          · cases h
        have idx : ∀ i j, o' + lo.toNat * sz + i * sz + j = o' + (lo.toNat + i) * sz + j := fun i j => by rw [Nat.add_mul]; omega
        have := Rep.lst (S := S) (w := w) (φ := φ) (e := e') (rows := (rows.drop lo.toNat).take (hi.toNat - lo.toNat)) (b := b) (o := o' + lo.toNat * sz) (c := c - lo.toNat) (sz := sz) (C := C) (fz := fz) hS hh he0 (by rw [hl2]; omega) (by omega)
          (fun r hrm => hr r (List.mem_of_mem_drop (List.mem_of_mem_take hrm)))
          (fun i r j x h1 h2 => by rw [idx]; exact hex _ r j x (key i r h1) h2) (fun i r j x y h1 h2 h3 => by rw [idx] at h3; exact hrep _ r j x y (key i r h1) h2 h3)
        rw [hl2] at this
        simpa [addr_add2] using this
    · cases hz
  | _ => cases hz

def refIds : CV → List Nat
  | .ref id _ _ => [id]
  | _ => []

def rowsLen (m : Nat) : CV → Bool
  | .lst _ rows => rows.all fun r => r.length == m
  | _ => true

theorem step_slice {t e : TypeId} {p : Operand} {ql qh : Option Operand} {m len : Nat} {ag : Bool} {x z : CV} {lo hi : Int} (ho : o.op = .slice t p ql qh none) (hg : guardVal ops st o = some true) (hd : dstOk n o.dst = true)
    (hp : st.ev p = some (.a (.c x))) (ht : elOf P t = some (e, m, ag)) (hlen : lenV x = some len) (hlo : bndV st 0 ql = some lo) (hhi : bndV st len qh = some hi) (hz : sliceV e x lo hi = some z)
    (hrow : rowsLen m x = true) (hsz : ∀ id off len, x = .ref id off len → ∃ kb, st.s id = some kb ∧ kb.sz = m) :
    Step P n ops o st ⟨some (.a (.c z)), [], [], refIds x⟩ := by
  refine step_value hg hd fun st2 hA J φ S a w hR => ?_
  have e1 : Rep S w φ x (a.eval p) := ev_rep hR ((hA.ev (by rw [ho]; simp [Op.operands])).trans hp)
  have bnd : ∀ (d : Int) q, (∀ p, q = some p → p ∈ o.op.operands.toList) → bndV st2 d q = bndV st d q := fun d q hq => by
    cases q with
    | none => rfl
    | some q => simp only [bndV]; rw [hA.ev (hq q rfl)]
  have hlo2 := run_bnd (d := 0) hR ((bnd 0 ql (fun q e => by subst e; rw [ho]; simp [Op.operands])).trans hlo)
  have hhi2 := run_bnd (d := len) hR ((bnd len qh (fun q e => by subst e; rw [ho]; simp [Op.operands])).trans hhi)
  obtain ⟨h1, h2, h3⟩ := run_elem ht
  obtain ⟨A', c', hy', _⟩ := lenV_rep e1 hlen
  obtain ⟨A, ln, c, hy, g1, g2, g3, g4, hr⟩ := sliceV_rep (m := m) e1 hz (fun id off ln e => by
    obtain ⟨kb, hkb, hm⟩ := hsz id off ln e
    obtain ⟨l, hl, hb⟩ := hR.sto.at_ id kb ((hA.s id (by subst e; simp [refIds])).trans hkb)
    exact ⟨l, hl, hb.1.trans hm⟩) (fun e' rows e r hr => by subst e; simpa using List.all_eq_true.1 hrow r hr)
  rw [hy] at hy'
  simp only [Value.slice.injEq] at hy'
  obtain ⟨rfl, rfl, rfl⟩ := hy'
  refine ⟨_, ?_, hr⟩
  unfold execOp
  simp only [ho, hy]
  have hb : (Instr.sliceBounds true ln c (ql.map a.eval) (qh.map a.eval) none).run P w = .ok (lo.toNat, hi.toNat, c) w := by
    unfold Instr.sliceBounds
    rcases hhi2 with ⟨rfl, rfl⟩ | ⟨q, k, rfl, hq⟩
    · rcases hlo2 with ⟨rfl, h0⟩ | ⟨q', k', rfl, hq'⟩
      · have h0' : lo = 0 := by simpa using h0
        subst h0'
        simp only [Option.map_none, Sem.run_bind, Sem.run_pure, Result.andThen_ok]
        rfl
      · simp only [Option.map_none, Option.map_some, Sem.run_bind, Sem.run_pure, Result.andThen_ok]
        rw [run_sliceB hq' (by omega) (by omega)]
        simp
    · rcases hlo2 with ⟨rfl, h0⟩ | ⟨q', k', rfl, hq'⟩
      · have h0' : lo = 0 := by simpa using h0
        subst h0'
        simp only [Option.map_none, Option.map_some, Sem.run_bind, Sem.run_pure, Result.andThen_ok]
        rw [run_sliceB hq (by omega) (by omega)]
        simp
      · simp only [Option.map_some, Sem.run_bind, Sem.run_pure, Result.andThen_ok]
        rw [run_sliceB hq (by omega) (by omega)]
        simp only [Result.andThen_ok]
        rw [run_sliceB hq' (by omega) (by omega)]
        simp
  have : (Instr.sliceAt t (.slice A ln c) (ql.map a.eval) (qh.map a.eval) (Option.map a.eval none)).run P w = .ok (.slice (if c = lo.toNat then A else A.map (·.add (lo.toNat * m))) (hi.toNat - lo.toNat) (c - lo.toNat)) w := by
    unfold Instr.sliceAt Instr.slice
    simp only [Sem.run_bind, run_underlying h1, Result.andThen_ok, Option.map_none, hb, run_sizeOf h2, Sem.run_pure]
  rw [Sem.run_bind, this]; rfl

def isNilS : Value → Bool
  | .slice none 0 0 => true
  | _ => false
theorem nilS {x : Value} (h : isNilS x = true) : x = .slice none 0 0 := by
  unfold isNilS at h
  split at h
  · rfl
  · cases h

/-- What a slice reads as, row by row. -/
def rowsOf (st : St) : CV → Option (List (List CV))
  | .v x => if isNilS x then some [] else none
  | .lst _ rows => some rows
  | .ref id off len => match st.s id with
    | some k => if off + len ≤ k.rows.length then some ((k.rows.drop off).take len) else none
    | none => none
  | _ => none

def All3 (S : Nat → Prop) (w : World) (φ : Nat → Option Loc) (m : Nat) (rows : List (List CV)) (vals : List Value) : Prop :=
  vals.length = rows.length * m ∧ ∀ i r j x, rows[i]? = some r → r[j]? = some x → ∃ v, vals[i * m + j]? = some v ∧ Rep S w φ x v

theorem vals_of {m : Nat} {rows : List (List CV)} {b o' : Nat} (hr : ∀ r ∈ rows, r.length = m)
    (hc : ∀ i r j x, rows[i]? = some r → r[j]? = some x → ∃ v, w.cell? ⟨b, o' + i * m + j, none⟩ = some v ∧ Rep S w φ x v) :
    ∃ vals, All3 S w φ m rows vals ∧ (∀ j u, vals[j]? = some u → w.cell? ((⟨b, o', none⟩ : Addr).add j) = some u) ∧ ∀ u ∈ vals, u.oneCell' = true := by
  have pos : ∀ q, q < rows.length * m → ∃ i r j x, rows[i]? = some r ∧ r[j]? = some x ∧ q = i * m + j := fun q hq => by
    have hm : 0 < m := Nat.pos_of_ne_zero (fun e => by subst e; simp at hq)
    have h1 : q / m < rows.length := Nat.div_lt_of_lt_mul (by rw [Nat.mul_comm]; exact hq)
    have h2 : q % m < (rows[q / m]'h1).length := by rw [hr _ (List.getElem_mem h1)]; exact Nat.mod_lt _ hm
    exact ⟨q / m, _, q % m, _, List.getElem?_eq_getElem h1, List.getElem?_eq_getElem h2, by rw [Nat.mul_comm]; exact (Nat.div_add_mod q m).symm⟩
  refine ⟨(List.range (rows.length * m)).map fun q => (w.cell? ⟨b, o' + q, none⟩).getD undef, ⟨by simp, fun i r j x h1 h2 => ?_⟩, fun j u h => ?_, fun u hu => ?_⟩
  · obtain ⟨v, hv, hx⟩ := hc i r j x h1 h2
    have hlt : i * m + j < rows.length * m := by
      have h3 : i < rows.length := (List.getElem?_eq_some_iff.1 h1).1
      have h4 : j < m := by rw [← hr r (List.mem_of_getElem? h1)]; exact (List.getElem?_eq_some_iff.1 h2).1
      have : (i + 1) * m ≤ rows.length * m := Nat.mul_le_mul_right _ h3
      rw [Nat.add_mul] at this; omega
    refine ⟨v, ?_, hx⟩
    rw [List.getElem?_map, List.getElem?_range hlt]
    simp only [Option.map_some, ← Nat.add_assoc, hv, Option.getD_some]
  · rw [List.getElem?_map] at h
    obtain ⟨q, hq, rfl⟩ := Option.map_eq_some_iff.1 h
    have hjl := (List.getElem?_eq_some_iff.1 hq).1
    rw [List.getElem?_eq_getElem hjl] at hq
    simp only [List.getElem_range, Option.some.injEq] at hq
    subst hq
    obtain ⟨i, r, k, x, h1, h2, h3⟩ := pos j (by simpa using hjl)
    obtain ⟨v, hv, _⟩ := hc i r k x h1 h2
    rw [addr_add2, h3, ← Nat.add_assoc, hv]
    rfl
  · obtain ⟨q, hq, rfl⟩ := List.mem_map.1 hu
    obtain ⟨i, r, k, x, h1, h2, h3⟩ := pos q (by simpa using hq)
    obtain ⟨v, hv, hx⟩ := hc i r k x h1 h2
    rw [h3, ← Nat.add_assoc, hv]
    exact hx.one

theorem rowsOf_rep {st2 : St} (hR : Rel J st2 φ S a w) {x : CV} {y : Value} {rows : List (List CV)} {m : Nat} (h : Rep S w φ x y) (hx : rowsOf st2 x = some rows) (hm : ∀ r ∈ rows, r.length = m) :
    ∃ A c, y = .slice A rows.length c ∧ rows.length ≤ c ∧ (rows ≠ [] → ∃ b o', A = some ⟨b, o', none⟩ ∧ ∀ i r j x, rows[i]? = some r → r[j]? = some x → ∃ v, w.cell? ⟨b, o' + i * m + j, none⟩ = some v ∧ Rep S w φ x v) := by
  cases h with
  | v hp =>
    simp only [rowsOf] at hx
    split at hx
    · rename_i h; obtain rfl := nilS h; obtain rfl := Option.some.inj hx; exact ⟨none, 0, rfl, by simp, fun h => absurd rfl h⟩
    · cases hx
  | @ref _ id off len l hl hn hc hcm =>
    simp only [rowsOf] at hx
    split at hx
    · rename_i k hk
      split at hx
      · rename_i hle
        obtain rfl := Option.some.inj hx
        have hln : ((k.rows.drop off).take len).length = len := by simp; omega
        rw [hln]
        refine ⟨_, _, rfl, by omega, fun hne => ?_⟩
        obtain ⟨l2, hl2, hb⟩ := hR.sto.at_ id k hk
        rw [hl] at hl2
        obtain rfl := Option.some.inj hl2
        obtain ⟨r0, hr0⟩ : ∃ r0, k.rows[off]? = some r0 := ⟨_, List.getElem?_eq_getElem (by
          have : 0 < ((k.rows.drop off).take len).length := List.length_pos_iff.2 hne
          omega)⟩
        obtain ⟨_, hS, C, hb⟩ := hb.there hr0
        have hszm : k.sz = m := by
          rw [← hb.row r0 (List.mem_of_getElem? hr0)]
          refine hm r0 (List.mem_of_getElem? (i := 0) ?_)
          have : 0 < ((k.rows.drop off).take len).length := List.length_pos_iff.2 hne
          rw [List.getElem?_take_of_lt (by omega), List.getElem?_drop]; exact hr0
        refine ⟨_, _, rfl, fun i r j x h1 h2 => ?_⟩
        rw [List.getElem?_take] at h1
        split at h1
        · rw [List.getElem?_drop] at h1
          obtain ⟨v, hv, hx⟩ := blk_cell hb h1 j x h2
          refine ⟨v, ?_, hx⟩
          rw [← hv, hb.sz, ← hszm, Nat.add_mul]
        · cases h1
      · cases hx
    · cases hx
  | @refn _ id l hl hn =>
    simp only [rowsOf] at hx
    split at hx
    · split at hx
      · obtain rfl := Option.some.inj hx
        exact ⟨none, 0, by simp, by simp, fun h => absurd (by simp) h⟩
      · cases hx
    · cases hx
  | @refe _ id off l A c hl h0 hc =>
    simp only [rowsOf] at hx
    split at hx
    · split at hx
      · obtain rfl := Option.some.inj hx
        exact ⟨A, c, by simp, by simp, fun h => absurd (by simp) h⟩
      · cases hx
    · cases hx
  | nil h => obtain rfl := Option.some.inj hx; exact ⟨_, _, rfl, by simp, fun h => absurd rfl h⟩
  | @lst _ e' rows b o' c sz e1' C fz hS hh he0 hlen hc hr hex hrep =>
    obtain rfl := Option.some.inj hx
    refine ⟨_, _, rfl, hlen, fun hne => ?_⟩
    obtain ⟨r0, hr0⟩ : ∃ r0, rows[0]? = some r0 := ⟨_, List.getElem?_eq_getElem (List.length_pos_iff.2 hne)⟩
    have hszm : sz = m := by rw [← hr r0 (List.mem_of_getElem? hr0)]; exact hm r0 (List.mem_of_getElem? hr0)
    subst hszm
    refine ⟨_, _, rfl, fun i r j x h1 h2 => ?_⟩
    obtain ⟨v, hv⟩ := hex i r j x h1 h2
    exact ⟨v, (cell_of_row w b _ C e1' fz hh).trans hv, (hrep i r j x v h1 h2 hv).mono (fun _ _ h => by cases h) (fun _ h => h) (fun _ _ _ => rfl)⟩
  | _ => cases hx
end
end Go.Proofs.Ytbcjjenidkgodaa
