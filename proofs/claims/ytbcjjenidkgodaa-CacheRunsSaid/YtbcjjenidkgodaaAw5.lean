/- What single operations do: reading memory, addresses, slices. -/
import Derived.Test.YtbcjjenidkgodaaAw4
namespace Go.Proofs.Ytbcjjenidkgodaa
open Go Go.RowKit

section
variable {P : Program} {n : Nat} {ops : Array Oper} {o : Oper} {st : St} {J : Env} {φ : Nat → Option Loc} {S : Nat → Prop} {a : Act} {w : World}

/-- What m cells at an offset of a row read as. -/
def readRow (r : List CV) (off m : Nat) (agg : Bool) : Option FV :=
  if agg then (if off + m ≤ r.length then some (.a (.agg ((r.drop off).take m))) else none) else (r[off]?).map fun x => .a (.c x)

theorem run_loadAt {t : TypeId} {b o m : Nat} {ag : Bool} {r : List CV} {off : Nat} {x : FV} (ht : szOf P t = some m) (hg : aggP P t = some ag) (hx : readRow r off m ag = some x)
    (hc : ∀ j c, r[j]? = some c → ∃ y, w.cell? ⟨b, o + j, none⟩ = some y ∧ Rep S w φ c y) :
    ∃ y, (Instr.loadAt t (.pointer (some ⟨b, o + off, none⟩))).run P w = .ok y w ∧ RepF S w φ x y := by
  unfold readRow at hx
  cases ag with
  | false =>
    simp only [Bool.false_eq_true, if_false] at hx
    obtain ⟨c, hcr, rfl⟩ := Option.map_eq_some_iff.1 hx
    obtain ⟨y, hy, hr⟩ := hc off c hcr
    refine ⟨y, ?_, hr⟩
    simp only [Instr.loadAt, Instr.sureAddr, loadVar, Sem.run_bind, Sem.run_pure, Result.andThen_ok, run_isAgg hg]
    simp [run_load, hy]
  | true =>
    simp only [if_true] at hx
    split at hx
    · rename_i hl
      obtain rfl := Option.some.inj hx
      have hv : ∀ j : Nat, ∃ y, ∀ c, ((r.drop off).take m)[j]? = some c → w.cell? ((⟨b, o + off, none⟩ : Addr).add j) = some y ∧ Rep S w φ c y := fun j => by
        by_cases hj : j < m
        · rw [List.getElem?_take_of_lt hj, List.getElem?_drop]
          obtain ⟨y, hy, hr⟩ := hc (off + j) _ (List.getElem?_eq_getElem (by omega))
          refine ⟨y, fun c h => ?_⟩
          rw [List.getElem?_eq_getElem (by omega)] at h
          obtain rfl := Option.some.inj h
          rw [addr_add2, Nat.add_assoc]
          exact ⟨hy, hr⟩
        · exact ⟨undef, fun c h => by rw [List.getElem?_eq_none (by simp; omega)] at h; cases h⟩
      obtain ⟨f, hf⟩ := Classical.axiomOfChoice hv
      have hml : ((r.drop off).take m).length = m := by simp; omega
      have hrun := run_loadCells (P := P) w ⟨b, o + off, none⟩ m f (fun j hj => (hf j _ (List.getElem?_eq_getElem (by omega))).1)
      refine ⟨.agg ((List.range m).map f).toArray, ?_, ((List.range m).map f), rfl, by simp [hml], fun j c y hcj hyj => ?_⟩
      · simp only [Instr.loadAt, Instr.sureAddr, loadVar, Sem.run_bind, Sem.run_pure, Result.andThen_ok, run_isAgg hg, if_true, run_sizeOf ht, hrun]
      · rw [List.getElem?_map] at hyj
        obtain ⟨k, hk, rfl⟩ := Option.map_eq_some_iff.1 hyj
        have hjm : j < m := by rw [← hml]; exact (List.getElem?_eq_some_iff.1 hcj).1
        rw [List.getElem?_range hjm] at hk
        obtain rfl := Option.some.inj hk
        exact (hf _ c hcj).2
    · cases hx

theorem blk_cell {l : Loc} {k : Blk} {C : Array Value} (hb : BlkAt S w φ l k C) {row : Nat} {r : List CV} (hr : k.rows[row]? = some r) : ∀ j c, r[j]? = some c → ∃ y, w.cell? ⟨l.b, row * k.sz + j, none⟩ = some y ∧ Rep S w φ c y := fun j c h => by
  obtain ⟨y, hy, h2⟩ := hb.cell row r j c hr h
  exact ⟨y, (cell_of_row w l.b _ C k.e (0, 0) hb.heap).trans hy, h2⟩

/-- Reading an own block. -/
theorem step_load {t : TypeId} {p : Operand} {id row off m : Nat} {ag : Bool} {k : Blk} {r : List CV} {x : FV} (ho : o.op = .load t p) (hg : guardVal ops st o = some true) (hd : dstOk n o.dst = true)
    (hp : st.ev p = some (.a (.c (.ptr id row off)))) (hm : szOf P t = some m) (ha : aggP P t = some ag) (hk : st.s id = some k) (hr : k.rows[row]? = some r) (hx : readRow r off m ag = some x) : Step P n ops o st ⟨some x, [], [], [id]⟩ := by
  refine step_value hg hd fun st2 hA J φ S a w hR => ?_
  have e1 : Rep S w φ (.ptr id row off) (a.eval p) := ev_rep hR ((hA.ev (by rw [ho]; simp [Op.operands])).trans hp)
  obtain ⟨l, hl, hbi⟩ := hR.sto.at_ id k ((hA.s id (by simp)).trans hk)
  obtain ⟨hnl, hS, C, hb⟩ := hbi.there hr
  have ea : a.eval p = .pointer (some ⟨l.b, row * k.sz + off, none⟩) := by
    generalize a.eval p = y at e1
    cases e1 with
    | ptr h => rw [hl] at h; obtain rfl := Option.some.inj h; rw [hb.sz]
  obtain ⟨y, h1, h2⟩ := run_loadAt hm ha hx (blk_cell hb hr)
  refine ⟨y, ?_, h2⟩
  unfold execOp
  simp only [ho, ea]
  rw [Sem.run_bind, h1]; rfl

/-- Reading a row that no one changes. -/
theorem step_loadRow {t : TypeId} {p : Operand} {e off m : Nat} {ag : Bool} {r : List CV} {x : FV} (ho : o.op = .load t p) (hg : guardVal ops st o = some true) (hd : dstOk n o.dst = true)
    (hp : st.ev p = some (.a (.c (.rowp e r off)))) (hm : szOf P t = some m) (ha : aggP P t = some ag) (hx : readRow r off m ag = some x) : Step P n ops o st ⟨some x, [], [], []⟩ := by
  refine step_value hg hd fun st2 hA J φ S a w hR => ?_
  have e1 : Rep S w φ (.rowp e r off) (a.eval p) := ev_rep hR ((hA.ev (by rw [ho]; simp [Op.operands])).trans hp)
  generalize hy : a.eval p = y at e1
  cases e1 with
  | @rowp _ _ _ b o' _ e1' C fz hS hh hc hr =>
    obtain ⟨y, h1, h2⟩ := run_loadAt (P := P) (S := S) (φ := φ) (b := b) (o := o') hm ha hx (fun j c h => by
      obtain ⟨y, hy⟩ := hc j c h
      exact ⟨y, (cell_of_row w b _ C e1' fz hh).trans hy, (hr j c y h hy).mono (fun _ _ h => by cases h) (fun _ h => h) (fun _ _ _ => rfl)⟩)
    refine ⟨y, ?_, h2⟩
    unfold execOp
    simp only [ho, hy]
    rw [Sem.run_bind, h1]; rfl

def addOff (x : CV) (d : Nat) : Option CV := match x with
  | .ptr id row off => some (.ptr id row (off + d))
  | .rowp e r off => some (.rowp e r (off + d))
  | _ => none

theorem addOff_rep {x z : CV} {d : Nat} {y : Value} (h : Rep S w φ x y) (hz : addOff x d = some z) : ∃ b o, y = .pointer (some ⟨b, o, none⟩) ∧ Rep S w φ z (.pointer (some ⟨b, o + d, none⟩)) := by
  cases h with
  | ptr h => obtain rfl := Option.some.inj hz; exact ⟨_, _, rfl, by rw [Nat.add_assoc]; exact .ptr h⟩
  | rowp h1 h2 h3 h4 => obtain rfl := Option.some.inj hz; exact ⟨_, _, rfl, by rw [Nat.add_assoc]; exact .rowp h1 h2 h3 h4⟩
  | _ => cases hz

theorem run_struct {s : TypeId} {f off m : Nat} {ag : Bool} (h : fldOf P s f = some (off, m, ag)) : ∃ fs fd, P.underlying s = some (.struct fs) ∧ fs[f]? = some fd ∧ fd.offset = off ∧ szOf P fd.type = some m ∧ aggP P fd.type = some ag := by
  unfold fldOf at h
  split at h
  · rename_i fs hfs
    obtain ⟨fd, hfd, h2⟩ := Option.bind_eq_some_iff.1 h
    split at h2
    · rename_i m' b' h3 h4
      simp only [Option.some.injEq, Prod.mk.injEq] at h2
      obtain ⟨rfl, rfl, rfl⟩ := h2
      exact ⟨fs, fd, hfs, hfd, rfl, h3, h4⟩
    · cases h2
  · cases h

theorem step_fieldAddr {s : TypeId} {p : Operand} {f off m : Nat} {ag : Bool} {x z : CV} (ho : o.op = .fieldAddr s p f) (hg : guardVal ops st o = some true) (hd : dstOk n o.dst = true)
    (hp : st.ev p = some (.a (.c x))) (hf : fldOf P s f = some (off, m, ag)) (hm : 0 < m) (hz : addOff x off = some z) : Step P n ops o st ⟨some (.a (.c z)), [], [], []⟩ := by
  refine step_value hg hd fun st2 hA J φ S a w hR => ?_
  have e1 : Rep S w φ x (a.eval p) := ev_rep hR ((hA.ev (by rw [ho]; simp [Op.operands])).trans hp)
  obtain ⟨b, o', hy, hr⟩ := addOff_rep e1 hz
  obtain ⟨fs, fd, h1, h2, h3, h4, h5⟩ := run_struct hf
  refine ⟨_, ?_, hr⟩
  unfold execOp
  simp only [ho, hy]
  have : (Instr.fieldAt s (.pointer (some ⟨b, o', none⟩)) f).run P w = .ok (.pointer (some ⟨b, o' + off, none⟩)) w := by
    unfold Instr.fieldAt
    simp only [Sem.run_bind, run_underlying h1, Result.andThen_ok, h2, Instr.sureAddr, Sem.run_pure, fieldPlace, run_sizeOf h4]
    rw [if_neg (by omega)]
    simp only [Sem.run_pure, Result.andThen_ok, addr_add2, h3]
  rw [Sem.run_bind, this]; rfl

theorem run_elem {t e : TypeId} {m : Nat} {ag : Bool} (h : elOf P t = some (e, m, ag)) : P.underlying t = some (.slice e) ∧ szOf P e = some m ∧ aggP P e = some ag := by
  unfold elOf at h
  split at h
  · rename_i e' he
    split at h
    · rename_i m' b' h3 h4
      simp only [Option.some.injEq, Prod.mk.injEq] at h
      obtain ⟨rfl, rfl, rfl⟩ := h
      exact ⟨he, h3, h4⟩
    · cases h
  · cases h
theorem run_array {t e : TypeId} {len m : Nat} {ag : Bool} (h : arOf P t = some (len, e, m, ag)) : P.underlying t = some (.array len e) ∧ szOf P e = some m ∧ aggP P e = some ag := by
  unfold arOf at h
  split at h
  · rename_i len' e' he
    split at h
    · rename_i m' b' h3 h4
      simp only [Option.some.injEq, Prod.mk.injEq] at h
      obtain ⟨rfl, rfl, rfl, rfl⟩ := h
      exact ⟨he, h3, h4⟩
    · cases h
  · cases h

/-- The address of a slice's element. -/
def elemAt (x : CV) (i : Int) (m : Nat) : Option CV := match x with
  | .ref id off len => if 0 ≤ i ∧ i < len then some (.ptr id (off + i.toNat) 0) else none
  | .lst e rows => if 0 ≤ i then (match rows[i.toNat]? with
    | some r => if r.length = m then some (.rowp e r 0) else none
    | none => none) else none
  | _ => none

theorem step_indexAddr {t e : TypeId} {p q : Operand} {m : Nat} {ag : Bool} {x z : CV} {k : IntKind} {i : Int} (ho : o.op = .indexAddr t p q) (hg : guardVal ops st o = some true) (hd : dstOk n o.dst = true)
    (hp : st.ev p = some (.a (.c x))) (hq : st.ev q = some (.x (.int k i))) (ht : elOf P t = some (e, m, ag)) (hz : elemAt x i m = some z) (hsz : ∀ id off len, x = .ref id off len → ∃ kb, st.s id = some kb ∧ kb.sz = m) :
    Step P n ops o st ⟨some (.a (.c z)), [], [], (match x with | .ref id _ _ => [id] | _ => [])⟩ := by
  refine step_value hg hd fun st2 hA J φ S a w hR => ?_
  have e1 : Rep S w φ x (a.eval p) := ev_rep hR ((hA.ev (by rw [ho]; simp [Op.operands])).trans hp)
  have e2 : a.eval q = .int k i := ev_x hR ((hA.ev (by rw [ho]; simp [Op.operands])).trans hq)
  obtain ⟨h1, h2, h3⟩ := run_elem ht
  have run : ∀ (A : Addr) (len c : Nat), 0 ≤ i → i < len → (Instr.indexAt t (.slice (some A) len c) (.int k i)).run P w = .ok (.pointer (some (A.add (i.toNat * m)))) w := fun A len c g0 g1 => by
    unfold Instr.indexAt
    simp only [asIntOf, Sem.run_bind, Sem.run_pure, Result.andThen_ok, run_underlying h1]
    rw [if_pos ⟨g0, g1⟩]
    simp only [Sem.run_bind, run_sizeOf h2, Result.andThen_ok, Sem.run_pure]
  unfold execOp
  simp only [ho, e2]
  generalize a.eval p = y at e1
  cases e1 with
  | @ref _ id off len l hl hnl hc hcm =>
    simp only [elemAt] at hz
    split at hz
    · rename_i hi
      obtain rfl := Option.some.inj hz
      obtain ⟨kb, hkb, rfl⟩ := hsz id off len rfl
      obtain ⟨l2, hl2, hb⟩ := hR.sto.at_ id kb ((hA.s id (by simp)).trans hkb)
      rw [hl] at hl2
      obtain rfl := Option.some.inj hl2
      refine ⟨_, by rw [Sem.run_bind, run _ _ _ hi.1 hi.2]; rfl, ?_⟩
      rw [addr_add2]
      have := Rep.ptr (S := S) (w := w) (row := off + i.toNat) (off := 0) hl
      rw [Nat.add_mul, Nat.add_zero, hb.1] at this
      rw [hb.1]
      exact this
    · cases hz
  | @lst _ e' rows b o' c sz e1' C fz hS hh he hlen hc hrow hex hrep =>
    simp only [elemAt] at hz
    split at hz
    · rename_i h0
      split at hz
      · rename_i r hr
        split at hz
        · rename_i hrl
          obtain rfl := Option.some.inj hz
          have hlt := (List.getElem?_eq_some_iff.1 hr).1
          have hs : sz = m := by rw [← hrl]; exact (hrow r (List.mem_of_getElem? hr)).symm
          subst hs
          refine ⟨_, by rw [Sem.run_bind, run _ _ _ h0 (by omega)]; rfl, ?_⟩
          rw [addr_add2]
          have := Rep.rowp (S := S) (w := w) (φ := φ) (k := 0) (o := o' + i.toNat * sz) (e := e') hS hh (fun j x hx => by obtain ⟨y, hy⟩ := hex _ r j x hr hx; exact ⟨y, hy⟩) (fun j x y hx hy => hrep _ r j x y hr hx hy)
          exact this
        · cases hz
      · cases hz
    · cases hz
  | nil h =>
    simp [elemAt] at hz
  | refn h =>
    simp only [elemAt] at hz
    rw [if_neg (by omega)] at hz
    cases hz
  | refe h =>
    simp only [elemAt] at hz
    rw [if_neg (by omega)] at hz
    cases hz
  | _ => cases hz

/-- The length of a slice. -/
def lenV : CV → Option Nat
  | .v (.slice none 0 0) => some 0
  | .ref _ _ len => some len
  | .lst _ rows => some rows.length
  | _ => none

theorem lenV_rep {x : CV} {m : Nat} {y : Value} (h : Rep S w φ x y) (hm : lenV x = some m) : ∃ A c, y = .slice A m c ∧ m ≤ c ∧ c ≤ 9223372036854775807 := by
  cases h with
  | v hp =>
    unfold lenV at hm
    split at hm
    · rename_i h; simp only [CV.v.injEq] at h; subst h; obtain rfl := Option.some.inj hm; exact ⟨none, 0, rfl, by omega, by omega⟩
    · rename_i h; cases h
    · rename_i h; cases h
    · cases hm
  | ref h1 hn h2 h3 => obtain rfl := Option.some.inj hm; exact ⟨_, _, rfl, by omega, by omega⟩
  | refn h1 h2 => obtain rfl := Option.some.inj hm; exact ⟨none, 0, rfl, by omega, by omega⟩
  | refe h1 h2 h3 => obtain rfl := Option.some.inj hm; exact ⟨_, _, rfl, by omega, h3⟩
  | nil h => obtain rfl := Option.some.inj hm; exact ⟨_, _, rfl, by simp, h⟩
  | lst _ _ _ h3 h4 => obtain rfl := Option.some.inj hm; exact ⟨_, _, rfl, h3, h4⟩
  | _ => cases hm

theorem step_len {p : Operand} {t : TypeId} {x : CV} {m : Nat} (ho : o.op = .call { callee := .builtin .len, args := #[p], argTypes := #[t] }) (hg : guardVal ops st o = some true) (hd : dstOk n o.dst = true)
    (hp : st.ev p = some (.a (.c x))) (ht : (elOf P t).isSome = true) (hm : lenV x = some m) : Step P n ops o st ⟨some (.i m), [], [], []⟩ := by
  refine step_value hg hd fun st2 hA J φ S a w hR => ⟨.int .i64 m, ?_, Rep.v rfl⟩
  have e1 : Rep S w φ x (a.eval p) := ev_rep hR ((hA.ev (by rw [ho]; simp [Op.operands, Call.operands])).trans hp)
  obtain ⟨A, c, e2, _⟩ := lenV_rep e1 hm
  obtain ⟨⟨e, q, b⟩, he⟩ := Option.isSome_iff_exists.1 ht
  have hu := (run_elem he).1
  unfold execOp
  simp [ho, resolve, invoke, builtin, Builtin.len_, e2, run_underlying hu, goInt]
end
end Go.Proofs.Ytbcjjenidkgodaa
