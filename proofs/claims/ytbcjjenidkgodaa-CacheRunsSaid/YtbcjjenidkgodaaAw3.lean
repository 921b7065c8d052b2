/- What single operations do: numbers, tests, moves, parts. -/
import Derived.Test.YtbcjjenidkgodaaAw2
namespace Go.Proofs.Ytbcjjenidkgodaa
open Go Go.RowKit

abbrev FV.x (v : Value) : FV := .a (.c (.v v))
abbrev FV.i (n : Int) : FV := .a (.c (.v (.int .i64 n)))
abbrev FV.b (b : Bool) : FV := .a (.c (.v (.bool b)))

def constV : Value → Option FV
  | .agg cs => if cs.toList.all plain then some (.a (.agg (cs.toList.map .v))) else none
  | x => if plain x then some (.x x) else none
def St.ev (st : St) : Operand → Option FV
  | .tmp t => st.f t
  | .const x => constV x
  | _ => none

def guardVal (ops : Array Oper) (st : St) (o : Oper) : Option Bool :=
  match o.guard with
  | none => some true
  | some (g, want) => match (ops[g]?).bind (·.dst) with
    | none => none
    | some t => match st.f t with
      | some (.a (.c (.v (.bool b)))) => some (b == want)
      | _ => none

section
variable {P : Program} {n : Nat} {ops : Array Oper} {o : Oper} {st : St} {J : Env} {φ : Nat → Option Loc} {S : Nat → Prop} {a : Act} {w : World}

theorem repF_x {x y : Value} (h : RepF S w φ (.x x) y) : y = x := by cases h; rfl

theorem constV_rep {v : Value} {x : FV} (h : constV v = some x) : RepF S w φ x v := by
  unfold constV at h
  split at h
  · rename_i cs
    split at h
    · rename_i hp
      obtain rfl := Option.some.inj h
      refine ⟨cs.toList, by simp, by simp, fun j x y hx hy => ?_⟩
      rw [List.getElem?_map, hy] at hx
      simp only [Option.map_some, Option.some.injEq] at hx
      subst hx
      exact .v (List.all_eq_true.1 hp y (List.mem_of_getElem? hy))
    · cases h
  · split at h
    · rename_i hp
      obtain rfl := Option.some.inj h
      exact Rep.v hp
    · cases h

theorem ev_rep (hR : Rel J st φ S a w) {p : Operand} {x : FV} (h : st.ev p = some x) : RepF S w φ x (a.eval p) := by
  cases p with
  | tmp t => exact hR.fr t x h
  | const v => exact constV_rep h
  | global g => cases h
  | func f => cases h

theorem ev_x (hR : Rel J st φ S a w) {p : Operand} {x : Value} (h : st.ev p = some (.x x)) : a.eval p = x := repF_x (ev_rep hR h)

theorem Agree.ev {e : Eff} {st2 : St} (h : Agree ops o e st st2) {p : Operand} (hp : p ∈ o.op.operands.toList) : st2.ev p = st.ev p := by
  cases p with
  | tmp t => exact h.f t (List.mem_append.2 (.inl (List.mem_filterMap.2 ⟨.tmp t, hp, rfl⟩)))
  | _ => rfl

theorem getD_bool {t : Array Value} {i : Nat} {b : Bool} (h : t.getD i undef = .bool b) : t[i]? = some (.bool b) := by
  rw [Array.getD_eq_getD_getElem?] at h
  cases hx : t[i]? with
  | none => rw [hx] at h; cases h
  | some v => rw [hx] at h; exact congrArg some h

theorem Agree.guard {e : Eff} {st2 : St} (h : Agree ops o e st st2) : guardVal ops st2 o = guardVal ops st o := by
  unfold guardVal
  cases hg : o.guard with
  | none => rfl
  | some p =>
    obtain ⟨g, want⟩ := p
    simp only []
    cases hd : (ops[g]?).bind (·.dst) with
    | none => rfl
    | some t =>
      simp only []
      rw [h.f t (List.mem_append.2 (.inr (by rw [hg]; simp [hd])))]

theorem guard_wanted (hR : Rel J st φ S a w) {b : Bool} (h : guardVal ops st o = some b) : Region.wanted o (yielded ops a.tmps) = b := by
  unfold guardVal at h
  unfold Region.wanted
  cases hg : o.guard with
  | none => rw [hg] at h; simpa using h
  | some p =>
    obtain ⟨g, want⟩ := p
    rw [hg] at h
    simp only [] at h ⊢
    cases hd : (ops[g]?).bind (·.dst) with
    | none => rw [hd] at h; cases h
    | some t =>
      rw [hd] at h
      simp only [] at h
      split at h
      · rename_i c hc
        have := getD_bool (repF_x (hR.fr t _ hc))
        unfold yielded
        rw [hd]
        simp only [Option.bind_some, this]
        have h' := Option.some.inj h
        rw [← h']
        cases c <;> cases want <;> rfl
      · cases h

def dstOk (n : Nat) : Option Nat → Bool
  | none => true
  | some d => decide (d < n)

theorem put_fr {f : Nat → Option FV} {d : Option Nat} {x : Option FV} {y : Value} (hn : dstOk a.tmps.size d = true) (hf : ∀ t x, f t = some x → RepF S w φ x (a.tmps.getD t undef)) (hx : ∀ x', x = some x' → RepF S w φ x' y) :
    ∀ t x', updF f d x t = some x' → RepF S w φ x' ((a.put d y).tmps.getD t undef) := by
  intro t x' h
  cases d with
  | none => exact hf t x' h
  | some d =>
    simp only [updF] at h
    simp only [Act.put]
    by_cases ht : t = d
    · subst ht
      rw [if_pos rfl] at h
      have hlt : t < a.tmps.size := by simpa [dstOk] using hn
      rw [Array.getD_eq_getD_getElem?, Array.getElem?_setIfInBounds_self_of_lt hlt]
      exact hx _ h
    · rw [if_neg ht] at h
      rw [Array.getD_eq_getD_getElem?, Array.getElem?_setIfInBounds_ne (fun e => ht e.symm), ← Array.getD_eq_getD_getElem?]
      exact hf t x' h

theorem Rel.put (hR : Rel J st φ S a w) {d : Option Nat} {x : Option FV} {y : Value} {rd : List Nat} (hn : dstOk J.n d = true) (hx : ∀ x', x = some x' → RepF S w φ x' y) :
    Rel J (st.app d ⟨x, [], [], rd⟩) φ S (a.put d y) w := by
  refine ⟨?_, ?_, put_fr (by rw [hR.sz]; exact hn) hR.fr hx, hR.sto, fun id l h => by simp [St.app, hR.use id l h], hR.keep, hR.lt, hR.own, hR.par, hR.S0, hR.S1⟩
  · cases d <;> exact hR.nd
  · cases d
    · exact hR.sz
    · simpa [Act.put] using hR.sz

/-- An operation that leaves a value and nothing else. -/
theorem step_value {x : FV} {rd : List Nat} (hg : guardVal ops st o = some true) (hd : dstOk n o.dst = true)
    (h : ∀ st2, Agree ops o ⟨some x, [], [], rd⟩ st st2 → ∀ J φ S a w, Rel J st2 φ S a w → ∃ y, (execOp a.eval o).run P w = .ok (.value y) w ∧ RepF S w φ x y) : Step P n ops o st ⟨some x, [], [], rd⟩ := by
  intro st2 hA J φ S a w hJ hR K Q hK
  rw [guard_wanted hR (hA.guard.trans hg), if_pos rfl]
  obtain ⟨y, hy, hx⟩ := h st2 hA J φ S a w hR
  unfold Oper.wp
  rw [hy]
  exact hK _ _ φ S (hR.put (by rw [hJ]; exact hd) (fun x' e => by obtain rfl := Option.some.inj e; exact hx))

/-- An operation that is not wanted. -/
theorem step_off (hg : guardVal ops st o = some false) (hd : dstOk n o.dst = true) : Step P n ops o st ⟨none, [], [], []⟩ := by
  intro st2 hA J φ S a w hJ hR K Q hK
  rw [guard_wanted hR (hA.guard.trans hg), if_neg (by simp)]
  exact hK _ _ φ S (hR.put (by rw [hJ]; exact hd) (fun x' e => by cases e))

/-! Numbers. -/
def evInt (op : BinOp) (k : IntKind) (a b : Int) : Option Value :=
  match op with
  | .add => some (.int k (k.wrap (a + b)))
  | .sub => some (.int k (k.wrap (a - b)))
  | .mul => some (.int k (k.wrap (a * b)))
  | .quo => if b = 0 then none else some (.int k (k.wrap (a.tdiv b)))
  | .rem => if b = 0 then none else some (.int k (a.tmod b))
  | .and => some (.int k (k.wrap (BitVec.ofInt k.bits a &&& BitVec.ofInt k.bits b).toNat))
  | .or => some (.int k (k.wrap (BitVec.ofInt k.bits a ||| BitVec.ofInt k.bits b).toNat))
  | .xor => some (.int k (k.wrap (BitVec.ofInt k.bits a ^^^ BitVec.ofInt k.bits b).toNat))
  | .andNot => some (.int k (k.wrap (BitVec.ofInt k.bits a &&& ~~~ BitVec.ofInt k.bits b).toNat))
  | .eql => some (.bool (a == b))
  | .neq => some (.bool (a != b))
  | .lss => some (.bool (decide (a < b)))
  | .leq => some (.bool (decide (a ≤ b)))
  | .gtr => some (.bool (decide (a > b)))
  | .geq => some (.bool (decide (a ≥ b)))
  | _ => none

def evBin (P : Program) (op : BinOp) (t : TypeId) : Value → Value → Option Value
  | .int k a, .int k' b => match op with
    | .shl => if b < 0 then none else some (.int k (k.wrap (a * 2 ^ (min b.toNat k.bits))))
    | .shr => if b < 0 then none else some (.int k (a.fdiv (2 ^ (min b.toNat k.bits))))
    | op => if k = k' then evInt op k a b else none
  | .string a, .string b => match op with
    | .eql => some (.bool (a.toList == b.toList))
    | .neq => some (.bool (!(a.toList == b.toList)))
    | .add => if a.size + b.size ≤ 1000000 then some (.string (a ++ b)) else none
    | _ => none
  | .bool a, .bool b => match P.underlying t with
    | some .bool => (match op with
      | .eql => some (.bool (a == b))
      | .neq => some (.bool (!(a == b)))
      | _ => none)
    | _ => none
  | _, _ => none

theorem plain_no {k : IntKind} {m : Int} : plain (.int k m) = true := rfl

theorem evInt_plain {op : BinOp} {k : IntKind} {x y : Int} {z : Value} (h : evInt op k x y = some z) : plain z = true := by
  unfold evInt at h
  split at h <;> first | (obtain rfl := Option.some.inj h; rfl) | (split at h <;> first | (obtain rfl := Option.some.inj h; rfl) | cases h) | cases h

theorem evBin_plain {op : BinOp} {t : TypeId} {x y z : Value} (h : evBin P op t x y = some z) : plain z = true := by
  unfold evBin at h
  split at h
  · split at h
    · split at h
      · cases h
      · obtain rfl := Option.some.inj h; rfl
    · split at h
      · cases h
      · obtain rfl := Option.some.inj h; rfl
    · split at h
      · exact evInt_plain h
      · cases h
  · split at h
    · obtain rfl := Option.some.inj h; rfl
    · obtain rfl := Option.some.inj h; rfl
    · split at h
      · obtain rfl := Option.some.inj h; rfl
      · cases h
    · cases h
  · split at h
    · split at h
      · obtain rfl := Option.some.inj h; rfl
      · obtain rfl := Option.some.inj h; rfl
      · cases h
    · cases h
  · cases h

theorem evInt_run {op : BinOp} {k : IntKind} {t : TypeId} {x y : Int} {z : Value} (h : evInt op k x y = some z) : (binOp op t (.int k x) (.int k y)).run P w = .ok z w := by
  unfold evInt at h
  split at h
  all_goals first
    | (obtain rfl := Option.some.inj h; simp [binOp, Op.intArith, Op.intDiv, Op.intBits, Op.intCmp]; done)
    | (split at h
       · cases h
       · rename_i h0
         obtain rfl := Option.some.inj h; simp [binOp, Op.intDiv, h0])
    | cases h

theorem run_equalIn_bool (d : Nat) (t : TypeId) (x y : Bool) (h : P.underlying t = some .bool) : (Op.equalIn (d + 1) t (.bool x) (.bool y)).run P w = .ok (x == y) w := by
  simp only [Op.equalIn, Sem.run_bind, run_underlying h, Result.andThen_ok, Sem.run_pure]
theorem run_equal_bool (t : TypeId) (x y : Bool) (h : P.underlying t = some .bool) : (Op.equal t (.bool x) (.bool y)).run P w = .ok (x == y) w := run_equalIn_bool 9999 t x y h
theorem run_eql_bool2 (t : TypeId) (x y : Bool) (h : P.underlying t = some .bool) : (binOp .eql t (.bool x) (.bool y)).run P w = .ok (.bool (x == y)) w := by
  show ((do pure (.bool (← Op.equal t (.bool x) (.bool y))) : Sem Value)).run P w = _
  rw [Sem.run_bind, run_equal_bool t x y h]; rfl
theorem run_neq_bool2 (t : TypeId) (x y : Bool) (h : P.underlying t = some .bool) : (binOp .neq t (.bool x) (.bool y)).run P w = .ok (.bool (!(x == y))) w := by
  show ((do pure (.bool (!(← Op.equal t (.bool x) (.bool y)))) : Sem Value)).run P w = _
  rw [Sem.run_bind, run_equal_bool t x y h]; rfl

theorem evBin_run {op : BinOp} {t : TypeId} {p q : Operand} {x y z : Value} (h : evBin P op t x y = some z) : (do eqGuard op t p q x y; binOp op t x y : Sem Value).run P w = .ok z w := by
  unfold evBin at h
  split at h
  · have hg : ∀ op k a k' b, (eqGuard op t p q (.int k a) (.int k' b)).run P w = .ok () w := fun op k a k' b => by cases op <;> rfl
    rw [Sem.run_bind, hg, Result.andThen_ok]
    split at h
    · split at h
      · cases h
      · rename_i h0
        obtain rfl := Option.some.inj h
        simp [binOp, Op.shift, h0]
    · split at h
      · cases h
      · rename_i h0
        obtain rfl := Option.some.inj h
        simp [binOp, Op.shift, h0]
    · split at h
      · rename_i hk
        subst hk
        exact evInt_run h
      · cases h
  · have hg : ∀ op a b, (eqGuard op t p q (.string a) (.string b)).run P w = .ok () w := fun op a b => by cases op <;> rfl
    rw [Sem.run_bind, hg, Result.andThen_ok]
    split at h
    · obtain rfl := Option.some.inj h; simp [binOp, Op.stringOp]
    · obtain rfl := Option.some.inj h; simp [binOp, Op.stringOp]
    · split at h
      · rename_i hs
        obtain rfl := Option.some.inj h
        simp only [binOp, Op.stringOp]
        rw [if_neg (by simp [IntKind.max, IntKind.bits, IntKind.signed]; omega)]
        simp
      · cases h
    · cases h
  · have hg : ∀ op a b, (eqGuard op t p q (.bool a) (.bool b)).run P w = .ok () w := fun op a b => by cases op <;> rfl
    rw [Sem.run_bind, hg, Result.andThen_ok]
    split at h
    · rename_i hu
      split at h
      · obtain rfl := Option.some.inj h; exact run_eql_bool2 _ _ _ hu
      · obtain rfl := Option.some.inj h; exact run_neq_bool2 _ _ _ hu
      · cases h
    · cases h
  · cases h

theorem step_bin {op : BinOp} {t ty : TypeId} {p q : Operand} {x y z : Value} (ho : o.op = .binOp op t p q ty) (hg : guardVal ops st o = some true) (hd : dstOk n o.dst = true)
    (hp : st.ev p = some (.x x)) (hq : st.ev q = some (.x y)) (hz : evBin P op t x y = some z) : Step P n ops o st ⟨some (.x z), [], [], []⟩ := by
  refine step_value hg hd fun st2 hA J φ S a w hR => ⟨z, ?_, Rep.v (evBin_plain hz)⟩
  have e1 : a.eval p = x := ev_x hR ((hA.ev (by rw [ho]; simp [Op.operands])).trans hp)
  have e2 : a.eval q = y := ev_x hR ((hA.ev (by rw [ho]; simp [Op.operands])).trans hq)
  unfold execOp
  simp only [ho, e1, e2]
  rw [Sem.run_bind, evBin_run hz]
  rfl

theorem step_move {p : Operand} {x : FV} (ho : o.op = .move p ∨ o.op = .assign p) (hg : guardVal ops st o = some true) (hd : dstOk n o.dst = true) (hp : st.ev p = some x) : Step P n ops o st ⟨some x, [], [], []⟩ := by
  refine step_value hg hd fun st2 hA J φ S a w hR => ⟨a.eval p, ?_, ev_rep hR ((hA.ev (by rcases ho with ho | ho <;> rw [ho] <;> simp [Op.operands])).trans hp)⟩
  unfold execOp
  rcases ho with ho | ho <;> simp only [ho] <;> rfl

theorem step_pick {c p q : Operand} {b : Bool} {x : FV} (ho : o.op = .pick c p q) (hg : guardVal ops st o = some true) (hd : dstOk n o.dst = true) (hc : st.ev c = some (.b b)) (hp : (if b then st.ev p else st.ev q) = some x) :
    Step P n ops o st ⟨some x, [], [], []⟩ := by
  refine step_value hg hd fun st2 hA J φ S a w hR => ⟨if b then a.eval p else a.eval q, ?_, ?_⟩
  · have e1 : a.eval c = .bool b := ev_x hR ((hA.ev (by rw [ho]; simp [Op.operands])).trans hc)
    unfold execOp
    simp [ho, e1, asBool]
  · cases b
    · exact ev_rep hR ((hA.ev (by rw [ho]; simp [Op.operands])).trans hp)
    · exact ev_rep hR ((hA.ev (by rw [ho]; simp [Op.operands])).trans hp)

def evUn (op : UnOp) : Value → Option Value
  | .int k a => match op with
    | .neg => some (.int k (k.wrap (0 - a)))
    | .xor => some (.int k (k.wrap (BitVec.ofInt k.bits (if k.signed then -1 else k.max) ^^^ BitVec.ofInt k.bits a).toNat))
    | _ => none
  | .bool b => match op with
    | .not => some (.bool !b)
    | _ => none
  | _ => none

theorem step_un {op : UnOp} {t : TypeId} {p : Operand} {x z : Value} (ho : o.op = .unOp op t p) (hg : guardVal ops st o = some true) (hd : dstOk n o.dst = true) (hp : st.ev p = some (.x x)) (hz : evUn op x = some z) :
    Step P n ops o st ⟨some (.x z), [], [], []⟩ := by
  have hpl : plain z = true := by
    unfold evUn at hz
    split at hz
    · split at hz <;> first | (obtain rfl := Option.some.inj hz; rfl) | cases hz
    · split at hz <;> first | (obtain rfl := Option.some.inj hz; rfl) | cases hz
    · cases hz
  refine step_value hg hd fun st2 hA J φ S a w hR => ⟨z, ?_, Rep.v hpl⟩
  have e1 : a.eval p = x := ev_x hR ((hA.ev (by rw [ho]; simp [Op.operands])).trans hp)
  unfold execOp
  simp only [ho, e1]
  rw [Sem.run_bind]
  have : (Op.unary op x).run P w = .ok z w := by
    unfold evUn at hz
    split at hz
    · split at hz <;> first | (obtain rfl := Option.some.inj hz; simp [Op.unary, Op.intArith, Op.intBits]; done) | cases hz
    · split at hz <;> first | (obtain rfl := Option.some.inj hz; simp [Op.unary]; done) | cases hz
    · cases hz
  rw [this]
  rfl

def kindOf (P : Program) (t : TypeId) : Option IntKind := match P.underlying t with
  | some (.int k) => some k
  | _ => none

theorem step_conv {t u : TypeId} {p : Operand} {k k' : IntKind} {m : Int} (ho : o.op = .convert t u p) (hg : guardVal ops st o = some true) (hd : dstOk n o.dst = true) (ht : (P.underlying t).isSome = true) (hu : P.underlying u = some (.int k))
    (hp : st.ev p = some (.x (.int k' m))) : Step P n ops o st ⟨some (.x (.int k (k.wrap m))), [], [], []⟩ := by
  refine step_value hg hd fun st2 hA J φ S a w hR => ⟨.int k (k.wrap m), ?_, Rep.v rfl⟩
  have e1 : a.eval p = .int k' m := ev_x hR ((hA.ev (by rw [ho]; simp [Op.operands])).trans hp)
  unfold execOp
  simp only [ho, e1]
  obtain ⟨d, hd⟩ := Option.isSome_iff_exists.1 ht
  rw [Sem.run_bind]
  have : (convert t u (.int k' m)).run P w = .ok (.int k (k.wrap m)) w := by
    unfold convert
    simp only [Sem.run_bind, run_underlying hd, run_underlying hu, Result.andThen_ok]
    rfl
  rw [this]
  rfl

theorem step_extract {p : Operand} {vs : List AV} {i : Nat} {x : AV} (ho : o.op = .extract p i) (hg : guardVal ops st o = some true) (hd : dstOk n o.dst = true) (hp : st.ev p = some (.tup vs)) (hx : vs[i]? = some x) :
    Step P n ops o st ⟨some (.a x), [], [], []⟩ := by
  refine step_value hg hd fun st2 hA J φ S a w hR => ?_
  obtain ⟨us, he, hu⟩ := ev_rep hR ((hA.ev (by rw [ho]; simp [Op.operands])).trans hp)
  obtain ⟨y, hy, hxy⟩ := hu.get hx
  refine ⟨y, ?_, hxy⟩
  unfold execOp
  simp [ho, he, Instr.extract, hy]

theorem step_nilCheck {p : Operand} {x : CV} (ho : o.op = .nilCheck p) (hg : guardVal ops st o = some true) (hd : dstOk n o.dst = true) (hp : st.ev p = some (.a (.c x))) (hx : (match x with | .ptr .. => true | .rowp .. => true | _ => false) = true) :
    Step P n ops o st ⟨some (.a (.c x)), [], [], []⟩ := by
  refine step_value hg hd fun st2 hA J φ S a w hR => ⟨a.eval p, ?_, ev_rep hR ((hA.ev (by rw [ho]; simp [Op.operands])).trans hp)⟩
  have h1 := ev_rep hR ((hA.ev (by rw [ho]; simp [Op.operands])).trans hp)
  unfold execOp
  simp only [ho]
  generalize a.eval p = y at h1 ⊢
  cases h1 with
  | ptr h => rfl
  | rowp h => rfl
  | _ => cases hx
end
end Go.Proofs.Ytbcjjenidkgodaa
