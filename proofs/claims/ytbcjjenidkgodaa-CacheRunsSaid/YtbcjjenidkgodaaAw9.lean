/- Calls: what a function says of itself, and how a call is taken. -/
import Derived.Test.YtbcjjenidkgodaaAw8
namespace Go.Proofs.Ytbcjjenidkgodaa
open Go Go.RowKit

/-- Which blocks a call may turn: those that are handed over by a pointer. -/
def Mut (φ : Nat → Option Loc) (σ : Nat → Option Blk) (b : Nat) : Prop := ∃ j k l, σ j = some k ∧ φ j = some l ∧ l.nl = false ∧ l.b = b

structure Post (S S' : Nat → Prop) (w w' : World) (φ φ' : Nat → Option Loc) (σ σ' : Nat → Option Blk) : Prop where
  sto : Sto S' w' φ' σ'
  own : ∀ id k l, σ' id = some k → φ' id = some l → l.nl = false → Mut φ σ l.b ∨ w.heap.size ≤ l.b
  par : ∀ id l, (σ id).isSome = true → φ id = some l → φ' id = some l
  S0 : ∀ b, S b → S' b
  S1 : ∀ b, S' b → S b ∨ Mut φ σ b ∨ w.heap.size ≤ b
  lt : ∀ b, S' b → b < w'.heap.size
  keep : Keep (Mut φ σ) w w'

/-- Called with these, the function returns what Q tells. -/
def AC (P : Program) (f : FuncId) (args : List AV) (σ : Nat → Option Blk) (Q : FV → (Nat → Option Blk) → Prop) : Prop :=
  ∀ (w : World) (φ : Nat → Option Loc) (S : Nat → Prop) (vs : List Value), All2 (RepA S w φ) args vs → Sto S w φ σ → (∀ b, S b → b < w.heap.size) → (∀ id l, φ id = some l → id < 100) →
    Calls P f vs.toArray w fun e w' => ∃ r σ' φ' S' y, Q r σ' ∧ e = .returned y ∧ RepF S' w' φ' r y ∧ Post S S' w w' φ φ' σ σ'

def resA (P : Program) (st : St) : ResultVar → Option AV
  | .tmp t => match st.f t with
    | some (.a x) => some x
    | _ => none
  | .cell p t => match st.f p with
    | some (.a (.c (.ptr id row off))) => match st.s id, szOf P t, aggP P t with
      | some k, some m, some ag => match k.rows[row]? with
        | some r => match readRow r off m ag with
          | some (.a x) => some x
          | _ => none
        | none => none
      | _, _, _ => none
    | _ => none

def resL (P : Program) (st : St) : List ResultVar → Option (List AV)
  | [] => some []
  | r :: rs => match resA P st r, resL P st rs with
    | some x, some xs => some (x :: xs)
    | _, _ => none

def resF : List AV → FV
  | [x] => .a x
  | xs => .tup xs

section
variable {P : Program} {n : Nat} {ops : Array Oper} {o : Oper} {st : St} {J : Env} {φ : Nat → Option Loc} {S : Nat → Prop} {a : Act} {w : World}

def resRun (a : Act) : ResultVar → Sem Value
  | .tmp t => pure (a.tmps.getD t undef)
  | .cell p t => do loadVar t (← asAddr (a.tmps.getD p undef))

theorem resA_run (hR : Rel J st φ S a w) {r : ResultVar} {x : AV} (h : resA P st r = some x) :
    ∃ y, (resRun a r).run P w = .ok y w ∧ RepA S w φ x y := by
  cases r with
  | tmp t =>
    simp only [resA] at h
    split at h
    · rename_i x' hx
      obtain rfl := Option.some.inj h
      exact ⟨_, rfl, hR.fr t _ hx⟩
    · cases h
  | cell p t =>
    simp only [resA] at h
    split at h
    · rename_i id row off hp
      split at h
      · rename_i k m ag hk hm ha
        split at h
        · rename_i rr hr
          split at h
          · rename_i x' hx
            obtain rfl := Option.some.inj h
            have e1 : Rep S w φ (.ptr id row off) (a.tmps.getD p undef) := hR.fr p _ hp
            obtain ⟨l, hl, hbi⟩ := hR.sto.at_ id k hk
            obtain ⟨_, _, C, hb⟩ := hbi.there hr
            have ea : a.tmps.getD p undef = .pointer (some ⟨l.b, row * k.sz + off, none⟩) := by
              generalize a.tmps.getD p undef = y at e1
              cases e1 with
              | ptr h => rw [hl] at h; obtain rfl := Option.some.inj h; rw [hb.sz]
            obtain ⟨y, h1, h2⟩ := run_loadAt hm ha hx (blk_cell hb hr)
            refine ⟨y, ?_, h2⟩
            simp only [resRun, ea]
            simp only [Instr.loadAt, Instr.sureAddr, Sem.run_bind, Sem.run_pure, Result.andThen_ok] at h1
            simp only [asAddr, Sem.run_bind, Sem.run_pure, Result.andThen_ok]
            exact h1
          · cases h
        · cases h
      · cases h
    · cases h

theorem resL_run (hR : Rel J st φ S a w) : ∀ (rs : List ResultVar) (xs : List AV), resL P st rs = some xs →
    ∃ ys : List Value, (rs.mapM (resRun a)).run P w = .ok ys w ∧ All2 (RepA S w φ) xs ys
  | [], xs, h => by obtain rfl := Option.some.inj h; exact ⟨[], by simp, All2.nil _⟩
  | r :: rs, xs, h => by
    simp only [resL] at h
    split at h
    · rename_i x xs' hx hxs
      obtain rfl := Option.some.inj h
      obtain ⟨y, h1, h2⟩ := resA_run hR hx
      obtain ⟨ys, h3, h4⟩ := resL_run hR rs xs' hxs
      refine ⟨y :: ys, ?_, All2.cons h2 h4⟩
      rw [List.mapM_cons]
      simp only [Sem.run_bind, h1, Result.andThen_ok, h3, Sem.run_pure]
    · cases h

theorem results_run (hR : Rel J st φ S a w) {fn : Func} {xs : List AV} (h : resL P st fn.results.toList = some xs) : ∃ y, (results fn a.tmps).run P w = .ok y w ∧ RepF S w φ (resF xs) y := by
  obtain ⟨ys, h1, h2⟩ := resL_run hR _ _ h
  have hlen := h2.1
  refine ⟨if h : ys.toArray.size = 1 then ys.toArray[0] else .tuple ys.toArray, ?_, ?_⟩
  · have e : results fn a.tmps = (do let vs ← fn.results.mapM (resRun a); pure (if h : vs.size = 1 then vs[0] else .tuple vs)) := rfl
    rw [e, Array.mapM_eq_mapM_toList]
    simp only [Sem.run_bind, bind_pure_comp, Sem.run_map, h1, Result.andThen_ok]
  · rcases xs with _ | ⟨x, _ | ⟨x2, xs⟩⟩
    · have : ys = [] := List.eq_nil_of_length_eq_zero (by simpa using hlen.symm)
      subst this
      exact ⟨[], rfl, All2.nil _⟩
    · obtain ⟨y, rfl⟩ : ∃ y, ys = [y] := by
        rcases ys with _ | ⟨y, _ | ⟨_, _⟩⟩
        · simp at hlen
        · exact ⟨y, rfl⟩
        · simp at hlen
      exact h2.2 0 x y rfl rfl
    · rw [dif_neg (by simp at hlen ⊢; omega)]
      exact ⟨ys, rfl, h2⟩

/-- The names that came in with the call are below 100. -/
def JOK (J : Env) : Prop := ∀ id l, J.par id = some l → id < 100

def argF (args : List AV) : Nat → Option FV := fun t => (args[t]?).map .a

/-- The body walked, the contract stands. -/
theorem ac_intro {f : FuncId} {fn : Func} {c : Code} {args : List AV} {σ : Nat → Option Blk} {Q : FV → (Nat → Option Blk) → Prop} (hf : P.funcs[f]? = some fn) (hb : fn.body = some c) (hn : decide (args.length ≤ fn.ntmps) = true)
    (h : ∀ J : Env, J.n = fn.ntmps → JOK J → AW P J c (fun e st => (e = .normal ∨ e = .ret) ∧ ∃ xs σ', resL P st fn.results.toList = some xs ∧ (∀ id k, σ' id = some k → st.s id = some k) ∧ Q (resF xs) σ') ⟨argF args, σ, fun id => decide (id < 100)⟩) :
    AC P f args σ Q := by
  intro w φ S vs hargs hsto hlt hφ
  let J : Env := ⟨fn.ntmps, w, S, Mut φ σ, fun id => if (σ id).isSome then φ id else none⟩
  have hal := hargs.1
  have hn := of_decide_eq_true hn
  refine calls_of_wp hf hb ?_
  have hrel : Rel J ⟨argF args, σ, fun id => decide (id < 100)⟩ φ S { tmps := vs.toArray ++ Array.replicate (fn.ntmps - vs.toArray.size) undef, defers := [] } w := by
    refine ⟨rfl, by simp [J]; omega, fun t x hx => ?_, hsto, fun id l h => by simpa using hφ id l h, Keep.refl _ _, hlt, fun id k l h1 h2 h3 => .inl ⟨id, k, l, h1, h2, h3, rfl⟩, fun id l hp => ?_, fun _ h => h, fun _ h => .inl h⟩
    · unfold argF at hx
      obtain ⟨y, hy, rfl⟩ := Option.map_eq_some_iff.1 hx
      obtain ⟨v, hv, hr⟩ := hargs.get hy
      have hlt := (List.getElem?_eq_some_iff.1 hv).1
      have : (vs.toArray ++ Array.replicate (fn.ntmps - vs.toArray.size) undef).getD t undef = v := by
        rw [Array.getD_eq_getD_getElem?, Array.getElem?_append_left (by simpa using hlt)]
        simp [hv]
      rw [this]
      exact hr
    · simp only [J] at hp
      split at hp
      · exact hp
      · cases hp
  refine Code.wp_mono ?_ (h J rfl (fun id l h => by
    simp only [J] at h
    split at h
    · exact hφ id l h
    · cases h) φ S _ w hrel)
  rintro e a' w' ⟨st', φ', S', ⟨he, xs, σ', hx, hσ, hq⟩, hR⟩
  obtain ⟨y, hy1, hy2⟩ := results_run hR hx
  have fin : ∃ v, (results fn a'.tmps).run P w' = .ok v w' ∧ ∃ r σ' φ' S' y, Q r σ' ∧ Ending.returned v = .returned y ∧ RepF S' w' φ' r y ∧ Post S S' w w' φ φ' σ σ' := by
    refine ⟨y, hy1, resF xs, σ', φ', S', y, hq, rfl, hy2, ⟨⟨fun id k h => hR.sto.at_ id k (hσ id k h), fun i j k kj l lj hi hj => hR.sto.inj i j k kj l lj (hσ i k hi) (hσ j kj hj)⟩, fun id k l h => hR.own id k l (hσ id k h), fun id l h1 h2 => hR.par id l (by simp only [J]; rw [if_pos h1]; exact h2), hR.S0, hR.S1, hR.lt, hR.keep⟩⟩
  rcases he with rfl | rfl
  · exact ⟨hR.nd, fin⟩
  · exact ⟨hR.nd, fin⟩

/-! Taking a call. -/
def CV.free : CV → Bool
  | .ptr .. => false
  | .ref .. => false
  | _ => true
/-- Holds no slice that lies somewhere. -/
def CV.flat : CV → Bool
  | .lst _ rows => rows.isEmpty
  | .rowp .. => false
  | _ => true
def AV.flat : AV → Bool
  | .c x => x.flat
  | .agg cs => cs.all CV.flat
def FV.flat : FV → Bool
  | .a x => x.flat
  | .tup vs => vs.all AV.flat
def Blk.flat (k : Blk) : Bool := k.rows.all fun r => r.all CV.flat

theorem Rep.free {x : CV} {y : Value} {φ' : Nat → Option Loc} (h : Rep S w φ x y) (hx : x.free = true) : Rep S w φ' x y := by
  cases h with
  | v h => exact .v h
  | nil h => exact .nil h
  | lst h1 h2 h0 h3 h4 h5 h6 h7 => exact .lst h1 h2 h0 h3 h4 h5 h6 h7
  | rowp h1 h2 h3 h4 => exact .rowp h1 h2 h3 h4
  | _ => cases hx

theorem Rep.flat_ren {S' : Nat → Prop} {w' : World} {φ' : Nat → Option Loc} {x : CV} {y : Value} (ρ : Nat → Nat) (h : Rep S w φ x y) (hx : x.flat = true) (hφ : ∀ i l, φ i = some l → φ' (ρ i) = some l) : Rep S' w' φ' (x.ren ρ) y := by
  cases h with
  | v h => exact .v h
  | ptr h => exact .ptr (hφ _ _ h)
  | ref h h1 h2 h3 => exact .ref (hφ _ _ h) h1 h2 h3
  | refn h h1 => exact .refn (hφ _ _ h) h1
  | refe h h1 h2 => exact .refe (hφ _ _ h) h1 h2
  | nil h => exact .nil h
  | @lst _ e rows b o' c sz e1' C fz h1 h2 h0 h3 h4 h5 h6 h7 =>
    have : rows = [] := by simpa [CV.flat] using hx
    subst this
    exact .nil h4
  | rowp => cases hx

def Blk.ren (ρ : Nat → Nat) (k : Blk) : Blk := ⟨k.e, k.sz, k.rows.map fun r => r.map (·.ren ρ)⟩

def CV.inIds (ids : List Nat) : CV → Bool
  | .ptr i _ _ => ids.contains i
  | .ref i _ _ => ids.contains i
  | _ => true
def AV.inIds (ids : List Nat) : AV → Bool
  | .c x => x.inIds ids
  | .agg cs => cs.all (CV.inIds ids)
def FV.inIds (ids : List Nat) : FV → Bool
  | .a x => x.inIds ids
  | .tup vs => vs.all (AV.inIds ids)
def Blk.inIds (ids : List Nat) (k : Blk) : Bool := k.rows.all fun r => r.all (CV.inIds ids)

/-- An argument as the caller has it (x), as the contract has it (y): the same, renamed, or an own slice lent. -/
inductive LendC (st : St) (ρ : Nat → Nat) (ids lent : List Nat) : CV → CV → Prop where
  | same {y : CV} : y.free = true → LendC st ρ ids lent y y
  | ptr {i r o : Nat} : i ∈ ids → LendC st ρ ids lent (.ptr (ρ i) r o) (.ptr i r o)
  | ref {i r o : Nat} : i ∈ ids → LendC st ρ ids lent (.ref (ρ i) r o) (.ref i r o)
  | lend {id off len : Nat} {k : Blk} {rows : List (List CV)} : id ∈ lent → st.s id = some k → off + len ≤ k.rows.length → rows = (k.rows.drop off).take len → (∀ r ∈ rows, ∀ x ∈ r, CV.free x = true) → LendC st ρ ids lent (.ref id off len) (.lst k.e rows)

inductive LendA (st : St) (ρ : Nat → Nat) (ids lent : List Nat) : AV → AV → Prop where
  | c {x y : CV} : LendC st ρ ids lent x y → LendA st ρ ids lent (.c x) (.c y)
  | agg {xs ys : List CV} : All2 (LendC st ρ ids lent) xs ys → LendA st ρ ids lent (.agg xs) (.agg ys)

/-- The own blocks that are lent. -/
def LentB (φ : Nat → Option Loc) (s : Nat → Option Blk) (lent : List Nat) (b : Nat) : Prop := ∃ i k l, i ∈ lent ∧ s i = some k ∧ φ i = some l ∧ l.nl = false ∧ l.b = b

theorem Rep.unren {Sc : Nat → Prop} {ρ : Nat → Nat} {ids : List Nat} {x : CV} {y : Value} (h : Rep S w φ (x.ren ρ) y) (hx : x.inIds ids = true) (hS : ∀ b, S b → Sc b) : Rep Sc w (fun i => if i ∈ ids then φ (ρ i) else none) x y := by
  cases x with
  | ptr i r o =>
    have hi : i ∈ ids := by simpa [CV.inIds] using hx
    have h' : Rep S w φ (.ptr (ρ i) r o) y := h
    cases h' with
    | ptr g => exact .ptr (by simp only [hi, if_true]; exact g)
  | ref i r o =>
    have hi : i ∈ ids := by simpa [CV.inIds] using hx
    have h' : Rep S w φ (.ref (ρ i) r o) y := h
    cases h' with
    | ref g h1 h2 h3 => exact .ref (by simp only [hi, if_true]; exact g) h1 h2 h3
    | refn g h1 => exact .refn (by simp only [hi, if_true]; exact g) h1
    | refe g h1 h2 => exact .refe (by simp only [hi, if_true]; exact g) h1 h2
  | v x => exact ((show Rep S w φ (.v x) y from h).free rfl).mono (fun _ _ h => h) hS (fun _ _ _ => rfl)
  | lst e r => exact ((show Rep S w φ (.lst e r) y from h).free rfl).mono (fun _ _ h => h) hS (fun _ _ _ => rfl)
  | rowp e r k => exact ((show Rep S w φ (.rowp e r k) y from h).free rfl).mono (fun _ _ h => h) hS (fun _ _ _ => rfl)

theorem Rep.only {ids : List Nat} {x : CV} {y : Value} (h : Rep S w φ x y) (hx : x.inIds ids = true) : Rep S w (fun i => if i ∈ ids then φ i else none) x y := by
  have := Rep.unren (ρ := fun i => i) (Sc := S) (ids := ids) (x := x) (y := y) (by cases x <;> exact h) hx (fun _ h => h)
  exact this
theorem RepA.only {ids : List Nat} {x : AV} {y : Value} (h : RepA S w φ x y) (hx : x.inIds ids = true) : RepA S w (fun i => if i ∈ ids then φ i else none) x y := by
  cases x with
  | c x => exact Rep.only h hx
  | agg cs =>
    obtain ⟨vs, rfl, h⟩ := h
    exact ⟨vs, rfl, h.1, fun j x y a b => (h.2 j x y a b).only (List.all_eq_true.1 hx x (List.mem_of_getElem? a))⟩
theorem RepF.only {ids : List Nat} {x : FV} {y : Value} (h : RepF S w φ x y) (hx : x.inIds ids = true) : RepF S w (fun i => if i ∈ ids then φ i else none) x y := by
  cases x with
  | a x => exact RepA.only h hx
  | tup cs =>
    obtain ⟨vs, rfl, h⟩ := h
    exact ⟨vs, rfl, h.1, fun j x y a b => (h.2 j x y a b).only (List.all_eq_true.1 hx x (List.mem_of_getElem? a))⟩
theorem RepF.flat_ren {S' : Nat → Prop} {w' : World} {φ' : Nat → Option Loc} {x : FV} {y : Value} (ρ : Nat → Nat) (h : RepF S w φ x y) (hx : x.flat = true) (hφ : ∀ i l, φ i = some l → φ' (ρ i) = some l) : RepF S' w' φ' (x.ren ρ) y := by
  have hA : ∀ (x : AV) y, RepA S w φ x y → x.flat = true → RepA S' w' φ' (x.ren ρ) y := fun x y h hx => by
    cases x with
    | c x => exact Rep.flat_ren ρ h hx hφ
    | agg cs =>
      obtain ⟨vs, rfl, h⟩ := h
      refine ⟨vs, rfl, by simp [h.1], fun j x y a b => ?_⟩
      rw [List.getElem?_map] at a
      obtain ⟨x', hx', rfl⟩ := Option.map_eq_some_iff.1 a
      exact (h.2 j x' y hx' b).flat_ren ρ (List.all_eq_true.1 hx x' (List.mem_of_getElem? hx')) hφ
  cases x with
  | a x => exact hA x y h hx
  | tup cs =>
    obtain ⟨vs, rfl, h⟩ := h
    refine ⟨vs, rfl, by simp [h.1], fun j x y a b => ?_⟩
    rw [List.getElem?_map] at a
    obtain ⟨x', hx', rfl⟩ := Option.map_eq_some_iff.1 a
    exact hA x' y (h.2 j x' y hx' b) (List.all_eq_true.1 hx x' (List.mem_of_getElem? hx'))

theorem LendC.rep {st2 : St} {ρ : Nat → Nat} {ids lent : List Nat} {x y : CV} {v : Value} (hR : Rel J st2 φ S a w) (hl : LendC st2 ρ ids lent x y) (h : Rep S w φ x v) :
    Rep (fun b => S b ∨ LentB φ st2.s lent b) w (fun i => if i ∈ ids then φ (ρ i) else none) y v := by
  cases hl with
  | same hf => exact (h.free hf).mono (fun _ _ h => h) (fun _ h => .inl h) (fun _ _ _ => rfl)
  | ptr hi => exact Rep.unren (x := .ptr _ _ _) h (by simpa [CV.inIds] using hi) (fun _ h => .inl h)
  | ref hi => exact Rep.unren (x := .ref _ _ _) h (by simpa [CV.inIds] using hi) (fun _ h => .inl h)
  | @lend id off len k rows hi hk hle hrows hfree =>
    cases h with
    | @ref _ _ _ _ l hl hn hc hcm =>
      have hln : rows.length = len := by rw [hrows]; simp; omega
      by_cases hne : rows = []
      · rw [hne] at hln ⊢
        have h0 : len = 0 := by simpa using hln.symm
        rw [h0]
        exact .nil (by omega)
      · obtain ⟨l2, hl2, hb⟩ := hR.sto.at_ id k hk
        rw [hl] at hl2
        obtain rfl := Option.some.inj hl2
        have hpos : 0 < rows.length := List.length_pos_iff.2 hne
        have hr0 : k.rows[off]? = some (k.rows[off]'(by omega)) := List.getElem?_eq_getElem (by omega)
        obtain ⟨_, hS, C, hb⟩ := hb.there hr0
        have key : ∀ i r, rows[i]? = some r → k.rows[off + i]? = some r := fun i r h => by
          rw [hrows, List.getElem?_take] at h
          split at h
          · rw [List.getElem?_drop] at h; exact h
          · cases h
        have idx : ∀ i j, off * l.sz + i * l.sz + j = (off + i) * l.sz + j := fun i j => by rw [Nat.add_mul]
        have := Rep.lst (S := fun b => S b ∨ LentB φ st2.s lent b) (w := w) (φ := fun i => if i ∈ ids then φ (ρ i) else none) (e := k.e) (rows := rows) (b := l.b) (o := off * l.sz) (c := l.cap - off) (sz := l.sz) (C := C) (fz := (0, 0)) (.inr ⟨id, k, l, hi, hk, hl, hn, rfl⟩) hb.heap (.inr rfl) (by omega) (by omega)
          (fun r hr => by
            rw [hb.sz]
            rw [hrows] at hr
            exact hb.row r (List.mem_of_mem_drop (List.mem_of_mem_take hr)))
          (fun i r j x h1 h2 => by rw [idx, hb.sz]; obtain ⟨y, hy, _⟩ := hb.cell _ r j x (key i r h1) h2; exact ⟨y, hy⟩)
          (fun i r j x y h1 h2 h3 => by
            rw [idx, hb.sz] at h3
            obtain ⟨y', hy', hx⟩ := hb.cell _ r j x (key i r h1) h2
            rw [hy'] at h3
            obtain rfl := Option.some.inj h3
            exact (hx.free (hfree r (List.mem_of_getElem? h1) x (List.mem_of_getElem? h2))).mono (fun _ _ h => h) (fun _ h => .inl h) (fun _ _ _ => rfl))
        rw [hln] at this
        exact this
    | @refn _ _ l hl hn =>
      have : rows = [] := by rw [hrows]; simp
      rw [this]
      exact .nil (by omega)
    | @refe _ _ _ l A c hl h0 hc =>
      have : rows = [] := by rw [hrows]; simp
      rw [this]
      exact .nil hc

theorem LendA.rep {st2 : St} {ρ : Nat → Nat} {ids lent : List Nat} {x y : AV} {v : Value} (hR : Rel J st2 φ S a w) (hl : LendA st2 ρ ids lent x y) (h : RepA S w φ x v) :
    RepA (fun b => S b ∨ LentB φ st2.s lent b) w (fun i => if i ∈ ids then φ (ρ i) else none) y v := by
  cases hl with
  | c hl => exact hl.rep hR h
  | agg hl =>
    obtain ⟨vs, rfl, h⟩ := h
    refine ⟨vs, rfl, hl.1.symm.trans h.1, fun j y v a b => ?_⟩
    have hj := (List.getElem?_eq_some_iff.1 a).1
    have hx := List.getElem?_eq_getElem (l := _) (show j < _ from hl.1 ▸ hj)
    exact (hl.2 j _ y hx a).rep hR (h.2 j _ v hx b)

theorem BlkIs.ren {Sc : Nat → Prop} {w' : World} {φ' : Nat → Option Loc} {l : Loc} {k : Blk} (ρ : Nat → Nat) (h : BlkIs S w φ l k) (hw : ∀ b : Nat, w.heap[b]? = w'.heap[b]?) (hS : l.nl = false → ¬ Sc l.b)
    (ht : ∀ r ∈ k.rows, ∀ x ∈ r, ∀ y, Rep S w φ x y → Rep Sc w' φ' (x.ren ρ) y) : BlkIs Sc w' φ' l (k.ren ρ) := by
  refine ⟨h.1, ?_⟩
  rcases h.2 with ⟨h1, h2⟩ | ⟨h1, _, C, h3⟩
  · exact .inl ⟨h1, by simp [Blk.ren, h2]⟩
  · refine .inr ⟨h1, hS h1, C, ⟨h3.sz, (hw _).symm.trans h3.heap, h3.size, by simpa [Blk.ren] using h3.len, h3.cap, h3.pos, fun r hr => ?_, fun i r j x hi hj => ?_⟩⟩
    · simp only [Blk.ren] at hr
      obtain ⟨r', hr', rfl⟩ := List.mem_map.1 hr
      rw [List.length_map]; exact h3.row r' hr'
    · simp only [Blk.ren] at hi
      rw [List.getElem?_map] at hi
      obtain ⟨r', hr', rfl⟩ := Option.map_eq_some_iff.1 hi
      rw [List.getElem?_map] at hj
      obtain ⟨x', hx', rfl⟩ := Option.map_eq_some_iff.1 hj
      obtain ⟨y, hy, hx⟩ := h3.cell i r' j x' hr' hx'
      exact ⟨y, hy, ht r' (List.mem_of_getElem? hr') x' (List.mem_of_getElem? hx') y hx⟩

theorem updS_append {s : Nat → Option Blk} {l m : List (Nat × Option Blk)} : updS s (l ++ m) = updS (updS s l) m := by
  induction l generalizing s with
  | nil => rfl
  | cons p l ih => simp only [List.cons_append, updS]; exact ih
theorem updS_map {ρ : Nat → Nat} {g : Nat → Option Blk} : ∀ (L : List Nat) (s : Nat → Option Blk) (i : Nat), i ∈ L → (∀ j ∈ L, ρ j = ρ i → j = i) → updS s (L.map fun i => (ρ i, g i)) (ρ i) = g i
  | [], _, _, h, _ => by simp at h
  | j :: L, s, i, h, hinj => by
    simp only [List.map_cons, updS]
    by_cases hi : i ∈ L
    · exact updS_map L _ i hi (fun j hj => hinj j (by simp [hj]))
    · rcases List.mem_cons.1 h with rfl | h
      · rw [updS_other]
        · simp
        · simp only [List.map_map, List.mem_map, Function.comp, not_exists, not_and]
          intro j hj e
          exact hi (hinj j (by simp [hj]) e ▸ hj)
      · exact absurd h hi

def callable (P : Program) (g : FuncId) : Bool := match P.funcs[g]? with
  | some fn => !(fn.name == "runtime.NumGoroutine") && !fn.body.isNone
  | none => false

theorem run_call {g : FuncId} {c : Call} {o : Oper} {ρ : Operand → Value} (h : callable P g = true) (ho : o.op = .call c) (hc : c.callee = .value (.func g)) (hρ : ρ (.func g) = .func (.func g) #[] #[]) (w : World) :
    (execOp ρ o).run P w = .ok (.enter g (c.args.map ρ)) w := by
  unfold callable at h
  split at h
  · rename_i fn hf
    simp only [Bool.and_eq_true, Bool.not_eq_true'] at h
    unfold execOp
    simp only [ho, resolve, hc, hρ, Deferred.ofValue, invoke, callFunc, Sem.run_bind, Sem.run_pure, Result.andThen_ok, run_program, hf, h.1, h.2, Bool.false_eq_true, if_false]
    simp
  · cases h

theorem fr_step' {S' : Nat → Prop} {w' : World} {φ' : Nat → Option Loc} {d : Option Nat} {x : Option FV} {y : Value} (hR : Rel J st φ S a w) (hd : dstOk J.n d = true) (hm : ∀ i l, φ i = some l → φ' i = some l) (hS : ∀ b, S b → S' b) (hf : Fix S w w') (hx : ∀ x', x = some x' → RepF S' w' φ' x' y) :
    ∀ t x', updF st.f d x t = some x' → RepF S' w' φ' x' ((a.put d y).tmps.getD t undef) :=
  put_fr (by rw [hR.sz]; exact hd) (fun t x h => (hR.fr t x h).mono hm hS hf) hx

def evL (st : St) : List Operand → Option (List AV)
  | [] => some []
  | p :: ps => match st.ev p, evL st ps with
    | some (.a x), some xs => some (x :: xs)
    | _, _ => none

theorem evL_rep {st2 : St} (hR : Rel J st2 φ S a w) : ∀ (ps : List Operand) (xs : List AV), evL st2 ps = some xs → All2 (RepA S w φ) xs (ps.map a.eval)
  | [], xs, h => by obtain rfl := Option.some.inj h; exact All2.nil _
  | p :: ps, xs, h => by
    simp only [evL] at h
    split at h
    · rename_i x xs' hx hxs
      obtain rfl := Option.some.inj h
      exact All2.cons (ev_rep hR hx) (evL_rep hR ps xs' hxs)
    · cases h

theorem Agree.evL {e : Eff} {st2 : St} (h : Agree ops o e st st2) : ∀ (ps : List Operand), (∀ p ∈ ps, p ∈ o.op.operands.toList) → evL st2 ps = evL st ps
  | [], _ => rfl
  | p :: ps, hm => by
    simp only [Go.Proofs.Ytbcjjenidkgodaa.evL]
    rw [h.ev (hm p (by simp)), Agree.evL h ps (fun q hq => hm q (by simp [hq]))]

/-- A call by contract. -/
theorem step_callK {g : FuncId} {c : Call} {xs ys : List AV} {τ τ' : Nat → Option Blk} {r : FV} (ρ : Nat → Nat) (ids newIds lent : List Nat) (kill : Bool)
    (ho : o.op = .call c) (hc : c.callee = .value (.func g)) (hcal : callable P g = true) (hg : guardVal ops st o = some true) (hd : dstOk n o.dst = true)
    (hx : evL st c.args.toList = some xs) (hlend : All2 (LendA st ρ ids lent) xs ys)
    (hτ : ∀ i k, τ i = some k → i ∈ ids) (hids : ∀ i ∈ ids, i < 100 ∧ ∃ k, τ i = some k ∧ st.s (ρ i) = some (k.ren ρ) ∧ k.inIds ids = true)
    (hinj : ∀ i j, i ∈ ids ++ newIds → j ∈ ids ++ newIds → ρ i = ρ j → i = j) (hnew : ∀ j ∈ newIds, st.u (ρ j) = false)
    (hτ' : ∀ i k, τ' i = some k → i ∈ ids ++ newIds ∧ k.inIds (ids ++ newIds) = true) (hr : r.inIds (ids ++ newIds) = true) (hlent : ∀ i ∈ lent, i ∉ ids.map ρ)
    (hflat : (kill = true ∨ lent = []) ∨ (r.flat = true ∧ ∀ i k, τ' i = some k → k.flat = true)) (hAC : AC P g ys τ (fun r' σ' => r' = r ∧ σ' = τ')) :
    Step P n ops o st ⟨some (r.ren ρ), (ids ++ newIds).map (fun i => (ρ i, (τ' i).map (Blk.ren ρ))) ++ (if kill then lent.map (fun i => (i, none)) else []), newIds.map ρ, ids.map ρ ++ lent⟩ := by
  intro st2 hA
  intro J φ S a w hJ hR K Q hK
  rw [guard_wanted hR (hA.guard.trans hg), if_pos rfl]
  have hx2 : evL st2 c.args.toList = some xs := (hA.evL _ (fun p hp => by rw [ho]; simp [Op.operands, Call.operands, hp])).trans hx
  have hs2 : ∀ i ∈ ids, st2.s (ρ i) = st.s (ρ i) := fun i hi => hA.s _ (by simp; exact .inl ⟨i, hi, rfl⟩)
  have hl2 : ∀ i ∈ lent, st2.s i = st.s i := fun i hi => hA.s _ (by simp [hi])
  have hu2 : ∀ j ∈ newIds, st2.u (ρ j) = false := fun j hj => (hA.u _ (List.mem_map.2 ⟨j, hj, rfl⟩)).trans (hnew j hj)
  have lc : ∀ {x y}, LendC st ρ ids lent x y → LendC st2 ρ ids lent x y := fun h => by
    cases h with
    | same h => exact .same h
    | ptr h => exact .ptr h
    | ref h => exact .ref h
    | lend h1 h2 h3 h4 h5 => exact .lend h1 ((hl2 _ h1).trans h2) h3 h4 h5
  have la : ∀ {x y}, LendA st ρ ids lent x y → LendA st2 ρ ids lent x y := fun h => by
    cases h with
    | c h => exact .c (lc h)
    | agg h => exact .agg (h.mono fun _ _ h => lc h)
  have hvs := evL_rep hR _ _ hx2
  have hargs : All2 (RepA (fun b => S b ∨ LentB φ st2.s lent b) w (fun i => if i ∈ ids then φ (ρ i) else none)) ys (c.args.toList.map a.eval) := by
    refine ⟨hlend.1.symm.trans hvs.1, fun j y v h1 h2 => ?_⟩
    have hj : j < xs.length := by rw [hlend.1]; exact (List.getElem?_eq_some_iff.1 h1).1
    have h3 := List.getElem?_eq_getElem hj
    exact (la (hlend.2 j _ y h3 h1)).rep hR (hvs.2 j _ v h3 h2)
  have hφu : ∀ j ∈ newIds, φ (ρ j) = none := fun j hj => by
    cases h : φ (ρ j) with
    | none => rfl
    | some l => have := hR.use _ l h; rw [hu2 j hj] at this; cases this
  have notS : ∀ i k l, st2.s i = some k → φ i = some l → l.nl = false → ¬ S l.b := fun i k l h1 h2 h3 => by
    obtain ⟨l2, g1, _, g2⟩ := hR.sto.at_ i k h1
    rw [h2] at g1
    obtain rfl := Option.some.inj g1
    rcases g2 with ⟨g2, _⟩ | g2
    · rw [h3] at g2; cases g2
    · exact g2.2.1
  have ltB : ∀ i k l, st2.s i = some k → φ i = some l → l.nl = false → l.b < w.heap.size := fun i k l h1 h2 h3 => by
    obtain ⟨l2, g1, _, g2⟩ := hR.sto.at_ i k h1
    rw [h2] at g1
    obtain rfl := Option.some.inj g1
    rcases g2 with ⟨g2, _⟩ | ⟨_, _, C, g2⟩
    · rw [h3] at g2; cases g2
    · exact lt_of_get g2.heap
  -- the callee's own blocks
  have hat : ∀ i k, τ i = some k → ∃ l, φ (ρ i) = some l ∧ st2.s (ρ i) = some (k.ren ρ) ∧ i ∈ ids ∧ BlkIs (fun b => S b ∨ LentB φ st2.s lent b) w (fun i => if i ∈ ids then φ (ρ i) else none) l k := fun i k hk => by
    have hi := hτ i k hk
    obtain ⟨_, k', hk', hs, hin⟩ := hids i hi
    rw [hk] at hk'
    obtain rfl := Option.some.inj hk'
    have hs' := (hs2 i hi).trans hs
    obtain ⟨l, hl, hsz, hb⟩ := hR.sto.at_ _ _ hs'
    refine ⟨l, hl, hs', hi, hsz, ?_⟩
    rcases hb with ⟨h1, h2⟩ | ⟨h1, h2, C, h3⟩
    · exact .inl ⟨h1, by simpa [Blk.ren] using h2⟩
    · refine .inr ⟨h1, ?_, C, ⟨h3.sz, h3.heap, h3.size, by simpa [Blk.ren] using h3.len, h3.cap, h3.pos, fun r hr => ?_, fun p r j x hp hj => ?_⟩⟩
      · rintro (h | ⟨q, kq, lq, q1, q2, q3, q4, q5⟩)
        · exact h2 h
        · have := hR.sto.inj q (ρ i) kq _ lq l q2 hs' q3 hl q4 h1 q5
          exact hlent q q1 (List.mem_map.2 ⟨i, hi, this.symm⟩)
      · have := h3.row (r.map (·.ren ρ)) (by simp only [Blk.ren]; exact List.mem_map.2 ⟨r, hr, rfl⟩)
        simpa [Blk.ren] using this
      · obtain ⟨y, hy, hx⟩ := h3.cell p (r.map (·.ren ρ)) j (x.ren ρ) (by simp only [Blk.ren]; rw [List.getElem?_map, hp]; rfl) (by rw [List.getElem?_map, hj]; rfl)
        refine ⟨y, hy, Rep.unren hx ?_ (fun _ h => .inl h)⟩
        have h5 := List.all_eq_true.1 (show (k.rows.all fun r => r.all (CV.inIds ids)) = true from hin) r (List.mem_of_getElem? hp)
        exact List.all_eq_true.1 h5 x (List.mem_of_getElem? hj)
  have hfin := hAC w (fun i => if i ∈ ids then φ (ρ i) else none) (fun b => S b ∨ LentB φ st2.s lent b) (c.args.toList.map a.eval) hargs
    ⟨fun i k hk => by obtain ⟨l, h1, _, h3, h4⟩ := hat i k hk; exact ⟨l, by simp only [h3, if_true]; exact h1, h4⟩,
     fun i j k kj l lj hi hj hli hlj hn hnj he => by
      obtain ⟨l1, a1, a2, a3, _⟩ := hat i k hi
      obtain ⟨l2, b1, b2, b3, _⟩ := hat j kj hj
      simp only [a3, if_true, a1, Option.some.injEq] at hli
      simp only [b3, if_true, b1, Option.some.injEq] at hlj
      subst hli; subst hlj
      exact hinj i j (by simp [a3]) (by simp [b3]) (hR.sto.inj _ _ _ _ _ _ a2 b2 a1 b1 hn hnj he)⟩
    (fun b hb => by
      rcases hb with hb | ⟨q, kq, lq, q1, q2, q3, q4, rfl⟩
      · exact hR.lt b hb
      · exact ltB q kq lq q2 q3 q4)
    (fun i l h => by
      have h' : (if i ∈ ids then φ (ρ i) else none) = some l := h
      split at h'
      · rename_i hi; exact (hids i hi).1
      · cases h')
  unfold Oper.wp
  rw [run_call hcal ho hc rfl w]
  have hcm : (c.args.toList.map a.eval).toArray = c.args.map a.eval := by rw [← Array.toList_map, Array.toArray_toList]
  rw [hcm] at hfin
  refine Calls.mono hfin ?_
  rintro e w' ⟨r', σ', φc, Sc, y, ⟨rfl, rfl⟩, rfl, hry, hP⟩
  -- the names behind the call
  have hφn : ∃ φn : Nat → Option Loc, (∀ j ∈ newIds, φn (ρ j) = φc j) ∧ ∀ id, id ∉ newIds.map ρ → φn id = φ id := by
    refine ⟨fun id => match newIds.find? (fun j => ρ j == id) with | some j => φc j | none => φ id, fun j hj => ?_, fun id hid => ?_⟩
    · show (match newIds.find? (fun q => ρ q == ρ j) with | some q => φc q | none => φ (ρ j)) = φc j
      cases h : newIds.find? (fun q => ρ q == ρ j) with
      | none => have := List.find?_eq_none.1 h j hj; simp at this
      | some q =>
        have h1 := List.find?_some h
        have h2 := List.mem_of_find?_eq_some h
        have : q = j := hinj q j (by simp [h2]) (by simp [hj]) (by simpa using h1)
        subst this
        rfl
    · show (match newIds.find? (fun q => ρ q == id) with | some q => φc q | none => φ id) = φ id
      cases h : newIds.find? (fun q => ρ q == id) with
      | none => rfl
      | some q =>
        have h1 := List.find?_some h
        have h2 := List.mem_of_find?_eq_some h
        exact absurd (List.mem_map.2 ⟨q, h2, by simpa using h1⟩) hid
  obtain ⟨φn, hn1, hn2⟩ := hφn
  have idsN : ∀ i ∈ ids, ρ i ∉ newIds.map ρ := fun i hi h => by
    obtain ⟨j, hj, e⟩ := List.mem_map.1 h
    have hij := hinj j i (by simp [hj]) (by simp [hi]) e
    subst hij
    obtain ⟨_, k, hk, hs, _⟩ := hids j hi
    obtain ⟨l, hl, _⟩ := hat j k hk
    rw [hφu j hj] at hl; cases hl
  have hmono : ∀ i l, φ i = some l → φn i = some l := fun i l h => by
    rw [hn2 i (fun hm => by
      obtain ⟨j, hj, rfl⟩ := List.mem_map.1 hm
      rw [hφu j hj] at h; cases h)]
    exact h
  have hρ : ∀ i l, i ∈ ids ++ newIds → φc i = some l → φn (ρ i) = some l := fun i l hi h => by
    rcases List.mem_append.1 hi with hi | hi
    · obtain ⟨_, k, hk, hs, _⟩ := hids i hi
      obtain ⟨l0, hl0, _, _, _⟩ := hat i k hk
      have := hP.par i l0 (by rw [hk]; rfl) (by simp only [hi, if_true]; exact hl0)
      rw [h] at this
      obtain rfl := Option.some.inj this
      exact hmono _ _ hl0
    · rw [hn1 i hi]; exact h
  have hρ' : ∀ i l, (if i ∈ ids ++ newIds then φc i else none) = some l → φn (ρ i) = some l := fun i l h => by
    split at h
    · rename_i hi; exact hρ i l hi h
    · cases h
  have hMut : ∀ b, Mut (fun i => if i ∈ ids then φ (ρ i) else none) τ b → ∃ i k l, i ∈ ids ∧ τ i = some k ∧ st2.s (ρ i) = some (k.ren ρ) ∧ φ (ρ i) = some l ∧ l.nl = false ∧ l.b = b := fun b hb => by
    obtain ⟨i, k, l, m1, m2, m3, m4⟩ := hb
    obtain ⟨l1, a1, a2, a3, _⟩ := hat i k m1
    simp only [a3, if_true, a1, Option.some.injEq] at m2
    subst m2
    exact ⟨i, k, l1, a3, m1, a2, a1, m3, m4⟩
  have hfix : Fix S w w' := fun b hb hlt => hP.keep.block b hlt (fun hm => by
    obtain ⟨i, k, l, _, _, h3, h4, h5, rfl⟩ := hMut b hm
    exact notS _ _ _ h3 h4 h5 hb)
  -- what stays as it is behind the call
  obtain ⟨Sn, hSn0, hSn1, hSnlt, hSc, hT, hTF⟩ : ∃ Sn : Nat → Prop, (∀ b, S b → Sn b) ∧ (∀ b, Sn b → S b ∨ (kill = true ∧ LentB φ st2.s lent b) ∨ Mut (fun i => if i ∈ ids then φ (ρ i) else none) τ b ∨ w.heap.size ≤ b) ∧ (∀ b, Sn b → b < w'.heap.size) ∧ (∀ b, Sn b → Sc b) ∧
      (∀ i k, σ' i = some k → ∀ q ∈ k.rows, ∀ x ∈ q, ∀ y, Rep Sc w' φc x y → Rep Sn w' φn (x.ren ρ) y) ∧ RepF Sn w' φn (r'.ren ρ) y := by
    rcases hflat with hkl | ⟨hf1, hf2⟩
    · refine ⟨Sc, fun b h => hP.S0 b (.inl h), fun b h => ?_, hP.lt, fun b h => h, fun i k hk q hq x hx y h => ?_, ?_⟩
      · rcases hP.S1 b h with (h | h) | h
        · exact .inl h
        · rcases hkl with hkl | rfl
          · exact .inr (.inl ⟨hkl, h⟩)
          · obtain ⟨q, _, _, q1, _⟩ := h
            simp at q1
        · exact .inr (.inr h)
      · have hin := (hτ' i k hk).2
        have h5 := List.all_eq_true.1 (show (k.rows.all fun r => r.all (CV.inIds (ids ++ newIds))) = true from hin) q hq
        exact (h.only (List.all_eq_true.1 h5 x hx)).ren ρ hρ' (fun _ h => h) (fun _ _ _ => rfl)
      · exact (hry.only hr).ren ρ hρ' (fun _ h => h) (fun _ _ _ => rfl)
    · refine ⟨S, fun _ h => h, fun _ h => .inl h, fun b hb => Nat.lt_of_lt_of_le (hR.lt b hb) hP.keep.size, fun b hb => hP.S0 b (.inl hb), fun i k hk q hq x hx y h => ?_, ?_⟩
      · have hin := (hτ' i k hk).2
        have h5 := List.all_eq_true.1 (show (k.rows.all fun r => r.all (CV.inIds (ids ++ newIds))) = true from hin) q hq
        have h6 := List.all_eq_true.1 (show (k.rows.all fun r => r.all CV.flat) = true from hf2 i k hk) q hq
        exact (h.only (List.all_eq_true.1 h5 x hx)).flat_ren ρ (List.all_eq_true.1 h6 x hx) hρ'
      · exact (hry.only hr).flat_ren ρ hf1 hρ'
  -- the store behind the call
  have hst : ∀ id k, updS st2.s ((ids ++ newIds).map (fun i => (ρ i, (σ' i).map (Blk.ren ρ))) ++ (if kill then lent.map (fun i => (i, none)) else [])) id = some k → (∃ i k0 l, i ∈ ids ++ newIds ∧ id = ρ i ∧ σ' i = some k0 ∧ k = k0.ren ρ ∧ φc i = some l ∧ φn id = some l ∧ BlkIs Sn w' φn l k ∧ (l.nl = false → Mut (fun i => if i ∈ ids then φ (ρ i) else none) τ l.b ∨ w.heap.size ≤ l.b)) ∨
      (id ∉ (ids ++ newIds).map ρ ∧ st2.s id = some k ∧ ∃ l, φ id = some l ∧ φn id = some l ∧ BlkIs Sn w' φn l k ∧ (l.nl = false → l.b < w.heap.size ∧ ¬ Mut (fun i => if i ∈ ids then φ (ρ i) else none) τ l.b)) := fun id k h => by
    have hkid : kill = true → id ∉ lent := fun hk hm => by
      rw [updS_append, hk, if_pos rfl] at h
      have := updS_map (ρ := fun i => i) (g := fun _ => none) lent (updS st2.s ((ids ++ newIds).map (fun i => (ρ i, (σ' i).map (Blk.ren ρ))))) id hm (fun j _ e => e)
      rw [this] at h; cases h
    rw [updS_append, updS_other (by
      cases hk : kill with
      | false => simp
      | true => simpa using hkid hk)] at h
    by_cases hid : id ∈ (ids ++ newIds).map ρ
    · obtain ⟨i, hi, rfl⟩ := List.mem_map.1 hid
      rw [updS_map _ _ i hi (fun j hj e => hinj j i hj hi e)] at h
      obtain ⟨k0, hk0, rfl⟩ := Option.map_eq_some_iff.1 h
      obtain ⟨l, hl, hb⟩ := hP.sto.at_ i k0 hk0
      have hown := hP.own i k0 l hk0 hl
      refine .inl ⟨i, k0, l, hi, rfl, hk0, rfl, hl, hρ i l hi hl, hb.ren ρ (fun _ => rfl) (fun hn hS => ?_) (fun q hq x hx y h => hT i k0 hk0 q hq x hx y h), hown⟩
      rcases hb.2 with ⟨hb, _⟩ | ⟨_, hb, _⟩
      · rw [hn] at hb; cases hb
      · exact hb (hSc _ hS)
    · rw [updS_other (by simpa [List.map_map, Function.comp] using hid)] at h
      obtain ⟨l, hl, hsz, hb⟩ := hR.sto.at_ id k h
      have nM : l.nl = false → ¬ Mut (fun i => if i ∈ ids then φ (ρ i) else none) τ l.b := fun hn hm => by
        obtain ⟨i', k', l', h1, _, h3, h4, h5, h6⟩ := hMut _ hm
        have := hR.sto.inj _ _ _ _ _ _ h3 h h4 hl h5 hn h6
        exact hid (this ▸ List.mem_map.2 ⟨i', by simp [h1], rfl⟩)
      refine .inr ⟨hid, h, l, hl, hmono _ _ hl, ⟨hsz, ?_⟩, fun hn => ⟨ltB _ _ _ h hl hn, nM hn⟩⟩
      rcases hb with hb | ⟨h1, h2, C, h3⟩
      · exact .inl hb
      · refine .inr ⟨h1, fun hS => ?_, C, ⟨h3.sz, (hP.keep.block _ (ltB _ _ _ h hl h1) (nM h1)).trans h3.heap, h3.size, h3.len, h3.cap, h3.pos, h3.row, fun i r j x a b => ?_⟩⟩
        · rcases hSn1 _ hS with hS | ⟨hk, q, kq, lq, q1, q2, q3, q4, q5⟩ | hS | hS
          · exact h2 hS
          · have := hR.sto.inj _ _ _ _ _ _ q2 h q3 hl q4 h1 q5
            exact hkid hk (this ▸ q1)
          · exact nM h1 hS
          · have := ltB _ _ _ h hl h1; omega
        · obtain ⟨y, hy, hx⟩ := h3.cell i r j x a b
          exact ⟨y, hy, hx.mono hmono hSn0 hfix⟩
  refine hK _ _ φn Sn ⟨put_nd hR.nd, put_sz hR.sz, fr_step' hR (by rw [hJ]; exact hd) hmono hSn0 hfix (fun x' e => by obtain rfl := Option.some.inj e; exact hTF), ⟨fun id k h => ?_, fun i j k kj l lj hi hj hli hlj hn hnj he => ?_⟩, fun id l h => ?_, ?_, hSnlt, fun id k l h hl hn => ?_, fun id l h => hmono _ _ (hR.par id l h), fun b h => hSn0 b (hR.S0 b h), fun b h => ?_⟩
  · rcases hst id k h with ⟨_, _, l, _, _, _, _, _, h1, h2, _⟩ | ⟨_, _, l, _, h1, h2, _⟩
    · exact ⟨l, h1, h2⟩
    · exact ⟨l, h1, h2⟩
  · rcases hst i k hi with ⟨p, pk, pl, p1, p2, p3, p4, p5, p6, p7, p8⟩ | ⟨p1, p2, pl, p3, p4, p5, p6⟩
    · rw [p6] at hli; obtain rfl := Option.some.inj hli
      rcases hst j kj hj with ⟨q, qk, ql, q1, q2, q3, q4, q5, q6, q7, q8⟩ | ⟨q1, q2, ql, q3, q4, q5, q6⟩
      · rw [q6] at hlj; obtain rfl := Option.some.inj hlj
        rw [p2, q2, hP.sto.inj p q pk qk _ _ p3 q3 p5 q5 hn hnj he]
      · rw [q4] at hlj; obtain rfl := Option.some.inj hlj
        obtain ⟨z1, z2⟩ := q6 hnj
        rcases p8 hn with h | h
        · rw [he] at h; exact absurd h z2
        · omega
    · rw [p4] at hli; obtain rfl := Option.some.inj hli
      obtain ⟨z1, z2⟩ := p6 hn
      rcases hst j kj hj with ⟨q, qk, ql, q1, q2, q3, q4, q5, q6, q7, q8⟩ | ⟨q1, q2, ql, q3, q4, q5, q6⟩
      · rw [q6] at hlj; obtain rfl := Option.some.inj hlj
        rcases q8 hnj with h | h
        · rw [← he] at h; exact absurd h z2
        · omega
      · rw [q4] at hlj; obtain rfl := Option.some.inj hlj
        exact hR.sto.inj i j k kj _ _ p2 q2 p3 q3 hn hnj he
  · simp only [St.app]
    by_cases hm : id ∈ newIds.map ρ
    · simp [hm]
    · rw [hn2 id hm] at h
      have := hR.use id l h
      simp [this]
  · refine hR.keep.trans hP.keep (fun b hb hm => ?_)
    obtain ⟨i', k', l', _, _, h3, h4, h5, rfl⟩ := hMut b hm
    rcases hR.own _ _ _ h3 h4 h5 with h | h
    · exact h
    · omega
  · rcases hst id k h with ⟨p, pk, pl, p1, p2, p3, p4, p5, p6, p7, p8⟩ | ⟨p1, p2, pl, p3, p4, p5, p6⟩
    · rw [p6] at hl; obtain rfl := Option.some.inj hl
      rcases p8 hn with h | h
      · obtain ⟨i', k', l', _, _, h3, h4, h5, h6⟩ := hMut _ h
        rw [← h6]; exact hR.own _ _ _ h3 h4 h5
      · exact .inr (Nat.le_trans hR.keep.size h)
    · rw [p4] at hl; obtain rfl := Option.some.inj hl
      exact hR.own _ _ _ p2 p3 hn
  · rcases hSn1 b h with h | ⟨_, q, kq, lq, q1, q2, q3, q4, rfl⟩ | h | h
    · exact hR.S1 b h
    · exact .inr (hR.own _ _ _ q2 q3 q4)
    · obtain ⟨i', k', l', _, _, h3, h4, h5, rfl⟩ := hMut b h
      exact .inr (hR.own _ _ _ h3 h4 h5)
    · exact .inr (.inr (Nat.le_trans hR.keep.size h))

theorem step_call {g : FuncId} {c : Call} {xs ys : List AV} {τ τ' : Nat → Option Blk} {r : FV} (ρ : Nat → Nat) (ids newIds lent : List Nat)
    (ho : o.op = .call c) (hc : c.callee = .value (.func g)) (hcal : callable P g = true) (hg : guardVal ops st o = some true) (hd : dstOk n o.dst = true)
    (hx : evL st c.args.toList = some xs) (hlend : All2 (LendA st ρ ids lent) xs ys)
    (hτ : ∀ i k, τ i = some k → i ∈ ids) (hids : ∀ i ∈ ids, i < 100 ∧ ∃ k, τ i = some k ∧ st.s (ρ i) = some (k.ren ρ) ∧ k.inIds ids = true)
    (hinj : ∀ i j, i ∈ ids ++ newIds → j ∈ ids ++ newIds → ρ i = ρ j → i = j) (hnew : ∀ j ∈ newIds, st.u (ρ j) = false)
    (hτ' : ∀ i k, τ' i = some k → i ∈ ids ++ newIds ∧ k.inIds (ids ++ newIds) = true) (hr : r.inIds (ids ++ newIds) = true) (hlent : ∀ i ∈ lent, i ∉ ids.map ρ)
    (hflat : lent = [] ∨ (r.flat = true ∧ ∀ i k, τ' i = some k → k.flat = true)) (hAC : AC P g ys τ (fun r' σ' => r' = r ∧ σ' = τ')) :
    Step P n ops o st ⟨some (r.ren ρ), (ids ++ newIds).map (fun i => (ρ i, (τ' i).map (Blk.ren ρ))), newIds.map ρ, ids.map ρ ++ lent⟩ := by
  have := step_callK ρ ids newIds lent false ho hc hcal hg hd hx hlend hτ hids hinj hnew hτ' hr hlent (hflat.imp .inr (fun h => h)) hAC
  simpa using this

/-- A call without pointers that keeps slices of ours: they are given up. -/
theorem step_callG {g : FuncId} {c : Call} {xs ys : List AV} {r : FV} (give : List Nat) (ho : o.op = .call c) (hc : c.callee = .value (.func g)) (hcal : callable P g = true) (hg : guardVal ops st o = some true) (hd : dstOk n o.dst = true)
    (hx : evL st c.args.toList = some xs) (hl : All2 (LendA st (fun i => i) [] give) xs ys) (hr : r.inIds [] = true) (hr2 : r.ren (fun i => i) = r) (hAC : AC P g ys (fun _ => none) (fun r' σ' => r' = r ∧ σ' = fun _ => none)) : Step P n ops o st ⟨some r, give.map (fun i => (i, none)), [], give⟩ := by
  have := step_callK (st := st) (P := P) (n := n) (ops := ops) (τ := fun _ => none) (τ' := fun _ => none) (fun i => i) [] [] give true ho hc hcal hg hd hx hl (fun i k h => by cases h) (fun i h => by simp at h) (fun i j h => by simp at h) (fun j h => by simp at h) (fun i k h => by cases h) hr (fun i h => by simp) (.inl (.inl rfl)) hAC
  rw [hr2] at this
  simpa using this
end
end Go.Proofs.Ytbcjjenidkgodaa
