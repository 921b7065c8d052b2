/- Abstract states: values without addresses, own blocks by name; the walk over them. -/
import Derived.Test.YtbcjjenidkgodaaMem
namespace Go.Proofs.Ytbcjjenidkgodaa
open Go Go.RowKit

/-- What one cell holds: a plain value, a slice that no one changes any more (its rows), a pointer into an own block, a slice of an own block, a pointer into a row that no one changes. -/
inductive CV where
  | v (x : Value)
  | lst (e : Nat) (rows : List (List CV))
  | ptr (id row off : Nat)
  | ref (id off len : Nat)
  | rowp (e : Nat) (row : List CV) (k : Nat)

inductive AV where
  | c (x : CV)
  | agg (cs : List CV)

inductive FV where
  | a (x : AV)
  | tup (vs : List AV)

/-- Where an own block lies; 'nl': an own slice that is nil. -/
structure Loc where
  b : Nat
  sz : Nat
  cap : Nat
  nl : Bool

def plain : Value → Bool
  | .bool _ => true
  | .int _ _ => true
  | .string _ => true
  | .slice none 0 0 => true
  | .pointer none => true
  | _ => false

inductive Rep (S : Nat → Prop) (w : World) : (Nat → Option Loc) → CV → Value → Prop where
  | v {φ : Nat → Option Loc} {x : Value} : plain x = true → Rep S w φ (.v x) x
  | ptr {φ : Nat → Option Loc} {id row off : Nat} {l : Loc} : φ id = some l → Rep S w φ (.ptr id row off) (.pointer (some ⟨l.b, row * l.sz + off, none⟩))
  | ref {φ : Nat → Option Loc} {id off len : Nat} {l : Loc} : φ id = some l → l.nl = false → off + len ≤ l.cap → l.cap ≤ 9223372036854775807 → Rep S w φ (.ref id off len) (.slice (some ⟨l.b, off * l.sz, none⟩) len (l.cap - off))
  | refn {φ : Nat → Option Loc} {id : Nat} {l : Loc} : φ id = some l → l.nl = true → Rep S w φ (.ref id 0 0) (.slice none 0 0)
  | refe {φ : Nat → Option Loc} {id off : Nat} {l : Loc} {A : Option Addr} {c : Nat} : φ id = some l → 0 < off → c ≤ 9223372036854775807 → Rep S w φ (.ref id off 0) (.slice A 0 c)
  | nil {φ : Nat → Option Loc} {e : Nat} {A : Option Addr} {c : Nat} : c ≤ 9223372036854775807 → Rep S w φ (.lst e []) (.slice A 0 c)
  | lst {φ : Nat → Option Loc} {e : Nat} {rows : List (List CV)} {b o c sz e' : Nat} {C : Array Value} {fz : Nat × Nat} : S b → w.heap[b]? = some (.cells C e' fz) → (e = 0 ∨ e' = e) → rows.length ≤ c → c ≤ 9223372036854775807 →
      (∀ r ∈ rows, r.length = sz) → (∀ i r j x, rows[i]? = some r → r[j]? = some x → ∃ y, C[o + i * sz + j]? = some y) →
      (∀ i r j x y, rows[i]? = some r → r[j]? = some x → C[o + i * sz + j]? = some y → Rep S w (fun _ => none) x y) →
      Rep S w φ (.lst e rows) (.slice (some ⟨b, o, none⟩) rows.length c)
  | rowp {φ : Nat → Option Loc} {e : Nat} {row : List CV} {b o k e' : Nat} {C : Array Value} {fz : Nat × Nat} : S b → w.heap[b]? = some (.cells C e' fz) →
      (∀ j x, row[j]? = some x → ∃ y, C[o + j]? = some y) → (∀ j x y, row[j]? = some x → C[o + j]? = some y → Rep S w (fun _ => none) x y) →
      Rep S w φ (.rowp e row k) (.pointer (some ⟨b, o + k, none⟩))

theorem Rep.one {S : Nat → Prop} {w : World} {φ : Nat → Option Loc} {x : CV} {y : Value} (h : Rep S w φ x y) : y.oneCell' = true := by
  cases h with
  | v h => unfold plain at h; split at h <;> first | rfl | (exact absurd h (by decide))
  | _ => rfl

/-- The blocks of S stay as they are. -/
def Fix (S : Nat → Prop) (w w' : World) : Prop := ∀ b, S b → b < w.heap.size → w'.heap[b]? = w.heap[b]?

theorem lt_of_get {w : World} {b : Nat} {o : Obj} (h : w.heap[b]? = some o) : b < w.heap.size := (Array.getElem?_eq_some_iff.1 h).1

theorem Rep.mono {S S' : Nat → Prop} {w w' : World} {φ φ' : Nat → Option Loc} {x : CV} {y : Value} (h : Rep S w φ x y)
    (hφ : ∀ i l, φ i = some l → φ' i = some l) (hS : ∀ b, S b → S' b) (hw : Fix S w w') : Rep S' w' φ' x y := by
  induction h generalizing φ' with
  | v h => exact .v h
  | ptr h => exact .ptr (hφ _ _ h)
  | ref h h1 h2 h3 => exact .ref (hφ _ _ h) h1 h2 h3
  | refn h h1 => exact .refn (hφ _ _ h) h1
  | refe h h1 h2 => exact .refe (hφ _ _ h) h1 h2
  | nil h => exact .nil h
  | lst h1 h2 h0 h3 h4 h5 h6 _ ih => exact .lst (hS _ h1) ((hw _ h1 (lt_of_get h2)).trans h2) h0 h3 h4 h5 h6 (fun i r j x y a b c => ih i r j x y a b c (fun _ _ h => by cases h))
  | rowp h1 h2 h3 _ ih => exact .rowp (hS _ h1) ((hw _ h1 (lt_of_get h2)).trans h2) h3 (fun j x y a b => ih j x y a b (fun _ _ h => by cases h))

def CV.ren (ρ : Nat → Nat) : CV → CV
  | .ptr i r o => .ptr (ρ i) r o
  | .ref i o l => .ref (ρ i) o l
  | x => x

theorem Rep.ren {S S' : Nat → Prop} {w w' : World} {φ φ' : Nat → Option Loc} {x : CV} {y : Value} (ρ : Nat → Nat) (h : Rep S w φ x y)
    (hφ : ∀ i l, φ i = some l → φ' (ρ i) = some l) (hS : ∀ b, S b → S' b) (hw : Fix S w w') : Rep S' w' φ' (x.ren ρ) y := by
  cases h with
  | v h => exact .v h
  | ptr h => exact .ptr (hφ _ _ h)
  | ref h h1 h2 h3 => exact .ref (hφ _ _ h) h1 h2 h3
  | refn h h1 => exact .refn (hφ _ _ h) h1
  | refe h h1 h2 => exact .refe (hφ _ _ h) h1 h2
  | nil h => exact .nil h
  | lst h1 h2 h0 h3 h4 h5 h6 h7 => exact (Rep.lst h1 h2 h0 h3 h4 h5 h6 h7).mono (φ := fun _ => none) (fun _ _ h => by cases h) hS hw
  | rowp h1 h2 h3 h4 => exact (Rep.rowp h1 h2 h3 h4).mono (φ := fun _ => none) (fun _ _ h => by cases h) hS hw

def All2 {α β : Type} (R : α → β → Prop) (xs : List α) (ys : List β) : Prop := xs.length = ys.length ∧ ∀ (j : Nat) (x : α) (y : β), xs[j]? = some x → ys[j]? = some y → R x y

theorem All2.nil {α β : Type} (R : α → β → Prop) : All2 R [] [] := ⟨rfl, fun _ _ _ h => by simp at h⟩
theorem All2.cons {α β : Type} {R : α → β → Prop} {x : α} {y : β} {xs : List α} {ys : List β} (h : R x y) (t : All2 R xs ys) : All2 R (x :: xs) (y :: ys) := by
  refine ⟨by simp [t.1], fun j a b ha hb => ?_⟩
  cases j with
  | zero => simp at ha hb; subst ha; subst hb; exact h
  | succ j => exact t.2 j a b (by simpa using ha) (by simpa using hb)
theorem All2.imp {α β γ : Type} {R : α → β → Prop} {R' : γ → β → Prop} (g : α → γ) {xs : List α} {ys : List β} (h : All2 R xs ys) (f : ∀ x y, R x y → R' (g x) y) : All2 R' (xs.map g) ys := by
  refine ⟨by simp [h.1], fun j a b ha hb => ?_⟩
  rw [List.getElem?_map] at ha
  obtain ⟨x, hx, rfl⟩ := Option.map_eq_some_iff.1 ha
  exact f _ _ (h.2 j x b hx hb)
theorem All2.mono {α β : Type} {R R' : α → β → Prop} {xs : List α} {ys : List β} (h : All2 R xs ys) (f : ∀ x y, R x y → R' x y) : All2 R' xs ys := ⟨h.1, fun j a b ha hb => f _ _ (h.2 j a b ha hb)⟩
theorem All2.get {α β : Type} {R : α → β → Prop} {xs : List α} {ys : List β} (h : All2 R xs ys) {j : Nat} {x : α} (hx : xs[j]? = some x) : ∃ y, ys[j]? = some y ∧ R x y := by
  have hj : j < ys.length := h.1 ▸ (List.getElem?_eq_some_iff.1 hx).1
  exact ⟨_, List.getElem?_eq_getElem hj, h.2 j x _ hx (List.getElem?_eq_getElem hj)⟩

def RepA (S : Nat → Prop) (w : World) (φ : Nat → Option Loc) : AV → Value → Prop
  | .c x, y => Rep S w φ x y
  | .agg cs, y => ∃ vs : List Value, y = .agg vs.toArray ∧ All2 (Rep S w φ) cs vs

def RepF (S : Nat → Prop) (w : World) (φ : Nat → Option Loc) : FV → Value → Prop
  | .a x, y => RepA S w φ x y
  | .tup xs, y => ∃ vs : List Value, y = .tuple vs.toArray ∧ All2 (RepA S w φ) xs vs

def AV.ren (ρ : Nat → Nat) : AV → AV
  | .c x => .c (x.ren ρ)
  | .agg cs => .agg (cs.map (·.ren ρ))
def FV.ren (ρ : Nat → Nat) : FV → FV
  | .a x => .a (x.ren ρ)
  | .tup vs => .tup (vs.map (·.ren ρ))

section
variable {S S' : Nat → Prop} {w w' : World} {φ φ' : Nat → Option Loc}
theorem RepA.ren {x : AV} {y : Value} (ρ : Nat → Nat) (h : RepA S w φ x y) (hφ : ∀ i l, φ i = some l → φ' (ρ i) = some l) (hS : ∀ b, S b → S' b) (hw : Fix S w w') : RepA S' w' φ' (x.ren ρ) y := by
  cases x with
  | c x => exact Rep.ren ρ h hφ hS hw
  | agg cs => obtain ⟨vs, rfl, h⟩ := h; exact ⟨vs, rfl, h.imp _ fun _ _ h => h.ren ρ hφ hS hw⟩
theorem RepA.mono {x : AV} {y : Value} (h : RepA S w φ x y) (hφ : ∀ i l, φ i = some l → φ' i = some l) (hS : ∀ b, S b → S' b) (hw : Fix S w w') : RepA S' w' φ' x y := by
  cases x with
  | c x => exact Rep.mono h hφ hS hw
  | agg cs => obtain ⟨vs, rfl, h⟩ := h; exact ⟨vs, rfl, h.mono fun _ _ h => h.mono hφ hS hw⟩
theorem RepF.ren {x : FV} {y : Value} (ρ : Nat → Nat) (h : RepF S w φ x y) (hφ : ∀ i l, φ i = some l → φ' (ρ i) = some l) (hS : ∀ b, S b → S' b) (hw : Fix S w w') : RepF S' w' φ' (x.ren ρ) y := by
  cases x with
  | a x => exact RepA.ren ρ h hφ hS hw
  | tup cs => obtain ⟨vs, rfl, h⟩ := h; exact ⟨vs, rfl, h.imp _ fun _ _ h => h.ren ρ hφ hS hw⟩
theorem RepF.mono {x : FV} {y : Value} (h : RepF S w φ x y) (hφ : ∀ i l, φ i = some l → φ' i = some l) (hS : ∀ b, S b → S' b) (hw : Fix S w w') : RepF S' w' φ' x y := by
  cases x with
  | a x => exact RepA.mono h hφ hS hw
  | tup cs => obtain ⟨vs, rfl, h⟩ := h; exact ⟨vs, rfl, h.mono fun _ _ h => h.mono hφ hS hw⟩
end

/-- An own block: its elements' type, their size, its rows as far as they are told. -/
structure Blk where
  e : Nat
  sz : Nat
  rows : List (List CV)

/-- A state: the slots, the own blocks, the names in use. -/
structure St where
  f : Nat → Option FV
  s : Nat → Option Blk
  u : Nat → Bool

structure BlkAt (S : Nat → Prop) (w : World) (φ : Nat → Option Loc) (l : Loc) (k : Blk) (C : Array Value) : Prop where
  sz : l.sz = k.sz
  heap : w.heap[l.b]? = some (.cells C k.e (0, 0))
  size : C.size = l.cap * l.sz
  len : k.rows.length ≤ l.cap
  cap : l.cap ≤ 9223372036854775807
  pos : 0 < k.sz
  row : ∀ r ∈ k.rows, r.length = k.sz
  cell : ∀ i r j x, k.rows[i]? = some r → r[j]? = some x → ∃ y, C[i * k.sz + j]? = some y ∧ Rep S w φ x y

/-- The block as the state tells of it, or a slice that is nil. -/
def BlkIs (S : Nat → Prop) (w : World) (φ : Nat → Option Loc) (l : Loc) (k : Blk) : Prop := l.sz = k.sz ∧ ((l.nl = true ∧ k.rows = []) ∨ (l.nl = false ∧ ¬ S l.b ∧ ∃ C, BlkAt S w φ l k C))

structure Sto (S : Nat → Prop) (w : World) (φ : Nat → Option Loc) (s : Nat → Option Blk) : Prop where
  at_ : ∀ id k, s id = some k → ∃ l, φ id = some l ∧ BlkIs S w φ l k
  inj : ∀ id id' k k' l l', s id = some k → s id' = some k' → φ id = some l → φ id' = some l' → l.nl = false → l'.nl = false → l.b = l'.b → id = id'

/-- What does not change along a call's walk. -/
structure Env where
  n : Nat
  w0 : World
  S0 : Nat → Prop
  M : Nat → Prop
  par : Nat → Option Loc

structure Rel (J : Env) (st : St) (φ : Nat → Option Loc) (S : Nat → Prop) (a : Act) (w : World) : Prop where
  nd : a.defers = []
  sz : a.tmps.size = J.n
  fr : ∀ t x, st.f t = some x → RepF S w φ x (a.tmps.getD t undef)
  sto : Sto S w φ st.s
  use : ∀ id l, φ id = some l → st.u id = true
  keep : Keep J.M J.w0 w
  lt : ∀ b, S b → b < w.heap.size
  own : ∀ id k l, st.s id = some k → φ id = some l → l.nl = false → J.M l.b ∨ J.w0.heap.size ≤ l.b
  par : ∀ id l, J.par id = some l → φ id = some l
  S0 : ∀ b, J.S0 b → S b
  S1 : ∀ b, S b → J.S0 b ∨ J.M b ∨ J.w0.heap.size ≤ b

def updF (f : Nat → Option FV) (t : Option Nat) (x : Option FV) : Nat → Option FV := match t with
  | none => f
  | some t => fun u => if u = t then x else f u
def updS (s : Nat → Option Blk) : List (Nat × Option Blk) → Nat → Option Blk
  | [] => s
  | (i, k) :: l => updS (fun u => if u = i then k else s u) l

/-- What an operation does: the slot's new value, blocks that turn, names that come in; the blocks that it reads. -/
structure Eff where
  val : Option FV
  sets : List (Nat × Option Blk)
  news : List Nat
  reads : List Nat

def St.app (st : St) (dst : Option Nat) (e : Eff) : St := ⟨updF st.f dst e.val, updS st.s e.sets, fun i => e.news.contains i || st.u i⟩

section
variable (P : Program) (n : Nat) (ops : Array Oper)
def Sound (o : Oper) (st st' : St) : Prop := ∀ J φ S a w, J.n = n → Rel J st φ S a w → ∀ (K : Act → World → Prop) (Q : Exit → Act → World → Prop),
  (∀ a' w' φ' S', Rel J st' φ' S' a' w' → K a' w') → if Region.wanted o (yielded ops a.tmps) then o.wp P a w K Q else K (a.put o.dst undef) w

structure Agree (o : Oper) (e : Eff) (st st2 : St) : Prop where
  f : ∀ t ∈ o.looksAt ops, st2.f t = st.f t
  s : ∀ i ∈ e.reads, st2.s i = st.s i
  u : ∀ i ∈ e.news, st2.u i = st.u i

def Step (o : Oper) (st : St) (e : Eff) : Prop := ∀ st2, Agree ops o e st st2 → Sound P n ops o st2 (st2.app o.dst e)

def Chain : List (Nat × Eff) → St → St → Prop
  | [], st, st' => st = st'
  | (i, e) :: l, st, st' => ∃ o, ops[i]? = some o ∧ Step P n ops o st e ∧ Chain l (st.app o.dst e) st'
end

def idsOf (e : Eff) : List Nat := e.sets.map (·.1)
def disj (a b : List Nat) : Bool := a.all fun i => !b.contains i

def indep (ops : Array Oper) (p q : Nat × Eff) : Bool :=
  (opAt ops p.1).apart ops (opAt ops q.1) && disj (idsOf p.2) (idsOf q.2) && disj (idsOf p.2) q.2.reads && disj (idsOf q.2) p.2.reads && disj p.2.news q.2.news

theorem updS_other {s : Nat → Option Blk} {l : List (Nat × Option Blk)} {i : Nat} (h : i ∉ l.map (·.1)) : updS s l i = s i := by
  induction l generalizing s with
  | nil => rfl
  | cons p l ih =>
    simp only [List.map_cons, List.mem_cons, not_or] at h
    rw [updS, ih h.2, if_neg h.1]
theorem updS_congr {s s' : Nat → Option Blk} {l : List (Nat × Option Blk)} {i : Nat} (h : i ∈ l.map (·.1) ∨ s i = s' i) : updS s l i = updS s' l i := by
  induction l generalizing s s' with
  | nil => rcases h with h | h; simp at h; exact h
  | cons p l ih =>
    rw [updS, updS]
    refine ih ?_
    simp only [List.map_cons, List.mem_cons] at h
    by_cases hi : i = p.1
    · exact .inr (by rw [if_pos hi, if_pos hi])
    · rcases h with (h | h) | h
      · exact absurd h hi
      · exact .inl h
      · exact .inr (by rw [if_neg hi, if_neg hi, h])
theorem updS_comm {s : Nat → Option Blk} {l m : List (Nat × Option Blk)} (h : ∀ i, i ∈ l.map (·.1) → i ∉ m.map (·.1)) : updS (updS s l) m = updS (updS s m) l := by
  funext i
  by_cases hm : i ∈ m.map (·.1)
  · have hl : i ∉ l.map (·.1) := fun hl => h i hl hm
    rw [updS_other hl]
    exact updS_congr (.inl hm)
  · rw [updS_other hm]
    by_cases hl : i ∈ l.map (·.1)
    · exact updS_congr (.inl hl)
    · rw [updS_other hl, updS_other hl, updS_other hm]

theorem disj_spec {a b : List Nat} (h : disj a b = true) : ∀ i ∈ a, i ∉ b := fun i hi => by
  have := List.all_eq_true.1 h i hi
  simpa using this

section
variable {P : Program} {n : Nat} {ops : Array Oper}
theorem updF_other {f : Nat → Option FV} {d : Option Nat} {x : Option FV} {t : Nat} (h : d ≠ some t) : updF f d x t = f t := by
  cases d with
  | none => rfl
  | some d => simp only [updF]; rw [if_neg (fun e => h (by rw [e]))]

/-- Two operations that have nothing to do with each other. -/
theorem Chain.swap {i j : Nat} {e e' : Eff} {l : List (Nat × Eff)} {st st' : St} (h : Chain P n ops ((i, e) :: (j, e') :: l) st st') (hd : indep ops (i, e) (j, e') = true) :
    Chain P n ops ((j, e') :: (i, e) :: l) st st' := by
  obtain ⟨oi, hi, si, oj, hj, sj, hl⟩ := h
  simp only [indep, Bool.and_eq_true] at hd
  obtain ⟨⟨⟨⟨hap, d1⟩, d2⟩, d3⟩, d4⟩ := hd
  rw [opAt_lit hi, opAt_lit hj] at hap
  obtain ⟨h1, h2, h3⟩ := Oper.apart_spec hap
  have d1 := disj_spec d1; have d2 := disj_spec d2; have d3 := disj_spec d3; have d4 := disj_spec d4
  have hS : ∀ i ∈ e'.reads, (st.app oi.dst e).s i = st.s i := fun k hk => updS_other (fun hm => d2 k hm hk)
  refine ⟨oj, hj, fun x hx => sj x ⟨fun t ht => ?_, fun k hk => ?_, fun k hk => ?_⟩, oi, hi, fun x hx => si x ⟨fun t ht => ?_, fun k hk => ?_, fun k hk => ?_⟩, ?_⟩
  · rw [hx.f t ht]
    exact (updF_other (fun h => h1 t h ht)).symm
  · rw [hx.s k hk, hS k hk]
  · rw [hx.u k hk]
    simp only [St.app]
    have : k ∉ e.news := fun h => d4 k h hk
    simp [this]
  · rw [hx.f t ht]
    exact updF_other (fun h => h3 t h ht)
  · rw [hx.s k hk]
    exact updS_other (fun hm => d3 k hm hk)
  · rw [hx.u k hk]
    simp only [St.app]
    have : k ∉ e'.news := fun h => d4 k hk h
    simp [this]
  · have : (st.app oj.dst e').app oi.dst e = (st.app oi.dst e).app oj.dst e' := by
      simp only [St.app, St.mk.injEq]
      refine ⟨?_, updS_comm (fun i hi hj => d1 i hj hi), ?_⟩
      · funext t
        by_cases hti : oi.dst = some t
        · have : oj.dst ≠ some t := h2 t hti
          rw [updF_other (f := updF st.f oi.dst e.val) this, hti]
          simp [updF]
        · rw [updF_other hti]
          by_cases htj : oj.dst = some t
          · rw [htj]; simp [updF]
          · rw [updF_other htj, updF_other htj, updF_other hti]
      · funext k
        rw [← Bool.or_assoc, ← Bool.or_assoc, Bool.or_comm (e.news.contains k)]
    rw [this]
    exact hl

theorem Chain.front {j : Nat} {e' : Eff} {l : List (Nat × Eff)} {st' : St} : ∀ (A : List (Nat × Eff)) (st : St), Chain P n ops (A ++ (j, e') :: l) st st' → (∀ p ∈ A, indep ops p (j, e') = true) → Chain P n ops ((j, e') :: (A ++ l)) st st'
  | [], _, h, _ => h
  | p :: A, st, h, hd => by
    obtain ⟨o, ho, s, h⟩ := h
    have := Chain.front A _ h (fun q hq => hd q (by simp [hq]))
    exact Chain.swap (i := p.1) (e := p.2) ⟨o, ho, s, this⟩ (hd p (by simp))

/-- Whatever is not listed yet, and ready, may come first. -/
def confl (md : Region.Mode) (ops : Array Oper) : List (Nat × Eff) → Bool
  | [] => true
  | p :: l => l.all (fun q => indep ops p q || (opAt ops q.1).after.any (fun x => Region.binds md x && x.on == p.1)) && confl md ops l

theorem confl_spec {md : Region.Mode} {A B : List (Nat × Eff)} {q : Nat × Eff} (h : confl md ops (A ++ q :: B) = true) :
    (∀ p ∈ A, indep ops p q = true ∨ ∃ x ∈ (opAt ops q.1).after, Region.binds md x = true ∧ x.on = p.1) ∧ confl md ops (A ++ B) = true := by
  induction A with
  | nil => simp only [List.nil_append, confl, Bool.and_eq_true] at h; exact ⟨by simp, h.2⟩
  | cons a A ih =>
    simp only [List.cons_append, confl, Bool.and_eq_true] at h
    obtain ⟨h1, h2⟩ := h
    obtain ⟨i1, i2⟩ := ih h2
    have h1' := List.all_eq_true.1 h1
    refine ⟨fun p hp => ?_, ?_⟩
    · rcases List.mem_cons.1 hp with rfl | hp
      · have := h1' q (by simp)
        rw [Bool.or_eq_true] at this
        rcases this with h | h
        · exact .inl h
        · obtain ⟨x, hx, hb⟩ := Array.any_eq_true'.1 h
          simp only [Bool.and_eq_true, beq_iff_eq] at hb
          exact .inr ⟨x, hx, hb⟩
      · exact i1 p hp
    · simp only [List.cons_append, confl, Bool.and_eq_true]
      refine ⟨List.all_eq_true.2 fun x hx => h1' x ?_, i2⟩
      rcases List.mem_append.1 hx with h | h
      · exact List.mem_append.2 (.inl h)
      · exact List.mem_append.2 (.inr (by simp [h]))

/-- The text's order is one of the orders. -/
def topo (md : Region.Mode) (ops : Array Oper) : Bool := (List.range ops.size).all fun i => (opAt ops i).after.all fun x => !Region.binds md x || decide (x.on < i)

theorem topo_spec {md : Region.Mode} (h : topo md ops = true) {i : Nat} {o : Oper} (ho : ops[i]? = some o) : ∀ x ∈ o.after, Region.binds md x = true → x.on < i := fun x hx hb => by
  have h1 := List.all_eq_true.1 h i (List.mem_range.2 (Array.getElem?_eq_some_iff.1 ho).1)
  rw [opAt_lit ho] at h1
  have h2 := Array.all_eq_true'.1 h1 x hx
  simpa [hb] using h2

theorem Chain.any {md : Region.Mode} {J : Env} {Q : Exit → Act → World → Prop} {st' : St} (hJ : J.n = n) (hQ : ∀ φ S a w, Rel J st' φ S a w → Q .normal a w) (htop : topo md ops = true) :
    ∀ (fuel : Nat) (listed : Array Bool) (L : List (Nat × Eff)) (st : St) φ S a w, L.length = fuel → (∀ i, (i < ops.size ∧ listed.getD i true = false) ↔ i ∈ L.map (·.1)) → (L.map (·.1)).Pairwise (· < ·) → listed.size = ops.size →
      Chain P n ops L st st' → confl md ops L = true → Rel J st φ S a w → wpAny P md ops Q fuel listed a w
  | 0, listed, L, st, φ, S, a, w, hl, hu, _, hsz, hc, _, hR => by
    obtain rfl := List.eq_nil_of_length_eq_zero hl
    refine ⟨?_, ?_⟩
    · unfold Region.ready
      rw [List.filter_eq_nil_iff]
      intro i hi
      have hi' : i < ops.size := by simpa using hi
      have := mt (hu i).1 (by simp)
      simp only [not_and, Bool.not_eq_false] at this
      simp [this hi']
    · have : st = st' := hc
      subst this
      exact hQ _ _ _ _ hR
  | fuel + 1, listed, L, st, φ, S, a, w, hl, hu, hnd, hsz, hc, hcf, hR => by
    refine ⟨fun h0 => ?_, fun i hi => ?_⟩
    · exfalso
      obtain ⟨p, L', rfl⟩ : ∃ p L', L = p :: L' := by
        cases L with
        | nil => simp at hl
        | cons p L' => exact ⟨p, L', rfl⟩
      obtain ⟨h1, h2⟩ := (hu p.1).2 (by simp)
      have hno : p.1 ∉ Region.ready md ops listed := by rw [h0]; simp
      refine hno (mem_ready.2 ⟨h2, opAt ops p.1, opAt_some h1, fun x hx hb => ?_⟩)
      have hlt := topo_spec htop (opAt_some h1) x hx hb
      have hnl : x.on ∉ (p :: L').map (·.1) := fun hm => by
        simp only [List.map_cons, List.mem_cons] at hm
        rcases hm with h | h
        · omega
        · have h7 : p.1 < x.on := (List.pairwise_cons.1 hnd).1 _ h
          omega
      have h3 := mt (hu x.on).1 hnl
      simp only [not_and, Bool.not_eq_false] at h3
      have h4 := h3 (by omega)
      have h5 : x.on < listed.size := by omega
      simp [h5] at h4 ⊢
      exact h4
    · obtain ⟨hun, o, ho, hall⟩ := mem_ready.1 hi
      have hil : i < ops.size := (Array.getElem?_eq_some_iff.1 ho).1
      have hmem := (hu i).1 ⟨hil, hun⟩
      obtain ⟨p, hp, hpi⟩ := List.mem_map.1 hmem
      obtain ⟨A, B, rfl⟩ := List.append_of_mem hp
      obtain ⟨j, e⟩ := p
      have hpi : j = i := hpi
      subst hpi
      obtain ⟨c1, c2⟩ := confl_spec hcf
      have hA : ∀ p ∈ A, indep ops p (j, e) = true := fun p hpA => by
        rcases c1 p hpA with h | ⟨x, hx, hb, hon⟩
        · exact h
        · exfalso
          simp only [opAt_lit ho] at hx
          have h1 := hall x hx hb
          have hpl := (hu p.1).2 (List.mem_map.2 ⟨p, List.mem_append.2 (.inl hpA), rfl⟩)
          rw [hon] at h1
          have h2 := hpl.2
          have h3 : p.1 < listed.size := by rw [hsz]; exact hpl.1
          simp [h3] at h1 h2
          rw [h2] at h1
          cases h1
      obtain ⟨o', ho', hs, hrest⟩ := Chain.front A st hc hA
      obtain rfl : o = o' := Option.some.inj (ho.symm.trans ho')
      have hsd := hs st ⟨fun _ _ => rfl, fun _ _ => rfl, fun _ _ => rfl⟩ J φ S a w hJ hR
      have hnd' : ((A ++ B).map (·.1)).Pairwise (· < ·) ∧ j ∉ (A ++ B).map (·.1) := by
        rw [List.map_append, List.map_cons, List.pairwise_append, List.pairwise_cons] at hnd
        obtain ⟨n1, ⟨n2, n3⟩, n4⟩ := hnd
        refine ⟨?_, fun hm => ?_⟩
        · rw [List.map_append, List.pairwise_append]
          exact ⟨n1, n3, fun a ha b hb => n4 a ha b (by simp [hb])⟩
        · rw [List.map_append, List.mem_append] at hm
          rcases hm with h | h
          · have := n4 j h j (by simp); omega
          · have := n2 j h; omega
      have hfin := hsd (wpAny P md ops Q fuel (listed.setIfInBounds j true)) Q (fun a' w' φ' S' hR' =>
        Chain.any hJ hQ htop fuel _ (A ++ B) _ φ' S' a' w' (by simp at hl ⊢; omega) (fun k => by
          by_cases hk : j = k
          · subst hk
            simp only [hnd'.2, iff_false, not_and, Bool.not_eq_false]
            intro _
            rw [Array.getD_eq_getD_getElem?, Array.getElem?_setIfInBounds_self_of_lt (by rw [hsz]; exact hil)]
            rfl
          · rw [getD_set_ne true hk, hu k]
            simp only [List.map_append, List.map_cons, List.mem_append, List.mem_cons]
            constructor
            · rintro (h | h | h)
              · exact .inl h
              · exact absurd h.symm hk
              · exact .inr h
            · rintro (h | h)
              · exact .inl h
              · exact .inr (.inr h)) hnd'.1 (by simpa using hsz) hrest c2 hR')
      unfold wpOp
      simp only [ho]
      split
      · rename_i hw; rw [if_pos hw] at hfin; exact .inl hfin
      · rename_i hw; rw [if_neg hw] at hfin; exact hfin
end
end Go.Proofs.Ytbcjjenidkgodaa
