/- What single operations do: memory. -/
import Derived.Test.YtbcjjenidkgodaaAw3
namespace Go.Proofs.Ytbcjjenidkgodaa
open Go Go.RowKit

def szOf (P : Program) (t : TypeId) : Option Nat := (P.info? t).map (·.size)
def aggP (P : Program) (t : TypeId) : Option Bool := match P.underlying t with
  | some (.struct _) => some true
  | some (.array _ _) => some true
  | some _ => some false
  | none => none
def zeroOf (P : Program) (t : TypeId) : Option (List Value) := (P.info? t).bind fun i => i.zero.map (·.cells.toList)
def fldOf (P : Program) (s : TypeId) (f : Nat) : Option (Nat × Nat × Bool) := match P.underlying s with
  | some (.struct fs) => (fs[f]?).bind fun f => match szOf P f.type, aggP P f.type with
    | some n, some b => some (f.offset, n, b)
    | _, _ => none
  | _ => none
def elOf (P : Program) (t : TypeId) : Option (TypeId × Nat × Bool) := match P.underlying t with
  | some (.slice e) => match szOf P e, aggP P e with
    | some n, some b => some (e, n, b)
    | _, _ => none
  | _ => none
def arOf (P : Program) (t : TypeId) : Option (Nat × TypeId × Nat × Bool) := match P.underlying t with
  | some (.array m e) => match szOf P e, aggP P e with
    | some n, some b => some (m, e, n, b)
    | _, _ => none
  | _ => none

section
variable {P : Program} {n : Nat} {ops : Array Oper} {o : Oper} {st : St} {J : Env} {φ : Nat → Option Loc} {S : Nat → Prop} {a : Act} {w : World}

theorem run_sizeOf {t : TypeId} {m : Nat} (h : szOf P t = some m) (w : World) : (sizeOf t).run P w = .ok m w := by
  unfold szOf at h
  obtain ⟨i, hi, rfl⟩ := Option.map_eq_some_iff.1 h
  simp [sizeOf, typeInfo, hi]
theorem run_isAgg {t : TypeId} {b : Bool} (h : aggP P t = some b) (w : World) : (isAgg t).run P w = .ok b w := by
  unfold aggP at h
  split at h
  · rename_i f hf; obtain rfl := Option.some.inj h; simp [isAgg, run_underlying hf]
  · rename_i m e hf; obtain rfl := Option.some.inj h; simp [isAgg, run_underlying hf]
  · rename_i d h1 h2 hf
    obtain rfl := Option.some.inj h
    simp only [isAgg, Sem.run_bind, run_underlying hf, Result.andThen_ok]
    rfl
  · cases h
theorem run_zeroValue {t : TypeId} {l : List Value} (h : zeroOf P t = some l) (w : World) : ∃ v, (zeroValue t).run P w = .ok v w ∧ v.cells.toList = l := by
  unfold zeroOf at h
  obtain ⟨i, hi, h2⟩ := Option.bind_eq_some_iff.1 h
  obtain ⟨z, hz, rfl⟩ := Option.map_eq_some_iff.1 h2
  exact ⟨z, by simp [zeroValue, typeInfo, hi, hz], rfl⟩

theorem addr_add2 (b o k : Nat) : (⟨b, o, none⟩ : Addr).add k = ⟨b, o + k, none⟩ := by
  unfold Addr.add
  by_cases h : k = 0 <;> simp [h]

/-- What a row of an own block needs: the block is there. -/
theorem BlkIs.there {l : Loc} {k : Blk} (h : BlkIs S w φ l k) {i : Nat} {r : List CV} (hr : k.rows[i]? = some r) : l.nl = false ∧ ¬ S l.b ∧ ∃ C, BlkAt S w φ l k C := by
  rcases h.2 with ⟨_, h2⟩ | h
  · rw [h2] at hr; simp at hr
  · exact h

/-- The world turns in one own block, or in a new one. -/
theorem Rel.turn {st' : St} {φ' : Nat → Option Loc} {a' : Act} {w' : World} (hR : Rel J st φ S a w) (id : Nat) (k' : Blk) (l' : Loc) (B : Nat → Prop)
    (hk : Keep B w w') (hB : ∀ b, B b → ∃ i k l, st.s i = some k ∧ φ i = some l ∧ l.nl = false ∧ l.b = b ∧ (i = id ∨ st'.s i = none))
    (hφ : ∀ i, φ' i = if i = id then some l' else φ i) (hid : φ id = none ∨ φ id = some l')
    (hs' : ∀ i k, st'.s i = some k → (i = id ∧ k = k') ∨ (i ≠ id ∧ st.s i = some k))
    (hl' : l'.nl = true ∨ (∃ i k l, st.s i = some k ∧ φ i = some l ∧ l.nl = false ∧ l.b = l'.b ∧ (i = id ∨ st'.s i = none)) ∨ w.heap.size ≤ l'.b)
    (hsz' : l'.sz = k'.sz) (hblk : (l'.nl = true ∧ k'.rows = []) ∨ (l'.nl = false ∧ ∃ C', BlkAt S w' φ' l' k' C')) (hu : ∀ i, (i = id ∨ st.u i = true) → st'.u i = true)
    (nd : a'.defers = []) (sz : a'.tmps.size = J.n) (fr : ∀ t x, st'.f t = some x → RepF S w' φ' x (a'.tmps.getD t undef)) : Rel J st' φ' S a' w' := by
  have hmono : ∀ i l, φ i = some l → φ' i = some l := fun i l h => by
    rw [hφ]
    by_cases hi : i = id
    · subst hi
      rcases hid with h0 | h0
      · rw [h0] at h; cases h
      · rw [if_pos rfl, ← h0, h]
    · rw [if_neg hi, h]
  have notS : ∀ i k l, st.s i = some k → φ i = some l → l.nl = false → ¬ S l.b := fun i k l h1 h2 h3 => by
    obtain ⟨l2, g1, _, g2⟩ := hR.sto.at_ i k h1
    rw [h2] at g1
    obtain rfl := Option.some.inj g1
    rcases g2 with ⟨g2, _⟩ | g2
    · rw [h3] at g2; cases g2
    · exact g2.2.1
  have hSB : ∀ b, S b → ¬ B b := fun b hb hBb => by
    obtain ⟨i, k, l, h1, h2, h3, rfl, _⟩ := hB b hBb
    exact notS i k l h1 h2 h3 hb
  have hfix : Fix S w w' := fun b hb hlt => hk.block b hlt (hSB b hb)
  have hlS : l'.nl = false → ¬ S l'.b := fun hn => by
    rcases hl' with h | ⟨i, k, l, h1, h2, h3, h4, _⟩ | h
    · rw [hn] at h; cases h
    · rw [← h4]; exact notS i k l h1 h2 h3
    · intro hS; have := hR.lt _ hS; omega
  have other : ∀ i k, i ≠ id → st'.s i = some k → st.s i = some k → ∃ l, φ i = some l ∧ φ' i = some l ∧ BlkIs S w' φ' l k ∧ (l.nl = false → l'.nl = false → l.b ≠ l'.b) := fun i k hne h' h => by
    obtain ⟨l, h1, hsz, h2⟩ := hR.sto.at_ i k h
    rcases h2 with ⟨h2, h3⟩ | ⟨h2, h3, C, h4⟩
    · exact ⟨l, h1, hmono _ _ h1, ⟨hsz, .inl ⟨h2, h3⟩⟩, fun e => by rw [h2] at e; cases e⟩
    · have nB : ¬ B l.b := fun hb => by
        obtain ⟨j, kj, lj, j1, j2, jn, j3, j4⟩ := hB l.b hb
        obtain rfl := hR.sto.inj j i kj k lj l j1 h j2 h1 jn h2 j3
        rcases j4 with j4 | j4
        · exact hne j4
        · rw [j4] at h'; cases h'
      have hlt := lt_of_get h4.heap
      refine ⟨l, h1, hmono _ _ h1, ⟨hsz, .inr ⟨h2, h3, C, ⟨h4.sz, (hk.block _ hlt nB).trans h4.heap, h4.size, h4.len, h4.cap, h4.pos, h4.row, fun i r j x a b => ?_⟩⟩⟩, fun _ hn' e => ?_⟩
      · obtain ⟨y, hy, hr⟩ := h4.cell i r j x a b
        exact ⟨y, hy, hr.mono hmono (fun _ h => h) hfix⟩
      · rcases hl' with hh | ⟨j, kj, lj, j1, j2, jn, j3, j4⟩ | hn
        · rw [hn'] at hh; cases hh
        · obtain rfl := hR.sto.inj j i kj k lj l j1 h j2 h1 jn h2 (j3.trans e.symm)
          rcases j4 with j4 | j4
          · exact hne j4
          · rw [j4] at h'; cases h'
        · omega
  refine ⟨nd, sz, fr, ⟨fun i k h => ?_, fun i j k kj l lj hi hj hli hlj hni hnj he => ?_⟩, fun i l h => ?_, ?_, fun b hb => Nat.lt_of_lt_of_le (hR.lt b hb) hk.size, fun i k l hi hl hn => ?_, fun i l h => hmono _ _ (hR.par i l h), hR.S0, hR.S1⟩
  · rcases hs' i k h with ⟨rfl, rfl⟩ | ⟨hne, h0⟩
    · exact ⟨l', by rw [hφ, if_pos rfl], hsz', hblk.imp (fun h => h) (fun ⟨h1, C', h2⟩ => ⟨h1, hlS h1, C', h2⟩)⟩
    · obtain ⟨l, _, h2, h3, _⟩ := other i k hne h h0
      exact ⟨l, h2, h3⟩
  · rcases hs' i k hi with ⟨rfl, rfl⟩ | ⟨hne, h0⟩
    · rcases hs' j kj hj with ⟨rfl, rfl⟩ | ⟨hnj', hj0⟩
      · rfl
      · obtain ⟨l2, g1, g2, g3, g5⟩ := other j kj hnj' hj hj0
        rw [g2] at hlj
        obtain rfl := Option.some.inj hlj
        rw [hφ, if_pos rfl] at hli
        obtain rfl := Option.some.inj hli
        exact absurd he.symm (g5 hnj hni)
    · obtain ⟨l2, g1, g2, g3, g5⟩ := other i k hne hi h0
      rw [g2] at hli
      obtain rfl := Option.some.inj hli
      rcases hs' j kj hj with ⟨rfl, rfl⟩ | ⟨hnj', hj0⟩
      · rw [hφ, if_pos rfl] at hlj
        obtain rfl := Option.some.inj hlj
        exact absurd he (g5 hni hnj)
      · obtain ⟨l3, f1, f2, _⟩ := other j kj hnj' hj hj0
        rw [f2] at hlj
        obtain rfl := Option.some.inj hlj
        exact hR.sto.inj i j k kj _ _ h0 hj0 g1 f1 hni hnj he
  · rw [hφ] at h
    by_cases hi : i = id
    · exact hu i (.inl hi)
    · rw [if_neg hi] at h; exact hu i (.inr (hR.use i l h))
  · refine hR.keep.trans hk (fun b hb hBb => ?_)
    obtain ⟨i, k, l, h1, h2, h3, rfl, _⟩ := hB b hBb
    rcases hR.own i k l h1 h2 h3 with h | h
    · exact h
    · omega
  · rcases hs' i k hi with ⟨rfl, rfl⟩ | ⟨hne, h0⟩
    · rw [hφ, if_pos rfl] at hl
      obtain rfl := Option.some.inj hl
      rcases hl' with hh | ⟨j, kj, lj, j1, j2, jn, j3, _⟩ | hn'
      · rw [hn] at hh; cases hh
      · rw [← j3]; exact hR.own j kj lj j1 j2 jn
      · exact .inr (Nat.le_trans hR.keep.size hn')
    · obtain ⟨l2, g1, g2, _⟩ := other i k hne hi h0
      rw [g2] at hl
      obtain rfl := Option.some.inj hl
      exact hR.own i k _ h0 g1 hn

/-- What is in the frame stays, and one slot comes in. -/
theorem fr_step {w' : World} {φ' : Nat → Option Loc} {d : Option Nat} {x : Option FV} {y : Value} (hR : Rel J st φ S a w) (hd : dstOk J.n d = true) (hm : ∀ i l, φ i = some l → φ' i = some l) (hf : Fix S w w') (hx : ∀ x', x = some x' → RepF S w' φ' x' y) :
    ∀ t x', updF st.f d x t = some x' → RepF S w' φ' x' ((a.put d y).tmps.getD t undef) :=
  put_fr (by rw [hR.sz]; exact hd) (fun t x h => (hR.fr t x h).mono hm (fun _ h => h) hf) hx

theorem put_nd {d : Option Nat} {y : Value} (h : a.defers = []) : (a.put d y).defers = [] := by cases d <;> exact h
theorem put_sz {d : Option Nat} {y : Value} (h : a.tmps.size = n) : (a.put d y).tmps.size = n := by
  cases d
  · exact h
  · simpa [Act.put] using h

/-- A new block. -/
theorem Rel.new {d : Option Nat} {y : Value} {x : FV} {rd : List Nat} (hR : Rel J st φ S a w) (id : Nat) (k : Blk) (cap : Nat) (C : Array Value) (hid : st.u id = false) (hd : dstOk J.n d = true)
    (hsz : C.size = cap * k.sz) (hlen : k.rows.length ≤ cap) (hcap : cap ≤ 9223372036854775807) (hpos : 0 < k.sz) (hrow : ∀ r ∈ k.rows, r.length = k.sz)
    (hcell : ∀ i r j x, k.rows[i]? = some r → r[j]? = some x → ∃ y, C[i * k.sz + j]? = some y ∧ Rep S w φ x y)
    (hx : ∀ φ', φ' id = some ⟨w.heap.size, k.sz, cap, false⟩ → RepF S (w.alloc (.cells C k.e)) φ' x y) :
    ∃ φ', Rel J (st.app d ⟨some x, [(id, some k)], [id], rd⟩) φ' S (a.put d y) (w.alloc (.cells C k.e)) := by
  have hφid : φ id = none := by
    cases h : φ id with
    | none => rfl
    | some l => have := hR.use id l h; rw [hid] at this; cases this
  have hm : ∀ i l, φ i = some l → (fun i => if i = id then some (⟨w.heap.size, k.sz, cap, false⟩ : Loc) else φ i) i = some l := fun i l h => by
    simp only []
    rw [if_neg (fun e => by rw [e, hφid] at h; cases h)]
    exact h
  have hk : Keep (fun _ => False) w (w.alloc (.cells C k.e)) := (Keep.refl _ w).alloc _
  have hf : Fix S w (w.alloc (.cells C k.e)) := fun b _ hb => hk.block b hb (fun h => h)
  refine ⟨fun i => if i = id then some ⟨w.heap.size, k.sz, cap, false⟩ else φ i, Rel.turn hR id k ⟨w.heap.size, k.sz, cap, false⟩ (fun _ => False) hk (fun _ h => h.elim) (fun _ => rfl) (.inl hφid) (fun i k2 h => ?_) (.inr (.inr (Nat.le_refl _))) rfl (.inr ⟨rfl, C, ?_⟩) (fun i h => ?_) (put_nd hR.nd) (put_sz hR.sz)
    (fr_step hR hd hm hf (fun x' e => by obtain rfl := Option.some.inj e; exact hx _ (if_pos rfl)))⟩
  · simp only [St.app, updS] at h
    by_cases hi : i = id
    · rw [if_pos hi] at h; exact .inl ⟨hi, (Option.some.inj h).symm⟩
    · rw [if_neg hi] at h; exact .inr ⟨hi, h⟩
  · exact ⟨rfl, at_new rfl, hsz, hlen, hcap, hpos, hrow, fun i r j x h1 h2 => by
      obtain ⟨y, h3, h4⟩ := hcell i r j x h1 h2
      exact ⟨y, h3, h4.mono hm (fun _ h => h) hf⟩⟩
  · simp only [St.app]
    rcases h with rfl | h
    · simp
    · simp [h]

theorem Sound.of {e : Eff} {st2 : St} (hg : guardVal ops st2 o = some true) (h : ∀ J φ S a w, J.n = n → Rel J st2 φ S a w → ∃ nx w' φ' S' y, (execOp a.eval o).run P w = .ok nx w' ∧ (nx = .value y ∨ (nx = .skip ∧ y = undef)) ∧ Rel J (st2.app o.dst e) φ' S' (a.put o.dst y) w') :
    Sound P n ops o st2 (st2.app o.dst e) := by
  intro J φ S a w hJ hR K Q hK
  rw [guard_wanted hR hg, if_pos rfl]
  obtain ⟨nx, w', φ', S', y, h1, h2, h3⟩ := h J φ S a w hJ hR
  unfold Oper.wp
  rw [h1]
  rcases h2 with rfl | ⟨rfl, rfl⟩
  · exact hK _ _ φ' S' h3
  · exact hK _ _ φ' S' h3

/-- A variable of its own. -/
theorem step_alloc {t : TypeId} {l : List Value} {id : Nat} (ho : o.op = .alloc t) (hg : guardVal ops st o = some true) (hd : dstOk n o.dst = true) (hz : zeroOf P t = some l) (hp : l.all plain = true) (hl : 0 < l.length) (hid : st.u id = false) :
    Step P n ops o st ⟨some (.a (.c (.ptr id 0 0))), [(id, some ⟨t, l.length, [l.map .v]⟩)], [id], []⟩ := by
  intro st2 hA
  refine Sound.of (hA.guard.trans hg) fun J φ S a w hJ hR => ?_
  obtain ⟨v, hv, rfl⟩ := run_zeroValue hz w
  have hrun : (execOp a.eval o).run P w = .ok (.value (.pointer (some ⟨w.heap.size, 0, none⟩))) (w.alloc (.cells v.cells t)) := by
    unfold execOp
    simp only [ho, Instr.alloc, newVar, newRow, Sem.run_bind, hv, Result.andThen_ok]
    rfl
  obtain ⟨φ', h⟩ := hR.new (d := o.dst) (x := .a (.c (.ptr id 0 0))) (y := .pointer (some ⟨w.heap.size, 0, none⟩)) (rd := []) id ⟨t, v.cells.toList.length, [v.cells.toList.map .v]⟩ 1 v.cells ((hA.u id (by simp)).trans hid) (by rw [hJ]; exact hd) (by simp) (by simp) (by decide) hl
    (by simp) (fun i r j x h1 h2 => by
      cases i with
      | succ i => simp at h1
      | zero =>
        simp only [List.getElem?_cons_zero, Option.some.injEq] at h1
        subst h1
        rw [List.getElem?_map] at h2
        obtain ⟨y, hy, rfl⟩ := Option.map_eq_some_iff.1 h2
        exact ⟨y, by simpa using hy, .v (List.all_eq_true.1 hp y (List.mem_of_getElem? hy))⟩)
    (fun φ' h => by have := Rep.ptr (S := S) (w := w.alloc (.cells v.cells t)) (row := 0) (off := 0) h; simp only [Nat.zero_mul, Nat.zero_add] at this; exact this)
  exact ⟨_, _, _, S, _, hrun, .inl rfl, h⟩

def FV.cells : FV → Option (List CV)
  | .a (.c x) => some [x]
  | .a (.agg cs) => some cs
  | .tup _ => none

theorem repF_cells {x : FV} {y : Value} {cs : List CV} (h : RepF S w φ x y) (hc : x.cells = some cs) : ∃ vs : List Value, y.cells = vs.toArray ∧ All2 (Rep S w φ) cs vs := by
  cases x with
  | tup v => cases hc
  | a x =>
    cases x with
    | c x =>
      obtain rfl := Option.some.inj hc
      have h1 : y.cells = #[y] := by have := Rep.one h; cases y <;> first | rfl | cases this
      exact ⟨[y], h1, All2.cons h (All2.nil _)⟩
    | agg x =>
      obtain rfl := Option.some.inj hc
      obtain ⟨vs, rfl, h⟩ := h
      exact ⟨vs, rfl, h⟩

def putRow (r : List CV) (off : Nat) (cs : List CV) : List CV := r.take off ++ cs ++ r.drop (off + cs.length)

/-- A store into an own block. -/
theorem step_store {t : TypeId} {p q : Operand} {id row off : Nat} {x : FV} {cs : List CV} {k : Blk} {r : List CV} (ho : o.op = .store t p q) (hg : guardVal ops st o = some true) (hd : o.dst = none)
    (hp : st.ev p = some (.a (.c (.ptr id row off)))) (hq : st.ev q = some x) (hx : x.cells = some cs) (hsz : szOf P t = some cs.length) (hk : st.s id = some k) (hr : k.rows[row]? = some r) (hoff : off + cs.length ≤ k.sz) :
    Step P n ops o st ⟨none, [(id, some { k with rows := k.rows.set row (putRow r off cs) })], [], [id]⟩ := by
  intro st2 hA
  refine Sound.of (hA.guard.trans hg) fun J φ S a w hJ hR => ?_
  have e1 := ev_rep hR ((hA.ev (by rw [ho]; simp [Op.operands])).trans hp)
  have e2 := ev_rep hR ((hA.ev (by rw [ho]; simp [Op.operands])).trans hq)
  have hk2 : st2.s id = some k := (hA.s id (by simp)).trans hk
  obtain ⟨l, hl, hbi⟩ := hR.sto.at_ id k hk2
  obtain ⟨hnl, hS, C, hb⟩ := hbi.there hr
  obtain ⟨vs, hv, hvs⟩ := repF_cells e2 hx
  have ea : a.eval p = .pointer (some ⟨l.b, row * k.sz + off, none⟩) := by
    have e1' : Rep S w φ (.ptr id row off) (a.eval p) := e1
    generalize a.eval p = y at e1'
    cases e1' with
    | ptr h => rw [hl] at h; obtain rfl := Option.some.inj h; rw [hb.sz]
  have hrl : r.length = k.sz := hb.row r (List.mem_of_getElem? hr)
  have hrow : row < k.rows.length := (List.getElem?_eq_some_iff.1 hr).1
  have hlen : vs.length = cs.length := hvs.1.symm
  have hfit : row * k.sz + off + 0 + vs.length ≤ C.size := by
    rw [hb.size, hb.sz, hlen]
    have h1 : (row + 1) * k.sz ≤ l.cap * k.sz := Nat.mul_le_mul_right _ (Nat.le_trans hrow hb.len)
    rw [Nat.add_mul] at h1
    omega
  have hst := run_storeCells_at (P := P) l.b (row * k.sz + off) k.e vs 0 C w hb.heap hfit (fun v hv => by
    obtain ⟨j, hj, rfl⟩ := List.getElem_of_mem hv
    exact (hvs.2 j _ _ (List.getElem?_eq_getElem (by omega)) (List.getElem?_eq_getElem hj)).one)
  simp only [Nat.add_zero] at hst
  generalize hC' : (C.toList.take (row * k.sz + off) ++ vs ++ C.toList.drop (row * k.sz + off + vs.length)).toArray = C' at hst
  have hrun : (execOp a.eval o).run P w = .ok .skip (w.setRow l.b C') := by
    unfold execOp
    simp only [ho, ea, Instr.storeAt, Instr.sureAddr, storeVar, Sem.run_bind, Sem.run_pure, Result.andThen_ok, run_sizeOf hsz, hv, List.size_toArray, hlen]
    rw [if_neg (by simp)]
    simp only [Sem.run_bind, Sem.run_pure, Result.andThen_ok, hst]
  have hkeep : Keep (fun b => b = l.b) w (w.setRow l.b C') := ⟨rfl, rfl, rfl, by simp [World.setRow], fun b hb hn => setRow_other w l.b b C' hn⟩
  have hf : Fix S w (w.setRow l.b C') := fun b hb _ => setRow_other w l.b b C' (fun e => hS (by rw [← e]; exact hb))
  have hput : (putRow r off cs).length = k.sz := by simp [putRow]; omega
  have hCget : ∀ m, C'[m]? = if m < row * k.sz + off then C[m]? else if m < row * k.sz + off + cs.length then vs[m - (row * k.sz + off)]? else C[m]? := fun m => by
    rw [← hC']
    simp only [List.getElem?_toArray]
    have hCl : row * k.sz + off + cs.length ≤ C.toList.length := by simpa [hlen] using hfit
    have htk : (C.toList.take (row * k.sz + off)).length = row * k.sz + off := by rw [List.length_take]; omega
    by_cases h1 : m < row * k.sz + off
    · rw [if_pos h1, List.append_assoc, List.getElem?_append_left (by rw [htk]; exact h1), List.getElem?_take_of_lt h1]; simp
    · rw [if_neg h1]
      by_cases h2 : m < row * k.sz + off + cs.length
      · rw [if_pos h2, List.append_assoc, List.getElem?_append_right (by rw [htk]; omega), htk, List.getElem?_append_left (by omega)]
      · rw [if_neg h2, List.getElem?_append_right (by rw [List.length_append, htk]; omega), List.length_append, htk, List.getElem?_drop]
        simp only [Array.getElem?_toList]
        congr 1
        omega
  refine ⟨.skip, w.setRow l.b C', φ, S, undef, hrun, .inr ⟨rfl, rfl⟩, ?_⟩
  refine Rel.turn hR id { k with rows := k.rows.set row (putRow r off cs) } l (fun b => b = l.b) hkeep (fun b e => ⟨id, k, l, hk2, hl, hnl, e.symm, .inl rfl⟩) (fun i => ?_) (.inr hl) (fun i k3 h => ?_) (.inr (.inl ⟨id, k, l, hk2, hl, hnl, rfl, .inl rfl⟩)) hb.sz (.inr ⟨hnl, C', ?_⟩) (fun i h => ?_) (put_nd hR.nd) (put_sz hR.sz)
    (fr_step hR (by rw [hd]; rfl) (fun _ _ h => h) hf (fun x' e => by cases e))
  · by_cases hi : i = id
    · rw [if_pos hi, hi, hl]
    · rw [if_neg hi]
  · simp only [St.app, updS] at h
    by_cases hi : i = id
    · rw [if_pos hi] at h; exact .inl ⟨hi, (Option.some.inj h).symm⟩
    · rw [if_neg hi] at h; exact .inr ⟨hi, h⟩
  · refine ⟨hb.sz, setRow_heap w l.b C C' k.e (0, 0) hb.heap, ?_, by simpa using hb.len, hb.cap, hb.pos, fun r' h => ?_, fun i r' j x h1 h2 => ?_⟩
    · rw [← hC']
      have := hb.size
      simp only [List.size_toArray, List.length_append, List.length_take, List.length_drop, Array.length_toList]
      omega
    · rcases List.mem_or_eq_of_mem_set h with h | rfl
      · exact hb.row r' h
      · exact hput
    · show ∃ y, C'[i * k.sz + j]? = some y ∧ Rep S (w.setRow l.b C') φ x y
      have hjl : j < k.sz := by
        have := (List.getElem?_eq_some_iff.1 h2).1
        have hr' : r' ∈ k.rows.set row (putRow r off cs) := List.mem_of_getElem? h1
        rcases List.mem_or_eq_of_mem_set hr' with h | rfl
        · rw [hb.row r' h] at this; exact this
        · rw [hput] at this; exact this
      by_cases hi : row = i
      · subst hi
        simp only [List.getElem?_set_self hrow, Option.some.injEq] at h1
        subst h1
        rw [hCget]
        unfold putRow at h2
        by_cases h3 : j < off
        · rw [if_pos (by omega)]
          rw [List.append_assoc, List.getElem?_append_left (by rw [List.length_take]; omega), List.getElem?_take_of_lt h3] at h2
          obtain ⟨y, hy, hr2⟩ := hb.cell row r j x hr h2
          exact ⟨y, hy, hr2.mono (fun _ _ h => h) (fun _ h => h) hf⟩
        · rw [if_neg (by omega)]
          have htl : (r.take off).length = off := by rw [List.length_take]; omega
          by_cases h4 : j < off + cs.length
          · rw [if_pos (by omega)]
            rw [List.append_assoc, List.getElem?_append_right (by rw [htl]; omega), htl, List.getElem?_append_left (by omega)] at h2
            obtain ⟨y, hy, hr2⟩ := hvs.get h2
            refine ⟨y, ?_, hr2.mono (fun _ _ h => h) (fun _ h => h) hf⟩
            rw [← hy]; congr 1; omega
          · rw [if_neg (by omega)]
            rw [List.getElem?_append_right (by rw [List.length_append, htl]; omega), List.length_append, htl, List.getElem?_drop, show off + cs.length + (j - (off + cs.length)) = j by omega] at h2
            obtain ⟨y, hy, hr2⟩ := hb.cell row r j x hr h2
            exact ⟨y, hy, hr2.mono (fun _ _ h => h) (fun _ h => h) hf⟩
      · rw [List.getElem?_set_ne hi] at h1
        obtain ⟨y, hy, hr2⟩ := hb.cell i r' j x h1 h2
        refine ⟨y, ?_, hr2.mono (fun _ _ h => h) (fun _ h => h) hf⟩
        rw [hCget]
        rcases Nat.lt_or_gt_of_ne hi with h3 | h3
        · have : (row + 1) * k.sz ≤ i * k.sz := Nat.mul_le_mul_right _ h3
          rw [Nat.add_mul] at this
          rw [if_neg (by omega), if_neg (by omega)]; exact hy
        · have : (i + 1) * k.sz ≤ row * k.sz := Nat.mul_le_mul_right _ h3
          rw [Nat.add_mul] at this
          rw [if_pos (by omega)]; exact hy
  · simp only [St.app]
    rcases h with rfl | h
    · have := hR.use i l hl; simp [this]
    · simp [h]
end
end Go.Proofs.Ytbcjjenidkgodaa
