/- The walk's rules: regions, control, the end of a body. -/
import Derived.Test.YtbcjjenidkgodaaAw1
namespace Go.Proofs.Ytbcjjenidkgodaa
open Go Go.RowKit

section
variable {P : Program} {J : Env} {Q : Exit → St → Prop} {st : St}

/-- From every machine state that the abstract one tells of, the code comes to one that Q tells of. -/
def AW (P : Program) (J : Env) (c : Code) (Q : Exit → St → Prop) (st : St) : Prop :=
  ∀ φ S a w, Rel J st φ S a w → c.wp P (fun e a' w' => ∃ st' φ' S', Q e st' ∧ Rel J st' φ' S' a' w') a w

theorem AW.mono {c : Code} {Q' : Exit → St → Prop} (h : AW P J c Q st) (hq : ∀ e st, Q e st → Q' e st) : AW P J c Q' st := fun φ S a w hR =>
  Code.wp_mono (fun e a w ⟨st', φ', S', q, r⟩ => ⟨st', φ', S', hq _ _ q, r⟩) (h φ S a w hR)

def AThen (next : St → Prop) (Q : Exit → St → Prop) : Exit → St → Prop
  | .normal, st => next st
  | e, st => Q e st
def ABlock (id : Nat) (Q : Exit → St → Prop) : Exit → St → Prop
  | .exit id', st => if id' = id then Q .normal st else Q (.exit id') st
  | e, st => Q e st

theorem aw_skip (h : Q .normal st) : AW P J .skip Q st := fun φ S a w hR => wp_skip ⟨st, φ, S, h, hR⟩
theorem aw_exit {id : Nat} (h : Q (.exit id) st) : AW P J (.exit id) Q st := fun φ S a w hR => wp_exit ⟨st, φ, S, h, hR⟩
theorem aw_ret (h : Q .ret st) : AW P J .ret Q st := fun φ S a w hR => wp_ret ⟨st, φ, S, h, hR⟩
theorem aw_seq {x y : Code} (h : AW P J x (AThen (AW P J y Q) Q) st) : AW P J (.seq x y) Q st := fun φ S a w hR =>
  wp_seq (Code.wp_mono (fun e a' w' ⟨st', φ', S', q, r⟩ => by
    cases e with
    | normal => exact q φ' S' a' w' r
    | _ => exact ⟨st', φ', S', q, r⟩) (h φ S a w hR))
theorem aw_block {id : Nat} {c : Code} (h : AW P J c (ABlock id Q) st) : AW P J (.block id c) Q st := fun φ S a w hR =>
  wp_block (Code.wp_mono (fun e a' w' ⟨st', φ', S', q, r⟩ => by
    cases e with
    | exit id' =>
      by_cases h : id' = id
      · simp only [ABlock, h, if_true] at q; simp only [Exit.inBlock, h, if_true]; exact ⟨st', φ', S', q, r⟩
      · simp only [ABlock, h, if_false] at q; simp only [Exit.inBlock, h, if_false]; exact ⟨st', φ', S', q, r⟩
    | _ => exact ⟨st', φ', S', q, r⟩) (h φ S a w hR))

theorem repF_bool {S : Nat → Prop} {w : World} {φ : Nat → Option Loc} {x y : Value} (h : RepF S w φ (.a (.c (.v x))) y) : y = x := by
  cases h; rfl

theorem aw_cond {t : Nat} {x y : Code} {b : Bool} (hc : st.f t = some (.a (.c (.v (.bool b))))) (h : AW P J (if b then x else y) Q st) : AW P J (.cond (.tmp t) x y) Q st := fun φ S a w hR =>
  wp_cond (t := b) (by have := repF_bool (hR.fr t _ hc); exact this) (h φ S a w hR)

theorem exists_least {p : Nat → Prop} (h : ∃ n, p n) : ∃ n, p n ∧ ∀ m, p m → n ≤ m := by
  obtain ⟨n, hn⟩ := h
  induction n using Nat.strongRecOn with
  | _ n ih =>
    by_cases hc : ∃ m, m < n ∧ p m
    · obtain ⟨m, hm, hp⟩ := hc; exact ih m hm hp
    · exact ⟨n, hn, fun m hm => Nat.le_of_not_lt fun hlt => hc ⟨m, hlt, hm⟩⟩

open Classical in
noncomputable def leastOf (p : Nat → Prop) : Nat := if h : ∃ n, p n then Classical.choose (exists_least h) else 0
theorem leastOf_spec {p : Nat → Prop} (h : ∃ n, p n) : p (leastOf p) ∧ ∀ m, p m → leastOf p ≤ m := by
  unfold leastOf; rw [dif_pos h]; exact Classical.choose_spec (exists_least h)

/-- Whatever the one state tells of, the other one tells of too. -/
def Cv (J : Env) (st st2 : St) : Prop := ∀ φ S a w, Rel J st φ S a w → ∃ φ' S', Rel J st2 φ' S' a w
theorem Cv.refl (J : Env) (st : St) : Cv J st st := fun φ S _ _ h => ⟨φ, S, h⟩

/-- A loop, one round at a time: the number falls. -/
theorem aw_loop {c : Code} (I : Nat → St → Prop) (n : Nat) (h0 : I n st) (round : ∀ n st, I n st → AW P J c (AThen (fun st' => ∃ st2 m, Cv J st' st2 ∧ m < n ∧ I m st2) Q) st) : AW P J (.loop c) Q st := fun φ S a w hR => by
  let G : Act → World → Nat → Prop := fun a w n => ∃ st φ S, I n st ∧ Rel J st φ S a w
  refine wp_loop (fun a w => ∃ n, G a w n) (fun a w => leastOf (G a w)) ⟨n, st, φ, S, h0, hR⟩ (fun a w hG => ?_)
  obtain ⟨⟨st, φ, S, hI, hR⟩, hmin⟩ := leastOf_spec hG
  refine Code.wp_mono ?_ (round _ st hI φ S a w hR)
  rintro e a' w' ⟨st', φ', S', q, r⟩
  cases e with
  | normal =>
    obtain ⟨st2, m, hcv, hlt, hI'⟩ := q
    obtain ⟨φ2, S2, r2⟩ := hcv φ' S' a' w' r
    have hG' : G a' w' m := ⟨st2, φ2, S2, hI', r2⟩
    exact ⟨⟨m, hG'⟩, Nat.lt_of_le_of_lt ((leastOf_spec ⟨m, hG'⟩).2 m hG') hlt⟩
  | _ => exact ⟨st', φ', S', q, r⟩

theorem Rel.drew {φ : Nat → Option Loc} {S : Nat → Prop} {a : Act} {w : World} (h : Rel J st φ S a w) : Rel J st φ S a w.drew := by
  have hf : Fix S w w.drew := fun _ _ _ => rfl
  refine ⟨h.nd, h.sz, fun t x hx => (h.fr t x hx).mono (fun _ _ h => h) (fun _ h => h) hf, ⟨fun id k hk => ?_, h.sto.inj⟩, h.use, h.keep.drew, h.lt, h.own, h.par, h.S0, h.S1⟩
  obtain ⟨l, h1, hsz, h2⟩ := h.sto.at_ id k hk
  refine ⟨l, h1, hsz, h2.imp (fun h => h) ?_⟩
  rintro ⟨h4, h5, C, h3⟩
  exact ⟨h4, h5, C, ⟨h3.sz, h3.heap, h3.size, h3.len, h3.cap, h3.pos, h3.row, fun i r j x a b => by
    obtain ⟨y, hy, hr⟩ := h3.cell i r j x a b
    exact ⟨y, hy, hr.mono (fun _ _ h => h) (fun _ h => h) hf⟩⟩⟩

theorem chain_wpOps {ops : Array Oper} {n : Nat} {K : Exit → Act → World → Prop} {st' : St} (hJ : J.n = n) (hK : ∀ φ S a w, Rel J st' φ S a w → K .normal a w) :
    ∀ (L : List (Nat × Eff)) (st : St) φ S a w, Rel J st φ S a w → Chain P n ops L st st' → wpOps P ops K (L.map (·.1)) a w
  | [], st, φ, S, a, w, hR, hc => by
    have : st = st' := hc
    subst this
    exact hK _ _ _ _ hR
  | (i, e) :: L, st, φ, S, a, w, hR, ⟨o, ho, hs, hc⟩ => by
    have hsd := hs st ⟨fun _ _ => rfl, fun _ _ => rfl, fun _ _ => rfl⟩ J φ S a w hJ hR (wpOps P ops K (L.map (·.1))) K (fun a' w' φ' S' hR' => chain_wpOps hJ hK L _ φ' S' a' w' hR' hc)
    simp only [List.map_cons, wpOps, ho]
    split
    · rename_i hw; rw [if_pos hw] at hsd; exact .inl hsd
    · rename_i hw; rw [if_neg hw] at hsd; exact hsd

/-- The operations in the text's order, each with what it does. -/
def Run (P : Program) (n : Nat) (ops : Array Oper) : Nat → List Oper → List (Nat × Eff) → St → (List (Nat × Eff) → St → Prop) → Prop
  | _, [], acc, st, K => K acc.reverse st
  | i, o :: l, acc, st, K => ∃ e, Step P n ops o st e ∧ Run P n ops (i + 1) l ((i, e) :: acc) (st.app o.dst e) K

theorem Chain.snoc {n : Nat} {ops : Array Oper} {i : Nat} {e : Eff} {o : Oper} : ∀ (L : List (Nat × Eff)) {st st' : St}, Chain P n ops L st st' → ops[i]? = some o → Step P n ops o st' e → Chain P n ops (L ++ [(i, e)]) st (st'.app o.dst e)
  | [], st, st', hc, ho, hs => by
    have : st = st' := hc
    subst this
    exact ⟨o, ho, hs, rfl⟩
  | (j, f) :: L, st, st', ⟨oj, hj, sj, hc⟩, ho, hs => ⟨oj, hj, sj, Chain.snoc L hc ho hs⟩

theorem Run.chain {n : Nat} {ops : Array Oper} {K : List (Nat × Eff) → St → Prop} {st0 : St} : ∀ (l : List Oper) (i : Nat) (acc : List (Nat × Eff)) (st : St), (∀ j, l[j]? = ops[i + j]?) → acc.reverse.map (·.1) = List.range i → Chain P n ops acc.reverse st0 st →
    Run P n ops i l acc st K → ∃ L st', L.map (·.1) = List.range (i + l.length) ∧ Chain P n ops L st0 st' ∧ K L st'
  | [], i, acc, st, _, ha, hc, hr => ⟨acc.reverse, st, by simpa using ha, hc, hr⟩
  | o :: l, i, acc, st, hl, ha, hc, ⟨e, hs, hr⟩ => by
    have ho : ops[i]? = some o := by simpa using (hl 0).symm
    obtain ⟨L, st', h1, h2, h3⟩ := Run.chain l (i + 1) ((i, e) :: acc) _ (fun j => by have := hl (j + 1); simpa [Nat.add_assoc, Nat.add_comm 1 j] using this)
      (by rw [List.reverse_cons, List.map_append, ha, List.range_succ]; rfl) (by rw [List.reverse_cons]; exact Chain.snoc _ hc ho hs) hr
    exact ⟨L, st', by rw [h1]; simp only [List.length_cons]; congr 1; omega, h2, h3⟩

/-- A region: its operations one by one; where its order is drawn, they get in no one's way. -/
theorem aw_region {id n : Nat} {l : List Oper} {draw : Bool} (hJ : J.n = n) (hm : draw = true → P.follows .mixedOrders = true ∧ topo .any l.toArray = true)
    (h : Run P n l.toArray 0 l [] st (fun L st' => (draw = true → confl .any l.toArray L = true) ∧ Q .normal st')) : AW P J (.region id l.toArray draw) Q st := fun φ S a w hR => by
  subst hJ
  obtain ⟨L, st', h1, h2, h3, h4⟩ := Run.chain (st0 := st) l 0 [] st (fun j => by simp) rfl rfl h
  rw [Nat.zero_add] at h1
  cases draw with
  | false =>
    have := chain_wpOps (K := fun e a' w' => ∃ st' φ' S', Q e st' ∧ Rel J st' φ' S' a' w') rfl (fun φ S a w hR => ⟨st', φ, S, h4, hR⟩) L st φ S a w hR h2
    rw [h1] at this
    exact wp_region (by simpa using this)
  | true =>
    obtain ⟨hf, ht⟩ := hm rfl
    have hw := Chain.any (md := .any) (J := J) (Q := NQ (fun a' w' => ∃ st' φ' S', Q .normal st' ∧ Rel J st' φ' S' a' w')) rfl (fun φ S a w hR => ⟨st', φ, S, h4, hR⟩) ht l.length (Array.replicate l.length false) L st φ S a w.drew
      (by have := congrArg List.length h1; simpa using this) (fun i => by rw [h1]; simp only [List.size_toArray, List.mem_range, Array.getD_eq_getD_getElem?]; exact ⟨fun h => h.1, fun h => ⟨h, by simp [h]⟩⟩) (by rw [h1]; exact List.pairwise_lt_range) (by simp) h2 (h3 rfl) hR.drew
    refine Code.wp_mono ?_ (wp_region_any hf hw)
    intro e a' w' hq
    cases e with
    | normal => exact (show ∃ st' φ' S', Q .normal st' ∧ Rel J st' φ' S' a' w' from hq)
    | _ => exact False.elim hq
end
end Go.Proofs.Ytbcjjenidkgodaa
