/- A region whose order is open, walked once: what only reads (in a class of worlds) is taken first, whatever else is ready is taken in each order. -/
import Derived.WalkKit
import Derived.Orders
import Derived.Still
import Derived.KernelRfl
namespace Go.Proofs.Ytbcjjenidkgodaa
open Go Go.RowKit
section
variable {P : Program} {ops : Array Oper} {md : Region.Mode} {C : World → Prop}

/-- Normal ends alone. -/
def NQ (Q : Act → World → Prop) : Exit → Act → World → Prop
  | .normal, a, w => Q a w
  | _, _, _ => False

theorem NQ_lets (Q : Act → World → Prop) : ¬ LetsOut (NQ Q) := fun ⟨_, _, h⟩ => h

/-- Every order, each step staying in the class. -/
def wpAnyC (P : Program) (md : Region.Mode) (ops : Array Oper) (C : World → Prop) (Q : Act → World → Prop) : Nat → Array Bool → Act → World → Prop
  | 0, listed, a, w => Region.ready md ops listed = [] ∧ Q a w
  | fuel + 1, listed, a, w =>
    (Region.ready md ops listed = [] → Q a w) ∧
    ∀ i ∈ Region.ready md ops listed, wpOp P ops (NQ Q) i (fun a' w' => C w' ∧ wpAnyC P md ops C Q fuel (listed.setIfInBounds i true) a' w') a w

theorem wpAny_of_C {Q : Act → World → Prop} : ∀ (fuel : Nat) (listed : Array Bool) (a : Act) (w : World), wpAnyC P md ops C Q fuel listed a w → wpAny P md ops (NQ Q) fuel listed a w
  | 0, _, _, _, h => ⟨h.1, h.2⟩
  | fuel + 1, _, _, _, h => ⟨h.1, fun i hi => wpOp_mono (fun a' w' h' => wpAny_of_C fuel _ a' w' h'.2) (h.2 i hi)⟩

/-- In every world of the class the operation leaves v in its slot, and the world alone. -/
def YieldsC (P : Program) (ops : Array Oper) (C : World → Prop) (o : Oper) (v : Value) (a : Act) : Prop :=
  (Region.wanted o (yielded ops a.tmps) = true ∧ ∀ w, C w → (execOp a.eval o).run P w = .ok (.value v) w) ∨
  (Region.wanted o (yielded ops a.tmps) = false ∧ v = undef)

theorem YieldsC.of_same {o : Oper} {v : Value} {a a' : Act} (hy : YieldsC P ops C o v a) (he : execOp a'.eval o = execOp a.eval o)
    (hw : Region.wanted o (yielded ops a'.tmps) = Region.wanted o (yielded ops a.tmps)) : YieldsC P ops C o v a' := by
  unfold YieldsC at *
  rw [he, hw]
  exact hy

theorem YieldsC.op {i : Nat} {o : Oper} {v : Value} {a : Act} {w : World} {Q : Exit → Act → World → Prop} (hi : ops[i]? = some o) (hC : C w) (hy : YieldsC P ops C o v a) {K : Act → World → Prop} (h : K (a.put o.dst v) w) : wpOp P ops Q i K a w := by
  unfold wpOp
  simp only [hi]
  rcases hy with ⟨hw, hv⟩ | ⟨hw, rfl⟩
  · simp only [hw, if_true]
    refine .inl ?_
    unfold Oper.wp
    rw [hv w hC]
    exact h
  · simp only [hw, Bool.false_eq_true, if_false]; exact h

theorem wpOp_putC {j : Nat} {oi oj : Oper} {v : Value} {Q : Act → World → Prop} (hj : ops[j]? = some oj) (hap : oi.apart ops oj = true)
    (hsi : ∀ cs b, oi.op ≠ .select cs b) (hsj : ∀ cs b, oj.op ≠ .select cs b) {K : Act → World → Prop} {a : Act} {w : World}
    (hy : YieldsC P ops C oi v a) (h : wpOp P ops (NQ Q) j K (a.put oi.dst v) w) :
    wpOp P ops (NQ Q) j (fun a' w' => YieldsC P ops C oi v a' ∧ K (a'.put oi.dst v) w') a w := by
  obtain ⟨h1, h2, h3⟩ := Oper.apart_spec hap
  have keep : ∀ (a : Act), YieldsC P ops C oi v a → ∀ u, YieldsC P ops C oi v (a.put oj.dst u) := fun a hy u =>
    hy.of_same (execOp_put oi hsi a oj.dst u h3) (wanted_put oi a oj.dst u h3)
  have keepD : ∀ d, YieldsC P ops C oi v { a with defers := d :: a.defers } := fun d => hy.of_same rfl rfl
  unfold wpOp at *
  simp only [hj] at *
  rw [wanted_put oj a oi.dst v h1] at h
  split
  · rename_i hw
    simp only [hw, if_true] at h
    rcases h with h | ⟨_, hlets⟩
    case inr => exact absurd hlets (NQ_lets Q)
    refine .inl ?_
    unfold Oper.wp at *
    rw [execOp_put oj hsj a oi.dst v h1] at h
    generalize (execOp a.eval oj).run P w = r at *
    cases r with
    | ok n w' =>
      cases n <;> simp only [Oper.upon] at h ⊢
      case value u => exact ⟨keep a hy u, by rw [← Act.put_comm a v u h2]; exact h⟩
      case skip => exact ⟨keep a hy _, by rw [← Act.put_comm a v undef h2]; exact h⟩
      case defer d =>
        refine ⟨keep _ (keepD d) _, ?_⟩
        rw [← Act.put_comm _ v undef h2, ← Act.put_defers]
        exact h
      case enter f args =>
        refine Calls.mono h fun e w'' he => ?_
        cases e with
        | returned u => exact ⟨keep a hy u, by rw [← Act.put_comm a v u h2]; exact he⟩
        | panicked c => exact he
        | outgrown => exact he
      case row row args => exact Rows.mono h fun u w'' he => ⟨keep a hy u, by rw [← Act.put_comm a v u h2]; exact he⟩
    | halt x w' =>
      cases x <;> simp only [Oper.upon] at h ⊢
      case panic u => exact h
  · rename_i hw
    simp only [hw] at h
    exact ⟨keep a hy _, by rw [← Act.put_comm a v undef h2]; exact h⟩

theorem wpAnyC_first {Q : Act → World → Prop} {i : Nat} {oi : Oper} {v : Value} (hi : ops[i]? = some oi) (hsel : ∀ (j : Nat) (o : Oper) cs b, ops[j]? = some o → o.op ≠ .select cs b) :
    ∀ (fuel : Nat) (listed : Array Bool) (a : Act) (w : World), C w →
      (∀ j oj, ops[j]? = some oj → j ≠ i → listed.getD j true = false → (∀ e ∈ oj.after, Region.binds md e = true → e.on ≠ i) → oi.apart ops oj = true) →
      i ∈ Region.ready md ops listed → YieldsC P ops C oi v a →
      wpAnyC P md ops C Q fuel (listed.setIfInBounds i true) (a.put oi.dst v) w → wpAnyC P md ops C Q (fuel + 1) listed a w := by
  intro fuel
  induction fuel with
  | zero =>
    intro listed a w hC _ hr hy H
    refine ⟨fun h => (by rw [h] at hr; cases hr), fun j hj => ?_⟩
    by_cases hji : j = i
    · subst hji; exact hy.op hi hC ⟨hC, H⟩
    · have := ready_mono hj hji
      rw [H.1] at this
      cases this
  | succ fuel ih =>
    intro listed a w hC hfree hr hy H
    refine ⟨fun h => (by rw [h] at hr; cases hr), fun j hj => ?_⟩
    by_cases hji : j = i
    · subst hji; exact hy.op hi hC ⟨hC, H⟩
    · have h1 := H.2 j (ready_mono hj hji)
      obtain ⟨hjun, oj, hoj, hall⟩ := mem_ready.1 hj
      have hnot : ∀ e ∈ oj.after, Region.binds md e = true → e.on ≠ i := fun e he hb heq => by
        have h1 := hall e he hb
        have h0 := (mem_ready.1 hr).1
        rw [heq] at h1
        rcases Nat.lt_or_ge i listed.size with h' | h'
        · simp [h'] at h0 h1; rw [h0] at h1; cases h1
        · simp [Array.getElem?_eq_none h'] at h1
      have h2 := wpOp_putC hoj (hfree j oj hoj hji hjun hnot) (fun cs b => hsel i oi cs b hi) (fun cs b => hsel j oj cs b hoj) hy h1
      have hfree' : ∀ k ok, ops[k]? = some ok → k ≠ i → (listed.setIfInBounds j true).getD k true = false →
          (∀ e ∈ ok.after, Region.binds md e = true → e.on ≠ i) → oi.apart ops ok = true := fun k ok hk hki hun hno => by
        refine hfree k ok hk hki ?_ hno
        by_cases hjk : j = k
        · subst hjk; exact hjun
        · rw [getD_set_ne true hjk] at hun; exact hun
      refine wpOp_mono (fun a' w' h3 => ⟨h3.2.1, ih (listed.setIfInBounds j true) a' w' h3.2.1 hfree' (ready_mono hr (Ne.symm hji)) h3.1 ?_⟩) h2
      rw [Array.setIfInBounds_comm _ _ hji]
      exact h3.2.2

/-- How a region is walked: 'q i': operation i, which only reads, now; 'l ..': whatever is ready, each with what follows. -/
inductive Plan where
  | stop
  | q (i : Nat) (p : Plan)
  | l1 (i : Nat) (p : Plan)
  | l2 (i : Nat) (p : Plan) (j : Nat) (p' : Plan)
  | l3 (i : Nat) (p : Plan) (j : Nat) (p' : Plan) (k : Nat) (p'' : Plan)

def Plan.ok (md : Region.Mode) (ops : Array Oper) : Plan → Nat → Array Bool → Bool
  | .stop, fuel, listed => fuel == 0 && Region.ready md ops listed == []
  | .q i p, fuel + 1, listed => (Region.ready md ops listed).contains i && Region.free md ops listed i && p.ok md ops fuel (listed.setIfInBounds i true)
  | .l1 i p, fuel + 1, listed => Region.ready md ops listed == [i] && p.ok md ops fuel (listed.setIfInBounds i true)
  | .l2 i p j p', fuel + 1, listed => Region.ready md ops listed == [i, j] && p.ok md ops fuel (listed.setIfInBounds i true) && p'.ok md ops fuel (listed.setIfInBounds j true)
  | .l3 i p j p' k p'', fuel + 1, listed => Region.ready md ops listed == [i, j, k] && p.ok md ops fuel (listed.setIfInBounds i true) && p'.ok md ops fuel (listed.setIfInBounds j true) && p''.ok md ops fuel (listed.setIfInBounds k true)
  | _, 0, _ => false

def opAt (ops : Array Oper) (i : Nat) : Oper := (ops[i]?).getD { dst := none, op := .alloc 0, type := 0, pos := "", after := #[], guard := none }

/-- One operation, ending normally. -/
def loudAt (P : Program) (ops : Array Oper) (i : Nat) (K : Act → World → Prop) (a : Act) (w : World) : Prop := wpList P ops (NQ K) [opAt ops i] a w

def Plan.wp (P : Program) (ops : Array Oper) (C : World → Prop) (Q : Act → World → Prop) : Plan → Act → World → Prop
  | .stop, a, w => Q a w
  | .q i p, a, w => ∃ v, YieldsC P ops C (opAt ops i) v a ∧ p.wp P ops C Q (a.put (opAt ops i).dst v) w
  | .l1 i p, a, w => loudAt P ops i (fun a' w' => C w' ∧ p.wp P ops C Q a' w') a w
  | .l2 i p j p', a, w => loudAt P ops i (fun a' w' => C w' ∧ p.wp P ops C Q a' w') a w ∧ loudAt P ops j (fun a' w' => C w' ∧ p'.wp P ops C Q a' w') a w
  | .l3 i p j p' k p'', a, w => loudAt P ops i (fun a' w' => C w' ∧ p.wp P ops C Q a' w') a w ∧ loudAt P ops j (fun a' w' => C w' ∧ p'.wp P ops C Q a' w') a w ∧
      loudAt P ops k (fun a' w' => C w' ∧ p''.wp P ops C Q a' w') a w

theorem loudAt.op {i : Nat} {K : Act → World → Prop} {Q : Act → World → Prop} {a : Act} {w : World} (hi : ops[i]? = some (opAt ops i)) (h : loudAt P ops i K a w) : wpOp P ops (NQ Q) i K a w := by
  unfold loudAt wpList at h
  unfold wpOp
  simp only [hi]
  split at h
  · rename_i hw
    simp only [hw, if_true]
    rcases h with h | ⟨_, hl⟩
    · refine .inl ?_
      unfold Oper.wp at *
      generalize (execOp a.eval (opAt ops i)).run P w = r at *
      cases r with
      | ok n w' =>
        cases n <;> simp only [Oper.upon] at h ⊢ <;> exact h
      | halt x w' => cases x <;> simp only [Oper.upon] at h ⊢ <;> exact h
    · exact absurd hl (NQ_lets _)
  · rename_i hw
    simp only [hw]
    exact h

theorem opAt_some {i : Nat} (hi : i < ops.size) : ops[i]? = some (opAt ops i) := by
  unfold opAt
  rw [Array.getElem?_eq_getElem hi]
  rfl

theorem ready_lt {i : Nat} {listed : Array Bool} (h : i ∈ Region.ready md ops listed) : i < ops.size := by
  obtain ⟨_, o, ho, _⟩ := mem_ready.1 h
  exact (Array.getElem?_eq_some_iff.1 ho).1

theorem Plan.sound {Q : Act → World → Prop} (hs : Region.noSelect ops = true) : ∀ (p : Plan) (fuel : Nat) (listed : Array Bool) (a : Act) (w : World), C w → p.ok md ops fuel listed = true → p.wp P ops C Q a w → wpAnyC P md ops C Q fuel listed a w
  | .stop, fuel, listed, a, w, _, ho, h => by
    simp only [Plan.ok, Bool.and_eq_true, beq_iff_eq] at ho
    obtain ⟨h0, hr⟩ := ho
    subst h0
    exact ⟨hr, h⟩
  | .q i p, fuel + 1, listed, a, w, hC, ho, h => by
    simp only [Plan.ok, Bool.and_eq_true] at ho
    obtain ⟨⟨hr, hf⟩, hp⟩ := ho
    obtain ⟨v, hy, hk⟩ := h
    have hr' : i ∈ Region.ready md ops listed := by simpa using hr
    have hi := opAt_some (ops := ops) (ready_lt hr')
    exact wpAnyC_first hi (Region.noSelect_spec hs) fuel listed a w hC (Region.free_spec hi hf) hr' hy (Plan.sound hs p fuel _ _ w hC hp hk)
  | .l1 i p, fuel + 1, listed, a, w, hC, ho, h => by
    simp only [Plan.ok, Bool.and_eq_true, beq_iff_eq] at ho
    obtain ⟨hr, hp⟩ := ho
    refine ⟨fun h0 => (by rw [hr] at h0; cases h0), fun j hj => ?_⟩
    have hi := opAt_some (ops := ops) (ready_lt hj)
    rw [hr] at hj
    obtain rfl : j = i := by simpa using hj
    exact wpOp_mono (fun a' w' h' => ⟨h'.1, Plan.sound hs p fuel _ a' w' h'.1 hp h'.2⟩) (loudAt.op hi h)
  | .l2 i p j p', fuel + 1, listed, a, w, hC, ho, h => by
    simp only [Plan.ok, Bool.and_eq_true, beq_iff_eq] at ho
    obtain ⟨⟨hr, hp⟩, hp'⟩ := ho
    refine ⟨fun h0 => (by rw [hr] at h0; cases h0), fun m hm => ?_⟩
    have hi := opAt_some (ops := ops) (ready_lt hm)
    rw [hr] at hm
    simp only [List.mem_cons, List.not_mem_nil, or_false] at hm
    rcases hm with rfl | rfl
    · exact wpOp_mono (fun a' w' h' => ⟨h'.1, Plan.sound hs p fuel _ a' w' h'.1 hp h'.2⟩) (loudAt.op hi h.1)
    · exact wpOp_mono (fun a' w' h' => ⟨h'.1, Plan.sound hs p' fuel _ a' w' h'.1 hp' h'.2⟩) (loudAt.op hi h.2)
  | .l3 i p j p' k p'', fuel + 1, listed, a, w, hC, ho, h => by
    simp only [Plan.ok, Bool.and_eq_true, beq_iff_eq] at ho
    obtain ⟨⟨⟨hr, hp⟩, hp'⟩, hp''⟩ := ho
    refine ⟨fun h0 => (by rw [hr] at h0; cases h0), fun m hm => ?_⟩
    have hi := opAt_some (ops := ops) (ready_lt hm)
    rw [hr] at hm
    simp only [List.mem_cons, List.not_mem_nil, or_false] at hm
    rcases hm with rfl | rfl | rfl
    · exact wpOp_mono (fun a' w' h' => ⟨h'.1, Plan.sound hs p fuel _ a' w' h'.1 hp h'.2⟩) (loudAt.op hi h.1)
    · exact wpOp_mono (fun a' w' h' => ⟨h'.1, Plan.sound hs p' fuel _ a' w' h'.1 hp' h'.2⟩) (loudAt.op hi h.2.1)
    · exact wpOp_mono (fun a' w' h' => ⟨h'.1, Plan.sound hs p'' fuel _ a' w' h'.1 hp'' h'.2⟩) (loudAt.op hi h.2.2)

/-- The region's law: the plan fits, the world behind the draw is of the class, the plan's walk goes through. -/
theorem wp_region_plan {id : Nat} {Q : Exit → Act → World → Prop} {a : Act} {w : World} {l : List Oper} (C : World → Prop) (p : Plan) (hm : P.follows .mixedOrders = true)
    (hs : Region.noSelect l.toArray = true) (hB : p.ok .any l.toArray l.length (Array.replicate l.length false) = true) (hC : C w.drew)
    (h : p.wp P l.toArray C (fun a' w' => Q .normal a' w') a w.drew) : (Code.region id l.toArray true).wp P Q a w := by
  have hx := wpAny_of_C _ _ _ _ (Plan.sound (md := .any) hs p _ _ a w.drew hC hB h)
  refine Code.wp_mono (Q := NQ (fun a' w' => Q .normal a' w')) ?_ (wp_region_any hm (by simpa using hx))
  intro e a' w' hq
  cases e <;> first | exact hq | exact absurd hq (fun h => h)

/-! Steps for the walk. -/
theorem opAt_lit {i : Nat} {o : Oper} (h : ops[i]? = some o) : opAt ops i = o := by unfold opAt; rw [h]; rfl
/-- What needs no fact of the class. -/
theorem plan_pure {C : World → Prop} {Q : Act → World → Prop} {i : Nat} {p : Plan} {a : Act} {w : World} {o : Oper} (ho : ops[i]? = some o)
    (h : ∀ K : Act → World → Prop, (∀ a w, p.wp P ops C Q a w → K a w) → if Region.wanted o (yielded ops a.tmps) then ∃ v, (∀ w', (execOp a.eval o).run P w' = .ok (.value v) w') ∧ K (a.put o.dst v) w else K (a.put o.dst undef) w) :
    (Plan.q i p).wp P ops C Q a w := by
  have ho' := opAt_lit ho
  subst ho'
  have h1 := h _ (fun _ _ h => h)
  split at h1
  · rename_i hw
    obtain ⟨v, hv, hk⟩ := h1
    exact ⟨v, .inl ⟨hw, fun w' _ => hv w'⟩, hk⟩
  · rename_i hw
    exact ⟨undef, .inr ⟨by simpa using hw, rfl⟩, h1⟩
/-- What reads: the class tells the value. -/
theorem plan_val {C : World → Prop} {Q : Act → World → Prop} {i : Nat} {p : Plan} {a : Act} {w : World} {o : Oper} (v : Value) (ho : ops[i]? = some o) (hw : Region.wanted o (yielded ops a.tmps) = true)
    (hv : ∀ w', C w' → (execOp a.eval o).run P w' = .ok (.value v) w') (h : ∀ K : Act → World → Prop, (∀ a w, p.wp P ops C Q a w → K a w) → K (a.put o.dst v) w) : (Plan.q i p).wp P ops C Q a w := by
  have ho' := opAt_lit ho
  subst ho'
  exact ⟨v, .inl ⟨hw, hv⟩, h _ (fun _ _ h => h)⟩
theorem plan_l1 {C : World → Prop} {Q : Act → World → Prop} {i : Nat} {p : Plan} {a : Act} {w : World} {o : Oper} (ho : ops[i]? = some o)
    (h : wpList P ops (NQ fun a' w' => C w' ∧ p.wp P ops C Q a' w') [o] a w) : (Plan.l1 i p).wp P ops C Q a w := by
  have ho' := opAt_lit ho
  subst ho'
  exact h
theorem plan_stop {C : World → Prop} {Q : Act → World → Prop} {a : Act} {w : World} (h : Q a w) : Plan.stop.wp P ops C Q a w := h
theorem NQ_normal {Q : Act → World → Prop} {a : Act} {w : World} (h : Q a w) : NQ Q .normal a w := h
end
end Go.Proofs.Ytbcjjenidkgodaa
