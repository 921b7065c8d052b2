/-
  The law CacheRuns holds: called with any slice of integers, the Go function returns true and changes nothing that was there before.
-/
import Derived.Test.YtbcjjenidkgodaaRows
import Derived.WalkKit
import Derived.ProofKit
import Derived.OpenShut
import Derived.ShutString
import Derived.ChangeOld
import Derived.Below
import Derived.Test.YtbcjjenidkgodaaLawB
namespace Go.Proofs.Ytbcjjenidkgodaa.cacheRuns
open Go.ChangeShapes Go.WideShapes Go.ChangeAt Go.RowKit
open Go.ChangeMaps (open_string shut_string)
set_option linter.unusedVariables false

theorem own : ownKnob Try.prog.godebug = none := by kernel_rfl
theorem laidOut : laidOutB Try.prog = true := by kernel_rfl

/-- WHAT THE WALK IS TOLD OF A SLICE OF INTEGERS THAT CAME IN: it is nil; or it leads to a row of 'cap' cells, the numbers 'zs' (the first 'len' are its elements, the rest its spare room), each fitting its kind. -/
def IsRow (k : IntKind) (w : World) (a : Option Addr) (len cap : Nat) (zs : List Int) : Prop :=
  (a = none ∧ len = 0 ∧ cap = 0 ∧ zs = []) ∨
  ∃ x, a = some x ∧ len ≤ cap ∧ cap ≤ maxLen ∧ zs.length = cap ∧ (∀ i, i < zs.length → w.cell? (x.add i) = some (.int k (zs.getD i 0))) ∧ ∀ n ∈ zs, (Lit.int k n).wf = true

/-! ### STEP 1: THE WALK: the Go text returns true, AND WRITES NOTHING THAT WAS THERE: 'Below w.heap.size w w'' (Derived/Below.lean: '.refl', '.alloc', '.drew', '.setCell' at a new block, '.trans'). Open each 'IsRow' by 'rcases' AHEAD of 'go_enter'; part every test ahead of the walk. -/
theorem walk (a0 : Option Addr) (len0 cap0 : Nat) (z0 : List Int) (w : World) (w0 : IsRow .i64 w a0 len0 cap0 z0) :
    Calls Try.prog 3 #[.slice a0 len0 cap0] w fun e w' => e = .returned (.bool true) ∧ Below w.heap.size w w' := by
  have hlen : (z0.take len0).length = len0 ∧ (z0.take len0).length ≤ 9223372036854775807 ∧ cap0 ≤ 9223372036854775807 ∧ ∀ n ∈ z0.take len0, i64 n := by
    rcases w0 with ⟨rfl, rfl, rfl, rfl⟩ | ⟨x, rfl, h1, h2, h3, h4, h5⟩
    · exact ⟨rfl, by decide, by decide, fun n h => by cases h⟩
    · have hm : maxLen = 9223372036854775807 := rfl
      have hl : (z0.take len0).length = len0 := by rw [List.length_take]; omega
      refine ⟨hl, by omega, by omega, fun n hn => ?_⟩
      have := h5 n (List.mem_of_mem_take hn)
      have hw : IntKind.i64.min ≤ n ∧ n ≤ IntKind.i64.max := by simpa [Lit.wf] using this
      have e1 : IntKind.i64.min = -9223372036854775808 := by decide
      have e2 : IntKind.i64.max = 9223372036854775807 := by decide
      rw [e1, e2] at hw
      exact hw
  have hrep : Rep (· < w.heap.size) w (fun _ => none) (.lst 0 (ints (z0.take len0))) (.slice a0 len0 cap0) := by
    by_cases h0 : len0 = 0
    · subst h0
      exact .nil hlen.2.2.1
    · rcases w0 with ⟨rfl, rfl, rfl, rfl⟩ | ⟨x, rfl, h1, h2, h3, h4, h5⟩
      · exact absurd rfl h0
      · have c0 := h4 0 (by omega)
        obtain ⟨b, o, sp⟩ := x
        have hC : ∃ C e fz, w.heap[b]? = some (.cells C e fz) ∧ sp = none := by
          unfold World.cell? at c0
          split at c0
          · rename_i C e fz hh
            refine ⟨C, e, fz, hh, ?_⟩
            cases sp with
            | none => rfl
            | some _ => simp [Addr.add] at c0
          · cases c0
        obtain ⟨C, e, fz, hh, rfl⟩ := hC
        have cells : ∀ i, i < z0.length → C[o + i]? = some (.int .i64 (z0.getD i 0)) := fun i hi => by
          have := h4 i hi
          have ha : (⟨b, o, none⟩ : Addr).add i = ⟨b, o + i, none⟩ := by
            unfold Addr.add
            split
            · rename_i h0; rw [h0]; rfl
            · rfl
          rw [ha] at this
          unfold World.cell? at this
          simpa [hh] using this
        have hr : (ints (z0.take len0)).length = len0 := by rw [ints, List.length_map, hlen.1]
        have row : ∀ (i : Nat) r j x, (ints (z0.take len0))[i]? = some r → r[j]? = some x → j = 0 ∧ i < z0.length ∧ x = .v (.int .i64 (z0.getD i 0)) := fun i r j x hi hj => by
          rw [ints, List.getElem?_map] at hi
          obtain ⟨q, hq, rfl⟩ := Option.map_eq_some_iff.1 hi
          have hil := (List.getElem?_eq_some_iff.1 hq).1
          rw [hlen.1] at hil
          rw [List.getElem?_take, if_pos hil] at hq
          cases j with
          | zero => exact ⟨rfl, by omega, by rw [List.getD_eq_getElem?_getD, hq]; simp at hj; rw [← hj]; rfl⟩
          | succ j => simp at hj
        have key := Rep.lst (S := (· < w.heap.size)) (w := w) (φ := fun _ => none) (e := 0) (rows := ints (z0.take len0)) (b := b) (o := o) (c := cap0) (sz := 1) (e' := e) (C := C) (fz := fz) (lt_of_get hh) hh (.inl rfl)
          (by omega) hlen.2.2.1 (fun r hr => by obtain ⟨q, _, rfl⟩ := List.mem_map.1 hr; rfl)
          (fun i r j x hi hj => by obtain ⟨rfl, h, rfl⟩ := row i r j x hi hj; exact ⟨_, by rw [Nat.mul_one]; exact cells i h⟩)
          (fun i r j x y hi hj hy => by
            obtain ⟨rfl, h, rfl⟩ := row i r j x hi hj
            rw [Nat.mul_one, Nat.add_zero, cells i h] at hy
            obtain rfl := Option.some.inj hy
            exact .v rfl)
        rw [hr] at key
        exact key
  refine Calls.mono ((law_ac (z0.take len0) hlen.2.2.2 hlen.2.1) w (fun _ => none) (· < w.heap.size) [.slice a0 len0 cap0] (All2.cons hrep (All2.nil _)) ⟨fun id k h => (by cases h), fun id id' k k' l l' h => (by cases h)⟩ (fun b h => h) (fun id l h => by cases h)) ?_
  rintro e w' ⟨r, σ', φ', S', y, ⟨rfl, rfl⟩, rfl, hy, hp⟩
  refine ⟨?_, hp.keep.below fun k _ h => ?_⟩
  · rw [show y = .bool true from by cases hy with | v _ => rfl]
  · obtain ⟨j, k, l, h, _⟩ := h
    cases h

/-! ### THE ROW's STEP: WRITTEN OUT: LEAVE IT -/
set_option maxRecDepth 100000 in
theorem lifted (os : Os) (started : os.Started) (H : Type) (enc : TypeId × Value → H) :
    ReturnsInHanded {} Try.checked os 3 .any (Rows.cacheRunsSpec.pre6 enc Try.prog Try.f3 Rows.cacheRunsRow.domain false) (Rows.cacheRunsSpec.post enc Try.prog Try.f3 false true false false) := by
  refine returnsInHanded_of_change (C := Try.checked) own started (by kernel_rfl) Try.func3
    (ChangeSpec.witness6 (enc := enc) (C := Try.checked) false ⟨#[], #[.slice none 0 0], []⟩ 8 (by kernel_rfl) (by kernel_rfl) (by kernel_rfl) (by kernel_rfl)) ?_
  intro W base args ds gs before hval0 hW hcnd _
  have hval : ∀ (j : Nat) t v, Try.f3.params[j]? = some t → args[j]? = some v → Value.okWide Try.prog W .any base t v := hval0
  have hW' := hW
  obtain ⟨p, q, hA0, hV, rfl, hfz, hnd⟩ := hW
  have hA : DataW.TrodAll enc Try.prog W 0 (fun _ => true) true Try.f3.params.toList args.toList ds p := hA0
  rw [Try.params3] at hA hval
  obtain ⟨v0, vs0, d0, ds0, p0, q0, hargs, rfl, rfl, h0, r0⟩ := trodAll_cons hA
  obtain ⟨rfl, rfl, rfl⟩ := trodAll_nil r0
  obtain rfl : args = #[v0] := by cases args; simp_all
  obtain ⟨rfl, rfl⟩ := trodVars_none hV
  obtain ⟨a0, len0, cap0, rfl⟩ := okWide_slice Try.underlying22 (hval 0 22 v0 rfl rfl)
  have k0 := h0
  have lt0 : ∀ x ∈ p0, x.block < W.heap.size := by obtain ⟨m, hm⟩ := k0; exact DataW.trod_lt m _ _ _ hm
  obtain ⟨z0, w0⟩ : ∃ zs, IsRow .i64 W a0 len0 cap0 zs := by
    obtain ⟨fuel, hf⟩ := h0
    rcases open_ints Try.underlying22 Try.underlying3 (by kernel_rfl) hf with ⟨hcs, _⟩ | ⟨x, l, c, zs, hcs, _, hl, hm, hz, _, hcell, hwz⟩
    · simp [Value.cells] at hcs
      obtain ⟨rfl, rfl, rfl⟩ := hcs
      exact ⟨[], .inl ⟨rfl, rfl, rfl, rfl⟩⟩
    · simp [Value.cells] at hcs
      obtain ⟨rfl, rfl, rfl⟩ := hcs
      exact ⟨zs, .inr ⟨_, rfl, hl, hm, by simpa using hz, hcell, hwz⟩⟩
  clear hA0 hval0
  refine (walk a0 len0 cap0 z0 W w0).mono fun e W' ⟨he, bel⟩ => ?_
  subst he
  exact ⟨_, rfl, _, _, _, [], _, [], hW', trodAll_mk1 (shut_bool Try.underlying4 _), (trodAll_cons_mk (Below.trod laidOut (by kernel_rfl) (of_decide_eq_true (by kernel_rfl)) k0 bel lt0) trodAll_mk0), rfl, bel.frame _, fun h => by cases h⟩

theorem over : Rows.cacheRunsRow.holds Try.pinned (OpenSpec.ofChange Rows.cacheRunsSpec) :=
  OpenClaim.holds_of_wide 3 Try.f3 rfl rfl rfl rfl rfl rfl rfl ⟨rfl, rfl, rfl, rfl, rfl⟩ rfl rfl rfl rfl rfl (by kernel_rfl) Try.func3 (by kernel_rfl)
    (of_decide_eq_true (by kernel_rfl)) (by unfold Func.isWrapper; first | (rw [if_pos (by decide +kernel)]; kernel_rfl) | (rw [if_neg (by decide +kernel)]; exact ⟨rfl, rfl⟩))
    (fun os started H enc _ => lifted os started H enc)

/-- ████ THE STATEMENT ████ -/
theorem proved : Rows.CacheRunsSaid := over
#print axioms proved
end Go.Proofs.Ytbcjjenidkgodaa.cacheRuns
