/- Maps whose keys are whole numbers: what a look-up and a store do. -/
import Derived.Test.YtbcjjenidkgodaaMem
import Derived.Maps.Own
namespace Go.Proofs.Ytbcjjenidkgodaa
open Go Go.RowKit

/-- Block B is a map with these entries, in this order. -/
def MapI (q : IntKind) (w : World) (B : Nat) (es : List (Int × Value)) : Prop :=
  ∃ (E : Array MapEntry) (cl : Nat), w.heap[B]? = some (.map E cl) ∧ E.toList.map (fun e => (e.key, e.val)) = es.map fun p => (Value.int q p.1, p.2)

theorem MapI.keep {q : IntKind} {w w' : World} {M : Nat → Prop} {B : Nat} {es : List (Int × Value)} (h : MapI q w B es) (hk : Keep M w w') (hM : ¬ M B) : MapI q w' B es := by
  obtain ⟨E, cl, h1, h2⟩ := h
  exact ⟨E, cl, (hk.block B (Array.getElem?_eq_some_iff.1 h1).1 hM).trans h1, h2⟩
theorem MapI.made (q : IntKind) (w : World) : MapI q (w.alloc (.map #[] 0)) w.heap.size [] := ⟨#[], 0, at_new rfl, rfl⟩
theorem MapI.lt {q : IntKind} {w : World} {B : Nat} {es : List (Int × Value)} (h : MapI q w B es) : B < w.heap.size := by
  obtain ⟨E, cl, h1, _⟩ := h
  exact (Array.getElem?_eq_some_iff.1 h1).1

theorem findNow_int (q : IntKind) (k : Int) : ∀ (E : List MapEntry) (es : List (Int × Value)) (i : Nat), E.map (fun e => (e.key, e.val)) = (es.map fun p => (Value.int q p.1, p.2)) →
    Instr.findNow (.int q) (.int q k) E i = some ((es.findIdx? fun p => k == p.1).map fun j => (i + j, (es.getD j (0, undef)).2))
  | [], [], _, _ => rfl
  | [], _ :: _, _, h => by simp at h
  | _ :: _, [], _, h => by simp at h
  | e :: E, p :: es, i, h => by
    simp only [List.map_cons, List.cons.injEq, Prod.mk.injEq] at h
    obtain ⟨⟨h1, h2⟩, h3⟩ := h
    simp only [Instr.findNow, h1, Instr.sameNow, if_true]
    by_cases hk : k = p.1
    · subst hk
      simp [h2, List.findIdx?_cons]
    · have : (k == p.1) = false := by simp [hk]
      rw [this]
      simp only [List.findIdx?_cons, this]
      rw [findNow_int q k E es (i + 1) h3]
      cases es.findIdx? (fun p => k == p.1) with
      | none => rfl
      | some j => simp [Nat.add_assoc, Nat.add_comm 1 j]

section
variable {P : Program} {w : World} {T K e : TypeId} {q : IntKind}
theorem run_checkKey_int (hK : P.underlying K = some (.int q)) (b : Bool) (n : Nat) (k : Int) : (Instr.checkKey b (n + 1) K (.int q k)).run P w = .ok () w := by
  simp [Instr.checkKey, run_underlying hK]
theorem run_findKey_int (hK : P.underlying K = some (.int q)) (k : Int) (E : List MapEntry) (es : List (Int × Value)) (h : E.map (fun e => (e.key, e.val)) = (es.map fun p => (Value.int q p.1, p.2))) :
    (Instr.findKey K (.int q k) E).run P w = .ok ((es.findIdx? fun p => k == p.1).map fun j => (j, (es.getD j (0, undef)).2)) w := by
  simp [Instr.findKey, run_underlying hK, findNow_int q k E es 0 h]

theorem run_lookup_int (hT : P.underlying T = some (.map K e)) (hK : P.underlying K = some (.int q)) {B : Nat} {es : List (Int × Value)} (hB : MapI q w B es) (k : Int) (z : Value) (hz : (zeroValue e).run P w = .ok z w) :
    (Instr.lookup T (.map (some B)) (.int q k) false).run P w = .ok (match es.findIdx? (fun p => k == p.1) with | some j => (es.getD j (0, undef)).2 | none => z) w := by
  obtain ⟨E, cl, h1, h2⟩ := hB
  have hf := run_findKey_int (P := P) (w := w) hK k E.toList es h2
  have hc := run_checkKey_int (P := P) (w := w) hK E.isEmpty 9999 k
  cases hj : es.findIdx? (fun p => k == p.1) with
  | none => simp [hj] at hf; simp [Instr.lookup, run_underlying hT, getObj, Sem.run, h1, hc, hf, hz]
  | some j => simp [hj] at hf; simp [Instr.lookup, run_underlying hT, getObj, Sem.run, h1, hc, hf]
theorem run_lookup_int_ok (hT : P.underlying T = some (.map K e)) (hK : P.underlying K = some (.int q)) {B : Nat} {es : List (Int × Value)} (hB : MapI q w B es) (k : Int) (z : Value) (hz : (zeroValue e).run P w = .ok z w) :
    (Instr.lookup T (.map (some B)) (.int q k) true).run P w = .ok (match es.findIdx? (fun p => k == p.1) with | some j => .tuple #[(es.getD j (0, undef)).2, .bool true] | none => .tuple #[z, .bool false]) w := by
  obtain ⟨E, cl, h1, h2⟩ := hB
  have hf := run_findKey_int (P := P) (w := w) hK k E.toList es h2
  have hc := run_checkKey_int (P := P) (w := w) hK E.isEmpty 9999 k
  cases hj : es.findIdx? (fun p => k == p.1) with
  | none => simp [hj] at hf; simp [Instr.lookup, run_underlying hT, getObj, Sem.run, h1, hc, hf, hz]
  | some j => simp [hj] at hf; simp [Instr.lookup, run_underlying hT, getObj, Sem.run, h1, hc, hf]

/-- A store. -/
def putI (es : List (Int × Value)) (k : Int) (v : Value) : List (Int × Value) :=
  match es.findIdx? (fun p => k == p.1) with | some j => es.set j (k, v) | none => es ++ [(k, v)]

theorem run_mapUpdate_int (hT : P.underlying T = some (.map K e)) (hK : P.underlying K = some (.int q)) {B : Nat} {es : List (Int × Value)} (hB : MapI q w B es) (k : Int) (v : Value) :
    ∃ w', (Instr.mapUpdate T (.map (some B)) (.int q k) v).run P w = .ok () w' ∧ MapI q w' B (putI es k v) ∧ Keep (· = B) w w' := by
  obtain ⟨E, cl, h1, h2⟩ := hB
  have hBl : B < w.heap.size := (Array.getElem?_eq_some_iff.1 h1).1
  have hf := run_findKey_int (P := P) (w := w) hK k E.toList es h2
  have hc := run_checkKey_int (P := P) (w := w) hK false 9999 k
  have keep : ∀ o : Obj, Keep (· = B) w { w with heap := w.heap.setIfInBounds B o } := fun o => ⟨rfl, rfl, rfl, by simp, fun i hi hn => by
    show (w.heap.setIfInBounds B o)[i]? = _
    rw [Array.getElem?_setIfInBounds_ne (by omega)]⟩
  have hset : ∀ o : Obj, ({ w with heap := w.heap.setIfInBounds B o } : World).heap[B]? = some o := fun o => by
    show (w.heap.setIfInBounds B o)[B]? = _
    rw [Array.getElem?_setIfInBounds_self]; simp [hBl]
  unfold putI
  cases hj : es.findIdx? (fun p => k == p.1) with
  | none =>
    simp [hj] at hf
    refine ⟨{ w with heap := w.heap.setIfInBounds B (.map (E.push { key := .int q k, val := v, born := cl }) (cl + 1)) }, ?_, ⟨_, _, hset _, ?_⟩, keep _⟩
    · simp [Instr.mapUpdate, run_underlying hT, getObj, setObj, Sem.run, h1, hc, hf]
    · simp [h2]
  | some j =>
    simp [hj] at hf
    have hjl : j < es.length := by
      have := List.findIdx?_eq_some_iff_getElem.1 hj
      exact this.1
    have hk : (es[j]'hjl).1 = k := by
      have := (List.findIdx?_eq_some_iff_getElem.1 hj).2.1
      have h9 : k = es[j].1 := by simpa using this
      exact h9.symm
    have hlen : E.toList.length = es.length := by have := congrArg List.length h2; simpa using this
    have hjE : j < E.size := by rw [Array.length_toList] at hlen; omega
    have hEj : (E[j]'hjE).key = .int q k := by
      have := congrArg (fun l => l[j]?) h2
      simp [hjE, hjl] at this
      rw [this.1, hk]
    refine ⟨{ w with heap := w.heap.setIfInBounds B (.map (E.modify j fun e => { e with key := .int q k, val := v }) cl) }, ?_, ⟨_, _, hset _, ?_⟩, keep _⟩
    · simp [Instr.mapUpdate, run_underlying hT, getObj, setObj, Sem.run, h1, hc, hf, hjE, hEj, Instr.keyThatStays, Instr.sameBits]
    · apply List.ext_getElem?
      intro i
      have hi := congrArg (fun l => l[i]?) h2
      simp only [List.getElem?_map] at hi
      by_cases hij : j = i
      · subst hij
        simp [Array.getElem?_modify, hjE, hjl]
      · rw [List.getElem?_map, List.getElem?_map, List.getElem?_set_ne hij, ← hi]
        simp [Array.getElem?_modify, hij]
end
end Go.Proofs.Ytbcjjenidkgodaa
