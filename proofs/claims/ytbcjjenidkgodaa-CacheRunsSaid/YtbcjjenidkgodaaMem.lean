/- What a slice reads as: rows of cells; how that stays; appends. -/
import Derived.Test.YtbcjjenidkgodaaMix
import Derived.WalkSpells
import Derived.WalkLawsBesides
import Derived.Laws.AppendOwnNone
import Derived.Deep.QuietTactic
import Derived.BigQuiet
namespace Go.Proofs.Ytbcjjenidkgodaa
open Go Go.RowKit

/-- The slice value v reads as the rows css, of sz cells each; the block is one of S, its elements' type e. -/
def Arr (w : World) (S : Nat → Prop) (e sz : Nat) (v : Value) (css : List (List Value)) : Prop :=
  ∃ A c, v = .slice A css.length c ∧ css.length ≤ c ∧ c ≤ 9223372036854775807 ∧ (∀ cs ∈ css, cs.length = sz ∧ ∀ x ∈ cs, x.oneCell' = true) ∧
    (css ≠ [] → ∃ b off C fz, A = some ⟨b, off, none⟩ ∧ S b ∧ w.heap[b]? = some (.cells C e fz) ∧ ∀ i cs, css[i]? = some cs → ∀ j x, cs[j]? = some x → C[off + i * sz + j]? = some x)

/-- Below B nothing has turned. -/
theorem Same_of_below {w w' : World} (h : Below w.heap.size w w') {S : Nat → Prop} : ∀ b, S b → b < w.heap.size → w'.heap[b]? = w.heap[b]? := fun b _ hb => h.block b hb

theorem Arr.frame {w w' : World} {S : Nat → Prop} {e sz : Nat} {v : Value} {css : List (List Value)} (h : Arr w S e sz v css)
    (hf : ∀ b, S b → b < w.heap.size → w'.heap[b]? = w.heap[b]?) : Arr w' S e sz v css := by
  obtain ⟨A, c, rfl, h1, h2, h3, h4⟩ := h
  refine ⟨A, c, rfl, h1, h2, h3, fun hne => ?_⟩
  obtain ⟨b, off, C, fz, rfl, hS, hb, hc⟩ := h4 hne
  have hlt : b < w.heap.size := (Array.getElem?_eq_some_iff.1 hb).1
  exact ⟨b, off, C, fz, rfl, hS, (hf b hS hlt).trans hb, hc⟩

theorem Arr.below {w w' : World} {S : Nat → Prop} {e sz : Nat} {v : Value} {css : List (List Value)} (h : Arr w S e sz v css) (hb : Below w.heap.size w w') : Arr w' S e sz v css :=
  h.frame (Same_of_below hb)

theorem Arr.mono {w : World} {S S' : Nat → Prop} {e sz : Nat} {v : Value} {css : List (List Value)} (h : Arr w S e sz v css) (hS : ∀ b, S b → b < w.heap.size → S' b) : Arr w S' e sz v css := by
  obtain ⟨A, c, rfl, h1, h2, h3, h4⟩ := h
  refine ⟨A, c, rfl, h1, h2, h3, fun hne => ?_⟩
  obtain ⟨b, off, C, fz, rfl, hb, hh, hc⟩ := h4 hne
  exact ⟨b, off, C, fz, rfl, hS b hb (Array.getElem?_eq_some_iff.1 hh).1, hh, hc⟩

theorem Arr.nil (w : World) (S : Nat → Prop) (e sz : Nat) : Arr w S e sz (.slice none 0 0) [] := ⟨none, 0, rfl, Nat.le_refl _, by decide, by simp, fun h => absurd rfl h⟩
theorem Arr.empty (w : World) (S : Nat → Prop) (e sz : Nat) (A : Option Addr) (c : Nat) (hc : c ≤ 9223372036854775807) : Arr w S e sz (.slice A 0 c) [] := ⟨A, c, rfl, Nat.zero_le _, hc, by simp, fun h => absurd rfl h⟩

/-- Of what was there only the blocks of M may have turned. -/
structure Keep (M : Nat → Prop) (w w' : World) : Prop where
  os : w'.os = w.os
  tape : w'.tape = w.tape
  output : w'.output = w.output
  size : w.heap.size ≤ w'.heap.size
  block : ∀ k, k < w.heap.size → ¬ M k → w'.heap[k]? = w.heap[k]?

theorem Keep.refl (M : Nat → Prop) (w : World) : Keep M w w := ⟨rfl, rfl, rfl, Nat.le_refl _, fun _ _ _ => rfl⟩
theorem Keep.mono {M M' : Nat → Prop} {w w' : World} (h : Keep M w w') (hM : ∀ k, k < w.heap.size → M k → M' k) : Keep M' w w' :=
  ⟨h.os, h.tape, h.output, h.size, fun k hk hn => h.block k hk (fun hm => hn (hM k hk hm))⟩
theorem Keep.trans {M M' : Nat → Prop} {w w1 w2 : World} (h : Keep M w w1) (k : Keep M' w1 w2) (hM : ∀ b, b < w.heap.size → M' b → M b) : Keep M w w2 :=
  ⟨k.os.trans h.os, k.tape.trans h.tape, k.output.trans h.output, Nat.le_trans h.size k.size, fun i hi hn =>
    (k.block i (Nat.lt_of_lt_of_le hi h.size) (fun hm => hn (hM i hi hm))).trans (h.block i hi hn)⟩
theorem Keep.of_below {w w' : World} (h : Below w.heap.size w w') (M : Nat → Prop) : Keep M w w' := ⟨h.os, h.tape, h.output, h.size, fun k hk _ => h.block k hk⟩
theorem Keep.of_grown {w w' : World} {row : Option Nat} {M : Nat → Prop} (h : w.grownBy w' row) (hM : ∀ k, row = some k → k < w.heap.size → M k) : Keep M w w' :=
  ⟨h.os, h.tape, h.output, h.size, fun k hk hn => h.block k hk (fun e => hn (hM k e.symm hk))⟩
theorem Keep.alloc {M : Nat → Prop} {w w' : World} (h : Keep M w w') (o : Obj) : Keep M w (w'.alloc o) :=
  ⟨h.os, h.tape, h.output, Nat.le_trans h.size (by simp), fun k hk hn => (Below.heap_alloc _ _ _ (Nat.lt_of_lt_of_le hk h.size)).trans (h.block k hk hn)⟩
theorem Keep.drewN {M : Nat → Prop} {w w' : World} (h : Keep M w w') (n : Nat) : Keep M w (w'.drewN n) := ⟨h.os, h.tape, h.output, h.size, h.block⟩
theorem Keep.drew {M : Nat → Prop} {w w' : World} (h : Keep M w w') : Keep M w w'.drew := ⟨h.os, h.tape, h.output, h.size, h.block⟩
theorem Keep.setCell {M : Nat → Prop} {w w' : World} (h : Keep M w w') {p : Addr} (hp : p.block < w.heap.size → M p.block) (u : Value) : Keep M w (w'.setCell p u) :=
  ⟨h.os, h.tape, h.output, by simpa [World.setCell] using h.size, fun k hk hn => (Below.heap_setCell _ _ _ _ (fun e => hn (by subst e; exact hp hk))).trans (h.block k hk hn)⟩
theorem Keep.cell {M : Nat → Prop} {w w' : World} (h : Keep M w w') {p : Addr} (hp : p.block < w.heap.size) (hn : ¬ M p.block) : w'.cell? p = w.cell? p := World.cell?_of_block (w := w) (h.block p.block hp hn)
theorem Keep.frozen {M : Nat → Prop} {w w' : World} (h : Keep M w w') {p : Addr} (hp : p.block < w.heap.size) (hn : ¬ M p.block) : w'.frozen? p = w.frozen? p := World.frozen?_of_block (w := w) (h.block p.block hp hn)
theorem Keep.below {M : Nat → Prop} {w w' : World} (h : Keep M w w') (hM : ∀ k, k < w.heap.size → ¬ M k) : Below w.heap.size w w' := ⟨h.os, h.tape, h.output, h.size, fun k hk => h.block k hk (hM k hk)⟩
theorem cell_set {w : World} {p : Addr} {u : Value} (h : w.cell? p = some u) (v : Value) : (w.setCell p v).cell? p = some v := World.cell?_setCell_same w p v h
theorem cell_set_ne {w : World} {p q : Addr} {u : Value} (h : w.cell? q = some u) (hne : p ≠ q) (v : Value) : (w.setCell p v).cell? q = some u := (World.cell?_setCell_other w p q v hne).trans h
theorem Keep.set1 (w : World) (g i : Nat) (v : Value) : Keep (· = g) w (w.setCell ⟨g, i, none⟩ v) := (Keep.refl (· = g) w).setCell (p := ⟨g, i, none⟩) (fun _ => rfl) v
theorem Keep.from_drewN {M : Nat → Prop} {w w' : World} {n : Nat} (h : Keep M (w.drewN n) w') : Keep M w w' := ⟨h.os, h.tape, h.output, h.size, h.block⟩
theorem at_new {w : World} {o : Obj} {k : Nat} (hk : k = w.heap.size) : (w.alloc o).heap[k]? = some o := by subst hk; exact heap_alloc_new w o
theorem at_old {w : World} {o x : Obj} {k : Nat} (h : w.heap[k]? = some x) : (w.alloc o).heap[k]? = some x := (Below.heap_alloc w o k (Array.getElem?_eq_some_iff.1 h).1).trans h
/-- What a block of the call's own holds, behind a call that left it alone: every cell, and that none is frozen. -/
theorem Keep.box {M : Nat → Prop} {w w' : World} (h : Keep M w w') {k T : Nat} {cs : Array Value} (hb : w.heap[k]? = some (.cells cs T (0, 0))) (hM : ¬ M k) :
    w'.heap[k]? = some (.cells cs T (0, 0)) ∧ (∀ i, w'.cell? ⟨k, i, none⟩ = cs[i]?) ∧ (∀ i, w'.frozen? ⟨k, i, none⟩ = false) := by
  have h1 := (h.block k (Array.getElem?_eq_some_iff.1 hb).1 hM).trans hb
  exact ⟨h1, fun i => cell_of_row w' k i cs T (0, 0) h1, fun i => by simp [World.frozen?, h1]⟩
theorem Arr.keep {M : Nat → Prop} {w w' : World} {S : Nat → Prop} {e sz : Nat} {v : Value} {css : List (List Value)} (h : Arr w S e sz v css) (hk : Keep M w w') (hS : ∀ b, S b → ¬ M b) : Arr w' S e sz v css :=
  h.frame fun b hb hlt => hk.block b hlt (hS b hb)

/-- Empty, or its address and its cells. -/
theorem Arr.cases {w : World} {S : Nat → Prop} {e sz : Nat} {v : Value} {css : List (List Value)} (h : Arr w S e sz v css) :
    (css = [] ∧ ∃ A c, v = .slice A 0 c ∧ c ≤ 9223372036854775807) ∨
    (css ≠ [] ∧ ∃ b off c, v = .slice (some ⟨b, off, none⟩) css.length c ∧ css.length ≤ c ∧ c ≤ 9223372036854775807 ∧ S b ∧ b < w.heap.size ∧
      ∀ i cs, css[i]? = some cs → ∀ j x, cs[j]? = some x → w.cell? ⟨b, off + i * sz + j, none⟩ = some x) := by
  obtain ⟨A, c, rfl, h1, h2, h3, h4⟩ := h
  by_cases hn : css = []
  · subst hn; exact .inl ⟨rfl, A, c, rfl, h2⟩
  · obtain ⟨b, off, C, fz, rfl, hS, hb, hc⟩ := h4 hn
    refine .inr ⟨hn, b, off, c, rfl, h1, h2, hS, (Array.getElem?_eq_some_iff.1 hb).1, fun i cs hi j x hj => ?_⟩
    rw [cell_of_row w b _ C e fz hb]
    exact hc i cs hi j x hj

theorem Arr.len {w : World} {S : Nat → Prop} {e sz : Nat} {v : Value} {css : List (List Value)} (h : Arr w S e sz v css) : ∃ A c, v = .slice A css.length c ∧ css.length ≤ c ∧ c ≤ 9223372036854775807 := by
  obtain ⟨A, c, rfl, h1, h2, _⟩ := h
  exact ⟨A, c, rfl, h1, h2⟩

theorem Arr.row {w : World} {S : Nat → Prop} {e sz : Nat} {v : Value} {css : List (List Value)} (h : Arr w S e sz v css) : ∀ cs ∈ css, cs.length = sz ∧ ∀ x ∈ cs, x.oneCell' = true := by
  obtain ⟨A, c, rfl, h1, h2, h3, _⟩ := h
  exact h3

/-- A slice of it. -/
theorem Arr.slice {w : World} {S : Nat → Prop} {e sz : Nat} {A : Option Addr} {n c : Nat} {css : List (List Value)} (h : Arr w S e sz (.slice A n c) css) (lo hi : Nat) (hl : lo ≤ hi) (hh : hi ≤ n) :
    Arr w S e sz (.slice (if c = lo then A else A.map (·.add (lo * sz))) (hi - lo) (c - lo)) ((css.drop lo).take (hi - lo)) := by
  obtain ⟨A', c', hv, h1, h2, h3, h4⟩ := h
  simp only [Value.slice.injEq] at hv
  obtain ⟨rfl, rfl, rfl⟩ := hv
  have hlen : ((css.drop lo).take (hi - lo)).length = hi - lo := by simp; omega
  refine ⟨_, _, by rw [hlen], by rw [hlen]; omega, by omega, fun cs hcs => h3 cs (List.mem_of_mem_drop (List.mem_of_mem_take hcs)), fun hne => ?_⟩
  have hpos : 0 < hi - lo := by
    rcases Nat.eq_zero_or_pos (hi - lo) with h0 | h0
    · exact absurd (List.eq_nil_of_length_eq_zero (hlen.trans h0)) hne
    · exact h0
  have hcs : css ≠ [] := by rintro rfl; simp at hh; omega
  obtain ⟨b, off, C, fz, rfl, hS, hb, hc⟩ := h4 hcs
  refine ⟨b, off + lo * sz, C, fz, ?_, hS, hb, fun i cs hi' j x hj => ?_⟩
  · rw [if_neg (by omega)]
    simp only [Option.map_some, Option.some.injEq]
    unfold Addr.add
    by_cases hz : lo * sz = 0 <;> simp [hz]
  · rw [List.getElem?_take] at hi'
    split at hi'
    · rw [List.getElem?_drop] at hi'
      have := hc (lo + i) cs hi' j x hj
      rw [Nat.add_mul] at this
      rw [← this]
      congr 1
      omega
    · cases hi'

/-- A slice that the call itself made: it starts at its block's head, and nothing of it is frozen. -/
def Own (w : World) (base e sz : Nat) (v : Value) (css : List (List Value)) : Prop :=
  (∀ cs ∈ css, cs.length = sz ∧ ∀ x ∈ cs, x.oneCell' = true) ∧ w.ownsRow base e sz v css.length css.flatten

theorem flat_len {sz : Nat} : ∀ (css : List (List Value)), (∀ cs ∈ css, cs.length = sz) → css.flatten.length = css.length * sz
  | [], _ => by simp
  | c :: css, h => by
    rw [List.flatten_cons, List.length_append, List.length_cons, h c (by simp), flat_len css (fun cs hcs => h cs (by simp [hcs])), Nat.add_mul, Nat.one_mul, Nat.add_comm]
theorem flat_get {sz : Nat} : ∀ (css : List (List Value)), (∀ cs ∈ css, cs.length = sz) → ∀ i cs, css[i]? = some cs → ∀ j x, cs[j]? = some x → css.flatten[i * sz + j]? = some x
  | [], _, _, _, h, _, _, _ => by simp at h
  | c :: css, h, i, cs, hi, j, x, hj => by
    have hc : c.length = sz := h c (by simp)
    rw [List.flatten_cons]
    cases i with
    | zero =>
      simp only [List.getElem?_cons_zero, Option.some.injEq] at hi
      subst hi
      have : j < c.length := (List.getElem?_eq_some_iff.1 hj).1
      rw [Nat.zero_mul, Nat.zero_add, List.getElem?_append_left this]
      exact hj
    | succ i =>
      simp only [List.getElem?_cons_succ] at hi
      have := flat_get css (fun cs hcs => h cs (by simp [hcs])) i cs hi j x hj
      rw [List.getElem?_append_right (by rw [hc, Nat.add_mul]; omega), hc, ← this]
      congr 1
      rw [Nat.add_mul]; omega

theorem Own.arr {w : World} {base e sz : Nat} {v : Value} {css : List (List Value)} (h : Own w base e sz v css) : Arr w (base ≤ ·) e sz v css := by
  obtain ⟨h0, hl, h1⟩ := h
  rcases h1 with ⟨rfl, hn⟩ | ⟨g, cap, cur, rfl, hg, hb, hnc, hm, hs, ht⟩
  · have := List.eq_nil_of_length_eq_zero hn
    subst this
    exact Arr.nil _ _ _ _
  · refine ⟨_, _, rfl, hnc, hm, h0, fun _ => ⟨g, 0, cur, (0, 0), rfl, hg, hb, fun i cs hi j x hj => ?_⟩⟩
    have := flat_get css (fun cs hcs => (h0 cs hcs).1) i cs hi j x hj
    rw [← ht] at this
    rw [List.getElem?_take] at this
    split at this
    · simpa using this
    · cases this

theorem Own.nil (w : World) (base e sz : Nat) : Own w base e sz (.slice none 0 0) [] := ⟨by simp, World.ownsRow_nil _ _ _ _⟩
theorem Own.kept {w w' : World} {base e sz : Nat} {v : Value} {css : List (List Value)} {row : Option Nat} (h : Own w base e sz v css) (hg : w.grownBy w' row) (hne : v.ownBlock = none ∨ v.ownBlock ≠ row) : Own w' base e sz v css :=
  ⟨h.1, h.2.kept hg hne⟩
theorem Own.below {w w' : World} {base e sz : Nat} {v : Value} {css : List (List Value)} (h : Own w base e sz v css) (hb : Below w.heap.size w w') : Own w' base e sz v css := by
  refine h.kept (row := none) ⟨hb.os, hb.tape, hb.output, hb.size, fun k hk _ => hb.block k hk⟩ ?_
  rcases h2 : v.ownBlock with _ | b
  · exact .inl rfl
  · exact .inr (by simp)
theorem Own.keep {w w' : World} {base e sz : Nat} {v : Value} {css : List (List Value)} {M : Nat → Prop} (h : Own w base e sz v css) (hk : Keep M w w') (hM : ∀ b, base ≤ b → b < w.heap.size → ¬ M b) : Own w' base e sz v css := by
  obtain ⟨h0, hl, h1⟩ := h
  refine ⟨h0, hl, ?_⟩
  rcases h1 with h1 | ⟨g, cap, cur, hv, hg, hb, r⟩
  · exact .inl h1
  · have hlt : g < w.heap.size := (Array.getElem?_eq_some_iff.1 hb).1
    exact .inr ⟨g, cap, cur, hv, hg, (hk.block g hlt (hM g hg hlt)).trans hb, r⟩
theorem Own.alloc {w : World} {base e sz : Nat} {v : Value} {css : List (List Value)} (h : Own w base e sz v css) (o : Obj) : Own (w.alloc o) base e sz v css :=
  h.keep ((Keep.refl (fun _ => False) w).alloc o) (fun _ _ _ h => h)
theorem Own.lt {w : World} {base e sz : Nat} {v : Value} {css : List (List Value)} (h : Own w base e sz v css) : ∀ k, v.ownBlock = some k → base ≤ k ∧ k < w.heap.size := h.2.lt
theorem Own.lower {w : World} {base base' e sz : Nat} {v : Value} {css : List (List Value)} (h : Own w base e sz v css) (hb : base' ≤ base) : Own w base' e sz v css := by
  obtain ⟨h0, hl, h1⟩ := h
  refine ⟨h0, hl, ?_⟩
  rcases h1 with h1 | ⟨g, cap, cur, hv, hg, r⟩
  · exact .inl h1
  · exact .inr ⟨g, cap, cur, hv, Nat.le_trans hb hg, r⟩
theorem Own.slice {w : World} {base e sz : Nat} {v : Value} {css : List (List Value)} (h : Own w base e sz v css) : ∃ A c, v = .slice A css.length c ∧ css.length ≤ c ∧ c ≤ 9223372036854775807 := h.arr.len
/-- Its block. -/
theorem Own.block {w : World} {base e sz : Nat} {v : Value} {css : List (List Value)} (h : Own w base e sz v css) (hne : css ≠ []) :
    ∃ g cap cur, v = .slice (some ⟨g, 0, none⟩) css.length cap ∧ base ≤ g ∧ g < w.heap.size ∧ w.heap[g]? = some (.cells cur e (0, 0)) ∧ css.length ≤ cap ∧ cap ≤ 9223372036854775807 ∧ cur.size = cap * sz ∧
      ∀ i cs, css[i]? = some cs → ∀ j x, cs[j]? = some x → cur[i * sz + j]? = some x := by
  obtain ⟨h0, hl, h1⟩ := h
  rcases h1 with ⟨rfl, hn⟩ | ⟨g, cap, cur, rfl, hg, hb, hnc, hm, hs, ht⟩
  · exact absurd (List.eq_nil_of_length_eq_zero hn) hne
  · refine ⟨g, cap, cur, rfl, hg, (Array.getElem?_eq_some_iff.1 hb).1, hb, hnc, hm, hs, fun i cs hi j x hj => ?_⟩
    have := flat_get css (fun cs hcs => (h0 cs hcs).1) i cs hi j x hj
    rw [← ht, List.getElem?_take] at this
    split at this
    · simpa using this
    · cases this

/-- A row that was just laid. -/
theorem Arr.lit (w : World) (S : Nat → Prop) (e sz : Nat) (cs : List Value) (n : Nat) (css : List (List Value)) (hcs : cs = css.flatten) (hn : css.length = n) (h0 : ∀ r ∈ css, r.length = sz ∧ ∀ x ∈ r, x.oneCell' = true) (hm : n ≤ 9223372036854775807) (hS : S w.heap.size) :
    Arr (w.alloc (.cells cs.toArray e)) S e sz (.slice (some ⟨w.heap.size, 0, none⟩) n n) css := by
  subst hn
  refine ⟨_, _, rfl, Nat.le_refl _, hm, h0, fun _ => ⟨w.heap.size, 0, cs.toArray, (0, 0), rfl, hS, heap_alloc_new w _, fun i r hi j x hj => ?_⟩⟩
  have := flat_get css (fun r hr => (h0 r hr).1) i r hi j x hj
  rw [← hcs] at this
  simpa using this

section
variable {P : Program} {ops : Array Oper} {Q : Exit → Act → World → Prop} {a : Act} {w : World} {rest : List Oper} {o : Oper}
/-- 'append(s, x...)' onto what the call itself made. -/
theorem wpList_app (hgd : o.guard = none) (s x : Operand) (t : TypeId) (ho : o.op = .call { callee := .builtin .append, args := #[s, x], argTypes := #[t, t] })
    (base : Nat) (e : TypeId) (i : TypeInfo) (z : Value) (sz bytes : Nat) (ht : P.underlying t = some (.slice e)) (hi : P.info? e = some i) (hz : i.zero = some z)
    (hsize : i.size = sz) (hby : i.bytes = bytes) (hzs : z.cells.size = sz) (hsz : 0 < sz)
    (v vx : Value) (css dss : List (List Value)) (S : Nat → Prop) (hs : a.eval s = v) (hown : Own w base e sz v css) (hx : a.eval x = vx) (hsrc : Arr w S e sz vx dss)
    (hbytes : (css.length + dss.length) * bytes ≤ 140737488355328) (hb8 : 0 < bytes) (hbase : base ≤ w.heap.size)
    (h : ∀ v' w', Own w' base e sz v' (css ++ dss) → w.grownBy w' v.ownBlock → (v'.ownBlock = v.ownBlock ∨ ∃ g, v'.ownBlock = some g ∧ w.heap.size ≤ g) → wpList P ops Q rest (a.put o.dst v') w') :
    wpList P ops Q (o :: rest) a w := by
  have hmul : css.length + dss.length ≤ (css.length + dss.length) * bytes := Nat.le_mul_of_pos_right _ hb8
  have hrows : ∀ cs ∈ css ++ dss, cs.length = sz ∧ ∀ x ∈ cs, x.oneCell' = true := fun cs hcs => by
    rcases List.mem_append.1 hcs with hcs | hcs
    · exact hown.1 cs hcs
    · exact hsrc.row cs hcs
  have fin : ∀ (v' : Value) (w' : World), w'.ownsRow base e sz v' (css.length + dss.length) (css.flatten ++ dss.flatten) → w.grownBy w' v.ownBlock →
      (v'.ownBlock = v.ownBlock ∨ ∃ g, v'.ownBlock = some g ∧ w.heap.size ≤ g) → wpList P ops Q rest (a.put o.dst v') w' := fun v' w' h1 h2 h3 =>
    h v' w' ⟨hrows, by rw [List.length_append, List.flatten_append]; exact h1⟩ h2 h3
  obtain ⟨A, c, rfl, h1, h2, h3, h4⟩ := hsrc
  refine wpList_plain hgd fun K hK => ?_
  have run : ∀ v' w', (Builtin.append_ #[t, t] o.type #[v, .slice A dss.length c]).run P w = .ok v' w' → w'.ownsRow base e sz v' (css.length + dss.length) (css.flatten ++ dss.flatten) → w.grownBy w' v.ownBlock →
      (v'.ownBlock = v.ownBlock ∨ ∃ g, v'.ownBlock = some g ∧ w.heap.size ≤ g) → Oper.wp P o a w K Q := fun v' w' hr h5 h6 h7 => by
    unfold Oper.wp execOp
    simp only [ho, resolve, invoke, builtin, Sem.run_bind, Sem.run_pure, Result.andThen_ok, List.map_toArray, List.map_cons, List.map_nil, hs, hx, hr]
    exact hK _ _ (fin v' w' h5 h6 h7)
  have own0 := hown.2
  have hfl := flat_len dss (fun cs hcs => (h3 cs hcs).1)
  have h1c : ∀ u ∈ dss.flatten, u.oneCell' = true := fun u hu => by
    obtain ⟨cs, hcs, hu⟩ := List.mem_flatten.1 hu
    exact (h3 cs hcs).2 u hu
  by_cases hd : dss = []
  · subst hd
    have hr : (Builtin.append_ #[t, t] o.type #[v, .slice A 0 c]).run P w = .ok v w := by
      rcases own0.2 with ⟨rfl, _⟩ | ⟨g, cap, cur, rfl, _, _, hnc, _⟩
      · rcases A with _ | ad <;> simp [Builtin.append_, run_underlying ht, sizeOf, typeInfo, hi, Builtin.lenOf, Builtin.firstCells, loadCells, loadCellsFrom]
      · rcases A with _ | ad <;> simp [Builtin.append_, run_underlying ht, sizeOf, typeInfo, hi, Builtin.lenOf, Builtin.firstCells, hnc, storeCells, loadCells, loadCellsFrom]
    exact run v w hr (by simpa using own0) ⟨rfl, rfl, rfl, Nat.le_refl _, fun _ _ _ => rfl⟩ (.inl rfl)
  · obtain ⟨b, off, C, fz, rfl, hS, hb, hc⟩ := h4 hd
    have hnews : ∀ j u, dss.flatten[j]? = some u → w.cell? ((⟨b, off, none⟩ : Addr).add j) = some u := fun j u hj => by
      have hjl : j < dss.flatten.length := (List.getElem?_eq_some_iff.1 hj).1
      rw [hfl] at hjl
      have hi1 : j / sz < dss.length := Nat.div_lt_of_lt_mul (by rw [Nat.mul_comm]; exact hjl)
      have hd1 : dss[j / sz]? = some (dss[j / sz]'hi1) := List.getElem?_eq_getElem hi1
      have hl1 : (dss[j / sz]'hi1).length = sz := (h3 _ (List.getElem_mem hi1)).1
      have hm1 : j % sz < (dss[j / sz]'hi1).length := by rw [hl1]; exact Nat.mod_lt _ hsz
      have hd2 : (dss[j / sz]'hi1)[j % sz]? = some ((dss[j / sz]'hi1)[j % sz]'hm1) := List.getElem?_eq_getElem hm1
      have h6 := flat_get dss (fun cs hcs => (h3 cs hcs).1) _ _ hd1 _ _ hd2
      have h7 := hc _ _ hd1 _ _ hd2
      have he : j / sz * sz + j % sz = j := by rw [Nat.mul_comm]; exact Nat.div_add_mod j sz
      rw [he, hj] at h6
      rw [Nat.add_assoc, he, ← h6] at h7
      have ha : (⟨b, off, none⟩ : Addr).add j = ⟨b, off + j, none⟩ := by unfold Addr.add; by_cases hz : j = 0 <;> simp [hz]
      rw [ha, cell_of_row w b _ C e fz hb]
      exact h7
    have hpos : 0 < dss.length := List.length_pos_iff.2 hd
    have h63 : css.length + dss.length ≤ maxLen := by simp only [maxLen]; omega
    obtain ⟨v', w', hr, h5, h6, h7⟩ := run_append_own (P := P) w base t o.type e i z sz bytes ht hi hz hsize hby hzs hsz v css.length css.flatten own0 ⟨b, off, none⟩ dss.length c dss.flatten hfl hnews h1c h63 hbytes hbase
    refine run v' w' hr h5 h6 ?_
    rcases own0.2 with ⟨rfl, hn⟩ | ⟨g, cap, cur, rfl, hbg, hg, hnc, hcm, hcs, htake⟩
    · obtain ⟨v2, w2, hr2, h52, _⟩ := run_append_own (P := P) w w.heap.size t o.type e i z sz bytes ht hi hz hsize hby hzs hsz (.slice none 0 0) css.length css.flatten ⟨own0.1, .inl ⟨rfl, hn⟩⟩ ⟨b, off, none⟩ dss.length c dss.flatten hfl hnews h1c h63 hbytes (Nat.le_refl _)
      rw [hr] at hr2
      obtain ⟨rfl, rfl⟩ : v' = v2 ∧ w' = w2 := by simpa using hr2
      rcases hv : v'.ownBlock with _ | k
      · exact .inl rfl
      · exact .inr ⟨k, rfl, (h52.lt k hv).1⟩
    · by_cases hroom : css.length + dss.length ≤ cap
      · have hfit : css.length * i.size + dss.flatten.length ≤ cur.size := by rw [hfl, hcs, hsize, ← Nat.add_mul]; exact Nat.mul_le_mul_right _ hroom
        have hr2 := run_append_room (P := P) w t o.type e i ht hi g css.length cap cur hg ⟨b, off, none⟩ dss.length c dss.flatten (by rw [hsize]; exact hfl) hnews h1c hroom hfit
        rw [hr] at hr2
        simp only [Result.ok.injEq] at hr2
        rw [hr2.1]
        exact .inl rfl
      · have holds : ∀ j u, css.flatten[j]? = some u → w.cell? ((⟨g, 0, none⟩ : Addr).add j) = some u := own0.cells (g := g) rfl
        have hr2 := run_append_grow (P := P) w t o.type e i z ht hi hz ⟨g, 0, none⟩ css.length cap css.flatten (by rw [hsize]; exact own0.1) holds ⟨b, off, none⟩ dss.length c dss.flatten (by rw [hsize]; exact hfl) hnews (by omega) (by simp only [maxLen] at h63; omega) (by rw [hby]; exact growslice_fits (by omega) hbytes)
        rw [hr] at hr2
        simp only [Result.ok.injEq] at hr2
        rw [hr2.1]
        exact .inr ⟨_, rfl, Nat.le_refl _⟩
end
end Go.Proofs.Ytbcjjenidkgodaa
