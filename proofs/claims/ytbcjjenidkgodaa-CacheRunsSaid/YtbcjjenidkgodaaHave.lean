/- The lines that the law keeps. -/
import Derived.Test.YtbcjjenidkgodaaAwake
namespace Go.Proofs.Ytbcjjenidkgodaa
open Go Go.RowKit

/-- Blocks that are neither the dice's box nor the cache's nor the list's own. -/
def SX (g B : Nat) (v : Value) (b : Nat) : Prop := b ≠ g ∧ b ≠ B ∧ v.ownBlock ≠ some b

def Have (w : World) (base g B : Nat) (v : Value) (Hs : List Line) : Prop :=
  ∃ css, Own w base 37 4 v css ∧ Rows2 (RLine w (SX g B v)) css Hs

theorem Have.nil (w : World) (base g B : Nat) : Have w base g B (.slice none 0 0) [] := ⟨[], Own.nil _ _ _ _, Rows2.nil _⟩

theorem Have.keep {w w' : World} {base g B : Nat} {v : Value} {Hs : List Line} {M : Nat → Prop} (h : Have w base g B v Hs) (hk : Keep M w w') (hg : g < base) (hB : B < base) (hM : ∀ b, b < w.heap.size → M b → b = g ∨ b = B) : Have w' base g B v Hs := by
  obtain ⟨css, h1, h2⟩ := h
  refine ⟨css, h1.keep hk (fun b hb hl hm => by rcases hM b hl hm with h | h <;> omega), h2.imp fun _ _ h => ?_⟩
  obtain ⟨u, h3, h4⟩ := h
  refine ⟨u, h3, h4.frame fun b hb hl => hk.block b hl (fun hm => ?_)⟩
  rcases hM b hl hm with h | h
  · exact hb.1 h
  · exact hb.2.1 h

theorem SX.slots {w w' : World} {g B : Nat} {hv v : Value} {ss : List Slot} {M : Nat → Prop} (h : RSlots w (SX g B hv) v ss) (hk : Keep M w w') (hM : ∀ b, b < w.heap.size → M b → b = g ∨ b = B ∨ hv.ownBlock = some b) : RSlots w' (SX g B hv) v ss := by
  obtain ⟨css, h1, h2⟩ := h
  have hf : ∀ b, SX g B hv b → b < w.heap.size → w'.heap[b]? = w.heap[b]? := fun b hb hl => hk.block b hl (fun hm => by
    rcases hM b hl hm with h | h | h
    · exact hb.1 h
    · exact hb.2.1 h
    · exact hb.2.2 h)
  exact ⟨css, h1.frame hf, h2.imp fun _ _ h => by obtain ⟨u, h3, h4⟩ := h; exact ⟨u, h3, h4.frame hf⟩⟩

/-- The value, and its cells. -/
theorem Have.len {w : World} {base g B : Nat} {v : Value} {Hs : List Line} (h : Have w base g B v Hs) : ∃ A c, v = .slice A Hs.length c ∧ Hs.length ≤ c ∧ c ≤ 9223372036854775807 := by
  obtain ⟨css, h1, h2⟩ := h
  obtain ⟨A, c, rfl, h3, h4⟩ := h1.slice
  rw [h2.1] at h3 ⊢
  exact ⟨A, c, rfl, h3, h4⟩

theorem Have.at_ {w : World} {base g B : Nat} {v : Value} {Hs : List Line} (h : Have w base g B v Hs) {k : Nat} {x : Line} (hk : Hs[k]? = some x) :
    ∃ gh c, v = .slice (some ⟨gh, 0, none⟩) Hs.length c ∧ base ≤ gh ∧ gh < w.heap.size ∧ Hs.length ≤ c ∧ c ≤ 9223372036854775807 ∧ ∃ A ca, Arr w (SX g B v) 5 1 (.slice A x.data.length ca) (bcells x.data) ∧
      w.cell? ⟨gh, k * 4, none⟩ = some (.int .i64 x.addr) ∧ w.cell? ⟨gh, k * 4 + 1, none⟩ = some (.slice A x.data.length ca) ∧
      w.cell? ⟨gh, k * 4 + 2, none⟩ = some (.bool x.dirty) ∧ w.cell? ⟨gh, k * 4 + 3, none⟩ = some (.bool x.poison) := by
  obtain ⟨css, h1, h2⟩ := h
  obtain ⟨cs, hc, u, hcs, hv⟩ := h2.get hk
  have hne : css ≠ [] := by rintro rfl; simp at hc
  obtain ⟨gh, cap, cur, rfl, hb, hlt, hblk, hl, hm, hsz, hcell⟩ := h1.block hne
  obtain ⟨A, ca, rfl, _, _⟩ := hv.len
  have cell : ∀ j, w.cell? ⟨gh, k * 4 + j, none⟩ = cur[k * 4 + j]? := fun j => cell_of_row w gh _ cur _ _ hblk
  rw [bcells_len] at hv hcs
  rw [h2.1] at hl hv ⊢
  refine ⟨gh, cap, rfl, hb, hlt, hl, hm, A, ca, hv, ?_, ?_, ?_, ?_⟩
  · exact (cell 0).trans (hcell k cs hc 0 _ (by rw [hcs]; rfl))
  · exact (cell 1).trans (hcell k cs hc 1 _ (by rw [hcs]; rfl))
  · exact (cell 2).trans (hcell k cs hc 2 _ (by rw [hcs]; rfl))
  · exact (cell 3).trans (hcell k cs hc 3 _ (by rw [hcs]; rfl))
end Go.Proofs.Ytbcjjenidkgodaa
