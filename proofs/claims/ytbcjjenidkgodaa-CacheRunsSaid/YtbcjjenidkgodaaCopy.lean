/- Copy and New of caches. -/
import Derived.Test.YtbcjjenidkgodaaValid
namespace Go.Proofs.Ytbcjjenidkgodaa
open Go Go.RowKit

theorem Own.setCell4 {w : World} {base e g n cap : Nat} {css : List (List Value)} (h : Own w base e 6 (.slice (some ⟨g, 0, none⟩) n cap) css) {k : Nat} {a b c d e' f : Value} (hi : css[k]? = some [a, b, c, d, e', f]) (c' d' e2 f' : Value)
    (h1 : c'.oneCell' = true) (h2 : d'.oneCell' = true) (h3 : e2.oneCell' = true) (h4 : f'.oneCell' = true) :
    Own ((((w.setCell ⟨g, k * 6 + 2, none⟩ c').setCell ⟨g, k * 6 + 3, none⟩ d').setCell ⟨g, k * 6 + 4, none⟩ e2).setCell ⟨g, k * 6 + 5, none⟩ f') base e 6 (.slice (some ⟨g, 0, none⟩) n cap) (css.set k [a, b, c', d', e2, f']) := by
  have hl : k < css.length := (List.getElem?_eq_some_iff.1 hi).1
  have s1 := h.setCell hi (j := 2) (by decide) c' h1
  have s2 := s1.setCell (i := k) (cs := [a, b, c', d, e', f]) (by simp [hl]) (j := 3) (by decide) d' h2
  have s3 := s2.setCell (i := k) (cs := [a, b, c', d', e', f]) (by simp [hl]) (j := 4) (by decide) e2 h3
  have s4 := s3.setCell (i := k) (cs := [a, b, c', d', e2, f]) (by simp [hl]) (j := 5) (by decide) f' h4
  simpa using s4

/-- Copy under way: the first k slots have lines of their own. -/
def CopyAt (w : World) (base B g cap k : Nat) (ss : List Slot) : Prop :=
  ∃ css, Own w base 55 6 (.slice (some ⟨g, 0, none⟩) ss.length cap) css ∧ css.length = ss.length ∧
    ∀ (i : Nat) cs s, css[i]? = some cs → ss[i]? = some s → RSlot w (fun b => if i < k then g < b else b < B) cs s

theorem CopyAt.cells {w : World} {base B g cap k : Nat} {ss : List Slot} (h : CopyAt w base B g cap k ss) {i : Nat} {s : Slot} (hi : ss[i]? = some s) :
    g < w.heap.size ∧ base ≤ g ∧ (∀ j, w.frozen? ⟨g, j, none⟩ = false) ∧ ∃ A c, Arr w (fun b => if i < k then g < b else b < B) 5 1 (.slice A s.line.data.length c) (bcells s.line.data) ∧
      w.cell? ⟨g, i * 6, none⟩ = some (.bool s.used) ∧ w.cell? ⟨g, i * 6 + 1, none⟩ = some (.int .i64 s.age) ∧ w.cell? ⟨g, i * 6 + 2, none⟩ = some (.int .i64 s.line.addr) ∧
      w.cell? ⟨g, i * 6 + 3, none⟩ = some (.slice A s.line.data.length c) ∧ w.cell? ⟨g, i * 6 + 4, none⟩ = some (.bool s.line.dirty) ∧ w.cell? ⟨g, i * 6 + 5, none⟩ = some (.bool s.line.poison) := by
  obtain ⟨css, h1, hlen, h2⟩ := h
  have hil : i < ss.length := (List.getElem?_eq_some_iff.1 hi).1
  have hc : css[i]? = some (css[i]'(by omega)) := List.getElem?_eq_getElem _
  obtain ⟨v, hcs, hv⟩ := h2 i _ s hc hi
  have hne : css ≠ [] := by rintro rfl; simp at hc
  obtain ⟨g', cap', cur, hg, hb, hlt, hblk, hl, hm, hsz, hcell⟩ := h1.block hne
  simp only [Value.slice.injEq, Option.some.injEq, Addr.mk.injEq, and_true, true_and] at hg
  obtain ⟨rfl, hn, rfl⟩ := hg
  obtain ⟨A, c, rfl, _, _⟩ := hv.len
  have cell : ∀ j, w.cell? ⟨g, i * 6 + j, none⟩ = cur[i * 6 + j]? := fun j => cell_of_row w g _ cur _ _ hblk
  rw [bcells_len] at hv hcs
  refine ⟨hlt, hb, fun j => by simp [World.frozen?, hblk], A, c, hv, ?_, ?_, ?_, ?_, ?_, ?_⟩
  · exact (cell 0).trans (hcell i _ hc 0 _ (by rw [hcs]; rfl))
  · exact (cell 1).trans (hcell i _ hc 1 _ (by rw [hcs]; rfl))
  · exact (cell 2).trans (hcell i _ hc 2 _ (by rw [hcs]; rfl))
  · exact (cell 3).trans (hcell i _ hc 3 _ (by rw [hcs]; rfl))
  · exact (cell 4).trans (hcell i _ hc 4 _ (by rw [hcs]; rfl))
  · exact (cell 5).trans (hcell i _ hc 5 _ (by rw [hcs]; rfl))

theorem CopyAt.keep {w w' : World} {base B g cap k : Nat} {ss : List Slot} (h : CopyAt w base B g cap k ss) (hk : KF w w') : CopyAt w' base B g cap k ss := by
  obtain ⟨css, h1, hlen, h2⟩ := h
  exact ⟨css, h1.keep hk (fun _ _ _ h => h), hlen, fun i cs s h3 h4 => (h2 i cs s h3 h4).keep hk (fun _ _ h => h)⟩

/-- One more line. -/
theorem CopyAt.step {w : World} {base B g cap k : Nat} {ss : List Slot} (h : CopyAt w base B g cap k ss) {s : Slot} (hs : ss[k]? = some s) (hB : B ≤ g) (A : Option Addr) (c : Nat)
    (hA : Arr w (g < ·) 5 1 (.slice A s.line.data.length c) (bcells s.line.data)) :
    CopyAt ((((w.setCell ⟨g, k * 6 + 2, none⟩ (.int .i64 s.line.addr)).setCell ⟨g, k * 6 + 3, none⟩ (.slice A s.line.data.length c)).setCell ⟨g, k * 6 + 4, none⟩ (.bool s.line.dirty)).setCell ⟨g, k * 6 + 5, none⟩ (.bool s.line.poison)) base B g cap (k + 1) ss := by
  obtain ⟨css, h1, hlen, h2⟩ := h
  have hil : k < ss.length := (List.getElem?_eq_some_iff.1 hs).1
  have hc : css[k]? = some (css[k]'(by omega)) := List.getElem?_eq_getElem _
  obtain ⟨v, hcs, hv⟩ := h2 k _ s hc hs
  rw [hcs] at hc
  have hO := h1.setCell4 hc (.int .i64 s.line.addr) (.slice A s.line.data.length c) (.bool s.line.dirty) (.bool s.line.poison) rfl rfl rfl rfl
  have hkp : Keep (· = g) w ((((w.setCell ⟨g, k * 6 + 2, none⟩ (.int .i64 s.line.addr)).setCell ⟨g, k * 6 + 3, none⟩ (.slice A s.line.data.length c)).setCell ⟨g, k * 6 + 4, none⟩ (.bool s.line.dirty)).setCell ⟨g, k * 6 + 5, none⟩ (.bool s.line.poison)) := (by repeat (first | (with_reducible refine Keep.setCell ?_ ?_ _; rotate_left; focus (intro hkb; first | (simp; done) | (simp at hkb; done) | (simp; omega) | omega | (simp at hkb ⊢; omega))) | with_reducible refine Keep.alloc ?_ _ | with_reducible refine Keep.drewN ?_ _ | with_reducible refine Keep.drew ?_ | with_reducible exact Keep.refl _ _ | with_reducible assumption))
  refine ⟨_, hO, by simp [hlen], fun i cs s' h3 h4 => ?_⟩
  rw [List.getElem?_set] at h3
  by_cases hik : k = i
  · subst hik
    rw [if_pos rfl, if_pos (by omega)] at h3
    rw [hs] at h4
    simp only [Option.some.injEq] at h3 h4
    subst h3; subst h4
    refine ⟨_, rfl, (hA.keep hkp (fun b hb h => by omega)).mono (fun b hb _ => ?_)⟩
    rw [if_pos (by omega)]; exact hb
  · rw [if_neg hik] at h3
    have := h2 i cs s' h3 h4
    refine (this.keep hkp (fun b hb h => ?_)).mono (fun b hb _ => ?_)
    · subst h
      split at hb <;> omega
    · by_cases hlt : i < k
      · rw [if_pos hlt] at hb; rw [if_pos (by omega)]; exact hb
      · rw [if_neg hlt] at hb; rw [if_neg (by omega)]; exact hb

set_option maxHeartbeats 2000000 in
theorem copy_calls (w : World) (S : Nat → Prop) (c : Ca) (v : Value) (hv : RSlots w S v c.slots) (hne : c.slots ≠ []) (hlen : c.slots.length ≤ 1000) (hd : ∀ s ∈ c.slots, s.line.data.length ≤ 1000) :
    Calls Try.prog 17 #[.agg (cacheCells c v).toArray] w fun e w' => ∃ g cap, e = .returned (.agg (cacheCells c (.slice (some ⟨g, 0, none⟩) c.slots.length cap)).toArray) ∧
      SlotsOwn w' w.heap.size (g < ·) g cap c.slots ∧ w.heap.size ≤ g ∧ KF w w' := by
  obtain ⟨sets, ways, size, slots⟩ := c
  obtain ⟨A, cap0, rfl, hc1, hc2, -⟩ := hv.cases
  simp only [] at *
  obtain ⟨css, hA, hR⟩ := hv
  have hcl : css.length = slots.length := hR.1
  have hcl' := Lib.hid hcl
  have hA1 : Arr (((w.alloc (.cells #[.int .i64 sets, .int .i64 ways, .int .i64 size, .slice A slots.length cap0] 29)).alloc (.cells #[.int .i64 0, .int .i64 0, .int .i64 0, .slice none 0 0] 29))) S 55 6 (.slice A slots.length cap0) css := hA.keep (((Keep.refl (fun _ => False) w).alloc _).alloc _) (fun _ _ h => h)
  have hA1' := Lib.hid hA1
  have hR' := Lib.hid hR
  clear hcl hA1 hA hR
  go_enter Try.func17, Try.ntmps17
  unfold cacheCells
  go_wp2_with fail
  refine (sclone_calls _ S _ css hA1'.out (by rw [hcl'.out]; omega)).mono ?_
  rintro e w1 ⟨A1, c1, rfl, hO1, hk1⟩
  rw [hcl'.out] at hO1 ⊢
  obtain ⟨hX, p1, p2⟩ := hk1.box (k := w.heap.size) (at_old (at_new rfl)) (fun h => h)
  obtain ⟨hY, q1, q2⟩ := hk1.box (k := w.heap.size + 1) (at_new (by simp)) (fun h => h)
  have hne' : css ≠ [] := by rintro rfl; exact hne (List.eq_nil_of_length_eq_zero (by rw [← hcl'.out]; rfl))
  obtain ⟨g, cap', cur, hg, hbg, hglt, -⟩ := hO1.block hne'
  simp only [Value.slice.injEq] at hg
  obtain ⟨rfl, hn, rfl⟩ := hg
  have hsz : ((w.alloc (.cells #[.int .i64 sets, .int .i64 ways, .int .i64 size, .slice A slots.length cap0] 29)).alloc (.cells #[.int .i64 0, .int .i64 0, .int .i64 0, .slice none 0 0] 29)).heap.size = w.heap.size + 2 := by simp
  rw [hsz] at hO1 hbg
  have hKw : KF w w1 := (((Keep.refl (fun _ => False) w).alloc _).alloc _).trans hk1 (fun _ _ h => h)
  have hK2 : KF w (w1.setCell ⟨w.heap.size, 3, none⟩ (.slice (some ⟨g, 0, none⟩) slots.length c1)) := hKw.setCell (fun h => absurd h (by simp)) _
  have hC0 : CopyAt (w1.setCell ⟨w.heap.size, 3, none⟩ (.slice (some ⟨g, 0, none⟩) slots.length c1)) (w.heap.size + 2) w.heap.size g c1 0 slots := by
    refine ⟨css, hO1.keep (Keep.set1 w1 w.heap.size 3 _) (fun b hb _ h => by omega), hcl'.out, fun i cs s h3 h4 => ?_⟩
    obtain ⟨v, h5, h6⟩ := hR'.out.2 i cs s h3 h4
    exact ⟨v, h5, (h6.mono (S' := fun b => if i < 0 then g < b else b < w.heap.size) (fun b _ hb => by rw [if_neg (by omega)]; exact hb)).keep hK2 (fun _ _ h => h)⟩
  have hX2 := heap_setCell_same w1 w.heap.size 3 _ _ (.slice (some ⟨g, 0, none⟩) slots.length c1) hX
  have hY2 : (w1.setCell ⟨w.heap.size, 3, none⟩ (.slice (some ⟨g, 0, none⟩) slots.length c1)).heap[w.heap.size + 1]? = _ := (Below.heap_setCell w1 _ _ _ (by simp)).trans hY
  have hsz1 := hk1.size
  rw [hsz] at hsz1
  clear hA1' hR' hO1 hk1 hX hY hsz hKw hn hne'
  go_wp2_with fail
  clear p1 p2 q1 q2
  go_loopw [11] (fun x wr => ∃ k : Nat, k ≤ slots.length ∧ x = .int .i64 (k : Int) ∧ KF w wr ∧ CopyAt wr (w.heap.size + 2) w.heap.size g c1 k slots ∧
      wr.heap[w.heap.size]? = some (.cells #[.int .i64 sets, .int .i64 ways, .int .i64 size, .slice (some ⟨g, 0, none⟩) slots.length c1] 29 (0, 0)) ∧ wr.heap[w.heap.size + 1]? = some (.cells #[.int .i64 0, .int .i64 0, .int .i64 0, .slice none 0 0] 29 (0, 0))) (fun x _ => slots.length - (intOf x).toNat)
  case atStart => exact ⟨0, Nat.zero_le _, rfl, hK2, hC0, hX2, hY2⟩
  case round =>
    obtain ⟨k, hk, rfl, hkr, hCr, hbox, hbox2⟩ := hrel
    by_cases hlt : k < slots.length
    · obtain ⟨s, hs⟩ : ∃ s, slots[k]? = some s := ⟨_, List.getElem?_eq_getElem hlt⟩
      obtain ⟨-, -, hfz, A2, c2, hAr, -, -, u2, u3, u4, u5⟩ := hCr.cells hs
      have hds : s.line.data.length ≤ 1000 := hd s (List.mem_of_getElem? hs)
      have p1 : ∀ i, wr.cell? ⟨w.heap.size, i, none⟩ = #[Value.int .i64 sets, .int .i64 ways, .int .i64 size, .slice (some ⟨g, 0, none⟩) slots.length c1][i]? := fun i => cell_of_row wr _ i _ _ _ hbox
      have hb' := Lib.hid hbox
      have hb2' := Lib.hid hbox2
      have hAr' := Lib.hid hAr
      have hs' := Lib.hid hs
      clear hbox hbox2 hX2 hY2 hC0 hAr hs hd
      go_wp2_with fail
      refine wp_region_plan (fun w' => ∀ i, w'.cell? ⟨w.heap.size, i, none⟩ = #[Value.int .i64 sets, .int .i64 ways, .int .i64 size, .slice (some ⟨g, 0, none⟩) slots.length c1][i]?) (.q 0 (.q 1 (.q 2 (.q 3 (.q 4 (.q 5 (.q 6 (.q 7 (.l1 8 (.l1 9 (.q 10 (.q 11 (.l1 12 .stop))))))))))))) (by kernel_rfl) (by kernel_rfl) (by kernel_rfl) p1 ?_
      iterate 8 (first | (refine plan_pure rfl (fun K hK => ?_); go_simp; refine hK _ _ ?_; clear hK K) | (refine plan_val ?_ rfl (by rfl) (fun w' hC => ?_) (fun K hK => ?_); rotate_left; (focus (go_simp; try rfl)); go_simp; refine hK _ _ ?_; clear hK K))
      refine plan_l1 rfl ?_
      go_wp2
      refine NQ_normal ⟨p1, ?_⟩
      refine plan_l1 rfl ?_
      go_wp2_with fail
      refine (lineCopy_calls wr.drew _ _ s.line ⟨_, by simp, hAr'.out.keep (Keep.refl (fun _ => False) wr).drew (fun _ _ h => h)⟩ (by omega)).mono ?_
      rintro e w2 ⟨cs2, rfl, ⟨v2, rfl, hv2⟩, hk2⟩
      obtain ⟨A3, c3, rfl, -, -⟩ := hv2.len
      rw [bcells_len] at hv2 ⊢
      have hk3 : KF wr w2 := (Keep.refl (fun _ => False) wr).drew.trans hk2 (fun _ _ h => h)
      have hgr : g < wr.heap.size := by obtain ⟨h, _⟩ := hCr.cells hs'.out; exact h
      have hC3 := hCr.keep hk3
      have hstep := hC3.step hs'.out (by omega) A3 c3 (hv2.mono (fun b hb _ => by have : wr.heap.size ≤ b := hb; omega))
      obtain ⟨hb3, p3, -⟩ := hk3.box hb'.out (fun h => h)
      obtain ⟨hb4, -, -⟩ := hk3.box hb2'.out (fun h => h)
      obtain ⟨-, -, hfz3, A4, c4, -, -, -, x2, x3, x4, x5⟩ := hC3.cells hs'.out
      go_wp2_with fail
      refine NQ_normal ⟨p3, ?_⟩
      iterate 2 (first | (refine plan_pure rfl (fun K hK => ?_); go_simp; refine hK _ _ ?_; clear hK K) | (refine plan_val ?_ rfl (by rfl) (fun w' hC => ?_) (fun K hK => ?_); rotate_left; (focus (go_simp; try rfl)); go_simp; refine hK _ _ ?_; clear hK K))
      refine plan_l1 rfl ?_
      clear p1 u2 u3 u4 u5 hfz
      have hkf : Keep (· = g) w2 ((((w2.setCell ⟨g, k * 6 + 2, none⟩ (.int .i64 s.line.addr)).setCell ⟨g, k * 6 + 3, none⟩ (.slice A3 s.line.data.length c3)).setCell ⟨g, k * 6 + 4, none⟩ (.bool s.line.dirty)).setCell ⟨g, k * 6 + 5, none⟩ (.bool s.line.poison)) := (by repeat (first | (with_reducible refine Keep.setCell ?_ ?_ _; rotate_left; focus (intro hkb; first | (simp; done) | (simp at hkb; done) | (simp; omega) | omega | (simp at hkb ⊢; omega))) | with_reducible refine Keep.alloc ?_ _ | with_reducible refine Keep.drewN ?_ _ | with_reducible refine Keep.drew ?_ | with_reducible exact Keep.refl _ _ | with_reducible assumption))
      obtain ⟨hb5, p5, -⟩ := hkf.box hb3 (by omega)
      obtain ⟨hb6, -, -⟩ := hkf.box hb4 (by omega)
      have hkall := (hkr.trans hk3 (fun _ _ h => h)).trans hkf (fun b hb h => by omega)
      go_wp2
      refine NQ_normal ⟨p5, plan_stop ?_⟩
      go_wp2
      go_roundw
      case rel => exact ⟨k + 1, by omega, by go_num, hkall, hstep, hb5, hb6⟩
      case measure => simp [intOf]; omega
    · obtain rfl : k = slots.length := by omega
      clear hC0 hX2 hY2 hK2
      have hb' := Lib.hid hbox
      have hb2' := Lib.hid hbox2
      have p1 : ∀ i, wr.cell? ⟨w.heap.size, i, none⟩ = #[Value.int .i64 sets, .int .i64 ways, .int .i64 size, .slice (some ⟨g, 0, none⟩) slots.length c1][i]? := fun i => cell_of_row wr _ i _ _ _ hbox
      have p2 : ∀ i, wr.cell? ⟨w.heap.size + 1, i, none⟩ = #[Value.int .i64 0, .int .i64 0, .int .i64 0, .slice none 0 0][i]? := fun i => cell_of_row wr _ i _ _ _ hbox2
      have q2 : ∀ i, wr.frozen? ⟨w.heap.size + 1, i, none⟩ = false := fun i => by simp [World.frozen?, hbox2]
      clear hbox hbox2
      go_wp2
      have hfin : Keep (· = w.heap.size + 1) wr ((((wr.setCell ⟨w.heap.size + 1, 0, none⟩ (.int .i64 sets)).setCell ⟨w.heap.size + 1, 1, none⟩ (.int .i64 ways)).setCell ⟨w.heap.size + 1, 2, none⟩ (.int .i64 size)).setCell ⟨w.heap.size + 1, 3, none⟩ (.slice (some ⟨g, 0, none⟩) slots.length c1)) := (by repeat (first | (with_reducible refine Keep.setCell ?_ ?_ _; rotate_left; focus (intro hkb; first | (simp; done) | (simp at hkb; done) | (simp; omega) | omega | (simp at hkb ⊢; omega))) | with_reducible refine Keep.alloc ?_ _ | with_reducible refine Keep.drewN ?_ _ | with_reducible refine Keep.drew ?_ | with_reducible exact Keep.refl _ _ | with_reducible assumption))
      refine bodyPost_ret (v := .agg #[.int .i64 sets, .int .i64 ways, .int .i64 size, .slice (some ⟨g, 0, none⟩) slots.length c1]) (by simp [results, Try.results17, go_sem, p2]) rfl ⟨g, c1, rfl, ?_, by omega, hkr.trans hfin (fun b hb h => by omega)⟩
      obtain ⟨css2, o1, o2, o3⟩ := hCr
      refine ⟨css2, (o1.keep hfin (fun b hb _ h => by omega)).lower (by omega), o2, fun i cs s h1 h2 => ?_⟩
      have hi : i < slots.length := (List.getElem?_eq_some_iff.1 h2).1
      exact ((o3 i cs s h1 h2).mono (S' := fun b => g < b) (fun b hb _ => by rw [if_pos hi] at hb; exact hb)).keep hfin (fun b hb h => by omega)
end Go.Proofs.Ytbcjjenidkgodaa
