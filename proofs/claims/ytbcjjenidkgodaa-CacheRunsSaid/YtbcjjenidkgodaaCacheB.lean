/- Copies: bytes.Clone, slices.Clone, line.Copy. -/
import Derived.Test.YtbcjjenidkgodaaCacheA
namespace Go.Proofs.Ytbcjjenidkgodaa
open Go Go.RowKit

theorem info_slot : (Try.prog.info? 55).map (fun i => (i.zero, i.size, i.bytes)) = some (some (.agg #[.bool false, .int .i64 0, .int .i64 0, .slice none 0 0, .bool false, .bool false]), 6, 56) := by kernel_rfl

theorem Own.fresh (w : World) (base e sz : Nat) (hb : base ≤ w.heap.size) : Own (w.alloc (.cells #[] e)) base e sz (.slice (some ⟨w.heap.size, 0, none⟩) 0 0) [] :=
  ⟨by simp, World.ownsRow_made w #[] 0 hb (by decide) (by simp)⟩

set_option maxHeartbeats 400000 in
theorem bclone_calls (w : World) (S : Nat → Prop) (v : Value) (css : List (List Value)) (hA : Arr w S 5 1 v css) (hm : css.length ≤ 1000000) :
    Calls Try.prog 31 #[v] w fun e w' => ∃ A c, e = .returned (.slice A css.length c) ∧ Own w' w.heap.size 5 1 (.slice A css.length c) css ∧ KF w w' := by
  obtain ⟨i0, hi, hz0, hz1, hz2⟩ := info_parts info_u8
  obtain ⟨A, c, rfl, hl, hc, hr, hne⟩ := id hA
  have hkn := fun (w : World) => Lib.run_eql_slice_nil (P := Try.prog) w 35
  rcases A with _ | ad
  · have hcs : css = [] := by
      rcases Classical.em (css = []) with h | h
      · exact h
      · obtain ⟨b, off, _, _, h, _⟩ := hne h; cases h
    subst hcs
    go_enter Try.func31, Try.ntmps31
    go_wp2
    go_ret
    exact ⟨none, 0, rfl, Own.nil _ _ _ _, Keep.refl _ _⟩
  · clear hl hc hr hne
    go_enter Try.func31, Try.ntmps31
    go_wp2_with (at_builtin; go_must (refine wpList_app rfl _ _ 35 rfl w.heap.size 5 i0 (.int .u8 0) 1 1 Try.underlying35 hi hz0 hz1 hz2 rfl (by decide) _ _ [] css S rfl (Own.fresh w w.heap.size _ _ (Nat.le_refl _)) rfl (KF.arr hA ((Keep.refl _ _).alloc _)) ?o3 (by decide) ?o4 ?_); rotate_right; intro v' w2 hO2 hg2 hb2)
    case o3 => simp only [List.length_nil]; omega
    case o4 => simp
    go_ret
    obtain ⟨A', c', rfl, _, _⟩ := hO2.slice
    refine ⟨_, _, rfl, hO2, ?_⟩
    exact (((Keep.refl _ w).alloc _).trans (Keep.of_grown hg2 (M := fun b => w.heap.size ≤ b) (fun b hb _ => Nat.le_of_eq (Option.some.inj hb))) (fun b hb h => absurd h (by omega)))

set_option maxHeartbeats 400000 in
theorem sclone_calls (w : World) (S : Nat → Prop) (v : Value) (css : List (List Value)) (hA : Arr w S 55 6 v css) (hm : css.length ≤ 1000000) :
    Calls Try.prog 29 #[v] w fun e w' => ∃ A c, e = .returned (.slice A css.length c) ∧ Own w' w.heap.size 55 6 (.slice A css.length c) css ∧ KF w w' := by
  obtain ⟨i0, hi, hz0, hz1, hz2⟩ := info_parts info_slot
  obtain ⟨A, c, rfl, hl, hc, hr, hne⟩ := id hA
  have hkn := fun (w : World) => Lib.run_eql_slice_nil (P := Try.prog) w 27
  rcases A with _ | ad
  · have hcs : css = [] := by
      rcases Classical.em (css = []) with h | h
      · exact h
      · obtain ⟨b, off, _, _, h, _⟩ := hne h; cases h
    subst hcs
    go_enter Try.func29, Try.ntmps29
    go_wp2
    go_ret
    exact ⟨none, 0, rfl, Own.nil _ _ _ _, Keep.refl _ _⟩
  · clear hl hc hr hne
    go_enter Try.func29, Try.ntmps29
    go_wp2_with (at_builtin; go_must (refine wpList_app rfl _ _ 27 rfl w.heap.size 55 i0 (.agg #[.bool false, .int .i64 0, .int .i64 0, .slice none 0 0, .bool false, .bool false]) 6 56 Try.underlying27 hi hz0 hz1 hz2 rfl (by decide) _ _ [] css S rfl (Own.fresh w w.heap.size _ _ (Nat.le_refl _)) rfl (KF.arr hA ((Keep.refl _ _).alloc _)) ?o3 (by decide) ?o4 ?_); rotate_right; intro v' w2 hO2 hg2 hb2)
    case o3 => simp only [List.length_nil]; omega
    case o4 => simp
    go_ret
    obtain ⟨A', c', rfl, _, _⟩ := hO2.slice
    refine ⟨_, _, rfl, hO2, ?_⟩
    exact (((Keep.refl _ w).alloc _).trans (Keep.of_grown hg2 (M := fun b => w.heap.size ≤ b) (fun b hb _ => Nat.le_of_eq (Option.some.inj hb))) (fun b hb h => absurd h (by omega)))

set_option maxHeartbeats 400000 in
theorem lineCopy_calls (w : World) (S : Nat → Prop) (cs : List Value) (x : Line) (hx : RLine w S cs x) (hm : x.data.length ≤ 1000000) :
    Calls Try.prog 21 #[.agg cs.toArray] w fun e w' => ∃ cs', e = .returned (.agg cs'.toArray) ∧ RLine w' (w.heap.size ≤ ·) cs' x ∧ KF w w' := by
  obtain ⟨v, rfl, hv⟩ := hx
  obtain ⟨A, c, rfl, hl, hc⟩ := hv.len
  have hlen : (bcells x.data).length ≤ 1000000 := by rw [bcells_len]; exact hm
  go_enter Try.func21, Try.ntmps21
  go_wp2_with fail
  refine (bclone_calls _ S _ (bcells x.data) (KF.arr hv (((Keep.refl _ _).alloc _).alloc _)) hlen).mono ?_
  rintro e w1 ⟨A1, c1, rfl, hO1, hk1⟩
  obtain ⟨_, p1, p2⟩ := hk1.box (k := w.heap.size) (at_old (at_new rfl)) (fun h => h)
  obtain ⟨_, q1, q2⟩ := hk1.box (k := w.heap.size + 1) (at_new (by simp)) (fun h => h)
  go_wp2
  have hS : Keep (fun b => b = w.heap.size ∨ b = w.heap.size + 1) w1 (((((w1.setCell ⟨w.heap.size, 1, none⟩ (Value.slice A1 (bcells x.data).length c1)).setCell ⟨w.heap.size + 1, 0, none⟩ (Value.int IntKind.i64 x.addr)).setCell ⟨w.heap.size + 1, 1, none⟩ (Value.slice A1 (bcells x.data).length c1)).setCell ⟨w.heap.size + 1, 2, none⟩ (Value.bool x.dirty)).setCell ⟨w.heap.size + 1, 3, none⟩ (Value.bool x.poison)) := (by repeat (first | (with_reducible refine Keep.setCell ?_ ?_ _; rotate_left; focus (intro hkb; first | (simp; done) | (simp at hkb; done) | (simp; omega) | omega | (simp at hkb ⊢; omega))) | with_reducible refine Keep.alloc ?_ _ | with_reducible refine Keep.drewN ?_ _ | with_reducible refine Keep.drew ?_ | with_reducible exact Keep.refl _ _ | with_reducible assumption))
  have hK : KF w w1 := (((Keep.refl _ w).alloc _).alloc _).trans hk1 (fun _ _ h => h)
  refine bodyPost_ret (v := .agg #[.int .i64 x.addr, .slice A1 (bcells x.data).length c1, .bool x.dirty, .bool x.poison]) (by simp [results, Try.results21, go_sem, q1]) rfl ⟨_, rfl, ⟨_, rfl, ?_⟩, ?_⟩
  · exact (hO1.arr.keep hS (fun b hb h => by simp at hb; omega)).mono (fun b hb _ => by simp at hb; omega)
  · exact hK.trans hS (fun b hb h => by omega)
end Go.Proofs.Ytbcjjenidkgodaa
