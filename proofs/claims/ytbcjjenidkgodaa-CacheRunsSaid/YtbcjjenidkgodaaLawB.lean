/- The law: where the address is, a round, the whole. -/
import Derived.Test.YtbcjjenidkgodaaLawA
namespace Go.Proofs.Ytbcjjenidkgodaa
open Go Go.RowKit

def atSt (L : List Int) (kd k : Nat) (c : Ca) (Hs : List Line) (ad a : Int) (j : Nat) : St :=
  stOf [(3, .a (.c (.ptr 3400 0 0))), (4, .a (.c (.ptr 500 0 0))), (6, .a (.c (.ref 700 0 Hs.length))), (7, .i k), (8, .i ad), (9, .i a), (62, .a (.c (.ref 700 0 Hs.length))), (63, .i Hs.length), (64, .i j)] [(3400, diceB L kd), (500, caB c), (700, linesB Hs)]
def AtOK (Hs : List Line) (ad a : Int) (j : Nat) : Prop := (a = -1 ∧ ∀ x ∈ Hs.take j, x.addr ≠ ad) ∨ ∃ (q : Nat) (x : Line), q < j ∧ a = q ∧ Hs[q]? = some x ∧ x.addr = ad

set_option maxRecDepth 20000 in
theorem at_aw {J : Env} {Q : Exit → St → Prop} (hJ : J.n = 247) (hJK : JOK J) (L : List Int) (kd k : Nat) (c : Ca) (Hs : List Line) (ad : Int) (hn : Hs.length ≤ 40) (hQ : ∀ st' a, AtOK Hs ad a Hs.length → Cv J st' (midA L kd k c Hs ad a) → Q .normal st') :
    AW Try.prog J atC Q (midA L kd k c Hs ad (-1)) := by
  refine aw_seq ?_
  -- region 13
  refine aw_region hJ (fun h => (by cases h)) ?_
  refine ⟨_, step_move (.inl rfl) rfl rfl rfl, ?_⟩  -- t62
  refine ⟨_, step_len rfl rfl rfl rfl (by rw [el34]; rfl) rfl, ?_⟩  -- t63
  refine ⟨_, step_move (.inl rfl) rfl rfl rfl, ?_⟩  -- t64
  refine ⟨fun h => (by cases h), ?_⟩
  refine aw_block ?_
  refine aw_conv (fun i => i) [] [(3, .a (.c (.ptr 3400 0 0))), (4, .a (.c (.ptr 500 0 0))), (6, .a (.c (.ref 700 0 Hs.length))), (7, .i k), (8, .i ad), (9, .i (-1)), (62, .a (.c (.ref 700 0 Hs.length))), (63, .i Hs.length), (64, .i ((0 : Nat)))] [(3400, diceB L kd), (500, caB c), (700, linesB Hs)] hJK rfl (fun _ _ => rfl) (fun i h => by simp at h) ⟨⟨_, rfl, rfl, rfl⟩, ⟨_, rfl, rfl, rfl⟩, ⟨_, rfl, rfl, rfl⟩, ⟨_, rfl, rfl, rfl⟩, ⟨_, rfl, rfl, rfl⟩, ⟨_, rfl, rfl, rfl⟩, ⟨_, rfl, rfl, rfl⟩, ⟨_, rfl, rfl, rfl⟩, ⟨_, rfl, rfl, rfl⟩, trivial⟩ (allSC_free rfl (blk_free rfl) (allSC_free rfl (blk_free rfl) (allSC_free rfl (linesR_free _) trivial))) ?_
  refine aw_loop (fun m st => ∃ j a, j ≤ Hs.length ∧ m = Hs.length - j ∧ AtOK Hs ad a j ∧ st = atSt L kd k c Hs ad a j) Hs.length ⟨0, -1, by omega, by omega, .inl ⟨rfl, by simp⟩, rfl⟩ (fun m st hI => ?_)
  obtain ⟨j, a, hj, rfl, ha, rfl⟩ := hI
  refine aw_seq ?_
  -- region 14
  refine aw_region hJ (fun h => (by cases h)) ?_
  refine ⟨_, step_bin rfl rfl rfl rfl rfl rfl, ?_⟩  -- t65
  refine ⟨fun h => (by cases h), ?_⟩
  refine aw_seq ?_
  refine aw_cond2 rfl (fun h => ?_) (fun h => ?_)
  · have hlt : j < Hs.length := by simpa using h
    obtain ⟨x, hx⟩ : ∃ x, Hs[j]? = some x := ⟨_, List.getElem?_eq_getElem hlt⟩
    have hrow : (linesB Hs).rows[0 + j]? = some (encLine x) := by rw [Nat.zero_add]; exact linesR_get hx
    have hw1 := wrap1 (q := j) (by omega)
    refine aw_skip ?_
    refine aw_seq ?_
    refine aw_block ?_
    refine aw_seq ?_
    -- region 15
    refine aw_region hJ (fun h => (by cases h)) ?_
    refine ⟨_, step_move (.inl rfl) rfl rfl rfl, ?_⟩  -- t66
    refine ⟨_, step_indexAddr rfl rfl rfl rfl rfl el34 (elemAt_ref hlt) (fun id off len h => by cases h; exact ⟨_, rfl, rfl⟩), ?_⟩  -- t67
    refine ⟨_, step_load rfl rfl rfl rfl sz37 ag37 rfl hrow rfl, ?_⟩  -- t68
    refine ⟨_, step_alloc (id := 1200) rfl rfl rfl zr37 rfl (by decide) rfl, ?_⟩  -- t11
    refine ⟨_, step_move (.inr rfl) rfl rfl rfl, ?_⟩  -- t10
    refine ⟨_, step_store rfl rfl rfl rfl rfl rfl sz37 rfl rfl (Nat.le_of_ble_eq_true rfl), ?_⟩  -- t_
    refine ⟨fun h => (by cases h), ?_⟩
    refine aw_seq ?_
    -- region 16
    refine aw_region hJ (fun h => (by cases h)) ?_
    refine ⟨_, step_fieldAddr rfl rfl rfl rfl fld37_0 (by decide) rfl, ?_⟩  -- t69
    refine ⟨_, (by first | exact step_load rfl rfl rfl rfl sz3 ag3 rfl rfl rfl | exact step_loadRow rfl rfl rfl rfl sz3 ag3 rfl), ?_⟩  -- t70
    refine ⟨_, step_move (.inl rfl) rfl rfl rfl, ?_⟩  -- t71
    refine ⟨_, step_bin rfl rfl rfl rfl rfl rfl, ?_⟩  -- t72
    refine ⟨fun h => (by cases h), ?_⟩
    refine aw_cond2 rfl (fun h2 => ?_) (fun h2 => ?_)
    · have h2 : x.addr = ad := by simpa using h2
      -- region 17
      refine aw_region hJ (fun h => (by cases h)) ?_
      refine ⟨_, step_move (.inl rfl) rfl rfl rfl, ?_⟩  -- t73
      refine ⟨_, step_move (.inr rfl) rfl rfl rfl, ?_⟩  -- t9
      refine ⟨fun h => (by cases h), ?_⟩
      -- region 18
      refine aw_region hJ (fun h => (by cases h)) ?_
      refine ⟨_, step_bin rfl rfl rfl rfl rfl (show some (Value.int .i64 (IntKind.i64.wrap ((j : Int) + 1))) = some (.int .i64 ((j + 1 : Nat) : Int)) by rw [hw1]), ?_⟩  -- t74
      refine ⟨_, step_move (.inl rfl) rfl rfl rfl, ?_⟩  -- t64
      refine ⟨fun h => (by cases h), ?_⟩
      exact ⟨_, Hs.length - (j + 1), cv_conv (fun i => i) [] [(3, .a (.c (.ptr 3400 0 0))), (4, .a (.c (.ptr 500 0 0))), (6, .a (.c (.ref 700 0 Hs.length))), (7, .i k), (8, .i ad), (9, .i (j)), (62, .a (.c (.ref 700 0 Hs.length))), (63, .i Hs.length), (64, .i ((j + 1 : Nat)))] [(3400, diceB L kd), (500, caB c), (700, linesB Hs)] hJK rfl (fun _ _ => rfl) (fun i h => by simp at h) ⟨⟨_, rfl, rfl, rfl⟩, ⟨_, rfl, rfl, rfl⟩, ⟨_, rfl, rfl, rfl⟩, ⟨_, rfl, rfl, rfl⟩, ⟨_, rfl, rfl, rfl⟩, ⟨_, rfl, rfl, rfl⟩, ⟨_, rfl, rfl, rfl⟩, ⟨_, rfl, rfl, rfl⟩, ⟨_, rfl, rfl, rfl⟩, trivial⟩ (allSC_free rfl (blk_free rfl) (allSC_free rfl (blk_free rfl) (allSC_free rfl (linesR_free _) trivial))), by omega, j + 1, j, by omega, rfl, .inr ⟨j, x, by omega, rfl, hx, h2⟩, rfl⟩
    · have h2 : x.addr ≠ ad := by simpa using h2
      refine aw_skip ?_
      -- region 18
      refine aw_region hJ (fun h => (by cases h)) ?_
      refine ⟨_, step_bin rfl rfl rfl rfl rfl (show some (Value.int .i64 (IntKind.i64.wrap ((j : Int) + 1))) = some (.int .i64 ((j + 1 : Nat) : Int)) by rw [hw1]), ?_⟩  -- t74
      refine ⟨_, step_move (.inl rfl) rfl rfl rfl, ?_⟩  -- t64
      refine ⟨fun h => (by cases h), ?_⟩
      refine ⟨_, Hs.length - (j + 1), cv_conv (fun i => i) [] [(3, .a (.c (.ptr 3400 0 0))), (4, .a (.c (.ptr 500 0 0))), (6, .a (.c (.ref 700 0 Hs.length))), (7, .i k), (8, .i ad), (9, .i (a)), (62, .a (.c (.ref 700 0 Hs.length))), (63, .i Hs.length), (64, .i ((j + 1 : Nat)))] [(3400, diceB L kd), (500, caB c), (700, linesB Hs)] hJK rfl (fun _ _ => rfl) (fun i h => by simp at h) ⟨⟨_, rfl, rfl, rfl⟩, ⟨_, rfl, rfl, rfl⟩, ⟨_, rfl, rfl, rfl⟩, ⟨_, rfl, rfl, rfl⟩, ⟨_, rfl, rfl, rfl⟩, ⟨_, rfl, rfl, rfl⟩, ⟨_, rfl, rfl, rfl⟩, ⟨_, rfl, rfl, rfl⟩, ⟨_, rfl, rfl, rfl⟩, trivial⟩ (allSC_free rfl (blk_free rfl) (allSC_free rfl (blk_free rfl) (allSC_free rfl (linesR_free _) trivial))), by omega, j + 1, a, by omega, rfl, ?_, rfl⟩
      rcases ha with ⟨rfl, h3⟩ | ⟨q, y, h3, h4, h5, h6⟩
      · refine .inl ⟨rfl, fun y hy => ?_⟩
        rw [take_snoc' hx] at hy
        rcases List.mem_append.1 hy with hy | hy
        · exact h3 y hy
        · obtain rfl : y = x := by simpa using hy
          exact h2
      · exact .inr ⟨q, y, by omega, h4, h5, h6⟩
  · have hjn : j = Hs.length := by simp at h; omega
    subst hjn
    refine aw_exit ?_
    refine at_exit ?_
    refine at_exit ?_
    refine ab_hit ?_
    exact hQ _ a ha (cv_conv (fun i => i) [] [(3, .a (.c (.ptr 3400 0 0))), (4, .a (.c (.ptr 500 0 0))), (6, .a (.c (.ref 700 0 Hs.length))), (7, .i k), (8, .i ad), (9, .i (a))] [(3400, diceB L kd), (500, caB c), (700, linesB Hs)] hJK rfl (fun _ _ => rfl) (fun i h => by simp at h) ⟨⟨_, rfl, rfl, rfl⟩, ⟨_, rfl, rfl, rfl⟩, ⟨_, rfl, rfl, rfl⟩, ⟨_, rfl, rfl, rfl⟩, ⟨_, rfl, rfl, rfl⟩, ⟨_, rfl, rfl, rfl⟩, trivial⟩ (allSC_free rfl (blk_free rfl) (allSC_free rfl (blk_free rfl) (allSC_free rfl (linesR_free _) trivial))))

theorem aw_absurd {P : Program} {J : Env} {c : Code} {Q : Exit → St → Prop} {st : St} (h : False) : AW P J c Q st := h.elim

set_option maxRecDepth 20000 in
theorem round_aw {J : Env} {Q : Exit → St → Prop} (hJ : J.n = 247) (hJK : JOK J) (L : List Int) (kd k : Nat) (c : Ca) (Hs : List Line) (hL : ∀ x ∈ L, i64 x) (hlen : L.length ≤ 1000000) (hkd : kd ≤ L.length) (hJC : JC c Hs) (hz : c.size = 2) (hk : k < 40) (hn : Hs.length ≤ k)
    (hQ : ∀ st' kd' c' Hs', kd' ≤ L.length → JC c' Hs' → c'.size = 2 → Hs'.length ≤ k + 1 → Cv J st' (mid L kd' (k + 1) c' Hs') → Q .normal st') :
    AW Try.prog J body Q (mid L kd k c Hs) := by
  rw [body_eq]
  have hd0 := dnext_lo (L.drop kd) 10
  have hd1 := dnext_hi (L.drop kd) 10 (by decide)
  have hnx := next_ac L kd 10 hL hkd hlen ⟨by decide, by decide⟩
  generalize dnext (L.drop kd) 10 = ad at *
  obtain ⟨kd1, hkd1⟩ : ∃ d, d = min (kd + 1) L.length := ⟨_, rfl⟩
  rw [← hkd1] at hnx
  have hkd1l : kd1 ≤ L.length := by omega
  have hnx2 := next_ac L kd1 5 hL hkd1l hlen ⟨by decide, by decide⟩
  generalize dnext (L.drop kd1) 5 = d5 at *
  obtain ⟨kd2, hkd2⟩ : ∃ d, d = min (kd1 + 1) L.length := ⟨_, rfl⟩
  rw [← hkd2] at hnx2
  have hkd2l : kd2 ≤ L.length := by omega
  clear hkd1 hkd2
  refine aw_seq ?_
  refine aw_seq ?_
  -- region 9
  refine aw_region hJ (fun h => (by cases h)) ?_
  refine ⟨_, step_move (.inl rfl) rfl rfl rfl, ?_⟩  -- t56
  refine ⟨_, step_bin rfl rfl rfl rfl rfl rfl, ?_⟩  -- t57
  refine ⟨fun h => (by cases h), ?_⟩
  refine aw_cond2 rfl (fun h => ?_) (fun h => aw_absurd (by simp at h; omega))
  refine aw_skip ?_
  refine aw_seq ?_
  refine aw_block ?_
  refine aw_seq ?_
  -- region 11
  refine aw_region hJ (fun h => (by cases h)) ?_
  refine ⟨_, step_move (.inl rfl) rfl rfl rfl, ?_⟩  -- t60
  refine ⟨_, step_call1 (xs := [.i 10]) rfl rfl cal8 rfl rfl rfl rfl rfl rfl rfl rfl hnx, ?_⟩  -- t61
  refine ⟨_, step_move (.inr rfl) rfl rfl rfl, ?_⟩  -- t8
  refine ⟨fun h => (by cases h), ?_⟩
  refine aw_seq ?_
  -- region 12
  refine aw_region hJ (fun h => (by cases h)) ?_
  refine ⟨_, step_move (.inr rfl) rfl rfl rfl, ?_⟩  -- t9
  refine ⟨fun h => (by cases h), ?_⟩
  refine aw_seq ?_
  refine aw_conv (fun i => i) [] [(3, .a (.c (.ptr 3400 0 0))), (4, .a (.c (.ptr 500 0 0))), (6, .a (.c (.ref 700 0 Hs.length))), (7, .i k), (8, .i ad), (9, .i (-1))] [(3400, diceB L kd1), (500, caB c), (700, linesB Hs)] hJK rfl (fun _ _ => rfl) (fun i h => by simp at h) ⟨⟨_, rfl, rfl, rfl⟩, ⟨_, rfl, rfl, rfl⟩, ⟨_, rfl, rfl, rfl⟩, ⟨_, rfl, rfl, rfl⟩, ⟨_, rfl, rfl, rfl⟩, ⟨_, rfl, rfl, rfl⟩, trivial⟩ (allSC_free rfl (blk_free rfl) (allSC_free rfl (blk_free rfl) (allSC_free rfl (linesR_free _) trivial))) ?_
  refine at_aw hJ hJK L kd1 k c Hs ad (by omega) (fun st' a ha hcv => aw_cv hcv ?_)
  refine aw_cut (fun st => ∃ kd' c' Hs', kd' ≤ L.length ∧ JC c' Hs' ∧ c'.size = 2 ∧ Hs'.length ≤ k + 1 ∧ st = mid L kd' k c' Hs') ?_ ?_
  · refine aw_seq ?_
    -- region 19
    refine aw_region hJ (fun h => (by cases h)) ?_
    refine ⟨_, step_move (.inl rfl) rfl rfl rfl, ?_⟩  -- t75
    refine ⟨_, step_call1 (xs := [.i 5]) rfl rfl cal8 rfl rfl rfl rfl rfl rfl rfl rfl hnx2, ?_⟩  -- t76
    refine ⟨fun h => (by cases h), ?_⟩
    refine aw_block ?_
    refine aw_cut (fun st => st = stOf [(3, .a (.c (.ptr 3400 0 0))), (4, .a (.c (.ptr 500 0 0))), (6, .a (.c (.ref 700 0 Hs.length))), (7, .i k), (8, .i ad), (9, .i a), (76, .i d5), (154, .b (d5 == 0 || d5 == 1))] [(3400, diceB L kd2), (500, caB c), (700, linesB Hs)]) ?_ ?_
    · refine aw_seq ?_
      -- region 41
      refine aw_region hJ (fun h => (by cases h)) ?_
      refine ⟨_, step_bin rfl rfl rfl rfl rfl rfl, ?_⟩  -- t155
      refine ⟨_, step_move (.inr rfl) rfl rfl rfl, ?_⟩  -- t154
      refine ⟨fun h => (by cases h), ?_⟩
      refine aw_cond2 rfl (fun h => ?_) (fun h => ?_)
      · refine aw_skip ?_
        exact ⟨_, cv_conv (fun i => i) [] [(3, .a (.c (.ptr 3400 0 0))), (4, .a (.c (.ptr 500 0 0))), (6, .a (.c (.ref 700 0 Hs.length))), (7, .i k), (8, .i ad), (9, .i a), (76, .i d5), (154, .b (d5 == 0 || d5 == 1))] [(3400, diceB L kd2), (500, caB c), (700, linesB Hs)] hJK rfl (fun _ _ => rfl) (fun i h => by simp at h) ⟨⟨_, rfl, rfl, rfl⟩, ⟨_, rfl, rfl, rfl⟩, ⟨_, rfl, rfl, rfl⟩, ⟨_, rfl, rfl, rfl⟩, ⟨_, rfl, rfl, rfl⟩, ⟨_, rfl, rfl, rfl⟩, ⟨_, rfl, rfl, rfl⟩, ⟨_, rfl, rfl, by show FV.b (d5 == 0) = FV.b _; rw [h]; rfl⟩, trivial⟩ (allSC_free rfl (blk_free rfl) (allSC_free rfl (blk_free rfl) (allSC_free rfl (linesR_free _) trivial))), rfl⟩
      · skip
        -- region 42
        refine aw_region hJ (fun h => (by cases h)) ?_
        refine ⟨_, step_bin rfl rfl rfl rfl rfl rfl, ?_⟩  -- t156
        refine ⟨_, step_move (.inr rfl) rfl rfl rfl, ?_⟩  -- t154
        refine ⟨fun h => (by cases h), ?_⟩
        exact ⟨_, cv_conv (fun i => i) [] [(3, .a (.c (.ptr 3400 0 0))), (4, .a (.c (.ptr 500 0 0))), (6, .a (.c (.ref 700 0 Hs.length))), (7, .i k), (8, .i ad), (9, .i a), (76, .i d5), (154, .b (d5 == 0 || d5 == 1))] [(3400, diceB L kd2), (500, caB c), (700, linesB Hs)] hJK rfl (fun _ _ => rfl) (fun i h => by simp at h) ⟨⟨_, rfl, rfl, rfl⟩, ⟨_, rfl, rfl, rfl⟩, ⟨_, rfl, rfl, rfl⟩, ⟨_, rfl, rfl, rfl⟩, ⟨_, rfl, rfl, rfl⟩, ⟨_, rfl, rfl, rfl⟩, ⟨_, rfl, rfl, rfl⟩, ⟨_, rfl, rfl, by show FV.b (d5 == 1) = FV.b _; rw [h]; rfl⟩, trivial⟩ (allSC_free rfl (blk_free rfl) (allSC_free rfl (blk_free rfl) (allSC_free rfl (linesR_free _) trivial))), rfl⟩
    rintro st rfl
    have hfin : QOKA J (ABlock 4 (AThen (fun st' => ∃ st2, Cv J st' st2 ∧ ∃ kd' c' Hs', kd' ≤ L.length ∧ JC c' Hs' ∧ c'.size = 2 ∧ Hs'.length ≤ k + 1 ∧ st2 = mid L kd' k c' Hs') (ABlock 1 (AThen (AW Try.prog J r10C Q) Q)))) L k Hs.length :=
      fun st' kd' c' Hs' h1 h2 h3 h4 hcv => ⟨_, hcv, kd', c', Hs', h1, h2, h3, by omega, rfl⟩
    refine aw_cond2 rfl (fun h => ?_) (fun h => ?_)
    · refine aw_conv (fun i => i) [] [(3, .a (.c (.ptr 3400 0 0))), (4, .a (.c (.ptr 500 0 0))), (6, .a (.c (.ref 700 0 Hs.length))), (7, .i k), (8, .i ad), (9, .i a)] [(3400, diceB L kd2), (500, caB c), (700, linesB Hs)] hJK rfl (fun _ _ => rfl) (fun i h => by simp at h) ⟨⟨_, rfl, rfl, rfl⟩, ⟨_, rfl, rfl, rfl⟩, ⟨_, rfl, rfl, rfl⟩, ⟨_, rfl, rfl, rfl⟩, ⟨_, rfl, rfl, rfl⟩, ⟨_, rfl, rfl, rfl⟩, trivial⟩ (allSC_free rfl (blk_free rfl) (allSC_free rfl (blk_free rfl) (allSC_free rfl (linesR_free _) trivial))) ?_
      rcases ha with ⟨rfl, h3⟩ | ⟨q, x, h3, rfl, h5, rfl⟩
      · rw [List.take_length] at h3
        exact get_noA hJ hJK L kd2 k ad c Hs hkd2l hJC hz hd0 h3 hfin
      · exact get_yesA hJ hJK L kd2 k q x c Hs hkd2l hJC hz h5 (by omega) hfin
    · refine aw_seq ?_
      -- region 49
      refine aw_region hJ (fun h => (by cases h)) ?_
      refine ⟨_, step_bin rfl rfl rfl rfl rfl rfl, ?_⟩  -- t198
      refine ⟨_, step_move (.inr rfl) rfl rfl rfl, ?_⟩  -- t197
      refine ⟨fun h => (by cases h), ?_⟩
      refine aw_cond2 rfl (fun h => ?_) (fun h => ?_)
      · refine aw_conv (fun i => i) [] [(3, .a (.c (.ptr 3400 0 0))), (4, .a (.c (.ptr 500 0 0))), (6, .a (.c (.ref 700 0 Hs.length))), (7, .i k), (8, .i ad), (9, .i a)] [(3400, diceB L kd2), (500, caB c), (700, linesB Hs)] hJK rfl (fun _ _ => rfl) (fun i h => by simp at h) ⟨⟨_, rfl, rfl, rfl⟩, ⟨_, rfl, rfl, rfl⟩, ⟨_, rfl, rfl, rfl⟩, ⟨_, rfl, rfl, rfl⟩, ⟨_, rfl, rfl, rfl⟩, ⟨_, rfl, rfl, rfl⟩, trivial⟩ (allSC_free rfl (blk_free rfl) (allSC_free rfl (blk_free rfl) (allSC_free rfl (linesR_free _) trivial))) ?_
        rcases ha with ⟨rfl, h3⟩ | ⟨q, x, h3, rfl, h5, rfl⟩
        · rw [List.take_length] at h3
          exact drop_noA hJ hJK L kd2 k ad c Hs hkd2l hJC hz hd0 h3 hfin
        · exact drop_yesA hJ hJK L kd2 k q x c Hs hkd2l hJC hz h5 (by omega) hfin
      · refine aw_conv (fun i => i) [] [(3, .a (.c (.ptr 3400 0 0))), (4, .a (.c (.ptr 500 0 0))), (6, .a (.c (.ref 700 0 Hs.length))), (7, .i k), (8, .i ad), (9, .i a)] [(3400, diceB L kd2), (500, caB c), (700, linesB Hs)] hJK rfl (fun _ _ => rfl) (fun i h => by simp at h) ⟨⟨_, rfl, rfl, rfl⟩, ⟨_, rfl, rfl, rfl⟩, ⟨_, rfl, rfl, rfl⟩, ⟨_, rfl, rfl, rfl⟩, ⟨_, rfl, rfl, rfl⟩, ⟨_, rfl, rfl, rfl⟩, trivial⟩ (allSC_free rfl (blk_free rfl) (allSC_free rfl (blk_free rfl) (allSC_free rfl (linesR_free _) trivial))) ?_
        rcases ha with ⟨rfl, h3⟩ | ⟨q, x, h3, rfl, h5, h6⟩
        · rw [List.take_length] at h3
          have hle := hset_le hJC ad
          simp only [hset, List.length_reverse] at hle
          by_cases hlt : (Hs.filter (inSet c.sets (c.no ad))).length < c.ways
          · exact put_newA hJ hJK L kd2 k ad c Hs hL hlen hkd2l hJC hz hd0 (by omega) (by omega) h3 hlt hfin
          · have hw := hJC.ways1
            cases hf : Hs.findIdx? (inSet c.sets (c.no ad)) with
            | none =>
              exfalso
              have hnil : Hs.filter (inSet c.sets (c.no ad)) = [] := by
                rw [List.filter_eq_nil_iff]
                intro y hy
                have := List.findIdx?_eq_none_iff.1 hf y hy
                simpa using this
              rw [hnil] at hlt
              simp at hlt
              omega
            | some o =>
              obtain ⟨ho1, ho2, ho3⟩ := List.findIdx?_eq_some_iff_getElem.1 hf
              have hfix : firstIx (inSet c.sets (c.no ad)) Hs = (o : Int) := by unfold firstIx; rw [hf]
              refine put_fullA hJ hJK L kd2 k ad c Hs hL hlen hkd2l hJC hz hd0 (by omega) (by omega) o Hs[o] h3 (by omega) hfix (List.getElem?_eq_getElem ho1) ho2 ?_ hfin
              rw [List.filter_eq_nil_iff]
              intro y hy
              obtain ⟨i, hi, rfl⟩ := List.getElem_of_mem hy
              rw [List.length_take] at hi
              rw [List.getElem_take]
              have := ho3 i (by omega)
              simpa using this
        · exact put_atA hJ hJK L kd2 k ad c Hs hL hlen hkd2l hJC hz hd0 (by omega) (by omega) q x h5 h6 hfin
  · rintro st ⟨kd', c', Hs', h1, h2, h3, h4, rfl⟩
    refine tail_aw hJ L kd' k c' Hs' h2 hk hJK (fun st' hcv => aw_cv hcv ?_)
    show AW Try.prog J (.region 10 _ _) Q _
    -- region 10
    refine aw_region hJ (fun h => (by cases h)) ?_
    refine ⟨_, step_move (.inl rfl) rfl rfl rfl, ?_⟩  -- t58
    refine ⟨_, step_bin rfl rfl rfl rfl rfl (show some (Value.int .i64 (IntKind.i64.wrap ((k : Int) + 1))) = some (.int .i64 ((k + 1 : Nat) : Int)) by rw [wrap1 (by omega)]), ?_⟩  -- t59
    refine ⟨_, step_move (.inr rfl) rfl rfl rfl, ?_⟩  -- t7
    refine ⟨fun h => (by cases h), ?_⟩
    exact hQ _ kd' c' Hs' h1 h2 h3 h4 (cv_mid (idh := 700) hJK rfl rfl rfl rfl rfl rfl rfl (by decide) (by decide))

set_option maxRecDepth 20000 in
theorem law_ac (L : List Int) (hL : ∀ x ∈ L, i64 x) (hlen : L.length ≤ 9223372036854775807) : AC Try.prog 3 [.c (.lst 0 (ints L))] none1 (fun r σ' => r = .b true ∧ σ' = none1) := by
  have hlight := light_ac 0 (ints L)
  have hil : (ints L).length = L.length := by simp [ints]
  rw [hil] at hlight
  refine ac_intro Try.func3 rfl rfl (fun J hJ hJK => ?_)
  have hJ : J.n = 247 := hJ
  refine aw_seq ?_
  -- region 0
  refine aw_region hJ (fun h => (by cases h)) ?_
  refine ⟨_, step_move (.inr rfl) rfl rfl rfl, ?_⟩  -- t2
  refine ⟨fun h => (by cases h), ?_⟩
  refine aw_seq ?_
  refine aw_seq ?_
  -- region 1
  refine aw_region hJ (fun h => (by cases h)) ?_
  refine ⟨_, step_move (.inl rfl) rfl rfl rfl, ?_⟩  -- t28
  refine ⟨_, step_call0 (xs := [.c (.lst 0 (ints L))]) rfl rfl cal4 rfl rfl rfl rfl rfl hlight, ?_⟩  -- t29
  refine ⟨_, step_un rfl rfl rfl rfl rfl, ?_⟩  -- t30
  refine ⟨fun h => (by cases h), ?_⟩
  refine aw_cond2 rfl (fun h => ?_) (fun h => ?_)
  · refine aw_seq ?_
    -- region 2
    refine aw_region hJ (fun h => (by cases h)) ?_
    refine ⟨_, step_call0 (xs := []) rfl rfl cal5 rfl rfl rfl rfl rfl awake_ac, ?_⟩  -- t31
    refine ⟨_, step_move (.inr rfl) rfl rfl rfl, ?_⟩  -- t2
    refine ⟨fun h => (by cases h), ?_⟩
    refine aw_ret ?_
    exact ⟨.inr rfl, _, none1, rfl, none_sub, rfl, rfl⟩
  · have hl : L.length ≤ 400 := by simp at h; omega
    have hd1 := dnext_lo L 3
    have hd1b := dnext_hi L 3 (by decide)
    have hn1 := next_ac L 0 3 hL (by omega) (by omega) ⟨by decide, by decide⟩
    rw [List.drop_zero] at hn1
    obtain ⟨d1, hdd1⟩ : ∃ d : Nat, dnext L 3 = (d : Int) := ⟨_, (Int.toNat_of_nonneg hd1).symm⟩
    rw [hdd1] at hn1 hd1b
    obtain ⟨k1, hk1⟩ : ∃ d, d = min (0 + 1) L.length := ⟨_, rfl⟩
    rw [← hk1] at hn1
    have hk1l : k1 ≤ L.length := by omega
    have hd2 := dnext_lo (L.drop k1) 4
    have hd2b := dnext_hi (L.drop k1) 4 (by decide)
    have hn2 := next_ac L k1 4 hL hk1l (by omega) ⟨by decide, by decide⟩
    obtain ⟨d2, hdd2⟩ : ∃ d : Nat, dnext (L.drop k1) 4 = (d : Int) := ⟨_, (Int.toNat_of_nonneg hd2).symm⟩
    rw [hdd2] at hn2 hd2b
    obtain ⟨k2, hk2⟩ : ∃ d, d = min (k1 + 1) L.length := ⟨_, rfl⟩
    rw [← hk2] at hn2
    have hk2l : k2 ≤ L.length := by omega
    clear hk1 hk2 hdd1 hdd2 hd1 hd2
    have hw1 : IntKind.i64.wrap (1 + (d1 : Int)) = ((1 + d1 : Nat) : Int) := by rw [IntKind.wrap_i64]; omega
    have hw2 : IntKind.i64.wrap (1 + (d2 : Int)) = ((1 + d2 : Nat) : Int) := by rw [IntKind.wrap_i64]; omega
    have hnew := new_ac (1 + d1) (1 + d2) 2 (by omega) (by omega) (by omega) (by omega) (by decide) (by decide)
    have hJC := JC.new (1 + d1) (1 + d2) 2 (by omega) (by omega) (by omega) (by omega) (by decide) (by decide)
    have hz : (Ca.new (1 + d1) (1 + d2) 2).size = 2 := rfl
    generalize Ca.new (1 + d1) (1 + d2) 2 = c at *
    have hs1 := hJC.sets1
    have hs2 := hJC.ways1
    refine aw_skip ?_
    refine aw_seq ?_
    -- region 3
    refine aw_region hJ (fun h => (by cases h)) ?_
    refine ⟨_, step_move (.inl rfl) rfl rfl rfl, ?_⟩  -- t32
    refine ⟨_, step_call0n (idn := 3400) (xs := [.c (.lst 0 (ints L))]) (r := .a (.c (.ptr 110 0 0))) rfl rfl cal6 rfl rfl rfl rfl rfl rfl rfl rfl (roll_ac L), ?_⟩  -- t33
    refine ⟨_, step_move (.inr rfl) rfl rfl rfl, ?_⟩  -- t3
    refine ⟨fun h => (by cases h), ?_⟩
    refine aw_seq ?_
    -- region 4
    refine aw_region hJ (fun h => (by cases h)) ?_
    refine ⟨_, step_move (.inl rfl) rfl rfl rfl, ?_⟩  -- t35
    refine ⟨_, step_call1 (xs := [.i 3]) rfl rfl cal8 rfl rfl rfl rfl rfl rfl rfl rfl hn1, ?_⟩  -- t36
    refine ⟨_, step_bin rfl rfl rfl rfl rfl (show some (Value.int .i64 (IntKind.i64.wrap (1 + (d1 : Int)))) = some (.int .i64 ((1 + d1 : Nat) : Int)) by rw [hw1]), ?_⟩  -- t37
    refine ⟨_, step_move (.inl rfl) rfl rfl rfl, ?_⟩  -- t38
    refine ⟨_, step_call1 (xs := [.i 4]) rfl rfl cal8 rfl rfl rfl rfl rfl rfl rfl rfl hn2, ?_⟩  -- t39
    refine ⟨_, step_bin rfl rfl rfl rfl rfl (show some (Value.int .i64 (IntKind.i64.wrap (1 + (d2 : Int)))) = some (.int .i64 ((1 + d2 : Nat) : Int)) by rw [hw2]), ?_⟩  -- t40
    refine ⟨_, step_call0 (xs := [.i (1 + d1 : Nat), .i (1 + d2 : Nat), .i 2]) rfl rfl cal7 rfl rfl rfl rfl rfl hnew, ?_⟩  -- t41
    refine ⟨_, step_move (.inl rfl) rfl rfl rfl, ?_⟩  -- t34
    refine ⟨_, step_extract rfl rfl rfl rfl rfl, ?_⟩  -- t42
    refine ⟨_, step_extract rfl rfl rfl rfl rfl, ?_⟩  -- t43
    refine ⟨_, step_alloc (id := 500) rfl rfl rfl zr29 rfl (by decide) rfl, ?_⟩  -- t4
    refine ⟨_, step_store rfl rfl rfl rfl rfl rfl sz29 rfl rfl (Nat.le_of_ble_eq_true rfl), ?_⟩  -- t_
    refine ⟨_, step_move (.inr rfl) rfl rfl rfl, ?_⟩  -- t5
    refine ⟨fun h => (by cases h), ?_⟩
    refine aw_seq ?_
    refine aw_seq ?_
    -- region 5
    refine aw_region hJ (fun h => (by cases h)) ?_
    refine ⟨_, step_move (.inl rfl) rfl rfl rfl, ?_⟩  -- t44
    refine ⟨_, step_bin rfl rfl rfl rfl rfl rfl, ?_⟩  -- t45
    refine ⟨_, step_move (.inl rfl) rfl rfl rfl, ?_⟩  -- t46
    refine ⟨_, step_fieldAddr rfl rfl rfl rfl fld29_0 (by decide) rfl, ?_⟩  -- t47
    refine ⟨_, (by first | exact step_load rfl rfl rfl rfl sz3 ag3 rfl rfl rfl | exact step_loadRow rfl rfl rfl rfl sz3 ag3 rfl), ?_⟩  -- t48
    refine ⟨_, step_bin rfl rfl rfl rfl rfl (show some (Value.bool (decide ((c.sets : Int) < 1))) = some (.bool false) by rw [decide_eq_false (by omega)]), ?_⟩  -- t49
    refine ⟨_, step_pick rfl rfl rfl rfl rfl, ?_⟩  -- t50
    refine ⟨_, step_move (.inl rfl) rfl rfl rfl, ?_⟩  -- t51
    refine ⟨_, step_fieldAddr rfl rfl rfl rfl fld29_1 (by decide) rfl, ?_⟩  -- t52
    refine ⟨_, (by first | exact step_load rfl rfl rfl rfl sz3 ag3 rfl rfl rfl | exact step_loadRow rfl rfl rfl rfl sz3 ag3 rfl), ?_⟩  -- t53
    refine ⟨_, step_bin rfl rfl rfl rfl rfl (show some (Value.bool (decide ((c.ways : Int) < 1))) = some (.bool false) by rw [decide_eq_false (by omega)]), ?_⟩  -- t54
    refine ⟨_, step_pick rfl rfl rfl rfl rfl, ?_⟩  -- t55
    refine ⟨fun h => (by cases h), ?_⟩
    refine aw_cond2 rfl (fun h => (by cases h)) (fun h => ?_)
    refine aw_skip ?_
    refine aw_seq ?_
    -- region 7
    refine aw_region hJ (fun h => (by cases h)) ?_
    refine ⟨_, step_move (.inr rfl) rfl rfl rfl, ?_⟩  -- t6
    refine ⟨fun h => (by cases h), ?_⟩
    refine aw_seq ?_
    refine aw_seq ?_
    -- region 8
    refine aw_region hJ (fun h => (by cases h)) ?_
    refine ⟨_, step_move (.inr rfl) rfl rfl rfl, ?_⟩  -- t7
    refine ⟨fun h => (by cases h), ?_⟩
    refine aw_nilref 6 700 37 4 rfl rfl ?_
    refine aw_block ?_
    refine aw_cv (cv_mid (L := L) (kd := k2) (k := 0) (c := c) (Hs := []) (idh := 700) hJK rfl rfl rfl rfl rfl rfl rfl (by decide) (by decide)) ?_
    refine aw_loop (fun m st => ∃ k kd c Hs, k ≤ 40 ∧ m = 40 - k ∧ kd ≤ L.length ∧ JC c Hs ∧ c.size = 2 ∧ Hs.length ≤ k ∧ st = mid L kd k c Hs) 40 ⟨0, k2, c, [], by omega, by omega, hk2l, hJC, hz, by simp, rfl⟩ (fun m st hI => ?_)
    obtain ⟨k, kd, c, Hs, hk, rfl, hkd, hJC, hz, hn, rfl⟩ := hI
    show AW Try.prog J body _ _
    by_cases hk40 : k < 40
    · refine round_aw hJ hJK L kd k c Hs hL (by omega) hkd hJC hz hk40 hn (fun st' kd' c' Hs' h1 h2 h3 h4 hcv => ?_)
      exact ⟨_, 40 - (k + 1), hcv, by omega, k + 1, kd', c', Hs', by omega, rfl, h1, h2, h3, h4, rfl⟩
    · obtain rfl : k = 40 := by omega
      rw [body_eq]
      refine aw_seq ?_
      refine aw_seq ?_
      -- region 9
      refine aw_region hJ (fun h => (by cases h)) ?_
      refine ⟨_, step_move (.inl rfl) rfl rfl rfl, ?_⟩  -- t56
      refine ⟨_, step_bin rfl rfl rfl rfl rfl rfl, ?_⟩  -- t57
      refine ⟨fun h => (by cases h), ?_⟩
      refine aw_cond2 rfl (fun h => (by cases h)) (fun h => ?_)
      refine aw_exit ?_
      refine at_exit ?_
      refine at_exit ?_
      refine ab_hit ?_
      refine aw_seq ?_
      -- region 58
      refine aw_region hJ (fun h => (by cases h)) ?_
      refine ⟨_, step_call0 (xs := []) rfl rfl cal5 rfl rfl rfl rfl rfl awake_ac, ?_⟩  -- t246
      refine ⟨_, step_move (.inr rfl) rfl rfl rfl, ?_⟩  -- t2
      refine ⟨fun h => (by cases h), ?_⟩
      refine aw_ret ?_
      exact ⟨.inr rfl, _, none1, rfl, none_sub, rfl, rfl⟩
end Go.Proofs.Ytbcjjenidkgodaa
