/- The lines of the mill. -/
import Derived.Test.YtbcjjenidkgodaaConv
namespace Go.Proofs.Ytbcjjenidkgodaa
open Go Go.RowKit

theorem replicate_bytes (n : Nat) : List.replicate n ([.int .u8 0].map CV.v) = bytesR (List.replicate n 0) := by
  simp [bytesR]

theorem drop_min (L : List Int) (k n : Nat) : L.drop (min (k + n) L.length) = (L.drop k).drop n := by
  rw [List.drop_drop]
  by_cases hh : k + n ≤ L.length
  · rw [Nat.min_eq_left hh]
  · rw [Nat.min_eq_right (by omega), List.drop_length, List.drop_eq_nil_of_le (by omega)]

set_option maxRecDepth 20000 in
theorem line_ac (L : List Int) (k : Nat) (n : Nat) (a : Int) (hL : ∀ x ∈ L, i64 x) (hk : k ≤ L.length) (hlen : L.length ≤ 1000000) (hn : n ≤ 1000) :
    AC Try.prog 12 [.c (.ptr 0 0 0), .i n, .i a] (one1 0 (diceB L k)) (fun r σ' => r = .a (.agg (encLine (millLine (L.drop k) n a))) ∧ σ' = one1 0 (diceB L (min (k + (n + 2)) L.length))) := by
  have hb := bytes_ac L k n hL hk hlen (by omega)
  have h1 := next_ac L (min (k + n) L.length) 2 hL (by omega) hlen ⟨by decide, by decide⟩
  rw [drop_min, show min (min (k + n) L.length + 1) L.length = min (k + (n + 1)) L.length by omega] at h1
  have h2 := next_ac L (min (k + (n + 1)) L.length) 5 hL (by omega) hlen ⟨by decide, by decide⟩
  rw [drop_min, show min (min (k + (n + 1)) L.length + 1) L.length = min (k + (n + 2)) L.length by omega] at h2
  obtain ⟨data, hdata⟩ : ∃ d, d = dbytes n (L.drop k) := ⟨_, rfl⟩
  have hdl : data.length = n := by rw [hdata, dbytes_len]
  have hfin : millLine (L.drop k) n a = ⟨a, if dnext ((L.drop k).drop (n + 1)) 5 = 1 then List.replicate n 0 else data, dnext ((L.drop k).drop n) 2 == 0, dnext ((L.drop k).drop (n + 1)) 5 == 1⟩ := by rw [hdata]; rfl
  rw [← hdata] at hb
  rw [hfin]
  clear hfin hdata
  generalize dnext ((L.drop k).drop n) 2 = d1 at *
  generalize dnext ((L.drop k).drop (n + 1)) 5 = d2 at *
  refine ac_intro Try.func12 rfl rfl (fun J hJ hJK => ?_)
  have hJ : J.n = 25 := hJ
  refine aw_seq ?_
  -- region 0
  refine aw_region hJ (fun h => (by cases h)) ?_
  refine ⟨_, step_alloc (id := 700) rfl rfl rfl zr37 rfl (by decide) rfl, ?_⟩  -- t6 := Op.alloc 37
  refine ⟨fun h => (by cases h), ?_⟩
  refine aw_seq ?_
  -- region 1
  refine aw_region hJ (fun h => (by cases h)) ?_
  refine ⟨_, step_move (.inl rfl) rfl rfl rfl, ?_⟩  -- t8 := Op.move t2
  refine ⟨_, step_move (.inl rfl) rfl rfl rfl, ?_⟩  -- t9 := Op.move t0
  refine ⟨_, step_move (.inl rfl) rfl rfl rfl, ?_⟩  -- t10 := Op.move t1
  refine ⟨_, step_call1n (idn := 1200) rfl rfl cal22 rfl rfl rfl rfl rfl (by decide) rfl rfl rfl (bytesB_free _) rfl rfl hb, ?_⟩  -- t11 := Op.call { callee := Callee.value (func 22), args := #[t9, t10], argTypes := #[25, 3] }
  refine ⟨_, step_move (.inl rfl) rfl rfl rfl, ?_⟩  -- t12 := Op.move t0
  refine ⟨_, step_call1 rfl rfl cal8 rfl rfl rfl rfl rfl rfl rfl rfl h1, ?_⟩  -- t13 := Op.call { callee := Callee.value (func 8), args := #[t12, const (int IntKind.i64 2)], argT
  refine ⟨_, step_bin rfl rfl rfl rfl rfl rfl, ?_⟩  -- t14 := Op.binOp BinOp.eql 3 t13 (const (int IntKind.i64 0)) 3
  refine ⟨_, step_move (.inl rfl) rfl rfl rfl, ?_⟩  -- t15 := Op.move t0
  refine ⟨_, step_call1 rfl rfl cal8 rfl rfl rfl rfl rfl rfl rfl rfl h2, ?_⟩  -- t16 := Op.call { callee := Callee.value (func 8), args := #[t15, const (int IntKind.i64 5)], argT
  refine ⟨_, step_bin rfl rfl rfl rfl rfl rfl, ?_⟩  -- t17 := Op.binOp BinOp.eql 3 t16 (const (int IntKind.i64 1)) 3
  refine ⟨_, step_build rfl rfl rfl zr37 rfl st37 rfl rfl, ?_⟩  -- t18 := Op.build 37 #[(0, t8, (1, t11, (2, t14, (3, t17]
  refine ⟨_, step_alloc (id := 800) rfl rfl rfl zr37 rfl (by decide) rfl, ?_⟩  -- t7 := Op.alloc 37
  refine ⟨_, step_store rfl rfl rfl rfl rfl rfl sz37 rfl rfl (Nat.le_of_ble_eq_true rfl), ?_⟩  -- _ := Op.store 37 t7 t18
  refine ⟨fun h => (by cases h), ?_⟩
  refine aw_cut (fun st => st = stOf [(0, .a (.c (.ptr 0 0 0))), (6, .a (.c (.ptr 700 0 0))), (7, .a (.c (.ptr 800 0 0)))] [(0, diceB L (min (k + (n + 2)) L.length)), (700, ⟨37, 4, [[.v (.int .i64 0), .v (.slice none 0 0), .v (.bool false), .v (.bool false)]]⟩), (800, ⟨37, 4, [encLine ⟨a, if d2 = 1 then List.replicate n 0 else data, d1 == 0, d2 == 1⟩]⟩)]) ?_ ?_  -- JOIN
  · skip
    refine aw_seq ?_
    -- region 2
    refine aw_region hJ (fun h => (by cases h)) ?_
    refine ⟨_, step_fieldAddr rfl rfl rfl rfl fld37_3 (by decide) rfl, ?_⟩  -- t19 := Op.fieldAddr 37 t7 3
    refine ⟨_, (by first | exact step_load rfl rfl rfl rfl sz4 ag4 rfl rfl rfl | exact step_loadRow rfl rfl rfl rfl sz4 ag4 rfl), ?_⟩  -- t20 := Op.load 4 t19
    refine ⟨fun h => (by cases h), ?_⟩
    refine aw_cond2 rfl (fun h => ?_) (fun h => ?_)  -- t20
    · have hd2 : d2 = 1 := by simpa using h
      -- region 3
      refine aw_region hJ (fun h => (by cases h)) ?_
      refine ⟨_, step_move (.inl rfl) rfl rfl rfl, ?_⟩  -- t21 := Op.move t1
      refine ⟨_, step_make (id := 2300) rfl rfl rfl rfl rfl el35 by5 zr5 rfl rfl (by decide) (by omega) (by omega) (by omega) (by omega) rfl, ?_⟩  -- t22 := Op.makeSlice 35 t21 t21
      refine ⟨_, step_fieldAddr rfl rfl rfl rfl fld37_1 (by decide) rfl, ?_⟩  -- t23 := Op.fieldAddr 37 t7 1
      refine ⟨_, step_store rfl rfl rfl rfl rfl rfl sz35 rfl rfl (Nat.le_of_ble_eq_true rfl), ?_⟩  -- _ := Op.store 35 t23 t22
      refine ⟨fun h => (by cases h), ?_⟩
      refine ⟨_, cv_conv (fun i => i) [2300] [(0, .a (.c (.ptr 0 0 0))), (6, .a (.c (.ptr 700 0 0))), (7, .a (.c (.ptr 800 0 0)))] [(0, diceB L (min (k + (n + 2)) L.length)), (700, _), (800, ⟨37, 4, [encLine ⟨a, if d2 = 1 then List.replicate n 0 else data, d1 == 0, d2 == 1⟩]⟩)] hJK rfl (fun _ _ => rfl) (fun i hi => ?_) ⟨⟨_, rfl, rfl, rfl⟩, ⟨_, rfl, rfl, rfl⟩, ⟨_, rfl, rfl, rfl⟩, trivial⟩
        (allSC_free rfl (blk_free rfl) (allSC_free rfl (blk_free rfl) (allSC_row (r := [.v (.int .i64 a), .ref 2300 0 (n : Int).toNat, .v (.bool (d1 == 0)), .v (.bool (d2 == 1))]) rfl ?_ ?_ trivial))), rfl⟩
      · obtain rfl : i = 2300 := by simpa using hi
        exact ⟨by simp, _, rfl, fun r hr x hx => bytesR_free _ r (replicate_bytes n ▸ (show r ∈ List.replicate n _ from hr)) x hx⟩
      · intro x hx
        simp only [List.mem_cons, List.not_mem_nil, or_false] at hx
        rcases hx with rfl | rfl | rfl | rfl
        · rfl
        · exact okC_ref rfl rfl (by simp [bytesB, bytesR_len, hdl])
        · rfl
        · rfl
      · show [CV.v _, CV.cvt _ _ _ (.ref 2300 0 _), CV.v _, CV.v _] = _
        rw [cvt_ref (rows := bytesR (List.replicate n 0)) rfl rfl (by show (List.replicate n _).take n = _; rw [← replicate_bytes]; simp)]
        simp only [encLine, hd2, if_true]
    · have hd2 : ¬ d2 = 1 := by simpa using h
      refine aw_skip ?_
      refine ⟨_, cv_conv (fun i => i) [1200] [(0, .a (.c (.ptr 0 0 0))), (6, .a (.c (.ptr 700 0 0))), (7, .a (.c (.ptr 800 0 0)))] [(0, diceB L (min (k + (n + 2)) L.length)), (700, _), (800, ⟨37, 4, [encLine ⟨a, if d2 = 1 then List.replicate n 0 else data, d1 == 0, d2 == 1⟩]⟩)] hJK rfl (fun _ _ => rfl) (fun i hi => ?_) ⟨⟨_, rfl, rfl, rfl⟩, ⟨_, rfl, rfl, rfl⟩, ⟨_, rfl, rfl, rfl⟩, trivial⟩
        (allSC_free rfl (blk_free rfl) (allSC_free rfl (blk_free rfl) (allSC_row (r := [.v (.int .i64 a), .ref 1200 0 n, .v (.bool (d1 == 0)), .v (.bool (d2 == 1))]) rfl ?_ ?_ trivial))), rfl⟩
      · obtain rfl : i = 1200 := by simpa using hi
        exact ⟨by simp, _, rfl, bytesR_free data⟩
      · intro x hx
        simp only [List.mem_cons, List.not_mem_nil, or_false] at hx
        rcases hx with rfl | rfl | rfl | rfl
        · rfl
        · exact okC_ref rfl rfl (by simp [bytesB, bytesR_len, hdl])
        · rfl
        · rfl
      · show [CV.v _, CV.cvt _ _ _ (.ref 1200 0 _), CV.v _, CV.v _] = _
        rw [cvt_ref (rows := bytesR (data)) rfl rfl (by show (bytesR data).take n = _; rw [List.take_of_length_le (by rw [bytesR_len, hdl]; exact Nat.le_refl _)])]
        simp only [encLine, hd2, if_false]
        rfl
  rintro st rfl
  refine aw_seq ?_
  -- region 4
  refine aw_region hJ (fun h => (by cases h)) ?_
  refine ⟨_, (by first | exact step_load rfl rfl rfl rfl sz37 ag37 rfl rfl rfl | exact step_loadRow rfl rfl rfl rfl sz37 ag37 rfl), ?_⟩  -- t24 := Op.load 37 t7
  refine ⟨_, step_store rfl rfl rfl rfl rfl rfl sz37 rfl rfl (Nat.le_of_ble_eq_true rfl), ?_⟩  -- _ := Op.store 37 t6 t24
  refine ⟨fun h => (by cases h), ?_⟩
  refine aw_ret ?_
  refine ⟨.inr rfl, _, one1 0 (diceB L (min (k + (n + 2)) L.length)), resL_cons (res_cell rfl rfl sz37 ag37 rfl rfl) rfl, one_sub rfl, rfl, rfl⟩
end Go.Proofs.Ytbcjjenidkgodaa
