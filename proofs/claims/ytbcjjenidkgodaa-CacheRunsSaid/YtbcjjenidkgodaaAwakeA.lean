/- The law's sanity check, by the abstract walk. -/
import Derived.Test.YtbcjjenidkgodaaMill
import Derived.Test.YtbcjjenidkgodaaAwake
namespace Go.Proofs.Ytbcjjenidkgodaa
open Go Go.RowKit

theorem lendA_free {st : St} {ρ : Nat → Nat} {ids lent : List Nat} {x : AV} (h : x.free = true) : LendA st ρ ids lent x x := by
  have := (lend_free (st := st) (ρ := ρ) (ids := ids) (lent := lent) (xs := [x]) (by simp [h])).2 0 x x rfl rfl
  exact this
theorem lend_line {st : St} {ρ : Nat → Nat} {ids lent : List Nat} {id n e sz : Nat} {rows : List (List CV)} {a b c : Value} (hs : st.s id = some ⟨e, sz, rows⟩) (hi : id ∈ lent) (hn : rows.length = n) (hf : ∀ r ∈ rows, ∀ x ∈ r, CV.free x = true) :
    LendA st ρ ids lent (.agg [.v a, .ref id 0 n, .v b, .v c]) (.agg [.v a, .lst e rows, .v b, .v c]) := by
  have h1 := LendC.lend (st := st) (ρ := ρ) (ids := ids) (lent := lent) (id := id) (off := 0) (len := n) (k := ⟨e, sz, rows⟩) (rows := rows) hi hs (by simp [hn]) (by simp [← hn]) hf
  exact .agg (All2.cons (.same rfl) (All2.cons h1 (All2.cons (.same rfl) (All2.cons (.same rfl) (All2.nil _)))))

set_option maxRecDepth 20000 in
theorem awake_ac : AC Try.prog 5 [] none1 (fun r σ' => r = .b true ∧ σ' = none1) := by
  have V0 := validC_new 1 2 1 (by decide) (by decide) (by decide) (by decide) (by decide) (by decide)
  obtain ⟨c1, c2, c3, c4, ⟨e1, V1, z1⟩, ⟨e2, V2, z2⟩, ⟨e3, V3, z3⟩, e4, V4⟩ := awake_plain
  have z0 : (Ca.new 1 2 1).size = 1 := rfl
  have n0 := new_ac 1 2 1 (by decide) (by decide) (by decide) (by decide) (by decide) (by decide)
  generalize Ca.new 1 2 1 = c0 at *
  have p1 := put_ac c0 (aL 1 1) V0 (by rw [z0]; rfl) (by decide) (by decide)
  have p2 := put_ac c1 (aL 2 2) V1 (by rw [z1]; rfl) (by decide) (by decide)
  have g1 := get_ac c2 1 V2 (by decide)
  have p3 := put_ac c3 (aL 3 3) V3 (by rw [z3]; rfl) (by decide) (by decide)
  have v4 := valid_ac c4 V4
  rw [e1] at p1; rw [e2] at p2; rw [e3] at g1; rw [e4] at p3
  clear e1 e2 e3 e4
  refine ac_intro Try.func5 rfl rfl (fun J hJ hJK => ?_)
  have hJ : J.n = 67 := hJ
  refine aw_seq ?_
  -- region 0
  refine aw_region hJ (fun h => (by cases h)) ?_
  refine ⟨_, step_move (.inr rfl) rfl rfl rfl, ?_⟩  -- t0 := Op.assign (const (bool false))
  refine ⟨fun h => (by cases h), ?_⟩
  refine aw_seq ?_
  -- region 1
  refine aw_region hJ (fun h => (by cases h)) ?_
  refine ⟨_, step_call0 (xs := [.i 1, .i 2, .i 1]) rfl rfl cal7 rfl rfl rfl rfl rfl n0, ?_⟩  -- t9 := Op.call { callee := Callee.value (func 7), args := #[const (int IntKind.i64 1), const (int
  refine ⟨_, step_move (.inl rfl) rfl rfl rfl, ?_⟩  -- t8 := Op.move t9
  refine ⟨_, step_extract rfl rfl rfl rfl rfl, ?_⟩  -- t10 := Op.extract t8 0
  refine ⟨_, step_extract rfl rfl rfl rfl rfl, ?_⟩  -- t11 := Op.extract t8 1
  refine ⟨_, step_alloc (id := 200) rfl rfl rfl zr29 rfl (by decide) rfl, ?_⟩  -- t1 := Op.alloc 29
  refine ⟨_, step_store rfl rfl rfl rfl rfl rfl sz29 rfl rfl (Nat.le_of_ble_eq_true rfl), ?_⟩  -- _ := Op.store 29 t1 t10
  refine ⟨_, step_move (.inr rfl) rfl rfl rfl, ?_⟩  -- t2 := Op.assign t11
  refine ⟨fun h => (by cases h), ?_⟩
  refine aw_seq ?_
  -- region 2
  refine aw_region hJ (fun h => (by cases h)) ?_
  refine ⟨_, (by first | exact step_load rfl rfl rfl rfl sz29 ag29 rfl rfl rfl | exact step_loadRow rfl rfl rfl rfl sz29 ag29 rfl), ?_⟩  -- t13 := Op.load 29 t1
  refine ⟨_, step_buildSlice (id := 1500) rfl rfl rfl el35 zr5 rfl rfl (by decide) (by decide) rfl rfl rfl, ?_⟩  -- t14 := Op.buildSlice 35 1 #[(0, const (int IntKind.u8 1))]
  refine ⟨_, step_build rfl rfl rfl zr37 rfl st37 rfl rfl, ?_⟩  -- t15 := Op.build 37 #[(0, const (int IntKind.i64 1)), (1, t14]
  refine ⟨_, step_callG (xs := [.agg (encCa c0), .agg [.v (.int .i64 1), .ref 1500 0 1, .v (.bool false), .v (.bool false)]]) [1500] rfl rfl cal13 rfl rfl rfl (All2.cons (lendA_free rfl) (All2.cons (lend_line (rows := bytesR [1]) rfl (by simp) rfl (bytesR_free _)) (All2.nil _))) rfl rfl p1, ?_⟩  -- t16 := Op.call { callee := Callee.value (func 13), args := #[t13, t15], argTypes := #[29, 37] }
  refine ⟨_, step_move (.inl rfl) rfl rfl rfl, ?_⟩  -- t12 := Op.move t16
  refine ⟨_, step_extract rfl rfl rfl rfl rfl, ?_⟩  -- t17 := Op.extract t12 0
  refine ⟨_, step_extract rfl rfl rfl rfl rfl, ?_⟩  -- t18 := Op.extract t12 1
  refine ⟨_, step_extract rfl rfl rfl rfl rfl, ?_⟩  -- t19 := Op.extract t12 2
  refine ⟨_, step_extract rfl rfl rfl rfl rfl, ?_⟩  -- t20 := Op.extract t12 3
  refine ⟨_, step_store rfl rfl rfl rfl rfl rfl sz29 rfl rfl (Nat.le_of_ble_eq_true rfl), ?_⟩  -- _ := Op.store 29 t1 t17
  refine ⟨fun h => (by cases h), ?_⟩
  refine aw_seq ?_
  -- region 3
  refine aw_region hJ (fun h => (by cases h)) ?_
  refine ⟨_, (by first | exact step_load rfl rfl rfl rfl sz29 ag29 rfl rfl rfl | exact step_loadRow rfl rfl rfl rfl sz29 ag29 rfl), ?_⟩  -- t22 := Op.load 29 t1
  refine ⟨_, step_buildSlice (id := 2400) rfl rfl rfl el35 zr5 rfl rfl (by decide) (by decide) rfl rfl rfl, ?_⟩  -- t23 := Op.buildSlice 35 1 #[(0, const (int IntKind.u8 2))]
  refine ⟨_, step_build rfl rfl rfl zr37 rfl st37 rfl rfl, ?_⟩  -- t24 := Op.build 37 #[(0, const (int IntKind.i64 2)), (1, t23]
  refine ⟨_, step_callG (xs := [.agg (encCa c1), .agg [.v (.int .i64 2), .ref 2400 0 1, .v (.bool false), .v (.bool false)]]) [2400] rfl rfl cal13 rfl rfl rfl (All2.cons (lendA_free rfl) (All2.cons (lend_line (rows := bytesR [2]) rfl (by simp) rfl (bytesR_free _)) (All2.nil _))) rfl rfl p2, ?_⟩  -- t25 := Op.call { callee := Callee.value (func 13), args := #[t22, t24], argTypes := #[29, 37] }
  refine ⟨_, step_move (.inl rfl) rfl rfl rfl, ?_⟩  -- t21 := Op.move t25
  refine ⟨_, step_extract rfl rfl rfl rfl rfl, ?_⟩  -- t26 := Op.extract t21 0
  refine ⟨_, step_extract rfl rfl rfl rfl rfl, ?_⟩  -- t27 := Op.extract t21 1
  refine ⟨_, step_extract rfl rfl rfl rfl rfl, ?_⟩  -- t28 := Op.extract t21 2
  refine ⟨_, step_extract rfl rfl rfl rfl rfl, ?_⟩  -- t29 := Op.extract t21 3
  refine ⟨_, step_store rfl rfl rfl rfl rfl rfl sz29 rfl rfl (Nat.le_of_ble_eq_true rfl), ?_⟩  -- _ := Op.store 29 t1 t26
  refine ⟨fun h => (by cases h), ?_⟩
  refine aw_seq ?_
  -- region 4
  refine aw_region hJ (fun h => (by cases h)) ?_
  refine ⟨_, (by first | exact step_load rfl rfl rfl rfl sz29 ag29 rfl rfl rfl | exact step_loadRow rfl rfl rfl rfl sz29 ag29 rfl), ?_⟩  -- t31 := Op.load 29 t1
  refine ⟨_, step_call0 (xs := [.agg (encCa c2), .i 1]) rfl rfl cal9 rfl rfl rfl rfl rfl g1, ?_⟩  -- t32 := Op.call { callee := Callee.value (func 9), args := #[t31, const (int IntKind.i64 1)], argT
  refine ⟨_, step_move (.inl rfl) rfl rfl rfl, ?_⟩  -- t30 := Op.move t32
  refine ⟨_, step_extract rfl rfl rfl rfl rfl, ?_⟩  -- t33 := Op.extract t30 0
  refine ⟨_, step_extract rfl rfl rfl rfl rfl, ?_⟩  -- t34 := Op.extract t30 1
  refine ⟨_, step_extract rfl rfl rfl rfl rfl, ?_⟩  -- t35 := Op.extract t30 2
  refine ⟨_, step_alloc (id := 400) rfl rfl rfl zr37 rfl (by decide) rfl, ?_⟩  -- t3 := Op.alloc 37
  refine ⟨_, step_store rfl rfl rfl rfl rfl rfl sz29 rfl rfl (Nat.le_of_ble_eq_true rfl), ?_⟩  -- _ := Op.store 29 t1 t33
  refine ⟨_, step_store rfl rfl rfl rfl rfl rfl sz37 rfl rfl (Nat.le_of_ble_eq_true rfl), ?_⟩  -- _ := Op.store 37 t3 t34
  refine ⟨_, step_move (.inr rfl) rfl rfl rfl, ?_⟩  -- t4 := Op.assign t35
  refine ⟨fun h => (by cases h), ?_⟩
  refine aw_seq ?_
  -- region 5
  refine aw_region hJ (fun h => (by cases h)) ?_
  refine ⟨_, (by first | exact step_load rfl rfl rfl rfl sz29 ag29 rfl rfl rfl | exact step_loadRow rfl rfl rfl rfl sz29 ag29 rfl), ?_⟩  -- t37 := Op.load 29 t1
  refine ⟨_, step_buildSlice (id := 3900) rfl rfl rfl el35 zr5 rfl rfl (by decide) (by decide) rfl rfl rfl, ?_⟩  -- t38 := Op.buildSlice 35 1 #[(0, const (int IntKind.u8 3))]
  refine ⟨_, step_build rfl rfl rfl zr37 rfl st37 rfl rfl, ?_⟩  -- t39 := Op.build 37 #[(0, const (int IntKind.i64 3)), (1, t38]
  refine ⟨_, step_callG (xs := [.agg (encCa c3), .agg [.v (.int .i64 3), .ref 3900 0 1, .v (.bool false), .v (.bool false)]]) [3900] rfl rfl cal13 rfl rfl rfl (All2.cons (lendA_free rfl) (All2.cons (lend_line (rows := bytesR [3]) rfl (by simp) rfl (bytesR_free _)) (All2.nil _))) rfl rfl p3, ?_⟩  -- t40 := Op.call { callee := Callee.value (func 13), args := #[t37, t39], argTypes := #[29, 37] }
  refine ⟨_, step_move (.inl rfl) rfl rfl rfl, ?_⟩  -- t36 := Op.move t40
  refine ⟨_, step_extract rfl rfl rfl rfl rfl, ?_⟩  -- t41 := Op.extract t36 0
  refine ⟨_, step_extract rfl rfl rfl rfl rfl, ?_⟩  -- t42 := Op.extract t36 1
  refine ⟨_, step_extract rfl rfl rfl rfl rfl, ?_⟩  -- t43 := Op.extract t36 2
  refine ⟨_, step_extract rfl rfl rfl rfl rfl, ?_⟩  -- t44 := Op.extract t36 3
  refine ⟨_, step_alloc (id := 600) rfl rfl rfl zr37 rfl (by decide) rfl, ?_⟩  -- t5 := Op.alloc 37
  refine ⟨_, step_store rfl rfl rfl rfl rfl rfl sz29 rfl rfl (Nat.le_of_ble_eq_true rfl), ?_⟩  -- _ := Op.store 29 t1 t41
  refine ⟨_, step_store rfl rfl rfl rfl rfl rfl sz37 rfl rfl (Nat.le_of_ble_eq_true rfl), ?_⟩  -- _ := Op.store 37 t5 t42
  refine ⟨_, step_move (.inr rfl) rfl rfl rfl, ?_⟩  -- t6 := Op.assign t43
  refine ⟨_, step_move (.inr rfl) rfl rfl rfl, ?_⟩  -- t7 := Op.assign t44
  refine ⟨fun h => (by cases h), ?_⟩
  refine aw_seq ?_
  -- region 6
  refine aw_region hJ (fun h => (by cases h)) ?_
  refine ⟨_, step_move (.inl rfl) rfl rfl rfl, ?_⟩  -- t45 := Op.move t2
  refine ⟨_, step_bin rfl rfl rfl rfl rfl rfl, ?_⟩  -- t46 := Op.binOp BinOp.eql 30 t45 (const (int IntKind.i64 0)) 30
  refine ⟨_, step_move (.inl rfl) rfl rfl rfl, ?_⟩  -- t47 := Op.move t46
  refine ⟨_, step_move (.inl rfl) rfl rfl rfl, ?_⟩  -- t48 := Op.move t4 GUARD some (2, true)
  refine ⟨_, step_pick rfl rfl rfl rfl rfl, ?_⟩  -- t49 := Op.pick t47 t48 (const (bool false))
  refine ⟨_, step_move (.inl rfl) rfl rfl rfl, ?_⟩  -- t50 := Op.move t49
  refine ⟨_, step_fieldAddr rfl rfl rfl rfl fld37_0 (by decide) rfl, ?_⟩  -- t51 := Op.fieldAddr 37 t3 0 GUARD some (5, true)
  refine ⟨_, (by first | exact step_load rfl rfl rfl rfl sz3 ag3 rfl rfl rfl | exact step_loadRow rfl rfl rfl rfl sz3 ag3 rfl), ?_⟩  -- t52 := Op.load 3 t51 GUARD some (5, true)
  refine ⟨_, step_bin rfl rfl rfl rfl rfl rfl, ?_⟩  -- t53 := Op.binOp BinOp.eql 3 t52 (const (int IntKind.i64 1)) 3 GUARD some (5, true)
  refine ⟨_, step_pick rfl rfl rfl rfl rfl, ?_⟩  -- t54 := Op.pick t50 t53 (const (bool false))
  refine ⟨_, step_move (.inl rfl) rfl rfl rfl, ?_⟩  -- t55 := Op.move t54
  refine ⟨_, step_move (.inl rfl) rfl rfl rfl, ?_⟩  -- t56 := Op.move t6 GUARD some (10, true)
  refine ⟨_, step_pick rfl rfl rfl rfl rfl, ?_⟩  -- t57 := Op.pick t55 t56 (const (bool false))
  refine ⟨_, step_move (.inl rfl) rfl rfl rfl, ?_⟩  -- t58 := Op.move t57
  refine ⟨_, step_fieldAddr rfl rfl rfl rfl fld37_0 (by decide) rfl, ?_⟩  -- t59 := Op.fieldAddr 37 t5 0 GUARD some (13, true)
  refine ⟨_, (by first | exact step_load rfl rfl rfl rfl sz3 ag3 rfl rfl rfl | exact step_loadRow rfl rfl rfl rfl sz3 ag3 rfl), ?_⟩  -- t60 := Op.load 3 t59 GUARD some (13, true)
  refine ⟨_, step_bin rfl rfl rfl rfl rfl rfl, ?_⟩  -- t61 := Op.binOp BinOp.eql 3 t60 (const (int IntKind.i64 2)) 3 GUARD some (13, true)
  refine ⟨_, step_pick rfl rfl rfl rfl rfl, ?_⟩  -- t62 := Op.pick t58 t61 (const (bool false))
  refine ⟨_, step_move (.inl rfl) rfl rfl rfl, ?_⟩  -- t63 := Op.move t62
  refine ⟨_, (by first | exact step_load rfl rfl rfl rfl sz29 ag29 rfl rfl rfl | exact step_loadRow rfl rfl rfl rfl sz29 ag29 rfl), ?_⟩  -- t64 := Op.load 29 t1 GUARD some (18, true)
  refine ⟨_, step_call0 (xs := [.agg (encCa c4)]) rfl rfl cal14 rfl rfl rfl rfl rfl v4, ?_⟩  -- t65 := Op.call { callee := Callee.value (func 14), args := #[t64], argTypes := #[29] } GUARD some (18, true)
  refine ⟨_, step_pick rfl rfl rfl rfl rfl, ?_⟩  -- t66 := Op.pick t63 t65 (const (bool false))
  refine ⟨_, step_move (.inr rfl) rfl rfl rfl, ?_⟩  -- t0 := Op.assign t66
  refine ⟨fun h => (by cases h), ?_⟩
  refine aw_ret ?_
  exact ⟨.inr rfl, _, none1, rfl, none_sub, rfl, rfl⟩
end Go.Proofs.Ytbcjjenidkgodaa
