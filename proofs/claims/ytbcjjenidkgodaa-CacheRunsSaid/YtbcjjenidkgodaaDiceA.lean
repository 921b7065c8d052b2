/- Dice. -/
import Derived.Test.YtbcjjenidkgodaaTy
import Derived.Test.YtbcjjenidkgodaaDice
namespace Go.Proofs.Ytbcjjenidkgodaa
open Go Go.RowKit

def ints (L : List Int) : List (List CV) := L.map fun x => [.v (.int .i64 x)]
def diceB (L : List Int) (k : Nat) : Blk := ⟨46, 2, [[.lst 0 (ints L), .v (.int .i64 k)]]⟩

abbrev CV.i (n : Int) : CV := .v (.int .i64 n)
abbrev AV.i (n : Int) : AV := .c (.v (.int .i64 n))

theorem mod_ac (n m : Int) (hn : i64 n) (hm : i64 m) : AC Try.prog 16 [.i n, .i m] none1 (fun r σ' => r = .i (dmod n m) ∧ σ' = none1) :=
  ac_plain (args := [.int .i64 n, .int .i64 m]) rfl (fun w => (mod_calls n m hn hm w).mono (fun e w' h => ⟨h.1, by simpa using h.2⟩))

theorem ints_get {L : List Int} {k : Nat} (h : k < L.length) : (ints L)[k]? = some [.v (.int .i64 L[k])] := by
  unfold ints; rw [List.getElem?_map, List.getElem?_eq_getElem h]; rfl
theorem elemAt_lst {e k m : Nat} {rows : List (List CV)} {r : List CV} (h : rows[k]? = some r) (hm : r.length = m) : elemAt (.lst e rows) (k : Int) m = some (.rowp e r 0) := by
  simp only [elemAt]
  rw [if_pos (by omega), Int.toNat_natCast, h]
  simp [hm]

set_option maxRecDepth 20000 in
theorem next_ac (L : List Int) (k : Nat) (n : Int) (hL : ∀ x ∈ L, i64 x) (hk : k ≤ L.length) (hlen : L.length ≤ 1000000) (hn : i64 n) :
    AC Try.prog 8 [.c (.ptr 0 0 0), .i n] (one1 0 (diceB L k)) (fun r σ' => r = .i (dnext (L.drop k) n) ∧ σ' = one1 0 (diceB L (min (k + 1) L.length))) := by
  refine ac_intro Try.func8 rfl rfl (fun J hJ hJK => ?_)
  have hJ : J.n = 35 := hJ
  refine aw_seq ?_
  -- region 0
  refine aw_region hJ (fun h => (by cases h)) ?_
  refine ⟨_, step_move (.inr rfl) rfl rfl rfl, ?_⟩  -- t4 := Op.assign (const (int IntKind.i64 0))
  refine ⟨fun h => (by cases h), ?_⟩
  refine aw_seq ?_
  refine aw_seq ?_
  -- region 1 DRAWS
  refine aw_region hJ (fun _ => ⟨mixed, by kernel_rfl⟩) ?_
  refine ⟨_, step_move (.inl rfl) rfl rfl rfl, ?_⟩  -- t5 := Op.move t0
  refine ⟨_, step_nilCheck rfl rfl rfl rfl rfl, ?_⟩  -- t6 := Op.nilCheck t5
  refine ⟨_, step_fieldAddr rfl rfl rfl rfl fld46_1 (by decide) rfl, ?_⟩  -- t7 := Op.fieldAddr 46 t6 1
  refine ⟨_, (by first | exact step_load rfl rfl rfl rfl sz3 ag3 rfl rfl rfl | exact step_loadRow rfl rfl rfl rfl sz3 ag3 rfl), ?_⟩  -- t8 := Op.load 3 t7
  refine ⟨_, step_move (.inl rfl) rfl rfl rfl, ?_⟩  -- t9 := Op.move t0
  refine ⟨_, step_nilCheck rfl rfl rfl rfl rfl, ?_⟩  -- t10 := Op.nilCheck t9
  refine ⟨_, step_fieldAddr rfl rfl rfl rfl fld46_0 (by decide) rfl, ?_⟩  -- t11 := Op.fieldAddr 46 t10 0
  refine ⟨_, (by first | exact step_load rfl rfl rfl rfl sz22 ag22 rfl rfl rfl | exact step_loadRow rfl rfl rfl rfl sz22 ag22 rfl), ?_⟩  -- t12 := Op.load 22 t11
  refine ⟨_, step_len rfl rfl rfl rfl (by rw [el22]; rfl) rfl, ?_⟩  -- t13 := Op.call { callee := Callee.builtin Builtin.len, args := #[t12], argTypes := #[22] }
  refine ⟨_, step_bin rfl rfl rfl rfl rfl rfl, ?_⟩  -- t14 := Op.binOp BinOp.geq 3 t8 t13 3
  refine ⟨fun _ => by kernel_rfl, ?_⟩
  refine aw_cond2 rfl (fun h => ?_) (fun h => ?_)  -- t14
  · skip
    refine aw_seq ?_
    -- region 2
    refine aw_region hJ (fun h => (by cases h)) ?_
    refine ⟨_, step_move (.inr rfl) rfl rfl rfl, ?_⟩  -- t4 := Op.assign (const (int IntKind.i64 0))
    refine ⟨fun h => (by cases h), ?_⟩
    refine aw_ret ?_
    refine ⟨.inr rfl, _, one1 0 (diceB L k), rfl, one_sub rfl, ?_⟩
    have h' : L.length ≤ k := by simpa [ints] using h
    rw [List.drop_eq_nil_of_le h', show min (k + 1) L.length = k by omega]
    exact ⟨rfl, rfl⟩
  · have h' : k < L.length := by simpa [ints] using h
    have hw : IntKind.i64.wrap ((k : Int) + 1) = ((k + 1 : Nat) : Int) := by rw [IntKind.wrap_i64]; omega
    have hw2 : IntKind.i64.wrap (((k + 1 : Nat) : Int) - 1) = (k : Int) := by rw [IntKind.wrap_i64]; omega
    refine aw_skip ?_
    refine aw_seq ?_
    -- region 3
    refine aw_region hJ (fun h => (by cases h)) ?_
    refine ⟨_, step_move (.inl rfl) rfl rfl rfl, ?_⟩  -- t15 := Op.move t0
    refine ⟨_, step_nilCheck rfl rfl rfl rfl rfl, ?_⟩  -- t16 := Op.nilCheck t15
    refine ⟨_, step_fieldAddr rfl rfl rfl rfl fld46_1 (by decide) rfl, ?_⟩  -- t17 := Op.fieldAddr 46 t16 1
    refine ⟨_, (by first | exact step_load rfl rfl rfl rfl sz3 ag3 rfl rfl rfl | exact step_loadRow rfl rfl rfl rfl sz3 ag3 rfl), ?_⟩  -- t18 := Op.load 3 t17
    refine ⟨_, step_bin rfl rfl rfl rfl rfl (by show some _ = _; rw [hw]), ?_⟩  -- t19 := Op.binOp BinOp.add 3 t18 (const (int IntKind.i64 1)) 3
    refine ⟨_, step_nilCheck rfl rfl rfl rfl rfl, ?_⟩  -- t20 := Op.nilCheck t15
    refine ⟨_, step_fieldAddr rfl rfl rfl rfl fld46_1 (by decide) rfl, ?_⟩  -- t21 := Op.fieldAddr 46 t20 1
    refine ⟨_, step_store rfl rfl rfl rfl rfl rfl sz3 rfl rfl (Nat.le_of_ble_eq_true rfl), ?_⟩  -- _ := Op.store 3 t21 t19
    refine ⟨fun h => (by cases h), ?_⟩
    refine aw_seq ?_
    -- region 4 DRAWS
    refine aw_region hJ (fun _ => ⟨mixed, by kernel_rfl⟩) ?_
    refine ⟨_, step_move (.inl rfl) rfl rfl rfl, ?_⟩  -- t22 := Op.move t0
    refine ⟨_, step_nilCheck rfl rfl rfl rfl rfl, ?_⟩  -- t23 := Op.nilCheck t22
    refine ⟨_, step_fieldAddr rfl rfl rfl rfl fld46_0 (by decide) rfl, ?_⟩  -- t24 := Op.fieldAddr 46 t23 0
    refine ⟨_, (by first | exact step_load rfl rfl rfl rfl sz22 ag22 rfl rfl rfl | exact step_loadRow rfl rfl rfl rfl sz22 ag22 rfl), ?_⟩  -- t25 := Op.load 22 t24
    refine ⟨_, step_move (.inl rfl) rfl rfl rfl, ?_⟩  -- t26 := Op.move t0
    refine ⟨_, step_nilCheck rfl rfl rfl rfl rfl, ?_⟩  -- t27 := Op.nilCheck t26
    refine ⟨_, step_fieldAddr rfl rfl rfl rfl fld46_1 (by decide) rfl, ?_⟩  -- t28 := Op.fieldAddr 46 t27 1
    refine ⟨_, (by first | exact step_load rfl rfl rfl rfl sz3 ag3 rfl rfl rfl | exact step_loadRow rfl rfl rfl rfl sz3 ag3 rfl), ?_⟩  -- t29 := Op.load 3 t28
    refine ⟨_, step_bin rfl rfl rfl rfl rfl (by show some _ = _; rw [hw2]), ?_⟩  -- t30 := Op.binOp BinOp.sub 3 t29 (const (int IntKind.i64 1)) 3
    refine ⟨_, step_indexAddr rfl rfl rfl rfl rfl el22 (elemAt_lst (ints_get h') rfl) (fun _ _ _ h => (by cases h)), ?_⟩  -- t31 := Op.indexAddr 22 t25 t30
    refine ⟨_, (by first | exact step_load rfl rfl rfl rfl sz3 ag3 rfl rfl rfl | exact step_loadRow rfl rfl rfl rfl sz3 ag3 rfl), ?_⟩  -- t32 := Op.load 3 t31
    refine ⟨_, step_move (.inl rfl) rfl rfl rfl, ?_⟩  -- t33 := Op.move t1
    refine ⟨_, step_call0 rfl rfl cal16 rfl rfl rfl rfl rfl (mod_ac _ _ (hL _ (List.getElem_mem h')) hn), ?_⟩  -- t34 := Op.call { callee := Callee.value (func 16), args := #[t32, t33], argTypes := #[3, 3] }
    refine ⟨_, step_move (.inr rfl) rfl rfl rfl, ?_⟩  -- t4 := Op.assign t34
    refine ⟨fun _ => by kernel_rfl, ?_⟩
    refine aw_ret ?_
    refine ⟨.inr rfl, _, one1 0 (diceB L (k + 1)), rfl, one_sub rfl, ?_⟩
    rw [show min (k + 1) L.length = k + 1 by omega, List.drop_eq_getElem_cons h']
    exact ⟨rfl, rfl⟩
end Go.Proofs.Ytbcjjenidkgodaa
