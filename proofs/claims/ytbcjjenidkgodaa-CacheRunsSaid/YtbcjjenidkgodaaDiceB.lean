/- Dice: light, roll, bytes. -/
import Derived.Test.YtbcjjenidkgodaaDiceA
import Derived.Test.YtbcjjenidkgodaaAwB
namespace Go.Proofs.Ytbcjjenidkgodaa
open Go Go.RowKit

set_option maxRecDepth 20000 in
theorem light_ac (e : Nat) (rows : List (List CV)) : AC Try.prog 4 [.c (.lst e rows)] none1 (fun r σ' => r = .b (decide ((rows.length : Int) ≤ 400)) ∧ σ' = none1) := by
  refine ac_intro Try.func4 rfl rfl (fun J hJ hJK => ?_)
  have hJ : J.n = 6 := hJ
  refine aw_seq ?_
  refine aw_region hJ (fun h => (by cases h)) ?_
  refine ⟨_, step_move (.inr rfl) rfl rfl rfl, ?_⟩
  refine ⟨fun h => (by cases h), ?_⟩
  refine aw_seq ?_
  refine aw_region hJ (fun h => (by cases h)) ?_
  refine ⟨_, step_move (.inl rfl) rfl rfl rfl, ?_⟩
  refine ⟨_, step_len rfl rfl rfl rfl (by rw [el22]; rfl) rfl, ?_⟩
  refine ⟨_, step_bin rfl rfl rfl rfl rfl rfl, ?_⟩
  refine ⟨_, step_move (.inr rfl) rfl rfl rfl, ?_⟩
  refine ⟨fun h => (by cases h), ?_⟩
  refine aw_ret ?_
  exact ⟨.inr rfl, _, none1, rfl, none_sub, rfl, rfl⟩

set_option maxRecDepth 20000 in
theorem roll_ac (L : List Int) : AC Try.prog 6 [.c (.lst 0 (ints L))] none1 (fun r σ' => r = .a (.c (.ptr 110 0 0)) ∧ σ' = one1 110 (diceB L 0)) := by
  refine ac_intro Try.func6 rfl rfl (fun J hJ hJK => ?_)
  have hJ : J.n = 6 := hJ
  refine aw_seq ?_
  refine aw_region hJ (fun h => (by cases h)) ?_
  refine ⟨_, step_move (.inr rfl) rfl rfl rfl, ?_⟩
  refine ⟨fun h => (by cases h), ?_⟩
  refine aw_seq ?_
  refine aw_region hJ (fun h => (by cases h)) ?_
  refine ⟨_, step_move (.inl rfl) rfl rfl rfl, ?_⟩
  refine ⟨_, step_build rfl rfl rfl zr46 rfl st46 rfl rfl, ?_⟩
  refine ⟨_, step_box (id := 110) rfl rfl rfl rfl rfl (Nat.le_of_ble_eq_true rfl) rfl, ?_⟩
  refine ⟨_, step_move (.inr rfl) rfl rfl rfl, ?_⟩
  refine ⟨fun h => (by cases h), ?_⟩
  refine aw_ret ?_
  exact ⟨.inr rfl, _, one1 110 (diceB L 0), rfl, one_sub rfl, rfl, rfl⟩

/-- Bytes, as rows. -/
def bytesR (l : List UInt8) : List (List CV) := l.map fun b => [.v (.int .u8 b.toNat)]
def bytesB (l : List UInt8) : Blk := ⟨5, 1, bytesR l⟩
theorem bytesR_len (l : List UInt8) : (bytesR l).length = l.length := by simp [bytesR]
theorem bytesR_row (l : List UInt8) : ∀ r ∈ bytesR l, r.length = 1 := fun r hr => by
  obtain ⟨b, _, rfl⟩ := List.mem_map.1 hr; rfl
theorem bytesR_free (l : List UInt8) : ∀ r ∈ bytesR l, ∀ x ∈ r, CV.free x = true := fun r hr x hx => by
  obtain ⟨b, _, rfl⟩ := List.mem_map.1 hr
  simp at hx; subst hx; rfl
theorem bytesB_free (l : List UInt8) : (bytesB l).free = true := List.all_eq_true.2 fun r hr => List.all_eq_true.2 fun x hx => bytesR_free l r hr x hx
theorem bytesR_app (l : List UInt8) (b : UInt8) : bytesR (l ++ [b]) = bytesR l ++ [[.v (.int .u8 b.toNat)]] := by simp [bytesR]
theorem okC_free {st : St} {olds fz : List Nat} {x : CV} (h : x.free = true) : x.okC st olds fz = true := by cases x <;> first | rfl | cases h
theorem cvt_free {st : St} {ρ : Nat → Nat} {fz : List Nat} {x : CV} (h : x.free = true) : x.cvt st ρ fz = x := by cases x <;> first | rfl | cases h
/-- A block without names stays as it is. -/
theorem allSC_free {st : St} {ρ : Nat → Nat} {olds fz : List Nat} {i : Nat} {k : Blk} {l : List (Nat × Blk)} (h : st.s i = some k) (hf : ∀ r ∈ k.rows, ∀ x ∈ r, CV.free x = true) (t : AllSC st ρ olds fz l) : AllSC st ρ olds fz ((i, k) :: l) := by
  refine ⟨⟨k, h, rfl, rfl, fun r hr x hx => okC_free (hf r hr x hx), ?_⟩, t⟩
  conv => rhs; rw [← List.map_id k.rows]
  refine List.map_congr_left fun r hr => ?_
  conv => rhs; rw [id, ← List.map_id r]
  exact List.map_congr_left fun x hx => cvt_free (hf r hr x hx)
theorem blk_free {k : Blk} (h : k.free = true) : ∀ r ∈ k.rows, ∀ x ∈ r, CV.free x = true := fun r hr x hx => List.all_eq_true.1 (List.all_eq_true.1 h r hr) x hx

theorem two_sub {s : Nat → Option Blk} {i j : Nat} {k q : Blk} (h : s i = some k) (h2 : s j = some q) : ∀ id p, two1 i k j q id = some p → s id = some p := fun id p hp => by
  simp only [two1] at hp
  split at hp
  · rename_i e; subst e; rw [h]; exact hp
  · split at hp
    · rename_i e; subst e; rw [h2]; exact hp
    · cases hp
theorem u8_wrap {d : Int} (h0 : 0 ≤ d) (h1 : d < 256) : IntKind.u8.wrap d = ((UInt8.ofNat d.toNat).toNat : Int) := by
  have : (UInt8.ofNat d.toNat).toNat = d.toNat % 256 := by simp
  rw [this]
  simp only [IntKind.wrap, IntKind.bits, IntKind.signed]
  simp; omega

set_option maxRecDepth 20000 in
theorem bytes_ac (L : List Int) (k : Nat) (n : Nat) (hL : ∀ x ∈ L, i64 x) (hk : k ≤ L.length) (hlen : L.length ≤ 1000000) (hn : n ≤ 1000000) :
    AC Try.prog 22 [.c (.ptr 0 0 0), .i n] (one1 0 (diceB L k)) (fun r σ' => r = .a (.c (.ref 110 0 n)) ∧ σ' = two1 0 (diceB L (min (k + n) L.length)) 110 (bytesB (dbytes n (L.drop k)))) := by
  refine ac_intro Try.func22 rfl rfl (fun J hJ hJK => ?_)
  have hJ : J.n = 17 := hJ
  refine aw_seq ?_
  refine aw_region hJ (fun h => (by cases h)) ?_
  refine ⟨_, step_move (.inr rfl) rfl rfl rfl, ?_⟩
  refine ⟨fun h => (by cases h), ?_⟩
  refine aw_seq ?_
  refine aw_region hJ (fun h => (by cases h)) ?_
  refine ⟨_, step_move (.inr rfl) rfl rfl rfl, ?_⟩
  refine ⟨fun h => (by cases h), ?_⟩
  refine aw_nilref 5 110 5 1 rfl rfl ?_
  refine aw_seq ?_
  refine aw_block ?_
  refine aw_conv (fun i => i) [] [(0, .a (.c (.ptr 0 0 0))), (1, .i n), (5, .a (.c (.ref 110 0 0)))] [(0, diceB L k), (110, bytesB [])] hJK rfl (fun _ _ => rfl) (fun i h => by simp at h) ⟨⟨_, rfl, rfl, rfl⟩, ⟨_, rfl, rfl, rfl⟩, ⟨_, rfl, rfl, rfl⟩, trivial⟩ (allSC_free rfl (blk_free rfl) (allSC_free rfl (blk_free rfl) trivial)) ?_
  refine aw_loop (fun m st => ∃ j, j ≤ n ∧ m = n - j ∧ st = stOf [(0, .a (.c (.ptr 0 0 0))), (1, .i (n - j : Nat)), (5, .a (.c (.ref 110 0 j)))] [(0, diceB L (min (k + j) L.length)), (110, bytesB (dbytes j (L.drop k)))]) n ⟨0, by omega, by omega, by simp [Nat.min_eq_left hk]; rfl⟩ (fun m st hI => ?_)
  obtain ⟨j, hj, rfl, rfl⟩ := hI
  refine aw_seq ?_
  refine aw_seq ?_
  refine aw_region hJ (fun h => (by cases h)) ?_
  refine ⟨_, step_move (.inl rfl) rfl rfl rfl, ?_⟩
  refine ⟨_, step_bin rfl rfl rfl rfl rfl rfl, ?_⟩
  refine ⟨fun h => (by cases h), ?_⟩
  refine aw_cond2 rfl (fun h => ?_) (fun h => ?_)
  · have hlt : j < n := by simp at h; omega
    have hd0 := dnext_lo ((L.drop k).drop j) 256
    have hd1 := dnext_hi ((L.drop k).drop j) 256 (by decide)
    have hdr : L.drop (min (k + j) L.length) = (L.drop k).drop j := by
      rw [List.drop_drop]
      by_cases hh : k + j ≤ L.length
      · rw [Nat.min_eq_left hh]
      · rw [Nat.min_eq_right (by omega), List.drop_length, List.drop_eq_nil_of_le (by omega)]
    have hnx := next_ac L (min (k + j) L.length) 256 hL (by omega) hlen ⟨by decide, by decide⟩
    rw [hdr, show min (min (k + j) L.length + 1) L.length = min (k + (j + 1)) L.length by omega] at hnx
    have hw := u8_wrap hd0 hd1
    refine aw_skip ?_
    refine aw_seq ?_
    refine aw_block ?_
    refine aw_region hJ (fun h => (by cases h)) ?_
    refine ⟨_, step_move (.inl rfl) rfl rfl rfl, ?_⟩
    refine ⟨_, step_move (.inl rfl) rfl rfl rfl, ?_⟩
    refine ⟨_, step_call1 rfl rfl cal8 rfl rfl rfl rfl rfl rfl rfl rfl hnx, ?_⟩
    refine ⟨_, step_conv rfl rfl rfl (by rw [un3]; rfl) un5 rfl, ?_⟩
    refine ⟨_, step_buildSlice (id := 1500) rfl rfl rfl el35 zr5 rfl rfl (by decide) (by decide) rfl rfl rfl, ?_⟩
    have hbl : (bytesB (dbytes j (L.drop k))).rows.length = j := by show (bytesR _).length = j; rw [bytesR_len, dbytes_len]
    refine ⟨_, step_append (id := 1600) rfl rfl rfl rfl rfl el35 by5 zr5 rfl (by decide) (base_ref rfl hbl rfl rfl) (news_ref (rows := [[_]]) rfl (Nat.le_of_ble_eq_true rfl) rfl) (by simp) (by rw [hbl]; simp; omega) (by decide) rfl, ?_⟩
    refine ⟨_, step_move (.inr rfl) rfl rfl rfl, ?_⟩
    refine ⟨fun h => (by cases h), ?_⟩
    refine aw_region hJ (fun h => (by cases h)) ?_
    refine ⟨_, step_move (.inl rfl) rfl rfl rfl, ?_⟩
    refine ⟨_, step_bin rfl rfl rfl rfl rfl rfl, ?_⟩
    refine ⟨_, step_move (.inr rfl) rfl rfl rfl, ?_⟩
    refine ⟨fun h => (by cases h), ?_⟩
    have hw1 : IntKind.i64.wrap (((n - j : Nat) : Int) - 1) = ((n - (j + 1) : Nat) : Int) := by rw [IntKind.wrap_i64]; omega
    refine ⟨_, n - (j + 1), cv_conv (fun i => if i = 1600 then 110 else i) [] [(0, .a (.c (.ptr 0 0 0))), (1, .i (n - (j + 1) : Nat)), (5, .a (.c (.ref 110 0 (j + 1))))] [(0, diceB L (min (k + (j + 1)) L.length)), (1600, bytesB (dbytes (j + 1) (L.drop k)))] hJK rfl (fun i h => if_neg (by omega)) (fun i h => by simp at h)
      ⟨⟨_, rfl, rfl, rfl⟩, ⟨_, rfl, rfl, by show FV.i _ = FV.i _; rw [hw1]⟩, ⟨_, rfl, rfl, by show FV.a (.c (.ref 110 0 _)) = FV.a (.c (.ref 110 0 _)); rw [hbl]; rfl⟩, trivial⟩
      (allSC_free rfl (blk_free rfl) (allSC_free (by show some _ = some _; rw [dbytes_snoc, hw]; show some (Blk.mk _ _ _) = some (Blk.mk _ _ (bytesR (_ ++ [_]))); rw [bytesR_app]; rfl) (blk_free (bytesB_free _)) trivial)), by omega, j + 1, by omega, rfl, rfl⟩
  · have hjn : j = n := by simp at h; omega
    subst hjn
    refine aw_exit ?_
    refine at_exit ?_
    refine at_exit ?_
    refine ab_hit ?_
    refine aw_seq ?_
    refine aw_region hJ (fun h => (by cases h)) ?_
    refine ⟨_, step_move (.inl rfl) rfl rfl rfl, ?_⟩
    refine ⟨_, step_move (.inr rfl) rfl rfl rfl, ?_⟩
    refine ⟨fun h => (by cases h), ?_⟩
    refine aw_ret ?_
    exact ⟨.inr rfl, _, two1 0 (diceB L (min (k + j) L.length)) 110 (bytesB (dbytes j (L.drop k))), rfl, two_sub rfl rfl, rfl, rfl⟩
end Go.Proofs.Ytbcjjenidkgodaa
