/- The dice of the statements: what Mod, Light, Roll, Next and Bytes do. -/
import Derived.Test.YtbcjjenidkgodaaRows
import Derived.Test.YtbcjjenidkgodaaMem
import Derived.Lib.Hide
namespace Go.Proofs.Ytbcjjenidkgodaa
open Go Go.RowKit

def i64 (n : Int) : Prop := -9223372036854775808 ≤ n ∧ n ≤ 9223372036854775807

/-- n modulo m, from 0 on; 0 if m is less than 1. -/
def dmod (n m : Int) : Int := if m < 1 then 0 else n % m
theorem dmod_lo (n m : Int) : 0 ≤ dmod n m := by unfold dmod; split; omega; exact Int.emod_nonneg _ (by omega)
theorem dmod_hi (n m : Int) (h : 1 ≤ m) : dmod n m < m := by unfold dmod; rw [if_neg (by omega)]; exact Int.emod_lt_of_pos _ (by omega)

theorem tmod_fix (n m : Int) (h : 1 ≤ m) : (if n.tmod m < 0 then n.tmod m + m else n.tmod m) = n % m := by
  have h1 := Int.tmod_eq_emod (a := n) (b := m)
  have h2 := Int.emod_nonneg n (show m ≠ 0 by omega)
  have h3 := Int.emod_lt_of_pos n (show 0 < m by omega)
  have h4 : (m.natAbs : Int) = m := by omega
  by_cases hn : 0 ≤ n ∨ m ∣ n
  · rw [if_pos hn] at h1
    rw [h1, if_neg (by omega)]
    omega
  · rw [if_neg hn] at h1
    rw [h1, if_pos (by omega)]
    omega

theorem ret_int {k : IntKind} {a b : Int} (h : a = b) : Ending.returned (.int k a) = .returned (.int k b) := by rw [h]
theorem ret_bool {a b : Bool} (h : a = b) : Ending.returned (.bool a) = .returned (.bool b) := by rw [h]

set_option maxHeartbeats 400000 in
theorem mod_calls (n m : Int) (hn : i64 n) (hm : i64 m) (w : World) :
    Calls Try.prog 16 #[.int .i64 n, .int .i64 m] w fun e w' => e = .returned (.int .i64 (dmod n m)) ∧ w = w' := by
  obtain ⟨n1, n2⟩ := hn
  obtain ⟨m1, m2⟩ := hm
  by_cases h : m < 1
  · go_enter Try.func16, Try.ntmps16
    go_wp2
    go_ret
    exact ⟨by simp [dmod, h], rfl⟩
  · have hf := tmod_fix n m (by omega)
    have h3 : n.tmod m < m := Int.tmod_lt_of_pos n (by omega)
    have h4 : -m < n.tmod m := Int.lt_tmod_of_pos n (by omega)
    have h6 : ¬ m = 0 := by omega
    by_cases h5 : n.tmod m < 0
    · rw [if_pos h5] at hf
      have H : Hid (dmod n m = n.tmod m + m) := by unfold dmod; rw [if_neg h, hf]; rfl
      clear hf
      go_enter Try.func16, Try.ntmps16
      go_wp2
      go_ret
      exact ⟨ret_int H.out.symm, rfl⟩
    · rw [if_neg h5] at hf
      have H : Hid (dmod n m = n.tmod m) := by unfold dmod; rw [if_neg h, hf]; rfl
      clear hf
      go_enter Try.func16, Try.ntmps16
      go_wp2
      go_ret
      exact ⟨ret_int H.out.symm, rfl⟩

theorem mod_same (n m : Int) (hn : i64 n) (hm : i64 m) (w : World) :
    Calls Try.prog 16 #[.int .i64 n, .int .i64 m] w fun e w' => e = .returned (.int .i64 (dmod n m)) ∧ w' = w :=
  (mod_calls n m hn hm w).mono fun _ _ h => ⟨h.1, h.2.symm⟩

/-- What the dice of a list still give out. -/
def dnext (l : List Int) (n : Int) : Int := match l with | [] => 0 | x :: _ => dmod x n
theorem dnext_lo (l : List Int) (n : Int) : 0 ≤ dnext l n := by unfold dnext; split; omega; exact dmod_lo _ _
theorem dnext_hi (l : List Int) (n : Int) (h : 1 ≤ n) : dnext l n < n := by unfold dnext; split; omega; exact dmod_hi _ _ h

/-- The dice at block g: the numbers l are left; the list lies below block B. -/
def DiceAt (w : World) (B g : Nat) (l : List Int) : Prop :=
  ∃ (L : List Int) (pos : Nat) (A : Option Addr) (c : Nat), l = L.drop pos ∧ pos ≤ L.length ∧ B ≤ g ∧ w.heap[g]? = some (.cells #[.slice A L.length c, .int .i64 pos] 46 (0, 0)) ∧
    Arr w (· < B) 3 1 (.slice A L.length c) (L.map fun x => [.int .i64 x]) ∧ ∀ x ∈ L, i64 x

theorem DiceAt.keep {w w' : World} {B g : Nat} {l : List Int} {M : Nat → Prop} (h : DiceAt w B g l) (hk : Keep M w w') (hg : ¬ M g) (hB : ∀ b, b < B → ¬ M b) : DiceAt w' B g l := by
  obtain ⟨L, pos, A, c, h1, h2, h3, h4, h5, h6⟩ := h
  exact ⟨L, pos, A, c, h1, h2, h3, (hk.block g (Array.getElem?_eq_some_iff.1 h4).1 hg).trans h4, h5.keep hk hB, h6⟩
theorem DiceAt.lt {w : World} {B g : Nat} {l : List Int} (h : DiceAt w B g l) : g < w.heap.size := by
  obtain ⟨L, pos, A, c, h1, h2, h3, h4, h5, h6⟩ := h
  exact (Array.getElem?_eq_some_iff.1 h4).1

set_option maxHeartbeats 400000 in
theorem next_calls (w : World) (B g : Nat) (l : List Int) (n : Int) (hD : DiceAt w B g l) (hn : i64 n) :
    Calls Try.prog 8 #[.pointer (some ⟨g, 0, none⟩), .int .i64 n] w fun e w' => e = .returned (.int .i64 (dnext l n)) ∧ DiceAt w' B g (l.drop 1) ∧ Keep (· = g) w w' := by
  obtain ⟨L, pos, A, c, rfl, h2, h3, h4, h5, h6⟩ := hD
  have c0 : w.cell? ⟨g, 0, none⟩ = some (.slice A L.length c) := cell_of_row w g 0 _ _ _ h4
  have c1 : w.cell? ⟨g, 1, none⟩ = some (.int .i64 pos) := cell_of_row w g 1 _ _ _ h4
  have f1 : w.frozen? ⟨g, 1, none⟩ = false := by simp [World.frozen?, h4]
  obtain ⟨hlc, hc63⟩ : L.length ≤ c ∧ c ≤ 9223372036854775807 := by
    obtain ⟨_, _, e, h7, h8⟩ := h5.len
    simp only [List.length_map, Value.slice.injEq] at e h7
    obtain ⟨_, _, rfl⟩ := e
    exact ⟨h7, h8⟩
  by_cases hp : L.length ≤ pos
  · have hl : L.drop pos = [] := List.drop_eq_nil_of_le hp
    have fin : ∀ m, DiceAt (w.drewN m) B g ((L.drop pos).drop 1) := fun m => ⟨L, pos, A, c, by rw [hl]; rfl, h2, h3, h4, h5, h6⟩
    have H := Lib.hid hl
    clear hl h4 h5 h6
    go_enter Try.func8, Try.ntmps8
    go_wp2_with fail
    go_quiet (fail)
    go_wp2
    go_ret
    exact ⟨ret_int (by rw [H.out]; rfl), fin _, (Keep.refl _ _).drewN _⟩
  · have hlt : pos < L.length := by omega
    have hd : L.drop pos = L[pos] :: L.drop (pos + 1) := List.drop_eq_getElem_cons hlt
    have hlx : i64 L[pos] := h6 _ (List.getElem_mem hlt)
    rcases h5.cases with ⟨h7, _⟩ | ⟨_, b, off, c', h7, _, _, hS, hb, hcell⟩
    · exfalso; have := congrArg List.length h7; simp only [List.length_map, List.length_nil] at this; omega
    · simp only [List.length_map, Value.slice.injEq] at h7
      obtain ⟨rfl, _, rfl⟩ := h7
      have hx : w.cell? ⟨b, off + pos, none⟩ = some (.int .i64 L[pos]) := by
        have := hcell pos [.int .i64 L[pos]] (by simp [hlt]) 0 _ rfl
        simpa using this
      have hbg : b ≠ g := by omega
      have fin : ∀ m, DiceAt ((w.drewN m).setCell ⟨g, 1, none⟩ (.int .i64 ((pos : Int) + 1))) B g ((L.drop pos).drop 1) := fun m => by
        have hk : Keep (· = g) w ((w.drewN m).setCell ⟨g, 1, none⟩ (.int .i64 ((pos : Int) + 1))) := (Keep.set1 (w.drewN m) g 1 _).from_drewN
        exact ⟨L, pos + 1, _, _, by rw [List.drop_drop], by omega, h3, heap_setCell_same (w.drewN m) g 1 _ _ (.int .i64 ((pos : Int) + 1)) h4, h5.keep hk (fun b hb e => by omega), h6⟩
      have H := Lib.hid hd
      clear hd h4 h5 h6 hcell
      generalize L[pos] = x at *
      go_enter Try.func8, Try.ntmps8
      go_wp2_with fail
      go_quiet (fail)
      go_wp2_with fail
      have d0 : ((w.drewN nq).setCell ⟨g, 1, none⟩ (.int .i64 ((pos : Int) + 1))).cell? ⟨g, 0, none⟩ = some (.slice (some ⟨b, off, none⟩) L.length c) := cell_set_ne (w := w.drewN nq) c0 (by simp) _
      have d1 : ((w.drewN nq).setCell ⟨g, 1, none⟩ (.int .i64 ((pos : Int) + 1))).cell? ⟨g, 1, none⟩ = some (.int .i64 ((pos : Int) + 1)) := cell_set (w := w.drewN nq) c1 _
      have dx : ((w.drewN nq).setCell ⟨g, 1, none⟩ (.int .i64 ((pos : Int) + 1))).cell? ⟨b, off + pos, none⟩ = some (.int .i64 x) := cell_set_ne (w := w.drewN nq) hx (by simp) _
      have hk : Keep (· = g) w ((w.drewN nq).setCell ⟨g, 1, none⟩ (.int .i64 ((pos : Int) + 1))) := (Keep.set1 (w.drewN nq) g 1 _).from_drewN
      have fin := fin nq
      generalize (w.drewN nq).setCell ⟨g, 1, none⟩ (.int .i64 ((pos : Int) + 1)) = W1 at *
      clear c0 c1 f1 hx
      have hii : (pos : Int) < (L.length : Int) := by omega
      go_quiet ((go_at_call 16; exact Calls.quiet_of_same (mod_same _ _ hlx hn _)))
      go_wp2
      go_ret
      exact ⟨ret_int (by rw [H.out]; rfl), fin, hk.drewN _⟩

set_option maxHeartbeats 400000 in
theorem light_calls (A : Option Addr) (n c : Nat) (w : World) (hn : n ≤ 9223372036854775807) :
    Calls Try.prog 4 #[.slice A n c] w fun e w' => e = .returned (.bool (decide (n ≤ 400))) ∧ w = w' := by
  go_enter Try.func4, Try.ntmps4
  go_wp2
  go_ret
  exact ⟨ret_bool (by simp only [decide_eq_decide]; omega), rfl⟩

set_option maxHeartbeats 400000 in
theorem roll_calls (A : Option Addr) (L : List Int) (c : Nat) (w : World) (hA : Arr w (· < w.heap.size) 3 1 (.slice A L.length c) (L.map fun x => [.int .i64 x])) (hL : ∀ x ∈ L, i64 x) :
    Calls Try.prog 6 #[.slice A L.length c] w fun e w' => ∃ g, e = .returned (.pointer (some ⟨g, 0, none⟩)) ∧ DiceAt w' w.heap.size g L ∧ Keep (fun _ => False) w w' := by
  go_enter Try.func6, Try.ntmps6
  go_wp2
  go_ret
  refine ⟨w.heap.size, rfl, ⟨L, 0, A, c, rfl, Nat.zero_le _, Nat.le_refl _, by simpa using heap_alloc_new w _, hA.keep ((Keep.refl (fun _ => False) w).alloc _) (fun _ _ h => h), hL⟩, (Keep.refl (fun _ => False) w).alloc _⟩

/-- The bytes that the dice give. -/
def dbytes : Nat → List Int → List UInt8
  | 0, _ => []
  | n + 1, l => UInt8.ofNat (dnext l 256).toNat :: dbytes n (l.drop 1)
theorem dbytes_len (n : Nat) : ∀ l, (dbytes n l).length = n := by
  induction n with
  | zero => intro l; rfl
  | succ n ih => intro l; simp [dbytes, ih]
theorem dbytes_snoc (n : Nat) : ∀ l, dbytes (n + 1) l = dbytes n l ++ [UInt8.ofNat (dnext (l.drop n) 256).toNat] := by
  induction n with
  | zero => intro l; rfl
  | succ n ih => intro l; rw [dbytes, ih, dbytes, List.drop_drop]; simp [Nat.add_comm]

/-- Bytes as rows of one cell. -/
def bcells (l : List UInt8) : List (List Value) := l.map fun x => [.int .u8 (x.toNat : Int)]
theorem bcells_len (l : List UInt8) : (bcells l).length = l.length := by simp [bcells]
theorem bcells_append (l m : List UInt8) : bcells (l ++ m) = bcells l ++ bcells m := by simp [bcells]

theorem info_u8 : (Try.prog.info? 5).map (fun i => (i.zero, i.size, i.bytes)) = some (some (.int .u8 0), 1, 1) := by kernel_rfl

set_option maxHeartbeats 400000 in
theorem bytes_calls (w : World) (B g : Nat) (l : List Int) (n : Int) (hD : DiceAt w B g l) (hn0 : 0 ≤ n) (hn : n ≤ 1000000) :
    Calls Try.prog 22 #[.pointer (some ⟨g, 0, none⟩), .int .i64 n] w fun e w' =>
      ∃ v, e = .returned v ∧ Own w' w.heap.size 5 1 v (bcells (dbytes n.toNat l)) ∧ DiceAt w' B g (l.drop n.toNat) ∧ Keep (· = g) w w' := by
  obtain ⟨i0, hi, hz0, hz1, hz2⟩ := info_parts info_u8
  obtain ⟨N, rfl⟩ := Int.eq_ofNat_of_zero_le hn0
  have hgw := hD.lt
  go_enter Try.func22, Try.ntmps22
  go_wp2
  go_loopw [1, 5] (fun m v wr => ∃ k : Nat, k ≤ N ∧ m = .int .i64 ((N - k : Nat) : Int) ∧ Own wr w.heap.size 5 1 v (bcells (dbytes k l)) ∧ DiceAt wr B g (l.drop k) ∧ Keep (· = g) w wr) (fun m _ _ => (intOf m).toNat)
  case atStart => exact ⟨0, Nat.zero_le _, rfl, Own.nil _ _ _ _, hD, Keep.refl _ _⟩
  case round =>
    obtain ⟨k, hk, rfl, hO, hDr, hkr⟩ := hrel
    by_cases hlt : k < N
    · have hd0 := dnext_lo (l.drop k) 256
      have hd1 := dnext_hi (l.drop k) 256 (by decide)
      have hrow : bcells [UInt8.ofNat (dnext (l.drop k) 256).toNat] = [[.int .u8 (dnext (l.drop k) 256)]] := by
        have : (dnext (l.drop k) 256).toNat < 256 := by omega
        simp only [bcells, List.map_cons, List.map_nil, UInt8.toNat_ofNat']
        rw [Nat.mod_eq_of_lt this, Int.toNat_of_nonneg hd0]
      have hs : Hid (bcells (dbytes (k + 1) l) = bcells (dbytes k l) ++ [[.int .u8 (dnext (l.drop k) 256)]]) := by rw [dbytes_snoc, bcells_append, hrow]; rfl
      have hcl : (bcells (dbytes k l)).length = k := by rw [bcells_len, dbytes_len]
      have hcl' := Lib.hid hcl
      clear hrow hcl
      generalize hX : dnext (l.drop k) 256 = X at *
      have hX' := Lib.hid hX
      clear hX
      go_wp2_with (first | (go_at_call 8; refine (next_calls _ B g _ 256 hDr ⟨by decide, by decide⟩).mono ?_; rintro e w1 ⟨rfl, hD1, hk1⟩; rw [hX'.out]) | (at_builtin; go_must (refine wpList_app rfl _ _ 35 rfl w.heap.size 5 i0 (.int .u8 0) 1 1 Try.underlying35 hi hz0 hz1 hz2 rfl (by decide) _ _ (bcells (dbytes k l)) [[.int .u8 X]] (fun _ => True) rfl ?o1 rfl ?o2 ?o3 (by decide) ?o4 ?_); rotate_right; intro v' w2 hO2 hg2 hb2))
      case o1 => exact (hO.keep hk1 (fun b hb _ e => by omega)).alloc _
      case o2 => exact Arr.lit w1 _ _ _ [.int .u8 X] 1 _ rfl rfl (by simp [Value.oneCell']) (by decide) trivial
      case o3 => have := hcl'.out; simp only [List.length_cons, List.length_nil]; omega
      case o4 => have := hkr.size; have := hk1.size; simp; omega
      go_roundw
      case rel =>
        rw [← hs.out] at hO2
        have hkA : Keep (· = g) w (w1.alloc (.cells #[.int .u8 X] 5)) := (hkr.trans hk1 (fun _ _ h => h)).alloc _
        have hkC := Keep.of_grown hg2 (M := fun b => w.heap.size ≤ b) (fun b hb _ => (hO.lt b hb).1)
        have hBg : B ≤ g := by obtain ⟨_, _, _, _, _, _, h, _⟩ := hD; exact h
        have hD2 := (hD1.keep ((Keep.refl (fun _ => False) w1).alloc (.cells #[.int .u8 X] 5)) (fun h => h) (fun _ _ h => h)).keep hkC (by omega) (fun b hb h => by omega)
        rw [List.drop_drop] at hD2
        exact ⟨k + 1, by omega, by go_num, hO2, hD2, hkA.trans hkC (fun b hb h => by omega)⟩
      case measure => simp [intOf]; omega
    · obtain rfl : k = N := by omega
      go_wp2
      go_ret
      exact ⟨_, rfl, hO, hDr, hkr⟩
end Go.Proofs.Ytbcjjenidkgodaa
