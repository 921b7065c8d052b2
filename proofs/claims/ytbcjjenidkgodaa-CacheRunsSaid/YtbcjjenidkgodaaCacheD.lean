/- The search in slots: IndexFunc, find, set. -/
import Derived.Test.YtbcjjenidkgodaaCacheC
namespace Go.Proofs.Ytbcjjenidkgodaa
open Go Go.RowKit

/-- Not empty, or empty; then each slot's cells. -/
theorem RSlots.cases {w : World} {S : Nat → Prop} {v : Value} {ss : List Slot} (h : RSlots w S v ss) :
    ∃ A c, v = .slice A ss.length c ∧ ss.length ≤ c ∧ c ≤ 9223372036854775807 ∧ (ss ≠ [] → ∃ b off, A = some ⟨b, off, none⟩ ∧ b < w.heap.size ∧ S b ∧ ∀ k s, ss[k]? = some s → ∃ A1 c1,
      RSlot w S [.bool s.used, .int .i64 s.age, .int .i64 s.line.addr, .slice A1 s.line.data.length c1, .bool s.line.dirty, .bool s.line.poison] s ∧
      w.cell? ⟨b, off + k * 6, none⟩ = some (.bool s.used) ∧ w.cell? ⟨b, off + k * 6 + 1, none⟩ = some (.int .i64 s.age) ∧ w.cell? ⟨b, off + k * 6 + 2, none⟩ = some (.int .i64 s.line.addr) ∧
      w.cell? ⟨b, off + k * 6 + 3, none⟩ = some (.slice A1 s.line.data.length c1) ∧ w.cell? ⟨b, off + k * 6 + 4, none⟩ = some (.bool s.line.dirty) ∧ w.cell? ⟨b, off + k * 6 + 5, none⟩ = some (.bool s.line.poison)) := by
  obtain ⟨css, h1, h2⟩ := h
  rcases h1.cases with ⟨h3, A, c, rfl, hc⟩ | ⟨h3, b, off, c, rfl, h4, h5, h6, h7, h8⟩
  · have : ss = [] := List.eq_nil_of_length_eq_zero (by rw [← h2.1, h3]; rfl)
    subst this
    exact ⟨A, c, rfl, by simp, hc, fun h => absurd rfl h⟩
  · refine ⟨_, c, by rw [h2.1], by rw [← h2.1]; exact h4, h5, fun _ => ⟨b, off, rfl, h7, h6, fun k s hk => ?_⟩⟩
    obtain ⟨cs, hc, v, hcs, hv⟩ := h2.get hk
    obtain ⟨A, c, rfl, _, _⟩ := hv.len
    rw [bcells_len] at hv hcs
    exact ⟨A, c, ⟨_, rfl, hv⟩, h8 k cs hc 0 _ (by rw [hcs]; rfl), h8 k cs hc 1 _ (by rw [hcs]; rfl), h8 k cs hc 2 _ (by rw [hcs]; rfl), h8 k cs hc 3 _ (by rw [hcs]; rfl), h8 k cs hc 4 _ (by rw [hcs]; rfl), h8 k cs hc 5 _ (by rw [hcs]; rfl)⟩

def idxOf (p : Slot → Bool) (ss : List Slot) : Int := match ss.findIdx? p with | some i => (i : Int) | none => -1

set_option maxHeartbeats 1000000 in
theorem indexf_calls (f : FuncId) (caps : Array Value) (p : Slot → Bool) (w : World) (S : Nat → Prop) (v : Value) (ss : List Slot) (hv : RSlots w S v ss) (hlen : ss.length ≤ 1000)
    (hcf : ∀ (args : Array Value) (w : World), Sem.run Try.prog (callFunc f args) w = .ok (.enter f args) w)
    (hf : ∀ (w' : World) (s : Slot) (A1 : Option Addr) (c1 : Nat), KF w w' → RSlot w' S [.bool s.used, .int .i64 s.age, .int .i64 s.line.addr, .slice A1 s.line.data.length c1, .bool s.line.dirty, .bool s.line.poison] s →
      Calls Try.prog f (#[.agg #[.bool s.used, .int .i64 s.age, .int .i64 s.line.addr, .slice A1 s.line.data.length c1, .bool s.line.dirty, .bool s.line.poison]] ++ caps) w' fun e w'' => e = .returned (.bool (p s)) ∧ KF w' w'') :
    Calls Try.prog 24 #[v, .func (.func f) #[] caps] w fun e w' => e = .returned (.int .i64 (idxOf p ss)) ∧ KF w w' := by
  obtain ⟨A, c, rfl, hc1, hc2, hcell⟩ := hv.cases
  go_enter Try.func24, Try.ntmps24
  go_wp2
  go_loopw [8] (fun x wr => ∃ k : Nat, k ≤ ss.length ∧ x = .int .i64 (k : Int) ∧ KF w wr ∧ ∀ j s, j < k → ss[j]? = some s → p s = false) (fun x _ => ss.length - (intOf x).toNat)
  case atStart => exact ⟨0, Nat.zero_le _, rfl, Keep.refl _ _, fun j s h => absurd h (by omega)⟩
  case round =>
    obtain ⟨k, hk, rfl, hkr, hno⟩ := hrel
    by_cases hlt : k < ss.length
    · obtain ⟨s, hs⟩ : ∃ s, ss[k]? = some s := ⟨_, List.getElem?_eq_getElem hlt⟩
      obtain ⟨b, off, rfl, hbl, hSb, hall⟩ := hcell (by rintro rfl; simp at hlt)
      obtain ⟨A1, c1, hR, u0, u1, u2, u3, u4, u5⟩ := hall k s hs
      rw [← hkr.cell hbl (fun h => h)] at u0 u1 u2 u3 u4 u5
      have hf' := hf wr s A1 c1 hkr (hR.keep hkr (fun _ _ h => h))
      have H := Lib.hid hf'
      clear hf' hall hcell hv hR hf
      have hno' := Lib.hid hno
      have hs' := Lib.hid hs
      clear hno hs
      cases hp : p s
      · rw [hp] at H
        have hp' := Lib.hid hp
        clear hp
        go_wp2_with fail
        refine H.out.mono ?_
        rintro e w1 ⟨rfl, hk1⟩
        go_wp2
        go_roundw
        case rel => exact ⟨k + 1, by omega, by go_num, hkr.trans hk1 (fun _ _ h => h), fun j s' hj hs1 => by
          rcases Nat.lt_or_ge j k with h | h
          · exact hno'.out j s' h hs1
          · obtain rfl : j = k := by omega
            rw [hs'.out] at hs1; cases hs1; exact hp'.out⟩
        case measure => simp [intOf]; omega
      · rw [hp] at H
        have hp' := Lib.hid hp
        clear hp
        go_wp2_with fail
        refine H.out.mono ?_
        rintro e w1 ⟨rfl, hk1⟩
        go_wp2
        go_ret
        refine ⟨ret_int ?_, hkr.trans hk1 (fun _ _ h => h)⟩
        have : ss.findIdx? p = some k := by
          rw [List.findIdx?_eq_some_iff_getElem]
          refine ⟨hlt, ?_, fun j hj => ?_⟩
          · have := hs'.out; rw [List.getElem?_eq_getElem hlt] at this; cases this; exact hp'.out
          · have hjl : j < ss.length := by omega
            have := hno'.out j _ hj (List.getElem?_eq_getElem hjl)
            simp [this]
        simp [idxOf, this]
    · obtain rfl : k = ss.length := by omega
      have hn : Hid (ss.findIdx? p = none) := by
        show _ = _
        rw [List.findIdx?_eq_none_iff]
        intro x hx
        obtain ⟨j, hj, rfl⟩ := List.getElem_of_mem hx
        exact hno j _ hj (List.getElem?_eq_getElem hj)
      clear hno hcell hf hcf hv
      go_wp2
      go_ret
      exact ⟨ret_int (by simp [idxOf, hn.out]), hkr⟩

theorem call_find1 (args : Array Value) (w : World) : Sem.run Try.prog (callFunc 30 args) w = .ok (.enter 30 args) w := by kernel_rfl
set_option maxHeartbeats 400000 in
theorem find1_calls (w : World) (g : Nat) (a : Int) (hg : w.cell? ⟨g, 0, none⟩ = some (.int .i64 a)) (s : Slot) (v : Value) (hgw : g < w.heap.size) :
    Calls Try.prog 30 #[.agg #[.bool s.used, .int .i64 s.age, .int .i64 s.line.addr, v, .bool s.line.dirty, .bool s.line.poison], .pointer (some ⟨g, 0, none⟩)] w fun e w' => e = .returned (.bool (s.used && s.line.addr == a)) ∧ KF w w' := by
  cases hu : s.used
  · have H := Lib.hid hu
    clear hu
    go_enter Try.func30, Try.ntmps30
    go_wp2
    go_ret
    exact ⟨ret_bool (by simp), (Keep.refl _ _).alloc _⟩
  · have H := Lib.hid hu
    clear hu
    go_enter Try.func30, Try.ntmps30
    go_wp2
    go_ret
    exact ⟨ret_bool (by simp), (Keep.refl _ _).alloc _⟩

def hasAddr (a : Int) (s : Slot) : Bool := s.used && s.line.addr == a

set_option maxHeartbeats 400000 in
theorem find_calls (w : World) (S : Nat → Prop) (v : Value) (ss : List Slot) (a : Int) (hv : RSlots w S v ss) (hlen : ss.length ≤ 1000) :
    Calls Try.prog 19 #[v, .int .i64 a] w fun e w' => e = .returned (.int .i64 (idxOf (hasAddr a) ss)) ∧ KF w w' := by
  have hv1 : RSlots (w.alloc (.cells #[.int .i64 a] 3)) S v ss := hv.keep ((Keep.refl (fun _ => False) w).alloc _) (fun _ _ h => h)
  obtain ⟨A, c, rfl, -, -, -⟩ := hv.cases
  go_enter Try.func19, Try.ntmps19
  go_wp2_with fail
  refine (indexf_calls 30 #[.pointer (some ⟨w.heap.size, 0, none⟩)] (hasAddr a) _ S _ ss hv1 hlen call_find1 ?_).mono ?_
  · intro w' s A1 c1 hk hR
    have hb := (hk.box (k := w.heap.size) (at_new rfl) (fun h => h)).2.1 0
    exact find1_calls w' w.heap.size a (hb.trans rfl) s _ (by have := hk.size; simp at this; omega)
  · rintro e w1 ⟨rfl, hk1⟩
    go_wp2
    go_ret
    exact ⟨rfl, ((Keep.refl (fun _ => False) w).alloc _).trans hk1 (fun _ _ h => h)⟩

theorem call_put1 (args : Array Value) (w : World) : Sem.run Try.prog (callFunc 25 args) w = .ok (.enter 25 args) w := by kernel_rfl
theorem call_put2 (args : Array Value) (w : World) : Sem.run Try.prog (callFunc 26 args) w = .ok (.enter 26 args) w := by kernel_rfl
set_option maxHeartbeats 400000 in
theorem put1_calls (w : World) (s : Slot) (v : Value) :
    Calls Try.prog 25 #[.agg #[.bool s.used, .int .i64 s.age, .int .i64 s.line.addr, v, .bool s.line.dirty, .bool s.line.poison]] w fun e w' => e = .returned (.bool (!s.used)) ∧ KF w w' := by
  go_enter Try.func25, Try.ntmps25
  go_wp2
  go_ret
  exact ⟨rfl, (Keep.refl _ _).alloc _⟩
set_option maxHeartbeats 400000 in
theorem put2_calls (w : World) (g : Nat) (A : Option Addr) (n c : Nat) (hg : w.cell? ⟨g, 0, none⟩ = some (.slice A n c)) (s : Slot) (v : Value) (hgw : g < w.heap.size) (hn : n ≤ 1000) :
    Calls Try.prog 26 #[.agg #[.bool s.used, .int .i64 s.age, .int .i64 s.line.addr, v, .bool s.line.dirty, .bool s.line.poison], .pointer (some ⟨g, 0, none⟩)] w fun e w' => e = .returned (.bool (s.age == (n : Int) - 1)) ∧ KF w w' := by
  go_enter Try.func26, Try.ntmps26
  go_wp2
  go_ret
  exact ⟨ret_bool (by simp), (Keep.refl _ _).alloc _⟩
end Go.Proofs.Ytbcjjenidkgodaa
