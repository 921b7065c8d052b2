/- Lines, slots, caches as data; the small functions of the packages line and cache. -/
import Derived.Test.YtbcjjenidkgodaaDice
namespace Go.Proofs.Ytbcjjenidkgodaa
open Go Go.RowKit

structure Line where
  addr : Int
  data : List UInt8
  dirty : Bool
  poison : Bool
deriving DecidableEq, Inhabited
structure Slot where
  used : Bool
  age : Int
  line : Line
deriving DecidableEq
def Line.zero : Line := ⟨0, [], false, false⟩
def Slot.zero : Slot := ⟨false, 0, Line.zero⟩
instance : Inhabited Slot := ⟨Slot.zero⟩

def RLine (w : World) (S : Nat → Prop) (cs : List Value) (x : Line) : Prop := ∃ v, cs = [.int .i64 x.addr, v, .bool x.dirty, .bool x.poison] ∧ Arr w S 5 1 v (bcells x.data)
def RSlot (w : World) (S : Nat → Prop) (cs : List Value) (s : Slot) : Prop :=
  ∃ v, cs = [.bool s.used, .int .i64 s.age, .int .i64 s.line.addr, v, .bool s.line.dirty, .bool s.line.poison] ∧ Arr w S 5 1 v (bcells s.line.data)
theorem RLine.keep {w w' : World} {S M : Nat → Prop} {cs : List Value} {x : Line} (h : RLine w S cs x) (hk : Keep M w w') (hS : ∀ b, S b → ¬ M b) : RLine w' S cs x := by
  obtain ⟨v, h1, h2⟩ := h
  exact ⟨v, h1, h2.keep hk hS⟩
theorem RSlot.keep {w w' : World} {S M : Nat → Prop} {cs : List Value} {x : Slot} (h : RSlot w S cs x) (hk : Keep M w w') (hS : ∀ b, S b → ¬ M b) : RSlot w' S cs x := by
  obtain ⟨v, h1, h2⟩ := h
  exact ⟨v, h1, h2.keep hk hS⟩
theorem RSlot.mono {w : World} {S S' : Nat → Prop} {cs : List Value} {x : Slot} (h : RSlot w S cs x) (hS : ∀ b, S b → b < w.heap.size → S' b) : RSlot w S' cs x := by
  obtain ⟨v, h1, h2⟩ := h
  exact ⟨v, h1, h2.mono hS⟩
theorem RLine.mono {w : World} {S S' : Nat → Prop} {cs : List Value} {x : Line} (h : RLine w S cs x) (hS : ∀ b, S b → b < w.heap.size → S' b) : RLine w S' cs x := by
  obtain ⟨v, h1, h2⟩ := h
  exact ⟨v, h1, h2.mono hS⟩

/-- Rows that read as a list of things. -/
def Rows2 {α : Type} (R : List Value → α → Prop) (css : List (List Value)) (xs : List α) : Prop := css.length = xs.length ∧ ∀ (i : Nat) cs x, css[i]? = some cs → xs[i]? = some x → R cs x
theorem Rows2.imp {α : Type} {R R' : List Value → α → Prop} {css : List (List Value)} {xs : List α} (h : Rows2 R css xs) (hR : ∀ cs x, R cs x → R' cs x) : Rows2 R' css xs := ⟨h.1, fun i cs x h1 h2 => hR _ _ (h.2 i cs x h1 h2)⟩
theorem Rows2.get {α : Type} {R : List Value → α → Prop} {css : List (List Value)} {xs : List α} (h : Rows2 R css xs) {i : Nat} {x : α} (hx : xs[i]? = some x) : ∃ cs, css[i]? = some cs ∧ R cs x := by
  have hi : i < xs.length := (List.getElem?_eq_some_iff.1 hx).1
  have hc : css[i]? = some (css[i]'(by rw [h.1]; exact hi)) := List.getElem?_eq_getElem _
  exact ⟨_, hc, h.2 i _ x hc hx⟩
theorem Rows2.set {α : Type} {R : List Value → α → Prop} {css : List (List Value)} {xs : List α} (h : Rows2 R css xs) (i : Nat) {cs : List Value} {x : α} (hx : R cs x) : Rows2 R (css.set i cs) (xs.set i x) := by
  refine ⟨by simp [h.1], fun j c y h1 h2 => ?_⟩
  rw [List.getElem?_set] at h1 h2
  by_cases hij : i = j
  · simp only [hij, if_true] at h1 h2
    split at h1 <;> split at h2 <;> simp at h1 h2
    subst h1; subst h2; exact hx
  · rw [if_neg hij] at h1 h2
    exact h.2 j c y h1 h2
theorem Rows2.slice {α : Type} {R : List Value → α → Prop} {css : List (List Value)} {xs : List α} (h : Rows2 R css xs) (lo n : Nat) : Rows2 R ((css.drop lo).take n) ((xs.drop lo).take n) := by
  refine ⟨by simp [h.1], fun j c y h1 h2 => ?_⟩
  rw [List.getElem?_take] at h1 h2
  split at h1
  · rename_i hj
    rw [if_pos hj] at h2
    rw [List.getElem?_drop] at h1 h2
    exact h.2 _ c y h1 h2
  · cases h1
theorem Rows2.nil {α : Type} (R : List Value → α → Prop) : Rows2 R [] [] := ⟨rfl, fun i cs x h => by simp at h⟩
theorem Rows2.append {α : Type} {R : List Value → α → Prop} {css dss : List (List Value)} {xs ys : List α} (h : Rows2 R css xs) (k : Rows2 R dss ys) : Rows2 R (css ++ dss) (xs ++ ys) := by
  refine ⟨by simp [h.1, k.1], fun j c y h1 h2 => ?_⟩
  rw [List.getElem?_append] at h1 h2
  rw [h.1] at h1
  split at h1
  · rename_i hj; rw [if_pos hj] at h2; exact h.2 _ _ _ h1 h2
  · rename_i hj; rw [if_neg hj] at h2; exact k.2 _ _ _ h1 h2
theorem Rows2.one {α : Type} {R : List Value → α → Prop} {cs : List Value} {x : α} (h : R cs x) : Rows2 R [cs] [x] := by
  refine ⟨rfl, fun j c y h1 h2 => ?_⟩
  cases j with
  | zero => simp at h1 h2; subst h1; subst h2; exact h
  | succ j => simp at h1

/-- A slice of slots. -/
def RSlots (w : World) (S : Nat → Prop) (v : Value) (ss : List Slot) : Prop := ∃ css, Arr w S 55 6 v css ∧ Rows2 (RSlot w S) css ss
theorem RSlots.keep {w w' : World} {S M : Nat → Prop} {v : Value} {ss : List Slot} (h : RSlots w S v ss) (hk : Keep M w w') (hS : ∀ b, S b → ¬ M b) : RSlots w' S v ss := by
  obtain ⟨css, h1, h2⟩ := h
  exact ⟨css, h1.keep hk hS, h2.imp fun _ _ h => h.keep hk hS⟩
theorem RSlots.mono {w : World} {S S' : Nat → Prop} {v : Value} {ss : List Slot} (h : RSlots w S v ss) (hS : ∀ b, S b → b < w.heap.size → S' b) : RSlots w S' v ss := by
  obtain ⟨css, h1, h2⟩ := h
  exact ⟨css, h1.mono hS, h2.imp fun _ _ h => h.mono hS⟩

abbrev KF (w w' : World) : Prop := Keep (fun _ => False) w w'
theorem KF.arr {w w' : World} {S : Nat → Prop} {e sz : Nat} {v : Value} {css : List (List Value)} (h : Arr w S e sz v css) (hk : KF w w') : Arr w' S e sz v css := h.keep hk (fun _ _ h => h)

set_option maxHeartbeats 400000 in
theorem within_calls (n m : Int) (w : World) : Calls Try.prog 28 #[.int .i64 n, .int .i64 m] w fun e w' => e = .returned (.bool (decide (1 ≤ n) && decide (n ≤ m))) ∧ w = w' := by
  by_cases h : 1 ≤ n
  · go_enter Try.func28, Try.ntmps28
    go_wp2
    go_ret
    exact ⟨ret_bool (by simp [h]), rfl⟩
  · go_enter Try.func28, Try.ntmps28
    go_wp2
    go_ret
    exact ⟨ret_bool (by have : decide (1 ≤ n) = false := by simpa using h
                        rw [this]; rfl), rfl⟩

/-- The numbers of a cache that are permitted. -/
def sizedB (sets ways size : Int) : Bool := (decide (1 ≤ sets) && decide (sets ≤ 8)) && ((decide (1 ≤ ways) && decide (ways ≤ 4)) && (decide (1 ≤ size) && decide (size ≤ 32)))
set_option maxHeartbeats 400000 in
theorem sized_calls (a b c : Int) (w : World) (h : sizedB a b c = true) : Calls Try.prog 15 #[.int .i64 a, .int .i64 b, .int .i64 c] w fun e w' => e = .returned (.bool true) ∧ w = w' := by
  simp only [sizedB, Bool.and_eq_true, decide_eq_true_eq] at h
  obtain ⟨⟨h1, h2⟩, ⟨h3, h4⟩, h5, h6⟩ := h
  go_enter Try.func15, Try.ntmps15
  go_wp2
  go_ret
  exact ⟨rfl, rfl⟩

set_option maxHeartbeats 400000 in
theorem empty_calls (v : Value) (w : World) (A : Option Addr) (c : Nat) (hv : v = .slice A 0 c) : Calls Try.prog 32 #[.agg #[.bool false, .int .i64 0, .int .i64 0, v, .bool false, .bool false]] w fun e w' => e = .returned (.bool true) ∧ KF w w' := by
  subst hv
  go_enter Try.func32, Try.ntmps32
  go_wp2
  go_ret
  exact ⟨rfl, (Keep.refl _ _).alloc _⟩

set_option maxHeartbeats 400000 in
theorem lineValid_calls (size addr : Int) (A : Option Addr) (n c : Nat) (d p : Bool) (w : World) (h1 : 1 ≤ size) (h2 : size ≤ 32) (h3 : (n : Int) = size) (h4 : 0 ≤ addr) (h5 : addr < 1048576) :
    Calls Try.prog 23 #[.int .i64 size, .agg #[.int .i64 addr, .slice A n c, .bool d, .bool p]] w fun e w' => e = .returned (.bool true) ∧ KF w w' := by
  subst h3
  go_enter Try.func23, Try.ntmps23
  go_wp2
  go_ret
  exact ⟨rfl, (Keep.refl _ _).alloc _⟩
end Go.Proofs.Ytbcjjenidkgodaa
