/- Same of lines; the lines of the mill. -/
import Derived.Test.YtbcjjenidkgodaaNew
import Derived.Laws.IdiomStrings
import Derived.Laws.BytesString
namespace Go.Proofs.Ytbcjjenidkgodaa
open Go Go.RowKit

/-- The string of bytes. -/
theorem conv_bytes (w : World) (S : Nat → Prop) (v : Value) (l : List UInt8) (hv : Arr w S 5 1 v (bcells l)) :
    (convert 35 9 v).run Try.prog w = .ok (.string ⟨l.toArray⟩) w := by
  rcases hv.cases with ⟨hnil, A, c, rfl, -⟩ | ⟨hne, b, off, c, rfl, -, -, -, -, hc⟩
  · have hl : l = [] := by simpa [bcells] using hnil
    subst hl
    rcases A with _ | A
    · rw [run_convert_bytes_string w _ _ 5 none 0 c Try.underlying35 Try.underlying5 Try.underlying9]
      rfl
    · exact run_convert_bytes_back w _ _ 5 A c [] Try.underlying35 Try.underlying5 Try.underlying9 (fun j hj => by simp at hj)
  · rw [bcells_len]
    refine run_convert_bytes_back w _ _ 5 _ c l Try.underlying35 Try.underlying5 Try.underlying9 (fun j hj => ?_)
    have := hc j [.int .u8 (l[j].toNat : Int)] (by simp [bcells, List.getElem?_eq_getElem hj]) 0 _ rfl
    rw [addr_add]
    simpa using this

def lineSame (x y : Line) : Bool := x.addr == y.addr && (x.data == y.data) && (x.dirty == y.dirty) && (x.poison == y.poison)

set_option maxHeartbeats 1000000 in
theorem same_calls (w : World) (S S' : Nat → Prop) (cs cs' : List Value) (x : Line) (hx : RLine w S cs x) (hy : RLine w S' cs' x) (hl : x.data.length ≤ 1000) :
    Calls Try.prog 10 #[.agg cs.toArray, .agg cs'.toArray] w fun e w' => e = .returned (.bool true) ∧ KF w w' := by
  obtain ⟨v, rfl, hv⟩ := hx
  obtain ⟨v', rfl, hv'⟩ := hy
  have hk : ∀ o1 o2, KF w ((w.alloc o1).alloc o2) := fun o1 o2 => ((Keep.refl _ w).alloc _).alloc _
  have hc1 := fun o1 o2 => conv_bytes _ S v x.data (hv.keep (hk o1 o2) (fun _ _ h => h))
  have hc2 := fun o1 o2 => conv_bytes _ S' v' x.data (hv'.keep (hk o1 o2) (fun _ _ h => h))
  obtain ⟨A, c, rfl, -, -⟩ := hv.len
  obtain ⟨A', c', rfl, -, -⟩ := hv'.len
  rw [bcells_len] at hc1 hc2 ⊢
  clear hv hv' hk
  go_enter Try.func10, Try.ntmps10
  go_wp2
  go_ret
  exact ⟨rfl, ((Keep.refl _ w).alloc _).alloc _⟩

theorem rep_flat : ∀ n : Nat, List.replicate n (Value.int .u8 0) = (bcells (List.replicate n 0)).flatten
  | 0 => rfl
  | n + 1 => by rw [List.replicate_succ, rep_flat n]; rfl

theorem box4 (w : World) (k T : Nat) (a b c d a' b' c' d' : Value) (h : w.heap[k]? = some (.cells #[a, b, c, d] T (0, 0))) :
    ((((w.setCell ⟨k, 0, none⟩ a').setCell ⟨k, 1, none⟩ b').setCell ⟨k, 2, none⟩ c').setCell ⟨k, 3, none⟩ d').heap[k]? = some (.cells #[a', b', c', d'] T (0, 0)) := by
  have h1 := heap_setCell_same w k 0 _ _ a' h
  have h2 := heap_setCell_same _ k 1 _ _ b' h1
  have h3 := heap_setCell_same _ k 2 _ _ c' h2
  have h4 := heap_setCell_same _ k 3 _ _ d' h3
  simpa using h4

def millLine (l : List Int) (n : Nat) (a : Int) : Line :=
  ⟨a, if dnext (l.drop (n + 1)) 5 = 1 then List.replicate n 0 else dbytes n l, dnext (l.drop n) 2 == 0, dnext (l.drop (n + 1)) 5 == 1⟩
theorem millLine_len (l : List Int) (n : Nat) (a : Int) : (millLine l n a).data.length = n := by
  unfold millLine; simp only []; split
  · simp
  · exact dbytes_len n l

set_option maxHeartbeats 1000000 in
theorem line_calls (w : World) (B g : Nat) (l : List Int) (n : Nat) (a : Int) (hD : DiceAt w B g l) (hn : n ≤ 1000) :
    Calls Try.prog 12 #[.pointer (some ⟨g, 0, none⟩), .int .i64 n, .int .i64 a] w fun e w' =>
      ∃ cs, e = .returned (.agg cs.toArray) ∧ RLine w' (w.heap.size ≤ ·) cs (millLine l n a) ∧ DiceAt w' B g (l.drop (n + 2)) ∧ Keep (· = g) w w' := by
  have hgw := hD.lt
  have hBg : B ≤ g := by obtain ⟨_, _, _, _, _, _, h, _⟩ := hD; exact h
  obtain ⟨i0, hi, hz0, hz1, hz2⟩ := info_parts info_u8
  have hmk : ∀ w : World, (Instr.makeSlice 35 (.int .i64 (n : Int)) (.int .i64 (n : Int))).run Try.prog w = .ok (.slice (some ⟨w.heap.size, 0, none⟩) n n) (w.alloc (.cells (List.replicate n (.int .u8 0)).toArray 5)) := fun w => by
    have := run_make (P := Try.prog) w 35 5 i0 (.int .u8 0) Try.underlying35 hi hz0 .i64 .i64 n n (by omega) (by omega) (by rw [hz2]; omega) (by omega)
    have hm := made_flat [.int .u8 0] n (by decide)
    have e1 : (List.replicate n [Value.int .u8 0]).flatten = List.replicate n (.int .u8 0) := by
      clear hm this
      induction n with
      | zero => rfl
      | succ n ih => rw [List.replicate_succ, List.flatten_cons, ih (by omega)]; rfl
    rw [e1] at hm
    have e2 : (madeCells (Value.int .u8 0).cells (n * 1)) = (List.replicate n (.int .u8 0)).toArray := by
      have e3 : (Value.int IntKind.u8 0).cells = #[.int .u8 0] := rfl
      rw [e3]
      apply Array.toList_inj.1
      simpa using hm
    simp only [Int.toNat_natCast, hz1] at this
    rw [e2] at this
    exact this
  have hmk' := Lib.hid hmk
  have hk0 : ∀ o, Keep (· = g) w (w.alloc o) := fun o => (Keep.refl (· = g) w).alloc o
  have hD0 : ∀ o, DiceAt (w.alloc o) B g l := fun o => hD.keep ((Keep.refl (fun _ => False) w).alloc o) (fun h => h) (fun _ _ h => h)
  clear hmk hi hz0 hz1 hz2
  go_enter Try.func12, Try.ntmps12
  go_wp2_with fail
  refine (bytes_calls _ B g l n (hD0 _) (by omega) (by omega)).mono ?_
  rintro e w1 ⟨v, rfl, hO1, hD1, hk1⟩
  obtain ⟨A, c, rfl, -, -⟩ := hO1.slice
  rw [bcells_len, dbytes_len] at hO1 ⊢
  rw [Int.toNat_natCast] at *
  obtain ⟨hX, -, -⟩ := hk1.box (k := w.heap.size) (at_new rfl) (by omega)
  have hk1w := (hk0 _).trans hk1 (fun _ _ h => h)
  have hsx : ∀ o, (w.alloc o).heap.size = w.heap.size + 1 := fun o => by simp
  rw [hsx] at hO1
  have hO1' := Lib.hid hO1
  have hX' := Lib.hid hX
  clear hk1 hO1 hX hD0 hD hk0 hsx
  go_wp2_with fail
  refine (next_calls _ B g _ 2 hD1 ⟨by decide, by decide⟩).mono ?_
  rintro e w2 ⟨rfl, hD2, hk2⟩
  rw [List.drop_drop] at hD2
  generalize hx2 : dnext (l.drop n) 2 = x2
  have hx2' := Lib.hid hx2
  clear hx2
  go_wp2_with fail
  refine (next_calls _ B g _ 5 hD2 ⟨by decide, by decide⟩).mono ?_
  rintro e w3 ⟨rfl, hD3, hk3⟩
  rw [List.drop_drop] at hD3
  generalize hx3 : dnext (l.drop (n + 1)) 5 = x3
  have hx3' := Lib.hid hx3
  have hk3w := (hk1w.trans hk2 (fun _ _ h => h)).trans hk3 (fun _ _ h => h)
  have hO3' := Lib.hid ((hO1'.out.keep hk2 (fun b hb _ h => by omega)).keep hk3 (fun b hb _ h => by omega))
  obtain ⟨hX3, p1, p2⟩ := (hk2.trans hk3 (fun _ _ h => h)).box (k := w.heap.size) hX'.out (by omega)
  have hs3 : w.heap.size < w3.heap.size := (Array.getElem?_eq_some_iff.1 hX3).1
  have hX3' := Lib.hid hX3
  clear hx3 hD1 hD2 hk1w hO1' hX' hk2 hk3 hX3
  have hmk := hmk'.out
  by_cases h1 : x3 = 1
  · subst h1
    go_wp2
    have hb4 := box4 w3 w.heap.size _ _ _ _ _ (.int .i64 a) (.slice (some ⟨w3.heap.size + 1, 0, none⟩) n n) (.bool (x2 == 0)) (.bool true) hX3'.out
    have hb5 := fun o1 o2 => at_old (o := o2) (at_old (o := o1) hb4)
    have q1 := fun o1 o2 i => cell_of_row _ w.heap.size i _ _ _ (hb5 o1 o2)
    refine bodyPost_ret (v := .agg #[.int .i64 a, .slice (some ⟨w3.heap.size + 1, 0, none⟩) n n, .bool (x2 == 0), .bool true]) (by simp [results, Try.results12, go_sem, q1]) rfl ?_
    have hml : millLine l n a = ⟨a, List.replicate n 0, x2 == 0, true⟩ := by unfold millLine; rw [hx3'.out, hx2'.out]; rfl
    rw [hml]
    refine ⟨[.int .i64 a, .slice (some ⟨w3.heap.size + 1, 0, none⟩) n n, .bool (x2 == 0), .bool true], rfl, ⟨_, rfl, ?_⟩, ?_, (by repeat (first | (with_reducible refine Keep.setCell ?_ ?_ _; rotate_left; focus (intro hkb; first | (simp; done) | (simp at hkb; done) | (simp; omega) | omega | (simp at hkb ⊢; omega))) | with_reducible refine Keep.alloc ?_ _ | with_reducible refine Keep.drewN ?_ _ | with_reducible refine Keep.drew ?_ | with_reducible exact Keep.refl _ _ | with_reducible assumption))⟩
    · have := fun W (hW : W.heap.size = w3.heap.size + 1) => Arr.lit W (w.heap.size ≤ ·) 5 1 (List.replicate n (.int .u8 0)) n (bcells (List.replicate n 0)) (rep_flat n) (by rw [bcells_len, List.length_replicate]) (fun r hr => by
          obtain ⟨x, _, rfl⟩ := List.mem_map.1 hr
          exact ⟨rfl, by simp [Value.oneCell']⟩) (by omega) (by omega)
      have h2 := this ((((((w3.setCell ⟨w.heap.size, 0, none⟩ (.int .i64 a)).setCell ⟨w.heap.size, 1, none⟩ (.slice (some ⟨w3.heap.size + 1, 0, none⟩) n n)).setCell ⟨w.heap.size, 2, none⟩ (.bool (x2 == 0))).setCell ⟨w.heap.size, 3, none⟩ (.bool true))).alloc (.cells #[.int .i64 a, .slice (some ⟨w3.heap.size + 1, 0, none⟩) n n, .bool (x2 == 0), .bool true] 37)) (by simp)
      rw [List.toArray_replicate] at h2
      have e5 : (((((w3.setCell ⟨w.heap.size, 0, none⟩ (.int .i64 a)).setCell ⟨w.heap.size, 1, none⟩ (.slice (some ⟨w3.heap.size + 1, 0, none⟩) n n)).setCell ⟨w.heap.size, 2, none⟩ (.bool (x2 == 0))).setCell ⟨w.heap.size, 3, none⟩ (.bool true))).heap.size = w3.heap.size := by simp
      have e6 : ∀ (W : World) (o : Obj), (W.alloc o).heap.size = W.heap.size + 1 := fun W o => by simp
      rw [e6, e5] at h2
      exact h2
    · exact hD3.keep (M := fun b => b = w.heap.size) (by repeat (first | (with_reducible refine Keep.setCell ?_ ?_ _; rotate_left; focus (intro hkb; first | (simp; done) | (simp at hkb; done) | (simp; omega) | omega | (simp at hkb ⊢; omega))) | with_reducible refine Keep.alloc ?_ _ | with_reducible refine Keep.drewN ?_ _ | with_reducible refine Keep.drew ?_ | with_reducible exact Keep.refl _ _ | with_reducible assumption)) (by omega) (fun b hb h => by omega)
  · have h1' : (x3 == 1) = false := by simpa using h1
    clear hmk
    go_wp2
    have hb4 := box4 w3 w.heap.size _ _ _ _ _ (.int .i64 a) (.slice A n c) (.bool (x2 == 0)) (.bool false) hX3'.out
    have hb5 := fun o1 => at_old (o := o1) hb4
    have q1 := fun o1 i => cell_of_row _ w.heap.size i _ _ _ (hb5 o1)
    refine bodyPost_ret (v := .agg #[.int .i64 a, .slice A n c, .bool (x2 == 0), .bool false]) (by simp [results, Try.results12, go_sem, q1]) rfl ?_
    have hml : millLine l n a = ⟨a, dbytes n l, x2 == 0, false⟩ := by unfold millLine; rw [hx3'.out, hx2'.out, if_neg h1, h1']
    rw [hml]
    refine ⟨[.int .i64 a, .slice A n c, .bool (x2 == 0), .bool false], rfl, ⟨_, rfl, ?_⟩, ?_, (by repeat (first | (with_reducible refine Keep.setCell ?_ ?_ _; rotate_left; focus (intro hkb; first | (simp; done) | (simp at hkb; done) | (simp; omega) | omega | (simp at hkb ⊢; omega))) | with_reducible refine Keep.alloc ?_ _ | with_reducible refine Keep.drewN ?_ _ | with_reducible refine Keep.drew ?_ | with_reducible exact Keep.refl _ _ | with_reducible assumption))⟩
    · have hkk : ∀ W, Keep (fun b => b = w.heap.size) w3 W → Arr W (w.heap.size ≤ ·) 5 1 (.slice A n c) (bcells (dbytes n l)) := fun W hW =>
        ((hO3'.out.keep hW (fun b hb _ h => by omega)).arr).mono (fun b hb _ => by omega)
      exact hkk _ (by repeat (first | (with_reducible refine Keep.setCell ?_ ?_ _; rotate_left; focus (intro hkb; first | (simp; done) | (simp at hkb; done) | (simp; omega) | omega | (simp at hkb ⊢; omega))) | with_reducible refine Keep.alloc ?_ _ | with_reducible refine Keep.drewN ?_ _ | with_reducible refine Keep.drew ?_ | with_reducible exact Keep.refl _ _ | with_reducible assumption))
    · exact hD3.keep (M := fun b => b = w.heap.size) (by repeat (first | (with_reducible refine Keep.setCell ?_ ?_ _; rotate_left; focus (intro hkb; first | (simp; done) | (simp at hkb; done) | (simp; omega) | omega | (simp at hkb ⊢; omega))) | with_reducible refine Keep.alloc ?_ _ | with_reducible refine Keep.drewN ?_ _ | with_reducible refine Keep.drew ?_ | with_reducible exact Keep.refl _ _ | with_reducible assumption)) (by omega) (fun b hb h => by omega)
end Go.Proofs.Ytbcjjenidkgodaa
