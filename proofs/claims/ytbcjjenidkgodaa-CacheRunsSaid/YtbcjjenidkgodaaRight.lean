/- right and Valid, of what is right. -/
import Derived.Test.YtbcjjenidkgodaaCacheD
import Derived.Test.YtbcjjenidkgodaaMap
namespace Go.Proofs.Ytbcjjenidkgodaa
open Go Go.RowKit

/-- The slots of a set are right: 'used' of them, and then empty ones. -/
structure RightL (sets size set : Int) (l : List Slot) (used : Nat) : Prop where
  le : used ≤ l.length
  used_ : ∀ i s, i < used → l[i]? = some s → s.used = true ∧ 0 ≤ s.age ∧ s.age < used ∧ 0 ≤ s.line.addr ∧ s.line.addr < 1048576 ∧ (s.line.data.length : Int) = size ∧ s.line.addr % sets = set
  empty : ∀ i s, used ≤ i → l[i]? = some s → s = Slot.zero
  ages : ∀ i j s t, i < j → j < used → l[i]? = some s → l[j]? = some t → s.age ≠ t.age ∧ s.line.addr ≠ t.line.addr

/-- The entries behind k rounds. -/
def seen (f : Slot → Int) (l : List Slot) : List (Int × Value) := l.map fun s => (f s, .bool true)

theorem seen_none (f : Slot → Int) (l : List Slot) (x : Int) (h : ∀ s ∈ l, f s ≠ x) : (seen f l).findIdx? (fun p => x == p.1) = none := by
  rw [List.findIdx?_eq_none_iff]
  intro p hp
  obtain ⟨s, hs, rfl⟩ := List.mem_map.1 hp
  have := h s hs
  simp; exact fun e => this e.symm

theorem zero_bool (w : World) : (zeroValue 4).run Try.prog w = .ok (.bool false) w := by kernel_rfl

set_option maxHeartbeats 2000000 in
theorem right_calls (w : World) (S : Nat → Prop) (v : Value) (l : List Slot) (sets ways size set : Int) (cv : Value) (used : Nat) (hv : RSlots w S v l) (hR : RightL sets size set l used) (hl : l.length ≤ 1000)
    (h1 : 1 ≤ sets) (h2 : sets ≤ 8) (h3 : 1 ≤ size) (h4 : size ≤ 32) (h5 : 0 ≤ set) (A0 : Option Addr) (n0 c0 : Nat) (hcv : cv = .slice A0 n0 c0) :
    Calls Try.prog 27 #[.agg #[.int .i64 sets, .int .i64 ways, .int .i64 size, cv], .int .i64 set, v] w fun e w' => e = .returned (.bool true) ∧ KF w w' := by
  subst hcv
  obtain ⟨A, c, rfl, hc1, hc2, hcell⟩ := hv.cases
  have hmm := @run_makeMap Try.prog
  go_enter Try.func27, Try.ntmps27
  go_wp2
  go_loopw [7] (fun x wr => ∃ k : Nat, k ≤ used ∧ x = .int .i64 (k : Int) ∧ wr = w.alloc (.cells #[.int .i64 sets, .int .i64 ways, .int .i64 size, .slice A0 n0 c0] 29)) (fun x _ => used - (intOf x).toNat)
  case atStart => exact ⟨0, Nat.zero_le _, rfl, rfl⟩
  case round =>
    obtain ⟨k, hk, rfl, rfl⟩ := hrel
    by_cases hlt : k < used
    · obtain ⟨s, hs⟩ : ∃ s, l[k]? = some s := ⟨_, List.getElem?_eq_getElem (by have := hR.le; omega)⟩
      obtain ⟨b, off, rfl, hbl, hSb, hall⟩ := hcell (by rintro rfl; simp at hs)
      obtain ⟨A1, c1, -, u0, -⟩ := hall k s hs
      rw [(hR.used_ k s hlt hs).1] at u0
      have hkl : k < l.length := by have := hR.le; omega
      clear hcell hall hs hv hR
      go_wp2
      go_roundw
      case rel => exact ⟨k + 1, by omega, by go_num, trivial⟩
      case measure => simp [intOf]; omega
    · obtain rfl : k = used := by omega
      clear hlt hk
      have hkl : k < l.length ∨ k = l.length := by have := hR.le; omega
      have hcell' := Lib.hid hcell
      rcases hkl with hkl | hkl
      · obtain ⟨s, hs⟩ : ∃ s, l[k]? = some s := ⟨_, List.getElem?_eq_getElem hkl⟩
        obtain ⟨b, off, rfl, hbl, hSb, hall⟩ := hcell (by rintro rfl; simp at hs)
        obtain ⟨A1, c1, -, u0, -⟩ := hall k s hs
        obtain rfl := hR.empty k s (Nat.le_refl _) hs
        replace u0 : w.cell? ⟨b, off + k * 6, none⟩ = some (.bool false) := u0
        clear hcell hall hs
        go_wp2
        clear u0
        have hk0 : k ≤ l.length := by omega
        clear hkl
        go_loopw [29] (fun x wr => ∃ m : Nat, m ≤ l.length ∧ x = .int .i64 (m : Int) ∧ KF w wr ∧ wr.heap[w.heap.size]? = some (.cells #[.int .i64 sets, .int .i64 ways, .int .i64 size, .slice A0 n0 c0] 29 (0, 0)) ∧ MapI .i64 wr (w.heap.size + 1) (seen (·.age) (l.take (min m k))) ∧ MapI .i64 wr (w.heap.size + 1 + 1) (seen (·.line.addr) (l.take (min m k)))) (fun x _ => l.length - (intOf x).toNat)
        case atStart => exact ⟨0, Nat.zero_le _, rfl, (((Keep.refl _ w).alloc _).alloc _).alloc _, at_old (at_old (at_new rfl)), ⟨#[], 0, at_old (at_new (by simp)), by simp [seen]⟩, ⟨#[], 0, at_new (by simp), by simp [seen]⟩⟩
        case round =>
          obtain ⟨m, hm, rfl, hkr, hbox, hM1, hM2⟩ := hrel
          by_cases hmt : m < l.length
          · obtain ⟨s, hs⟩ : ∃ s, l[m]? = some s := ⟨_, List.getElem?_eq_getElem hmt⟩
            obtain ⟨b1, off1, hA1, hbl, hSb, hall⟩ := hcell'.out (by rintro rfl; simp at hs)
            first | (simp only [Option.some.injEq, Addr.mk.injEq, and_true] at hA1; obtain ⟨rfl, rfl⟩ := hA1) | subst hA1
            obtain ⟨A1, c1, hRs, u0, u1, u2, u3, u4, u5⟩ := hall m s hs
            rw [← hkr.cell hbl (fun h => h)] at u0 u1 u2 u3 u4 u5
            clear hall hcell' hv
            by_cases hmk : m < k
            · obtain ⟨hu, ha0, ha1, hd0, hd1, hdl, hdm⟩ := hR.used_ m s hmk hs
              have htk : l.take (min m k) = l.take m := by rw [Nat.min_eq_left (by omega)]
              have htk1 : l.take (min (m + 1) k) = l.take m ++ [s] := by rw [Nat.min_eq_left (by omega), List.take_add_one, hs]; rfl
              have hne : ∀ t ∈ l.take m, t.age ≠ s.age ∧ t.line.addr ≠ s.line.addr := fun t ht => by
                obtain ⟨j, hj, rfl⟩ := List.getElem_of_mem ht
                have hjm : j < m := by simp at hj; omega
                rw [List.getElem_take]
                exact hR.ages j m _ s hjm hmk (List.getElem?_eq_getElem (by omega)) hs
              rw [htk] at hM1 hM2
              have hl1 : ∀ o, (Instr.lookup 64 (.map (some (w.heap.size + 1))) (.int .i64 s.age) false).run Try.prog (wr.alloc o) = .ok (.bool false) (wr.alloc o) := fun o => by
                rw [run_lookup_int Try.underlying64 Try.underlying3 (hM1.keep ((Keep.refl (fun _ => False) wr).alloc o) (fun h => h)) s.age _ (zero_bool _), seen_none _ _ _ (fun t ht => (hne t ht).1)]
              have hl2 : ∀ o, (Instr.lookup 64 (.map (some (w.heap.size + 1 + 1))) (.int .i64 s.line.addr) false).run Try.prog (wr.alloc o) = .ok (.bool false) (wr.alloc o) := fun o => by
                rw [run_lookup_int Try.underlying64 Try.underlying3 (hM2.keep ((Keep.refl (fun _ => False) wr).alloc o) (fun h => h)) s.line.addr _ (zero_bool _), seen_none _ _ _ (fun t ht => (hne t ht).2)]
              have hput1 : Hid (putI (seen (·.age) (l.take m)) s.age (.bool true) = seen (·.age) (l.take (min (m + 1) k))) := by
                show _ = _
                rw [htk1]; unfold putI; rw [seen_none _ _ _ (fun t ht => (hne t ht).1)]; simp [seen]
              have hput2 : Hid (putI (seen (·.line.addr) (l.take m)) s.line.addr (.bool true) = seen (·.line.addr) (l.take (min (m + 1) k))) := by
                show _ = _
                rw [htk1]; unfold putI; rw [seen_none _ _ _ (fun t ht => (hne t ht).2)]; simp [seen]
              rw [hu] at u0
              have hb0 : wr.cell? ⟨w.heap.size, 0, none⟩ = some (.int .i64 sets) := cell_of_row wr _ 0 _ _ _ hbox
              have hb2 : wr.cell? ⟨w.heap.size, 2, none⟩ = some (.int .i64 size) := cell_of_row wr _ 2 _ _ _ hbox
              have hwl : w.heap.size < wr.heap.size := (Array.getElem?_eq_some_iff.1 hbox).1
              have hbox' := Lib.hid hbox
              have hM1' := Lib.hid hM1
              have hM2' := Lib.hid hM2
              have hdm' := Lib.hid hdm
              have hdl' := Lib.hid hdl
              have hRs' := Lib.hid hRs
              clear hbox hM1 hM2 htk htk1 hne hdm hdl hR hs hRs hu
              have hdm2 : (s.line.addr % sets != set) = false := by rw [hdm'.out]; simp
              go_wp2_with fail
              refine (lineValid_calls _ _ _ _ _ _ _ _ h3 h4 hdl'.out hd0 hd1).mono ?_
              rintro e w1 ⟨rfl, hk1⟩
              obtain ⟨hX1, x1, x2⟩ := hk1.box (k := wr.heap.size) (at_new rfl) (fun h => h)
              obtain ⟨-, y1, -⟩ := hk1.box (k := w.heap.size) (at_old hbox'.out) (fun h => h)
              have hkw : KF wr w1 := ((Keep.refl (fun _ => False) wr).alloc _).trans hk1 (fun _ _ h => h)
              clear hk1 hl1 hl2 u0 u1 u2 u3 u4 u5 hb0 hb2
              go_wp2_with fail
              obtain ⟨w2, hr2, hM12, hk2⟩ := run_mapUpdate_int (P := Try.prog) (w := w1.drew) Try.underlying64 Try.underlying3 (hM1'.out.keep hkw.drew (fun h => h)) s.age (.bool true)
              obtain ⟨w3, hr3, hM23, hk3⟩ := run_mapUpdate_int (P := Try.prog) (w := w2) Try.underlying64 Try.underlying3 ((hM2'.out.keep hkw.drew (fun h => h)).keep hk2 (by omega)) s.line.addr (.bool true)
              have hM2l := hM2'.out.lt
              have hwl1 : wr.heap.size < w1.heap.size := (Array.getElem?_eq_some_iff.1 hX1).1
              have z2 : ∀ i, w2.cell? ⟨wr.heap.size, i, none⟩ = w1.cell? ⟨wr.heap.size, i, none⟩ := fun i => hk2.cell (p := ⟨wr.heap.size, i, none⟩) hwl1 (by simp; omega)
              have z3 : ∀ i, w3.cell? ⟨wr.heap.size, i, none⟩ = w1.cell? ⟨wr.heap.size, i, none⟩ := fun i => (hk3.cell (p := ⟨wr.heap.size, i, none⟩) (Nat.lt_of_lt_of_le hwl1 hk2.size) (by simp; omega)).trans (z2 i)
              have hcls : ∀ W : World, (∀ i, W.cell? ⟨wr.heap.size, i, none⟩ = w1.cell? ⟨wr.heap.size, i, none⟩) → W.cell? ⟨wr.heap.size, 1, none⟩ = some (.int .i64 s.age) ∧ W.cell? ⟨wr.heap.size, 2, none⟩ = some (.int .i64 s.line.addr) := fun W h => ⟨(h 1).trans (x1 1), (h 2).trans (x1 2)⟩
              have hc1 := hcls w1.drew (fun _ => rfl)
              have hc2' := hcls w2 z2
              have hc3 := hcls w3 z3
              clear hcls z2 z3 x1 x2 y1
              refine wp_region_plan (fun w' => w'.cell? ⟨wr.heap.size, 1, none⟩ = some (.int .i64 s.age) ∧ w'.cell? ⟨wr.heap.size, 2, none⟩ = some (.int .i64 s.line.addr)) (.q 0 (.q 1 (.q 2 (.q 3 (.q 4 (.q 5 (.q 6 (.l1 7 (.l1 8 .stop))))))))) (by kernel_rfl) (by kernel_rfl) (by kernel_rfl) hc1 ?_
              clear hc1
              (refine plan_pure rfl (fun K hK => ?_); go_simp; refine hK _ _ ?_; clear hK K)
              (refine plan_pure rfl (fun K hK => ?_); go_simp; refine hK _ _ ?_; clear hK K)
              (refine plan_val (.int .i64 s.age) rfl (by rfl) (fun w' hC => by obtain ⟨hC1, hC2⟩ := hC; go_simp) (fun K hK => ?_); go_simp; refine hK _ _ ?_; clear hK K)
              (refine plan_pure rfl (fun K hK => ?_); go_simp; refine hK _ _ ?_; clear hK K)
              (refine plan_pure rfl (fun K hK => ?_); go_simp; refine hK _ _ ?_; clear hK K)
              (refine plan_pure rfl (fun K hK => ?_); go_simp; refine hK _ _ ?_; clear hK K)
              (refine plan_val (.int .i64 s.line.addr) rfl (by rfl) (fun w' hC => by obtain ⟨hC1, hC2⟩ := hC; go_simp) (fun K hK => ?_); go_simp; refine hK _ _ ?_; clear hK K)
              refine plan_l1 rfl ?_
              go_wp2
              refine NQ_normal ⟨hc2', ?_⟩
              refine plan_l1 rfl ?_
              go_wp2
              refine NQ_normal ⟨hc3, plan_stop ?_⟩
              go_wp2
              have hk5 : KF w w3 := ((hkr.trans hkw.drew (fun _ _ h => h)).trans hk2 (fun b hb h => by omega)).trans hk3 (fun b hb h => by omega)
              have hb5 := (hk3.box (hk2.box (hkw.drew.box hbox'.out (fun h => h)).1 (by omega)).1 (by omega)).1
              go_roundw
              case rel => exact ⟨m + 1, by omega, by go_num, hk5, hb5, by rw [← hput1.out]; exact hM12.keep hk3 (by omega), by rw [← hput2.out]; exact hM23⟩
              case measure => simp [intOf]; omega
            · first
              | (exfalso; omega)
              | (obtain rfl := hR.empty m s (by omega) hs
                 simp only [Slot.zero, Line.zero, List.length_nil] at u0 u1 u2 u3 u4 u5
                 clear hR hs hRs
                 have hbox' := Lib.hid hbox
                 have hM1' := Lib.hid hM1
                 have hM2' := Lib.hid hM2
                 clear hbox hM1 hM2
                 go_wp2_with fail
                 refine (empty_calls _ _ A1 c1 rfl).mono ?_
                 rintro e w1 ⟨rfl, hk1⟩
                 go_wp2
                 have hk2 : KF wr w1 := ((Keep.refl (fun _ => False) wr).alloc _).trans hk1 (fun _ _ h => h)
                 go_roundw
                 case rel =>
                   have e1 : min (m + 1) k = min m k := by omega
                   exact ⟨m + 1, by omega, by go_num, hkr.trans hk2 (fun _ _ h => h), (hk2.box hbox'.out (fun h => h)).1, by rw [e1]; exact hM1'.out.keep hk2 (fun h => h), by rw [e1]; exact hM2'.out.keep hk2 (fun h => h)⟩
                 case measure => simp [intOf]; omega)
          · obtain rfl : m = l.length := by omega
            clear hcell' hv hR hM1 hM2 hbox
            go_wp2
            go_ret
            exact ⟨rfl, hkr⟩
      · have hkl' : ¬ (k < l.length) := by omega
        clear hcell
        go_wp2
        have hk0 : k ≤ l.length := by omega
        clear hkl
        go_loopw [29] (fun x wr => ∃ m : Nat, m ≤ l.length ∧ x = .int .i64 (m : Int) ∧ KF w wr ∧ wr.heap[w.heap.size]? = some (.cells #[.int .i64 sets, .int .i64 ways, .int .i64 size, .slice A0 n0 c0] 29 (0, 0)) ∧ MapI .i64 wr (w.heap.size + 1) (seen (·.age) (l.take (min m k))) ∧ MapI .i64 wr (w.heap.size + 1 + 1) (seen (·.line.addr) (l.take (min m k)))) (fun x _ => l.length - (intOf x).toNat)
        case atStart => exact ⟨0, Nat.zero_le _, rfl, (((Keep.refl _ w).alloc _).alloc _).alloc _, at_old (at_old (at_new rfl)), ⟨#[], 0, at_old (at_new (by simp)), by simp [seen]⟩, ⟨#[], 0, at_new (by simp), by simp [seen]⟩⟩
        case round =>
          obtain ⟨m, hm, rfl, hkr, hbox, hM1, hM2⟩ := hrel
          by_cases hmt : m < l.length
          · obtain ⟨s, hs⟩ : ∃ s, l[m]? = some s := ⟨_, List.getElem?_eq_getElem hmt⟩
            obtain ⟨b1, off1, hA1, hbl, hSb, hall⟩ := hcell'.out (by rintro rfl; simp at hs)
            first | (simp only [Option.some.injEq, Addr.mk.injEq, and_true] at hA1; obtain ⟨rfl, rfl⟩ := hA1) | subst hA1
            obtain ⟨A1, c1, hRs, u0, u1, u2, u3, u4, u5⟩ := hall m s hs
            rw [← hkr.cell hbl (fun h => h)] at u0 u1 u2 u3 u4 u5
            clear hall hcell' hv
            by_cases hmk : m < k
            · obtain ⟨hu, ha0, ha1, hd0, hd1, hdl, hdm⟩ := hR.used_ m s hmk hs
              have htk : l.take (min m k) = l.take m := by rw [Nat.min_eq_left (by omega)]
              have htk1 : l.take (min (m + 1) k) = l.take m ++ [s] := by rw [Nat.min_eq_left (by omega), List.take_add_one, hs]; rfl
              have hne : ∀ t ∈ l.take m, t.age ≠ s.age ∧ t.line.addr ≠ s.line.addr := fun t ht => by
                obtain ⟨j, hj, rfl⟩ := List.getElem_of_mem ht
                have hjm : j < m := by simp at hj; omega
                rw [List.getElem_take]
                exact hR.ages j m _ s hjm hmk (List.getElem?_eq_getElem (by omega)) hs
              rw [htk] at hM1 hM2
              have hl1 : ∀ o, (Instr.lookup 64 (.map (some (w.heap.size + 1))) (.int .i64 s.age) false).run Try.prog (wr.alloc o) = .ok (.bool false) (wr.alloc o) := fun o => by
                rw [run_lookup_int Try.underlying64 Try.underlying3 (hM1.keep ((Keep.refl (fun _ => False) wr).alloc o) (fun h => h)) s.age _ (zero_bool _), seen_none _ _ _ (fun t ht => (hne t ht).1)]
              have hl2 : ∀ o, (Instr.lookup 64 (.map (some (w.heap.size + 1 + 1))) (.int .i64 s.line.addr) false).run Try.prog (wr.alloc o) = .ok (.bool false) (wr.alloc o) := fun o => by
                rw [run_lookup_int Try.underlying64 Try.underlying3 (hM2.keep ((Keep.refl (fun _ => False) wr).alloc o) (fun h => h)) s.line.addr _ (zero_bool _), seen_none _ _ _ (fun t ht => (hne t ht).2)]
              have hput1 : Hid (putI (seen (·.age) (l.take m)) s.age (.bool true) = seen (·.age) (l.take (min (m + 1) k))) := by
                show _ = _
                rw [htk1]; unfold putI; rw [seen_none _ _ _ (fun t ht => (hne t ht).1)]; simp [seen]
              have hput2 : Hid (putI (seen (·.line.addr) (l.take m)) s.line.addr (.bool true) = seen (·.line.addr) (l.take (min (m + 1) k))) := by
                show _ = _
                rw [htk1]; unfold putI; rw [seen_none _ _ _ (fun t ht => (hne t ht).2)]; simp [seen]
              rw [hu] at u0
              have hb0 : wr.cell? ⟨w.heap.size, 0, none⟩ = some (.int .i64 sets) := cell_of_row wr _ 0 _ _ _ hbox
              have hb2 : wr.cell? ⟨w.heap.size, 2, none⟩ = some (.int .i64 size) := cell_of_row wr _ 2 _ _ _ hbox
              have hwl : w.heap.size < wr.heap.size := (Array.getElem?_eq_some_iff.1 hbox).1
              have hbox' := Lib.hid hbox
              have hM1' := Lib.hid hM1
              have hM2' := Lib.hid hM2
              have hdm' := Lib.hid hdm
              have hdl' := Lib.hid hdl
              have hRs' := Lib.hid hRs
              clear hbox hM1 hM2 htk htk1 hne hdm hdl hR hs hRs hu
              have hdm2 : (s.line.addr % sets != set) = false := by rw [hdm'.out]; simp
              go_wp2_with fail
              refine (lineValid_calls _ _ _ _ _ _ _ _ h3 h4 hdl'.out hd0 hd1).mono ?_
              rintro e w1 ⟨rfl, hk1⟩
              obtain ⟨hX1, x1, x2⟩ := hk1.box (k := wr.heap.size) (at_new rfl) (fun h => h)
              obtain ⟨-, y1, -⟩ := hk1.box (k := w.heap.size) (at_old hbox'.out) (fun h => h)
              have hkw : KF wr w1 := ((Keep.refl (fun _ => False) wr).alloc _).trans hk1 (fun _ _ h => h)
              clear hk1 hl1 hl2 u0 u1 u2 u3 u4 u5 hb0 hb2
              go_wp2_with fail
              obtain ⟨w2, hr2, hM12, hk2⟩ := run_mapUpdate_int (P := Try.prog) (w := w1.drew) Try.underlying64 Try.underlying3 (hM1'.out.keep hkw.drew (fun h => h)) s.age (.bool true)
              obtain ⟨w3, hr3, hM23, hk3⟩ := run_mapUpdate_int (P := Try.prog) (w := w2) Try.underlying64 Try.underlying3 ((hM2'.out.keep hkw.drew (fun h => h)).keep hk2 (by omega)) s.line.addr (.bool true)
              have hM2l := hM2'.out.lt
              have hwl1 : wr.heap.size < w1.heap.size := (Array.getElem?_eq_some_iff.1 hX1).1
              have z2 : ∀ i, w2.cell? ⟨wr.heap.size, i, none⟩ = w1.cell? ⟨wr.heap.size, i, none⟩ := fun i => hk2.cell (p := ⟨wr.heap.size, i, none⟩) hwl1 (by simp; omega)
              have z3 : ∀ i, w3.cell? ⟨wr.heap.size, i, none⟩ = w1.cell? ⟨wr.heap.size, i, none⟩ := fun i => (hk3.cell (p := ⟨wr.heap.size, i, none⟩) (Nat.lt_of_lt_of_le hwl1 hk2.size) (by simp; omega)).trans (z2 i)
              have hcls : ∀ W : World, (∀ i, W.cell? ⟨wr.heap.size, i, none⟩ = w1.cell? ⟨wr.heap.size, i, none⟩) → W.cell? ⟨wr.heap.size, 1, none⟩ = some (.int .i64 s.age) ∧ W.cell? ⟨wr.heap.size, 2, none⟩ = some (.int .i64 s.line.addr) := fun W h => ⟨(h 1).trans (x1 1), (h 2).trans (x1 2)⟩
              have hc1 := hcls w1.drew (fun _ => rfl)
              have hc2' := hcls w2 z2
              have hc3 := hcls w3 z3
              clear hcls z2 z3 x1 x2 y1
              refine wp_region_plan (fun w' => w'.cell? ⟨wr.heap.size, 1, none⟩ = some (.int .i64 s.age) ∧ w'.cell? ⟨wr.heap.size, 2, none⟩ = some (.int .i64 s.line.addr)) (.q 0 (.q 1 (.q 2 (.q 3 (.q 4 (.q 5 (.q 6 (.l1 7 (.l1 8 .stop))))))))) (by kernel_rfl) (by kernel_rfl) (by kernel_rfl) hc1 ?_
              clear hc1
              (refine plan_pure rfl (fun K hK => ?_); go_simp; refine hK _ _ ?_; clear hK K)
              (refine plan_pure rfl (fun K hK => ?_); go_simp; refine hK _ _ ?_; clear hK K)
              (refine plan_val (.int .i64 s.age) rfl (by rfl) (fun w' hC => by obtain ⟨hC1, hC2⟩ := hC; go_simp) (fun K hK => ?_); go_simp; refine hK _ _ ?_; clear hK K)
              (refine plan_pure rfl (fun K hK => ?_); go_simp; refine hK _ _ ?_; clear hK K)
              (refine plan_pure rfl (fun K hK => ?_); go_simp; refine hK _ _ ?_; clear hK K)
              (refine plan_pure rfl (fun K hK => ?_); go_simp; refine hK _ _ ?_; clear hK K)
              (refine plan_val (.int .i64 s.line.addr) rfl (by rfl) (fun w' hC => by obtain ⟨hC1, hC2⟩ := hC; go_simp) (fun K hK => ?_); go_simp; refine hK _ _ ?_; clear hK K)
              refine plan_l1 rfl ?_
              go_wp2
              refine NQ_normal ⟨hc2', ?_⟩
              refine plan_l1 rfl ?_
              go_wp2
              refine NQ_normal ⟨hc3, plan_stop ?_⟩
              go_wp2
              have hk5 : KF w w3 := ((hkr.trans hkw.drew (fun _ _ h => h)).trans hk2 (fun b hb h => by omega)).trans hk3 (fun b hb h => by omega)
              have hb5 := (hk3.box (hk2.box (hkw.drew.box hbox'.out (fun h => h)).1 (by omega)).1 (by omega)).1
              go_roundw
              case rel => exact ⟨m + 1, by omega, by go_num, hk5, hb5, by rw [← hput1.out]; exact hM12.keep hk3 (by omega), by rw [← hput2.out]; exact hM23⟩
              case measure => simp [intOf]; omega
            · first
              | (exfalso; omega)
              | (obtain rfl := hR.empty m s (by omega) hs
                 simp only [Slot.zero, Line.zero, List.length_nil] at u0 u1 u2 u3 u4 u5
                 clear hR hs hRs
                 have hbox' := Lib.hid hbox
                 have hM1' := Lib.hid hM1
                 have hM2' := Lib.hid hM2
                 clear hbox hM1 hM2
                 go_wp2_with fail
                 refine (empty_calls _ _ A1 c1 rfl).mono ?_
                 rintro e w1 ⟨rfl, hk1⟩
                 go_wp2
                 have hk2 : KF wr w1 := ((Keep.refl (fun _ => False) wr).alloc _).trans hk1 (fun _ _ h => h)
                 go_roundw
                 case rel =>
                   have e1 : min (m + 1) k = min m k := by omega
                   exact ⟨m + 1, by omega, by go_num, hkr.trans hk2 (fun _ _ h => h), (hk2.box hbox'.out (fun h => h)).1, by rw [e1]; exact hM1'.out.keep hk2 (fun h => h), by rw [e1]; exact hM2'.out.keep hk2 (fun h => h)⟩
                 case measure => simp [intOf]; omega)
          · obtain rfl : m = l.length := by omega
            clear hcell' hv hR hM1 hM2 hbox
            go_wp2
            go_ret
            exact ⟨rfl, hkr⟩
end Go.Proofs.Ytbcjjenidkgodaa
