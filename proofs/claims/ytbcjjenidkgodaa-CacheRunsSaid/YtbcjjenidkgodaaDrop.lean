/- Drop. -/
import Derived.Test.YtbcjjenidkgodaaDropA
namespace Go.Proofs.Ytbcjjenidkgodaa
open Go Go.RowKit

def Ca.drop (c : Ca) (a : Int) : Ca × Line × Bool :=
  match (c.setAt a).findIdx? (hasAddr a) with
  | none => (c, Line.zero, false)
  | some i => ({ c with slots := dropAt c.slots (c.lo a) c.ways i }, (c.slots.getD (c.lo a + i) Slot.zero).line, true)

set_option maxHeartbeats 2000000 in
theorem drop_calls (w : World) (S : Nat → Prop) (c : Ca) (v : Value) (a : Int) (hv : RSlots w S v c.slots) (hV : ValidC c) (ha : 0 ≤ a) :
    Calls Try.prog 11 #[.agg (cacheCells c v).toArray, .int .i64 a] w fun e w' => ∃ g cap cs2,
      e = .returned (.tuple #[.agg (cacheCells (c.drop a).1 (.slice (some ⟨g, 0, none⟩) (c.drop a).1.slots.length cap)).toArray, .agg cs2.toArray, .bool (c.drop a).2.2]) ∧
      SlotsOwn w' w.heap.size (g < ·) g cap (c.drop a).1.slots ∧ RLine w' (w.heap.size ≤ ·) cs2 (c.drop a).2.1 ∧ w.heap.size ≤ g ∧ KF w w' := by
  have hbnd := hV.bound
  have hpos := hV.pos
  have hab := age_bound hV
  have hcopy := fun W (hW : KF w W) => copy_calls W S c v (hv.below hW) (by intro h; rw [h] at hpos; simp at hpos) (by omega) (fun s hs => (hab s hs).2)
  have hll := Ca.lo_le hV a
  obtain ⟨A, cap0, rfl, hc1, hc2, -⟩ := hv.cases
  have H := Lib.hid hcopy
  have hab' := Lib.hid hab
  clear hcopy hab hv
  go_enter Try.func11, Try.ntmps11
  unfold cacheCells
  go_wp2_with fail
  refine (H.out _ ((((Keep.refl (fun _ => False) w).alloc _).alloc _).alloc _)).mono ?_
  rintro e w1 ⟨g, cap, rfl, hO1, hg1, hk1⟩
  obtain ⟨hY, -, -⟩ := hk1.box (k := w.heap.size + 1) (at_old (at_new (by simp))) (fun h => h)
  obtain ⟨hZ, -, -⟩ := hk1.box (k := w.heap.size + 2) (at_new (by simp)) (fun h => h)
  have hk1w : KF w w1 := ((((Keep.refl (fun _ => False) w).alloc _).alloc _).alloc _).trans hk1 (fun _ _ h => h)
  have hs1 := hk1.size
  have hgl := (hO1.at_ (k := 0) (List.getElem?_eq_getElem (by omega))).1
  have hsz : ∀ o1 o2 o3, (((w.alloc o1).alloc o2).alloc o3).heap.size = w.heap.size + 3 := fun _ _ _ => by simp
  rw [hsz] at hs1 hg1 hO1
  have hO1' := Lib.hid hO1
  clear H hO1 hsz hk1
  unfold cacheCells
  go_wp2_with fail
  have hal := fun o => (Keep.refl (fun _ => False) w1).alloc o
  refine (set_calls0 _ _ c g cap a ((hO1'.out.keep (hal _) (fun _ _ _ h => h) (fun _ _ _ h => h)).reads) hV ha hO1'.out.cap).mono ?_
  rintro e w2 ⟨rfl, hk2⟩
  have hk2w : KF w1 w2 := (hal _).trans hk2 (fun _ _ h => h)
  obtain ⟨hQ, -, -⟩ := hk2.box (k := w1.heap.size) (at_new rfl) (fun h => h)
  have hO2 := hO1'.out.keep hk2w (fun _ _ _ h => h) (fun _ _ _ h => h)
  have hO2' := Lib.hid hO2
  clear hO2 hal hk2
  go_wp2_with fail
  refine (find_calls _ _ _ (c.setAt a) a (hO2'.out.set hV a) (by unfold Ca.setAt; simp; omega)).mono ?_
  rintro e w3 ⟨rfl, hk3⟩
  have hO3 := hO2'.out.keep hk3 (fun _ _ _ h => h) (fun _ _ _ h => h)
  obtain ⟨hQ3, o1, -⟩ := hk3.box hQ (fun h => h)
  obtain ⟨hY3, y1, y2⟩ := (hk2w.trans hk3 (fun _ _ h => h)).box hY (fun h => h)
  obtain ⟨hZ3, z1, z2⟩ := (hk2w.trans hk3 (fun _ _ h => h)).box (k := w.heap.size + 1 + 1) hZ (fun h => h)
  have hk3w : KF w w3 := hk1w.trans (hk2w.trans hk3 (fun _ _ h => h)) (fun _ _ h => h)
  have hO3' := Lib.hid hO3
  have hQ3' := Lib.hid hQ3
  have hs3 : w1.heap.size < w3.heap.size := (Array.getElem?_eq_some_iff.1 hQ3).1
  clear hO3 hO1' hO2' hQ hY hZ hk2w hk3 hk1w hQ3
  rcases idx_cases c a with ⟨hi, hf⟩ | ⟨i, hi, hf⟩
  · rw [hi]
    have hget : c.drop a = (c, Line.zero, false) := by unfold Ca.drop; rw [hf]
    have hget' := Lib.hid hget
    clear hi hf hget
    go_wp2
    rw [hget'.out]
    refine bodyPost_ret (v := .tuple #[.agg #[.int .i64 c.sets, .int .i64 c.ways, .int .i64 c.size, .slice (some ⟨g, 0, none⟩) c.slots.length cap], .agg #[.int .i64 0, .slice none 0 0, .bool false, .bool false], .bool false]) (by simp [results, Try.results11, go_sem, y1, z1]) rfl ?_
    have hfin : ∀ W, Keep (fun b => b = w.heap.size + 1 ∨ b = w.heap.size + 1 + 1) w3 W → SlotsOwn W w.heap.size (g < ·) g cap c.slots ∧ KF w W := fun W h =>
      ⟨(hO3'.out.keep h (fun b hb _ h => by omega) (fun b hb _ h => by omega)).lower (by omega), hk3w.trans h (fun b hb h => by omega)⟩
    refine ⟨g, cap, [.int .i64 0, .slice none 0 0, .bool false, .bool false], rfl, ?_, ⟨_, rfl, Arr.nil _ _ _ _⟩, by omega, ?_⟩
    · exact (hfin _ (by repeat (first | (with_reducible refine Keep.setCell ?_ ?_ _; rotate_left; focus (intro hkb; first | (simp; done) | (simp at hkb; done) | (simp; omega) | omega | (simp at hkb ⊢; omega))) | with_reducible refine Keep.alloc ?_ _ | with_reducible refine Keep.drewN ?_ _ | with_reducible refine Keep.drew ?_ | with_reducible exact Keep.refl _ _ | with_reducible assumption))).1
    · exact (hfin _ (by repeat (first | (with_reducible refine Keep.setCell ?_ ?_ _; rotate_left; focus (intro hkb; first | (simp; done) | (simp at hkb; done) | (simp; omega) | omega | (simp at hkb ⊢; omega))) | with_reducible refine Keep.alloc ?_ _ | with_reducible refine Keep.drewN ?_ _ | with_reducible refine Keep.drew ?_ | with_reducible exact Keep.refl _ _ | with_reducible assumption))).2
  · rw [hi]
    obtain ⟨hiw, hil, s, hs, hs2⟩ := idx_lt hf
    have hget : c.drop a = ({ c with slots := dropAt c.slots (c.lo a) c.ways i }, s.line, true) := by unfold Ca.drop; rw [hf]; simp only [List.getD_eq_getElem?_getD, hs]; rfl
    have hdr : dropAt c.slots (c.lo a) c.ways i = fgo (dstep s.age) (c.lo a) c.ways (shiftAt c.slots (c.lo a) c.ways i) := by unfold dropAt; simp only [List.getD_eq_getElem?_getD, hs]; rfl
    have hdl := dropAt_len hiw hll
    have hget' := Lib.hid hget
    have hdr' := Lib.hid hdr
    have hdl' := Lib.hid hdl
    have hsm := (hab'.out s (List.mem_of_getElem? hs)).1
    clear hi hf hget hs2 hdr hdl
    obtain ⟨lo, hlo⟩ : ∃ lo, c.lo a = lo := ⟨_, rfl⟩
    rw [hlo] at hdr' hll hil hs hget' hdl' ⊢
    obtain ⟨cs1, cs2'⟩ := hO3'.out.cap
    obtain ⟨-, -, hfz, A5, c5, hA5, u0, u1, u2, u3, u4, u5⟩ := hO3'.out.at_ hs
    have e1 : (lo + i) * 6 = lo * 6 + i * 6 := by omega
    rw [e1] at u0 u1 u2 u3 u4 u5
    have hA5' := Lib.hid hA5
    have hY3' := Lib.hid hY3
    have hZ3' := Lib.hid hZ3
    have hs' := Lib.hid hs
    clear hA5 e1 hY3 hZ3 hs hlo
    go_wp2_with fail
    have hO4 := hO3'.out.keep ((Keep.refl (fun _ => False) w3).alloc (.cells #[.bool s.used, .int .i64 s.age, .int .i64 s.line.addr, .slice A5 s.line.data.length c5, .bool s.line.dirty, .bool s.line.poison] 55)).drew (fun _ _ _ h => h) (fun _ _ _ h => h)
    have hw1 : IntKind.i64.wrap ((i : Int) + 1) = (i : Int) + 1 := IntWalk.i64_in _ (by omega)
    have hq1 : (i : Int) ≤ (c.ways : Int) := by omega
    have hq2 : (i : Int) + 1 ≤ (c.ways : Int) := by omega
    have hq3 : ((i : Int) + 1).toNat = i + 1 := by omega
    have hq4 : ¬ cap - lo = i := by omega
    have hq5 : 0 ≤ (i : Int) + 1 := by omega
    clear u0 u1 u2 u3 u4 u5 hfz y1 y2 z1 z2 o1
    refine wp_region_plan (fun W => W.heap.size = W.heap.size) (.q 0 (.q 1 (.q 2 (.q 3 (.q 4 (.q 5 (.q 6 (.l1 7 .stop)))))))) (by kernel_rfl) (by kernel_rfl) (by kernel_rfl) rfl ?_
    iterate 7 (first | (refine plan_pure rfl (fun K hK => ?_); go_simp; refine hK _ _ ?_; clear hK K) | (refine plan_val ?_ rfl (by rfl) (fun w' hC => ?_) (fun K hK => ?_); rotate_left; (focus (go_simp; try rfl)); go_simp; refine hK _ _ ?_; clear hK K))
    refine plan_l1 rfl ?_
    obtain ⟨i0, hi0, hz0, hz1, hz2⟩ := info_parts info_slot
    obtain ⟨css, hOc, hRc⟩ := hO4
    have hcl : css.length = c.slots.length := hRc.1
    have hOc' := Lib.hid hOc
    have hRc' := Lib.hid hRc
    clear hOc hRc
    refine wpList_copy_rows rfl (.tmp 30) (.tmp 34) 27 rfl 55 i0 6 Try.underlying27 hi0 hz1 (by decide) _ g _ cap _ hOc'.out (lo + i) (c.ways - i) (cap - lo - i) ?o5 (by omega) _ _ _ rfl (hOc'.out.part lo c.ways i hiw hll cs1) (c.ways - i - 1) (by simp; omega) ?_
    case o5 => rw [show (lo + i) * 6 = lo * 6 + i * 6 by omega]; rfl
    intro w4 hOw4 hkw4
    have hO5 := SlotsOwn.close ⟨css, hOc'.out, hRc'.out⟩ lo c.ways i hiw hll hkw4 (fun b hb => by have : g < b := hb; omega) css hRc'.out hOw4
    have hk4 : Keep (· = g) w3 w4 := ((Keep.refl (· = g) w3).alloc (.cells #[.bool s.used, .int .i64 s.age, .int .i64 s.line.addr, .slice A5 s.line.data.length c5, .bool s.line.dirty, .bool s.line.poison] 55)).drew.trans hkw4 (fun b _ h => h)
    obtain ⟨hG, g1, -⟩ := hkw4.box (k := w3.heap.size) (at_new rfl) (by omega)
    obtain ⟨hQ4, o4, -⟩ := hk4.box hQ3'.out (by omega)
    obtain ⟨hY4, y4, y5⟩ := hk4.box hY3'.out (by omega)
    obtain ⟨hZ4, z4, z5⟩ := hk4.box (k := w.heap.size + 1 + 1) hZ3'.out (by omega)
    have hcl2 := closeAt_len hiw hll
    obtain ⟨sk, hsk⟩ : ∃ sk, (closeAt c.slots lo c.ways i)[lo + c.ways - 1]? = some sk := ⟨_, List.getElem?_eq_getElem (by omega)⟩
    obtain ⟨-, -, hfz, A6, c6, -, u0, u1, u2, u3, u4, u5⟩ := hO5.at_ hsk
    rw [show (lo + c.ways - 1) * 6 = lo * 6 + (c.ways - 1) * 6 by omega] at u0 u1 u2 u3 u4 u5
    have hset := hO5.setSlot (k := lo + c.ways - 1) (by omega) (fun b hb => by have : g < b := hb; omega) Slot.zero none 0 (Arr.nil _ _ _ _)
    have hss : (closeAt c.slots lo c.ways i).set (lo + c.ways - 1) Slot.zero = shiftAt c.slots lo c.ways i := rfl
    rw [hss, show (lo + c.ways - 1) * 6 = lo * 6 + (c.ways - 1) * 6 by omega] at hset
    have hset' := Lib.hid hset
    have hk4' := Lib.hid hk4
    have hG' := Lib.hid hG
    have hQ4' := Lib.hid hQ4
    have hY4' := Lib.hid hY4
    have hZ4' := Lib.hid hZ4
    have hO5' := Lib.hid hO5
    clear hsk hset hss hcl2 hO5 hk4 hG hQ4 hY4 hZ4 hOw4 hkw4 hOc' hRc' hcl hz0 hz1 hz2 hi0
    have hq6 : ((c.ways : Int) - 1).toNat = c.ways - 1 := by omega
    have hw2 : wrap64 ((c.ways : Int) - 1) = (c.ways : Int) - 1 := IntWalk.wrap64_in _ (by omega)
    generalize (if cap - lo = i + 1 then (some ⟨g, lo * 6, none⟩ : Option Addr) else some ⟨g, lo * 6 + (i + 1) * 6, none⟩) = A34
    go_wp2
    refine NQ_normal (plan_stop ?_)
    have hk5 : Keep (· = g) w4 ((((((w4.setCell ⟨g, lo * 6 + (c.ways - 1) * 6, none⟩ (.bool Slot.zero.used)).setCell ⟨g, lo * 6 + (c.ways - 1) * 6 + 1, none⟩ (.int .i64 Slot.zero.age)).setCell ⟨g, lo * 6 + (c.ways - 1) * 6 + 2, none⟩ (.int .i64 Slot.zero.line.addr)).setCell ⟨g, lo * 6 + (c.ways - 1) * 6 + 3, none⟩ (.slice none Slot.zero.line.data.length 0)).setCell ⟨g, lo * 6 + (c.ways - 1) * 6 + 4, none⟩ (.bool Slot.zero.line.dirty)).setCell ⟨g, lo * 6 + (c.ways - 1) * 6 + 5, none⟩ (.bool Slot.zero.line.poison)) := (by repeat (first | (with_reducible refine Keep.setCell ?_ ?_ _; rotate_left; focus (intro hkb; first | (simp; done) | (simp at hkb; done) | (simp; omega) | omega | (simp at hkb ⊢; omega))) | with_reducible refine Keep.alloc ?_ _ | with_reducible refine Keep.drewN ?_ _ | with_reducible refine Keep.drew ?_ | with_reducible exact Keep.refl _ _ | with_reducible assumption))
    have hk5' := Lib.hid hk5
    clear hk5
    go_wp2
    have hsl := shiftAt_len hiw hll
    have hsage : ∀ s ∈ shiftAt c.slots lo c.ways i, -1000 ≤ s.age ∧ s.age ≤ 1000 := fun t ht => by
      rcases shiftAt_mem ht with h | rfl
      · exact (hab'.out t h).1
      · simp [Slot.zero]
    clear u0 u1 u2 u3 u4 u5 hfz hO5' o4 y4 y5 z4 z5 g1 hab'
    go_loopw [44] (fun x wr => ∃ k : Nat, k ≤ c.ways ∧ x = .int .i64 (k : Int) ∧ SlotsOwn wr (w.heap.size + 3) (g < ·) g cap (fgo (dstep s.age) lo k (shiftAt c.slots lo c.ways i)) ∧ Keep (· = g) w4 wr) (fun x _ => c.ways - (intOf x).toNat)
    case atStart => exact ⟨0, Nat.zero_le _, rfl, hset'.out, hk5'.out⟩
    case round =>
      obtain ⟨k, hk, rfl, hOr, hkr⟩ := hrel
      obtain ⟨ss, hss⟩ : ∃ ss, ss = shiftAt c.slots lo c.ways i := ⟨_, rfl⟩
      rw [← hss] at hOr hsl hsage
      have hss' := Lib.hid hss
      clear hss hset' hk5'
      by_cases hlt : k < c.ways
      · obtain ⟨sk, hsk⟩ : ∃ sk, ss[lo + k]? = some sk := ⟨_, List.getElem?_eq_getElem (by omega)⟩
        have htk : (fgo (dstep s.age) lo k ss)[lo + k]? = some sk := by rw [fgo_get, if_neg (by omega), hsk]
        have hsa' : -1000 ≤ sk.age ∧ sk.age ≤ 1000 := hsage sk (List.mem_of_getElem? hsk)
        obtain ⟨hgw, hbg, hfz, A1, c1, -, u1, u2, -⟩ := hOr.at_ htk
        obtain ⟨-, g2, -⟩ := hkr.box hG'.out (by omega)
        have e1 : (lo + k) * 6 = lo * 6 + k * 6 := by omega
        have hstep : fgo (dstep s.age) lo (k + 1) ss = (fgo (dstep s.age) lo k ss).set (lo + k) (dstep s.age sk) := by
          simp only [fgo, List.getD_eq_getElem?_getD, htk]; rfl
        have hset := hOr.setAge htk (fun b hb => by have : g < b := hb; omega) (sk.age - 1)
        rw [e1] at u1 u2 hset
        have f1 := hfz (lo * 6 + k * 6 + 1)
        have hH := Lib.hid hstep
        have hsame : Hid ((fgo (dstep s.age) lo k ss).set (lo + k) sk = fgo (dstep s.age) lo k ss) := set_self htk
        have hbd : lo * 6 + c.ways * 6 ≤ 6000 := by omega
        clear hstep e1 htk hfz hsk hsage A1 c1
        by_cases hu : sk.used = true
        · rw [hu] at u1
          by_cases ha : s.age < sk.age
          · have hts : Hid (dstep s.age sk = { sk with age := sk.age - 1 }) := by unfold dstep; rw [if_pos (by simp [hu, ha])]; rfl
            clear hu
            go_wp2_with fail
            go_quiet (fail)
            go_wp2
            go_roundw
            case rel => exact ⟨k + 1, by omega, by go_num, by rw [← hss'.out, hH.out, hts.out]; exact hset, (hkr.drewN nq).trans (Keep.set1 _ _ _ _) (fun _ _ h => h)⟩
            case measure => simp [intOf]; omega
          · have hts : Hid (dstep s.age sk = sk) := by unfold dstep; rw [if_neg (by simp [ha])]; rfl
            clear hu hset
            go_wp2_with fail
            go_quiet (fail)
            go_wp2
            go_roundw
            case rel => exact ⟨k + 1, by omega, by go_num, by rw [← hss'.out, hH.out, hts.out, hsame.out]; exact hOr, hkr.drewN nq⟩
            case measure => simp [intOf]; omega
        · have hts : Hid (dstep s.age sk = sk) := by unfold dstep; rw [if_neg (by simp [hu])]; rfl
          rw [show sk.used = false by simpa using hu] at u1
          clear hu hset
          go_wp2_with fail
          go_quiet (fail)
          go_wp2
          go_roundw
          case rel => exact ⟨k + 1, by omega, by go_num, by rw [← hss'.out, hH.out, hts.out, hsame.out]; exact hOr, hkr.drewN nq⟩
          case measure => simp [intOf]; omega
      · obtain rfl : k = c.ways := by omega
        have hend : Hid (fgo (dstep s.age) lo c.ways ss = dropAt c.slots lo c.ways i) := by show _ = _; rw [hdr'.out, hss'.out]
        obtain ⟨-, g2, -⟩ := hkr.box hG'.out (by omega)
        obtain ⟨hQ5, o5, -⟩ := hkr.box hQ4'.out (by omega)
        obtain ⟨hY5, y6, y7⟩ := hkr.box hY4'.out (by omega)
        obtain ⟨hZ5, z6, z7⟩ := hkr.box (k := w.heap.size + 1 + 1) hZ4'.out (by omega)
        have hG2 : w3.heap.size < w4.heap.size := (Array.getElem?_eq_some_iff.1 hG'.out).1
        have hkwr : KF w wr := (hk3w.trans hk4'.out (fun b hb h => by omega)).trans hkr (fun b hb h => by omega)
        have hk3r : Keep (· = g) w3 wr := hk4'.out.trans hkr (fun _ _ h => h)
        rw [hend.out] at hOr
        have hfin : ∀ W, Keep (fun b => b = w.heap.size + 1 ∨ b = w.heap.size + 1 + 1) wr W → SlotsOwn W w.heap.size (g < ·) g cap (dropAt c.slots lo c.ways i) ∧ Arr W (w.heap.size ≤ ·) 5 1 (.slice A5 s.line.data.length c5) (bcells s.line.data) ∧ KF w W := fun W hW =>
          ⟨(hOr.keep hW (fun b hb _ h => by omega) (fun b hb _ h => by omega)).lower (by omega),
            ((hA5'.out.keep hk3r (fun b hb h => by omega)).keep hW (fun b hb h => by omega)).mono (fun b hb _ => by omega),
            hkwr.trans hW (fun b hb h => by omega)⟩
        have hwr : w4.heap.size ≤ wr.heap.size := hkr.size
        have hC : ∀ W, Keep (fun b => b = w.heap.size + 1 ∨ b = w.heap.size + 1 + 1) wr W → (∀ i, W.cell? ⟨w1.heap.size, i, none⟩ = #[Value.int .i64 c.sets, .int .i64 c.ways, .int .i64 c.size, .slice (some ⟨g, 0, none⟩) c.slots.length cap][i]?) ∧
            (∀ i, W.cell? ⟨w3.heap.size, i, none⟩ = #[Value.bool s.used, .int .i64 s.age, .int .i64 s.line.addr, .slice A5 s.line.data.length c5, .bool s.line.dirty, .bool s.line.poison][i]?) := fun W hW =>
          ⟨fun i => (hW.cell (p := ⟨w1.heap.size, i, none⟩) (show w1.heap.size < wr.heap.size by omega) (by simp only [not_or]; omega)).trans (o5 i), fun i => (hW.cell (p := ⟨w3.heap.size, i, none⟩) (show w3.heap.size < wr.heap.size by omega) (by simp only [not_or]; omega)).trans (g2 i)⟩
        have hC' := Lib.hid hC
        have hfin' := Lib.hid hfin
        clear hC hfin hend hOr hkr hQ5 hY5 hZ5 hkwr hk3r hsage hw1 hw2 hq1 hq2 hq3 hq4 hq5 hq6
        go_wp2_with fail
        refine wp_region_plan (fun W => (∀ i, W.cell? ⟨w1.heap.size, i, none⟩ = #[Value.int .i64 c.sets, .int .i64 c.ways, .int .i64 c.size, .slice (some ⟨g, 0, none⟩) c.slots.length cap][i]?) ∧
            (∀ i, W.cell? ⟨w3.heap.size, i, none⟩ = #[Value.bool s.used, .int .i64 s.age, .int .i64 s.line.addr, .slice A5 s.line.data.length c5, .bool s.line.dirty, .bool s.line.poison][i]?))
          (.q 0 (.q 1 (.q 2 (.l1 3 (.l1 4 (.l1 5 .stop)))))) (by kernel_rfl) (by kernel_rfl) (by kernel_rfl) ⟨o5, g2⟩ ?_
        iterate 3 (first | (refine plan_pure rfl (fun K hK => ?_); go_simp; refine hK _ _ ?_; clear hK K) | (refine plan_val ?_ rfl (by rfl) (fun w' hC => ?_) (fun K hK => ?_); rotate_left; (focus (go_simp; try rfl)); go_simp; refine hK _ _ ?_; clear hK K))
        clear o5 g2
        refine plan_l1 rfl ?_
        go_wp2
        refine NQ_normal ⟨hC'.out _ (by repeat (first | (with_reducible refine Keep.setCell ?_ ?_ _; rotate_left; focus (intro hkb; first | (simp; done) | (simp at hkb; done) | (simp; omega) | omega | (simp at hkb ⊢; omega))) | with_reducible refine Keep.alloc ?_ _ | with_reducible refine Keep.drewN ?_ _ | with_reducible refine Keep.drew ?_ | with_reducible exact Keep.refl _ _ | with_reducible assumption)), ?_⟩
        refine plan_l1 rfl ?_
        go_wp2
        refine NQ_normal ⟨hC'.out _ (by repeat (first | (with_reducible refine Keep.setCell ?_ ?_ _; rotate_left; focus (intro hkb; first | (simp; done) | (simp at hkb; done) | (simp; omega) | omega | (simp at hkb ⊢; omega))) | with_reducible refine Keep.alloc ?_ _ | with_reducible refine Keep.drewN ?_ _ | with_reducible refine Keep.drew ?_ | with_reducible exact Keep.refl _ _ | with_reducible assumption)), ?_⟩
        refine plan_l1 rfl ?_
        go_wp2
        refine NQ_normal ⟨hC'.out _ (by repeat (first | (with_reducible refine Keep.setCell ?_ ?_ _; rotate_left; focus (intro hkb; first | (simp; done) | (simp at hkb; done) | (simp; omega) | omega | (simp at hkb ⊢; omega))) | with_reducible refine Keep.alloc ?_ _ | with_reducible refine Keep.drewN ?_ _ | with_reducible refine Keep.drew ?_ | with_reducible exact Keep.refl _ _ | with_reducible assumption)), plan_stop ?_⟩
        go_wp2
        rw [hget'.out]
        refine bodyPost_ret (v := .tuple #[.agg #[.int .i64 c.sets, .int .i64 c.ways, .int .i64 c.size, .slice (some ⟨g, 0, none⟩) c.slots.length cap], .agg #[.int .i64 s.line.addr, .slice A5 s.line.data.length c5, .bool s.line.dirty, .bool s.line.poison], .bool true]) (by simp [results, Try.results11, go_sem, y6, z6]) rfl ?_
        refine ⟨g, cap, [.int .i64 s.line.addr, .slice A5 s.line.data.length c5, .bool s.line.dirty, .bool s.line.poison], ?_, ?_, ⟨_, rfl, ?_⟩, by omega, ?_⟩
        · simp only [cacheCells, hdl'.out]
        · exact (hfin'.out _ (by repeat (first | (with_reducible refine Keep.setCell ?_ ?_ _; rotate_left; focus (intro hkb; first | (simp; done) | (simp at hkb; done) | (simp; omega) | omega | (simp at hkb ⊢; omega))) | with_reducible refine Keep.alloc ?_ _ | with_reducible refine Keep.drewN ?_ _ | with_reducible refine Keep.drew ?_ | with_reducible exact Keep.refl _ _ | with_reducible assumption))).1
        · exact (hfin'.out _ (by repeat (first | (with_reducible refine Keep.setCell ?_ ?_ _; rotate_left; focus (intro hkb; first | (simp; done) | (simp at hkb; done) | (simp; omega) | omega | (simp at hkb ⊢; omega))) | with_reducible refine Keep.alloc ?_ _ | with_reducible refine Keep.drewN ?_ _ | with_reducible refine Keep.drew ?_ | with_reducible exact Keep.refl _ _ | with_reducible assumption))).2.1
        · exact (hfin'.out _ (by repeat (first | (with_reducible refine Keep.setCell ?_ ?_ _; rotate_left; focus (intro hkb; first | (simp; done) | (simp at hkb; done) | (simp; omega) | omega | (simp at hkb ⊢; omega))) | with_reducible refine Keep.alloc ?_ _ | with_reducible refine Keep.drewN ?_ _ | with_reducible refine Keep.drew ?_ | with_reducible exact Keep.refl _ _ | with_reducible assumption))).2.2
end Go.Proofs.Ytbcjjenidkgodaa
