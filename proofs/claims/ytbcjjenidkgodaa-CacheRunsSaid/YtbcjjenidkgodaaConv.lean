/- The contracts of the package cache, as the abstract walk needs them. -/
import Derived.Test.YtbcjjenidkgodaaDiceB
import Derived.Test.YtbcjjenidkgodaaPlainC
namespace Go.Proofs.Ytbcjjenidkgodaa
open Go Go.RowKit

section
variable {S S' : Nat → Prop} {w w' : World} {φ : Nat → Option Loc} {e sz : Nat} {v : Value}

theorem arr_of_rep {rows : List (List CV)} (h : Rep S w φ (.lst e rows) v) (he : e ≠ 0) (hr : ∀ r ∈ rows, r.length = sz) :
    ∃ css, Arr w S e sz v css ∧ css.length = rows.length ∧ ∀ (i : Nat) r cs, rows[i]? = some r → css[i]? = some cs → All2 (Rep S w (fun _ => none)) r cs := by
  cases h with
  | nil h => exact ⟨[], Arr.empty _ _ _ _ _ _ h, rfl, fun i r cs h => by simp at h⟩
  | @lst _ _ _ b o c sz' e1' C fz h1 h2 h0 h3 h4 h5 h6 h7 =>
    obtain rfl : e1' = e := h0.resolve_left he
    by_cases hne : rows = []
    · subst hne; exact ⟨[], Arr.empty _ _ _ _ _ _ h4, rfl, fun i r cs h => by simp at h⟩
    · obtain ⟨r0, hr0⟩ : ∃ r0, rows[0]? = some r0 := ⟨_, List.getElem?_eq_getElem (List.length_pos_iff.2 hne)⟩
      have hs : sz' = sz := by rw [← h5 r0 (List.mem_of_getElem? hr0), hr r0 (List.mem_of_getElem? hr0)]
      subst hs
      have cell : ∀ i r j x, rows[i]? = some r → r[j]? = some x → ∃ y, (C[o + i * sz' + j]?).getD undef = y ∧ C[o + i * sz' + j]? = some y ∧ Rep S w (fun _ => none) x y := fun i r j x a b => by
        obtain ⟨y, hy⟩ := h6 i r j x a b
        exact ⟨y, by rw [hy]; rfl, hy, h7 i r j x y a b hy⟩
      refine ⟨(List.range rows.length).map fun i => (List.range sz').map fun j => (C[o + i * sz' + j]?).getD undef, ⟨_, _, by simp, by simpa using h3, h4, fun cs hcs => ?_, fun _ => ⟨b, o, C, fz, rfl, h1, h2, fun i cs hi j x hj => ?_⟩⟩, by simp, fun i r cs hi hc => ?_⟩
      · obtain ⟨i, hi, rfl⟩ := List.mem_map.1 hcs
        refine ⟨by simp, fun x hx => ?_⟩
        obtain ⟨j, hj, rfl⟩ := List.mem_map.1 hx
        have hi' : i < rows.length := by simpa using hi
        have hj' : j < (rows[i]).length := by rw [h5 _ (List.getElem_mem hi')]; simpa using hj
        obtain ⟨y, g1, g2, g3⟩ := cell i _ j _ (List.getElem?_eq_getElem hi') (List.getElem?_eq_getElem hj')
        rw [g1]; exact g3.one
      · rw [List.getElem?_map] at hi
        obtain ⟨q, hq, rfl⟩ := Option.map_eq_some_iff.1 hi
        have hil : i < rows.length := by have := (List.getElem?_eq_some_iff.1 hq).1; simpa using this
        rw [List.getElem?_range hil] at hq
        obtain rfl := Option.some.inj hq
        rw [List.getElem?_map] at hj
        obtain ⟨q, hq, rfl⟩ := Option.map_eq_some_iff.1 hj
        have hjl : j < sz' := by have := (List.getElem?_eq_some_iff.1 hq).1; simpa using this
        rw [List.getElem?_range hjl] at hq
        obtain rfl := Option.some.inj hq
        obtain ⟨y, g1, g2, g3⟩ := cell i _ j _ (List.getElem?_eq_getElem hil) (List.getElem?_eq_getElem (by rw [h5 _ (List.getElem_mem hil)]; exact hjl))
        rw [g1]; exact g2
      · have hil := (List.getElem?_eq_some_iff.1 hi).1
        rw [List.getElem?_map, List.getElem?_range hil] at hc
        obtain rfl := Option.some.inj hc
        refine ⟨by simp [h5 r (List.mem_of_getElem? hi)], fun j x y hx hy => ?_⟩
        obtain ⟨y', g1, g2, g3⟩ := cell i r j x hi hx
        rw [List.getElem?_map] at hy
        obtain ⟨q, hq, rfl⟩ := Option.map_eq_some_iff.1 hy
        have hjl : j < sz' := by have := (List.getElem?_eq_some_iff.1 hq).1; simpa using this
        rw [List.getElem?_range hjl] at hq
        obtain rfl := Option.some.inj hq
        rw [g1]; exact g3

theorem rep_of_arr {css : List (List Value)} {rows : List (List CV)} (h : Arr w S e sz v css) (hl : css.length = rows.length) (hr : ∀ (i : Nat) r cs, rows[i]? = some r → css[i]? = some cs → All2 (Rep S w (fun _ => none)) r cs) : Rep S w φ (.lst e rows) v := by
  obtain ⟨A, c, rfl, h1, h2, h3, h4⟩ := h
  by_cases hne : css = []
  · subst hne
    have : rows = [] := List.eq_nil_of_length_eq_zero (by simpa using hl.symm)
    subst this
    exact .nil h2
  · obtain ⟨b, off, C, fz, rfl, hS, hb, hc⟩ := h4 hne
    have at_ : ∀ i r, rows[i]? = some r → ∃ cs, css[i]? = some cs := fun i r hi => ⟨_, List.getElem?_eq_getElem (by rw [hl]; exact (List.getElem?_eq_some_iff.1 hi).1)⟩
    rw [hl]
    refine .lst (sz := sz) hS hb (.inr rfl) (by omega) h2 (fun r hrm => ?_) (fun i r j x hi hj => ?_) (fun i r j x y hi hj hy => ?_)
    · obtain ⟨i, hi, rfl⟩ := List.getElem_of_mem hrm
      obtain ⟨cs, hcs⟩ := at_ i _ (List.getElem?_eq_getElem hi)
      rw [(hr i _ cs (List.getElem?_eq_getElem hi) hcs).1]
      exact (h3 cs (List.mem_of_getElem? hcs)).1
    · obtain ⟨cs, hcs⟩ := at_ i r hi
      obtain ⟨y, hy, _⟩ := (hr i r cs hi hcs).get hj
      exact ⟨y, hc i cs hcs j y hy⟩
    · obtain ⟨cs, hcs⟩ := at_ i r hi
      obtain ⟨y', hy', hx⟩ := (hr i r cs hi hcs).get hj
      have := hc i cs hcs j y' hy'
      rw [hy] at this
      obtain rfl := Option.some.inj this
      exact hx

theorem bytes_arr {l : List UInt8} (h : Rep S w φ (.lst e (bytesR l)) v) (he : e ≠ 0) : Arr w S e 1 v (bcells l) := by
  obtain ⟨css, h1, h2, h3⟩ := arr_of_rep h he (bytesR_row l)
  have : css = bcells l := by
    apply List.ext_getElem?
    intro i
    rw [bytesR_len] at h2
    by_cases hi : i < l.length
    · have h4 := List.getElem?_eq_getElem (l := css) (i := i) (by omega)
      have h5 := h3 i [.v (.int .u8 (l[i].toNat))] _ (by simp [bytesR, List.getElem?_eq_getElem hi]) h4
      have h6 := h5.1
      rw [h4]
      simp only [bcells, List.getElem?_map, List.getElem?_eq_getElem hi, Option.map_some, Option.some.injEq]
      generalize css[i] = cs at *
      rcases cs with _ | ⟨x, _ | ⟨_, _⟩⟩
      · simp at h6
      · have := repF_x (x := .int .u8 (l[i].toNat)) (y := x) (φ := fun _ => none) (S := S) (w := w) (h5.2 0 _ _ rfl rfl)
        rw [this]
      · simp at h6
    · rw [List.getElem?_eq_none (by omega), List.getElem?_eq_none (by simp [bcells]; omega)]
  rw [← this]; exact h1

theorem bytes_rep {l : List UInt8} (h : Arr w S e 1 v (bcells l)) : Rep S w φ (.lst e (bytesR l)) v := by
  refine rep_of_arr h (by rw [bcells_len, bytesR_len]) (fun i r cs hi hc => ?_)
  simp only [bytesR, bcells, List.getElem?_map] at hi hc
  obtain ⟨b, hb, rfl⟩ := Option.map_eq_some_iff.1 hi
  rw [hb] at hc
  obtain rfl := Option.some.inj hc
  exact All2.cons (.v rfl) (All2.nil _)
end

def encLine (x : Line) : List CV := [.v (.int .i64 x.addr), .lst 5 (bytesR x.data), .v (.bool x.dirty), .v (.bool x.poison)]
def encSlot (s : Slot) : List CV := [.v (.bool s.used), .v (.int .i64 s.age), .v (.int .i64 s.line.addr), .lst 5 (bytesR s.line.data), .v (.bool s.line.dirty), .v (.bool s.line.poison)]
def encCa (c : Ca) : List CV := [.v (.int .i64 c.sets), .v (.int .i64 c.ways), .v (.int .i64 c.size), .lst 55 (c.slots.map encSlot)]

section
variable {S S' : Nat → Prop} {w w' : World} {φ : Nat → Option Loc} {v : Value}
theorem all2_get {xs : List CV} {cs : List Value} (h : All2 (Rep S w φ) xs cs) (j : Nat) {x : CV} (hx : xs[j]? = some x) : ∃ y, cs[j]? = some y ∧ Rep S w φ x y := h.get hx
theorem line_rep {x : Line} {cs : List Value} (h : RLine w S cs x) : All2 (Rep S w φ) (encLine x) cs := by
  obtain ⟨u, rfl, hu⟩ := h
  exact All2.cons (.v rfl) (All2.cons (bytes_rep hu) (All2.cons (.v rfl) (All2.cons (.v rfl) (All2.nil _))))
theorem line_of {x : Line} {cs : List Value} (h : All2 (Rep S w φ) (encLine x) cs) : RLine w S cs x := by
  have hl := h.1
  rcases cs with _ | ⟨c0, _ | ⟨c1, _ | ⟨c2, _ | ⟨c3, _ | ⟨_, _⟩⟩⟩⟩⟩ <;> simp [encLine] at hl
  have h0 := repF_x (h.2 0 _ _ rfl rfl)
  have h1 := bytes_arr (h.2 1 _ _ rfl rfl) (by decide)
  have h2 := repF_x (h.2 2 _ _ rfl rfl)
  have h3 := repF_x (h.2 3 _ _ rfl rfl)
  subst h0; subst h2; subst h3
  exact ⟨c1, rfl, h1⟩
theorem slot_rep {x : Slot} {cs : List Value} (h : RSlot w S cs x) : All2 (Rep S w φ) (encSlot x) cs := by
  obtain ⟨u, rfl, hu⟩ := h
  exact All2.cons (.v rfl) (All2.cons (.v rfl) (All2.cons (.v rfl) (All2.cons (bytes_rep hu) (All2.cons (.v rfl) (All2.cons (.v rfl) (All2.nil _))))))
theorem slotOf {x : Slot} {cs : List Value} (h : All2 (Rep S w φ) (encSlot x) cs) : RSlot w S cs x := by
  have hl := h.1
  rcases cs with _ | ⟨c0, _ | ⟨c1, _ | ⟨c2, _ | ⟨c3, _ | ⟨c4, _ | ⟨c5, _ | ⟨_, _⟩⟩⟩⟩⟩⟩⟩ <;> simp [encSlot] at hl
  have h0 := repF_x (h.2 0 _ _ rfl rfl)
  have h1 := repF_x (h.2 1 _ _ rfl rfl)
  have h2 := repF_x (h.2 2 _ _ rfl rfl)
  have h3 := bytes_arr (h.2 3 _ _ rfl rfl) (by decide)
  have h4 := repF_x (h.2 4 _ _ rfl rfl)
  have h5 := repF_x (h.2 5 _ _ rfl rfl)
  subst h0; subst h1; subst h2; subst h4; subst h5
  exact ⟨c3, rfl, h3⟩
theorem slots_rep {ss : List Slot} (h : RSlots w S v ss) : Rep S w φ (.lst 55 (ss.map encSlot)) v := by
  obtain ⟨css, h1, h2⟩ := h
  refine rep_of_arr h1 (by rw [h2.1, List.length_map]) (fun i r cs hi hc => ?_)
  rw [List.getElem?_map] at hi
  obtain ⟨s, hs, rfl⟩ := Option.map_eq_some_iff.1 hi
  exact slot_rep (h2.2 i cs s hc hs)
theorem slots_of {ss : List Slot} (h : Rep S w φ (.lst 55 (ss.map encSlot)) v) : RSlots w S v ss := by
  obtain ⟨css, h1, h2, h3⟩ := arr_of_rep (sz := 6) h (by decide) (fun r hr => by obtain ⟨s, _, rfl⟩ := List.mem_map.1 hr; rfl)
  refine ⟨css, h1, by simpa using h2, fun i cs s hc hs => slotOf (h3 i _ cs (by rw [List.getElem?_map, hs]; rfl) hc)⟩
theorem ca_rep {c : Ca} (h : RSlots w S v c.slots) : All2 (Rep S w φ) (encCa c) (cacheCells c v) := by
  unfold cacheCells
  exact All2.cons (.v rfl) (All2.cons (.v rfl) (All2.cons (.v rfl) (All2.cons (slots_rep h) (All2.nil _))))
theorem ca_of {c : Ca} {cs : List Value} (h : All2 (Rep S w φ) (encCa c) cs) : ∃ v, cs = cacheCells c v ∧ RSlots w S v c.slots := by
  have hl := h.1
  rcases cs with _ | ⟨c0, _ | ⟨c1, _ | ⟨c2, _ | ⟨c3, _ | ⟨_, _⟩⟩⟩⟩⟩ <;> simp [encCa] at hl
  have h0 := repF_x (h.2 0 _ _ rfl rfl)
  have h1 := repF_x (h.2 1 _ _ rfl rfl)
  have h2 := repF_x (h.2 2 _ _ rfl rfl)
  have h3 := slots_of (h.2 3 _ _ rfl rfl)
  subst h0; subst h1; subst h2
  exact ⟨c3, by unfold cacheCells; rfl, h3⟩
end

/-- What a call that only makes memory leaves. -/
def Sx (S : Nat → Prop) (w w' : World) (b : Nat) : Prop := S b ∨ (w.heap.size ≤ b ∧ b < w'.heap.size)
theorem post_kf {S : Nat → Prop} {w w' : World} {φ : Nat → Option Loc} (hk : KF w w') (hlt : ∀ b, S b → b < w.heap.size) : Post S (Sx S w w') w w' φ (fun _ => none) none1 none1 := by
  have e0 : ∀ id k, none1 id = some k → False := fun id k h => by cases h
  refine ⟨⟨fun id k h => (e0 id k h).elim, fun id _ k _ _ _ h => (e0 id k h).elim⟩, fun id k _ h => (e0 id k h).elim, fun _ _ h => ?_, fun _ h => .inl h, fun b h => ?_, fun b h => ?_, hk.mono (fun _ _ h => h.elim)⟩
  · cases h
  · rcases h with h | h
    · exact .inl h
    · exact .inr (.inr h.1)
  · rcases h with h | h
    · exact Nat.lt_of_lt_of_le (hlt b h) hk.size
    · exact h.2

theorem get_ac (c : Ca) (a : Int) (hV : ValidC c) (ha : 0 ≤ a) : AC Try.prog 9 [.agg (encCa c), .i a] none1
    (fun r σ' => r = .tup [.agg (encCa (c.get a).1), .agg (encLine (c.get a).2.1), .c (.v (.bool (c.get a).2.2))] ∧ σ' = none1) := by
  intro w φ S vs hargs hsto hlt hφ
  have hl := hargs.1
  rcases vs with _ | ⟨v0, _ | ⟨v1, _ | ⟨_, _⟩⟩⟩ <;> simp at hl
  obtain ⟨cs, rfl, h0⟩ := hargs.2 0 _ _ rfl rfl
  have h1 := repF_x (hargs.2 1 _ _ rfl rfl)
  subst h1
  obtain ⟨u, rfl, hu⟩ := ca_of h0
  refine (get_calls w S c u a hu hV ha).mono ?_
  rintro e w' ⟨g, cap, cs2, rfl, hO, hX, hg, hk⟩
  refine ⟨_, none1, fun _ => none, Sx S w w', _, ⟨rfl, rfl⟩, rfl, ?_, post_kf hk hlt⟩
  refine ⟨[_, _, _], rfl, All2.cons ⟨_, rfl, ca_rep (hO.reads.mono (fun b hb hl => ?_))⟩ (All2.cons ⟨_, rfl, line_rep (hX.mono (fun b hb hl => .inr ⟨hb, hl⟩))⟩ (All2.cons (Rep.v rfl) (All2.nil _)))⟩
  refine .inr ⟨?_, hl⟩
  rcases hb with h | h
  · exact h
  · have h : g < b := h
    omega

theorem drop_ac (c : Ca) (a : Int) (hV : ValidC c) (ha : 0 ≤ a) : AC Try.prog 11 [.agg (encCa c), .i a] none1
    (fun r σ' => r = .tup [.agg (encCa (c.drop a).1), .agg (encLine (c.drop a).2.1), .c (.v (.bool (c.drop a).2.2))] ∧ σ' = none1) := by
  intro w φ S vs hargs hsto hlt hφ
  have hl := hargs.1
  rcases vs with _ | ⟨v0, _ | ⟨v1, _ | ⟨_, _⟩⟩⟩ <;> simp at hl
  obtain ⟨cs, rfl, h0⟩ := hargs.2 0 _ _ rfl rfl
  have h1 := repF_x (hargs.2 1 _ _ rfl rfl)
  subst h1
  obtain ⟨u, rfl, hu⟩ := ca_of h0
  refine (drop_calls w S c u a hu hV ha).mono ?_
  rintro e w' ⟨g, cap, cs2, rfl, hO, hX, hg, hk⟩
  refine ⟨_, none1, fun _ => none, Sx S w w', _, ⟨rfl, rfl⟩, rfl, ?_, post_kf hk hlt⟩
  refine ⟨[_, _, _], rfl, All2.cons ⟨_, rfl, ca_rep (hO.reads.mono (fun b hb hl => ?_))⟩ (All2.cons ⟨_, rfl, line_rep (hX.mono (fun b hb hl => .inr ⟨hb, hl⟩))⟩ (All2.cons (Rep.v rfl) (All2.nil _)))⟩
  refine .inr ⟨?_, hl⟩
  rcases hb with h | h
  · exact h
  · have h : g < b := h
    omega

theorem put_ac (c : Ca) (x : Line) (hV : ValidC c) (hxl : x.data.length = c.size) (ha : 0 ≤ x.addr) (ha2 : x.addr < 1048576) : AC Try.prog 13 [.agg (encCa c), .agg (encLine x)] none1
    (fun r σ' => r = .tup [.agg (encCa (c.put x).1), .agg (encLine (c.put x).2.1), .c (.v (.bool (c.put x).2.2)), .i 0] ∧ σ' = none1) := by
  intro w φ S vs hargs hsto hlt hφ
  have hl := hargs.1
  rcases vs with _ | ⟨v0, _ | ⟨v1, _ | ⟨_, _⟩⟩⟩ <;> simp at hl
  obtain ⟨cs, rfl, h0⟩ := hargs.2 0 _ _ rfl rfl
  obtain ⟨cs1, rfl, h1⟩ := hargs.2 1 _ _ rfl rfl
  obtain ⟨u, rfl, hu⟩ := ca_of h0
  refine (put_calls w S S c u x cs1 hu (line_of h1) hV hxl ha ha2).mono ?_
  rintro e w' ⟨g, cap, cs2, rfl, hO, hX, hg, hk⟩
  refine ⟨_, none1, fun _ => none, Sx S w w', _, ⟨rfl, rfl⟩, rfl, ?_, post_kf hk hlt⟩
  refine ⟨[_, _, _, _], rfl, All2.cons ⟨_, rfl, ca_rep (hO.reads.mono (fun b hb hl => ?_))⟩ (All2.cons ⟨_, rfl, line_rep (hX.mono (fun b hb hl => .inr ⟨hb, hl⟩))⟩ (All2.cons (Rep.v rfl) (All2.cons (Rep.v rfl) (All2.nil _))))⟩
  refine .inr ⟨?_, hl⟩
  rcases hb with h | h
  · exact h
  · have h : g < b := h
    omega

theorem new_ac (sets ways size : Nat) (h1 : 1 ≤ sets) (h2 : sets ≤ 8) (h3 : 1 ≤ ways) (h4 : ways ≤ 4) (h5 : 1 ≤ size) (h6 : size ≤ 32) : AC Try.prog 7 [.i sets, .i ways, .i size] none1
    (fun r σ' => r = .tup [.agg (encCa (Ca.new sets ways size)), .i 0] ∧ σ' = none1) := by
  intro w φ S vs hargs hsto hlt hφ
  have hl := hargs.1
  rcases vs with _ | ⟨v0, _ | ⟨v1, _ | ⟨v2, _ | ⟨_, _⟩⟩⟩⟩ <;> simp at hl
  have g0 := repF_x (hargs.2 0 _ _ rfl rfl)
  have g1 := repF_x (hargs.2 1 _ _ rfl rfl)
  have g2 := repF_x (hargs.2 2 _ _ rfl rfl)
  subst g0; subst g1; subst g2
  refine (new_calls w sets ways size (fun _ => False) h1 h2 h3 h4 h5 h6).mono ?_
  rintro e w' ⟨rfl, hO, hk⟩
  refine ⟨_, none1, fun _ => none, Sx S w w', _, ⟨rfl, rfl⟩, rfl, ?_, post_kf hk hlt⟩
  have l0 : (Ca.new sets ways size).slots.length = sets * ways := by simp [Ca.new]
  have hr := hO.reads
  rw [l0] at hr
  refine ⟨[_, _], rfl, All2.cons ⟨_, rfl, ca_rep (hr.mono (fun b hb hl => ?_))⟩ (All2.cons (Rep.v rfl) (All2.nil _))⟩
  refine .inr ⟨?_, hl⟩
  rcases hb with h | h
  · omega
  · exact h.elim

theorem valid_ac (c : Ca) (hV : ValidC c) : AC Try.prog 14 [.agg (encCa c)] none1 (fun r σ' => r = .b true ∧ σ' = none1) := by
  intro w φ S vs hargs hsto hlt hφ
  have hl := hargs.1
  rcases vs with _ | ⟨v0, _ | ⟨_, _⟩⟩ <;> simp at hl
  obtain ⟨cs, rfl, h0⟩ := hargs.2 0 _ _ rfl rfl
  obtain ⟨u, rfl, hu⟩ := ca_of h0
  refine (valid_calls w S c u hu hV).mono ?_
  rintro e w' ⟨rfl, hk⟩
  exact ⟨_, none1, fun _ => none, Sx S w w', _, ⟨rfl, rfl⟩, rfl, Rep.v rfl, post_kf hk hlt⟩

theorem same_ac (x : Line) (hl : x.data.length ≤ 1000) : AC Try.prog 10 [.agg (encLine x), .agg (encLine x)] none1 (fun r σ' => r = .b true ∧ σ' = none1) := by
  intro w φ S vs hargs hsto hlt hφ
  have hll := hargs.1
  rcases vs with _ | ⟨v0, _ | ⟨v1, _ | ⟨_, _⟩⟩⟩ <;> simp at hll
  obtain ⟨cs, rfl, h0⟩ := hargs.2 0 _ _ rfl rfl
  obtain ⟨cs1, rfl, h1⟩ := hargs.2 1 _ _ rfl rfl
  refine (same_calls w S S cs cs1 x (line_of h0) (line_of h1) hl).mono ?_
  rintro e w' ⟨rfl, hk⟩
  exact ⟨_, none1, fun _ => none, Sx S w w', _, ⟨rfl, rfl⟩, rfl, Rep.v rfl, post_kf hk hlt⟩
end Go.Proofs.Ytbcjjenidkgodaa
