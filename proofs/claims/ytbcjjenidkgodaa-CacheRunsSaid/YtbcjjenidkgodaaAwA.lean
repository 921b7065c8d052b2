/- The walk's states written out; what the walk calls at each turn. -/
import Derived.Test.YtbcjjenidkgodaaAw9
namespace Go.Proofs.Ytbcjjenidkgodaa
open Go Go.RowKit

def look {α : Type} : List (Nat × α) → Nat → Option α
  | [], _ => none
  | (i, x) :: l, t => if t = i then some x else look l t

def okId (keys : List Nat) (i : Nat) : Bool := decide (i < 100) || keys.contains i
def CV.okIds (keys : List Nat) : CV → Bool
  | .ptr i _ _ => okId keys i
  | .ref i _ _ => okId keys i
  | _ => true
def AV.okIds (keys : List Nat) : AV → Bool
  | .c x => x.okIds keys
  | .agg cs => cs.all (CV.okIds keys)
def FV.okIds (keys : List Nat) : FV → Bool
  | .a x => x.okIds keys
  | .tup vs => vs.all (AV.okIds keys)

def stOf (fl : List (Nat × FV)) (sl : List (Nat × Blk)) : St := ⟨look fl, look sl, okId (sl.map (·.1))⟩

def AllF (f : Nat → Option FV) (keys : List Nat) : List (Nat × FV) → Prop
  | [] => True
  | (i, x) :: l => f i = some x ∧ x.okIds keys = true ∧ AllF f keys l
def AllS (s : Nat → Option Blk) (keys : List Nat) : List (Nat × Blk) → Prop
  | [] => True
  | (i, k) :: l => s i = some k ∧ (∀ r ∈ k.rows, ∀ x ∈ r, CV.okIds keys x = true) ∧ AllS s keys l

section
variable {P : Program} {n : Nat} {st : St} {J : Env} {φ : Nat → Option Loc} {S : Nat → Prop} {a : Act} {w : World} {Q : Exit → St → Prop}

theorem look_mem {α : Type} {l : List (Nat × α)} {i : Nat} {x : α} (h : look l i = some x) : i ∈ l.map (·.1) := by
  induction l with
  | nil => cases h
  | cons p l ih =>
    simp only [look] at h
    split at h
    · rename_i h1; simp [h1]
    · simp [ih h]

theorem allF_spec {f : Nat → Option FV} {keys : List Nat} : ∀ {l : List (Nat × FV)}, AllF f keys l → ∀ i x, look l i = some x → f i = some x ∧ x.okIds keys = true
  | [], _, _, _, h => by cases h
  | (j, y) :: l, ⟨h1, h2, h3⟩, i, x, h => by
    simp only [look] at h
    split at h
    · rename_i e; subst e; obtain rfl := Option.some.inj h; exact ⟨h1, h2⟩
    · exact allF_spec h3 i x h
theorem allS_spec {s : Nat → Option Blk} {keys : List Nat} : ∀ {l : List (Nat × Blk)}, AllS s keys l → ∀ i k, look l i = some k → s i = some k ∧ ∀ r ∈ k.rows, ∀ x ∈ r, CV.okIds keys x = true
  | [], _, _, _, h => by cases h
  | (j, y) :: l, ⟨h1, h2, h3⟩, i, x, h => by
    simp only [look] at h
    split at h
    · rename_i e; subst e; obtain rfl := Option.some.inj h; exact ⟨h1, h2⟩
    · exact allS_spec h3 i x h

theorem CV.okIn {keys : List Nat} {x : CV} (h : x.okIds keys = true) : ∀ y, Rep S w φ x y → Rep S w (fun i => if okId keys i then φ i else none) x y := fun y hr => by
  cases hr with
  | v g => exact .v g
  | ptr g => exact .ptr (by rw [if_pos (show okId keys _ = true from h)]; exact g)
  | ref g h1 h2 h3 => exact .ref (by rw [if_pos (show okId keys _ = true from h)]; exact g) h1 h2 h3
  | refn g h1 => exact .refn (by rw [if_pos (show okId keys _ = true from h)]; exact g) h1
  | refe g h1 h2 => exact .refe (by rw [if_pos (show okId keys _ = true from h)]; exact g) h1 h2
  | nil g => exact .nil g
  | lst h1 h2 h0 h3 h4 h5 h6 h7 => exact .lst h1 h2 h0 h3 h4 h5 h6 h7
  | rowp h1 h2 h3 h4 => exact .rowp h1 h2 h3 h4

theorem FV.okIn {keys : List Nat} {x : FV} (h : x.okIds keys = true) {y : Value} (hr : RepF S w φ x y) : RepF S w (fun i => if okId keys i then φ i else none) x y := by
  have hA : ∀ (x : AV) y, x.okIds keys = true → RepA S w φ x y → RepA S w (fun i => if okId keys i then φ i else none) x y := fun x y h hr => by
    cases x with
    | c x => exact CV.okIn h _ hr
    | agg cs => obtain ⟨vs, rfl, hr⟩ := hr; exact ⟨vs, rfl, hr.1, fun j x y a b => CV.okIn (List.all_eq_true.1 h x (List.mem_of_getElem? a)) _ (hr.2 j x y a b)⟩
  cases x with
  | a x => exact hA x y h hr
  | tup cs => obtain ⟨vs, rfl, hr⟩ := hr; exact ⟨vs, rfl, hr.1, fun j x y a b => hA _ _ (List.all_eq_true.1 h x (List.mem_of_getElem? a)) (hr.2 j x y a b)⟩

/-- The state told anew: some slots, some blocks; all other names are free again. -/
theorem Rel.keepOnly (hR : Rel J st φ S a w) (hJ : ∀ id l, J.par id = some l → id < 100) {fl : List (Nat × FV)} {sl : List (Nat × Blk)} (hf : AllF st.f (sl.map (·.1)) fl) (hs : AllS st.s (sl.map (·.1)) sl) :
    Rel J (stOf fl sl) (fun i => if okId (sl.map (·.1)) i then φ i else none) S a w := by
  have hok : ∀ id k, look sl id = some k → okId (sl.map (·.1)) id = true := fun id k h => by
    have := look_mem h
    simp only [okId, Bool.or_eq_true]
    exact .inr (by simpa using this)
  have hsl : ∀ id k, look sl id = some k → st.s id = some k ∧ ∀ r ∈ k.rows, ∀ x ∈ r, CV.okIds (sl.map (·.1)) x = true := fun id k h => allS_spec hs id k h
  refine ⟨hR.nd, hR.sz, fun t x hx => ?_, ⟨fun id k h => ?_, fun i j k kj l lj hi hj hli hlj => ?_⟩, fun id l h => ?_, hR.keep, hR.lt, fun id k l h hl hn => ?_, fun id l h => ?_, hR.S0, hR.S1⟩
  · obtain ⟨h1, h2⟩ := allF_spec hf t x hx
    exact FV.okIn h2 (hR.fr t x h1)
  · obtain ⟨h1, h2⟩ := hsl id k h
    obtain ⟨l, hl, hsz, hb⟩ := hR.sto.at_ id k h1
    refine ⟨l, by rw [if_pos (hok id k h)]; exact hl, hsz, hb.imp (fun h => h) ?_⟩
    rintro ⟨g1, g2, C, g3⟩
    refine ⟨g1, g2, C, ⟨g3.sz, g3.heap, g3.size, g3.len, g3.cap, g3.pos, g3.row, fun i r j x a b => ?_⟩⟩
    obtain ⟨y, hy, hx⟩ := g3.cell i r j x a b
    exact ⟨y, hy, CV.okIn (h2 r (List.mem_of_getElem? a) x (List.mem_of_getElem? b)) _ hx⟩
  · rw [if_pos (hok i k hi)] at hli
    rw [if_pos (hok j kj hj)] at hlj
    exact hR.sto.inj i j k kj l lj (hsl i k hi).1 (hsl j kj hj).1 hli hlj
  · split at h
    · rename_i h1; exact h1
    · cases h
  · rw [if_pos (hok id k h)] at hl
    exact hR.own id k l (hsl id k h).1 hl hn
  · rw [if_pos (by simp [okId, hJ id l h])]
    exact hR.par id l h

/-- A cell told anew: names turned, own slices frozen. -/
def CV.cvt (st : St) (ρ : Nat → Nat) (fz : List Nat) : CV → CV
  | .ptr i r o => .ptr (ρ i) r o
  | .ref i o l => if fz.contains i then (match st.s i with
    | some k => .lst k.e ((k.rows.drop o).take l)
    | none => .ref (ρ i) o l) else .ref (ρ i) o l
  | x => x
def AV.cvt (st : St) (ρ : Nat → Nat) (fz : List Nat) : AV → AV
  | .c x => .c (x.cvt st ρ fz)
  | .agg cs => .agg (cs.map (CV.cvt st ρ fz))
def FV.cvt (st : St) (ρ : Nat → Nat) (fz : List Nat) : FV → FV
  | .a x => .a (x.cvt st ρ fz)
  | .tup vs => .tup (vs.map (AV.cvt st ρ fz))
/-- Pointers to what is kept; slices of what is kept, or of what is frozen, whole. -/
def CV.okC (st : St) (olds fz : List Nat) : CV → Bool
  | .ptr i _ _ => okId olds i
  | .ref i o l => if fz.contains i then (match st.s i with
    | some k => decide (o + l ≤ k.rows.length)
    | none => false) else okId olds i
  | _ => true
def AV.okC (st : St) (olds fz : List Nat) : AV → Bool
  | .c x => x.okC st olds fz
  | .agg cs => cs.all (CV.okC st olds fz)
def FV.okC (st : St) (olds fz : List Nat) : FV → Bool
  | .a x => x.okC st olds fz
  | .tup vs => vs.all (AV.okC st olds fz)

def AllFC (st : St) (ρ : Nat → Nat) (olds fz : List Nat) : List (Nat × FV) → Prop
  | [] => True
  | (i, x) :: l => (∃ y, st.f i = some y ∧ y.okC st olds fz = true ∧ y.cvt st ρ fz = x) ∧ AllFC st ρ olds fz l
/-- The kept blocks: old name, block. -/
def AllSC (st : St) (ρ : Nat → Nat) (olds fz : List Nat) : List (Nat × Blk) → Prop
  | [] => True
  | (i, k) :: l => (∃ k0, st.s i = some k0 ∧ k.e = k0.e ∧ k.sz = k0.sz ∧ (∀ r ∈ k0.rows, ∀ x ∈ r, CV.okC st olds fz x = true) ∧ k0.rows.map (fun r => r.map (CV.cvt st ρ fz)) = k.rows) ∧ AllSC st ρ olds fz l

theorem allFC_spec {ρ : Nat → Nat} {olds fz : List Nat} : ∀ {l : List (Nat × FV)}, AllFC st ρ olds fz l → ∀ i x, look l i = some x → ∃ y, st.f i = some y ∧ y.okC st olds fz = true ∧ y.cvt st ρ fz = x
  | [], _, _, _, h => by cases h
  | (j, y) :: l, ⟨h1, h3⟩, i, x, h => by
    simp only [look] at h
    split at h
    · rename_i e; subst e; obtain rfl := Option.some.inj h; exact h1
    · exact allFC_spec h3 i x h
theorem allSC_spec {ρ : Nat → Nat} {olds fz : List Nat} : ∀ {l : List (Nat × Blk)}, AllSC st ρ olds fz l → ∀ p ∈ l, ∃ k0, st.s p.1 = some k0 ∧ p.2.e = k0.e ∧ p.2.sz = k0.sz ∧ (∀ r ∈ k0.rows, ∀ x ∈ r, CV.okC st olds fz x = true) ∧ k0.rows.map (fun r => r.map (CV.cvt st ρ fz)) = p.2.rows
  | [], _, _, h => by simp at h
  | (j, y) :: l, ⟨h1, h3⟩, p, h => by
    rcases List.mem_cons.1 h with rfl | h
    · exact h1
    · exact allSC_spec h3 p h

theorem look_get {α : Type} {l : List (Nat × α)} {i : Nat} {x : α} (h : look l i = some x) : (i, x) ∈ l := by
  induction l with
  | nil => cases h
  | cons p l ih =>
    simp only [look] at h
    split at h
    · rename_i h1; obtain rfl := Option.some.inj h; subst h1; simp
    · simp [ih h]

def injOn (ρ : Nat → Nat) (l : List Nat) : Bool := l.all fun i => (i ≥ 100 || ρ i == i) && (i < 100 || ρ i ≥ 100) && l.all fun j => ρ i != ρ j || i == j

/-- The state told anew: some slots, some blocks, with other names, some blocks frozen. -/
theorem Rel.conv (hR : Rel J st φ S a w) (hJ : JOK J) (ρ : Nat → Nat) (fz : List Nat) {fl : List (Nat × FV)} {sl : List (Nat × Blk)} (hρ : injOn ρ (sl.map (·.1)) = true) (hρ0 : ∀ i, i < 100 → ρ i = i) (hfz : ∀ i ∈ fz, i ∉ sl.map (·.1) ∧ ∃ k, st.s i = some k ∧ ∀ r ∈ k.rows, ∀ x ∈ r, CV.free x = true)
    (hf : AllFC st ρ (sl.map (·.1)) fz fl) (hs : AllSC st ρ (sl.map (·.1)) fz sl) :
    ∃ φ' S', Rel J (stOf fl (sl.map fun p => (ρ p.1, p.2))) φ' S' a w := by
  have inj : ∀ i j, i ∈ sl.map (·.1) → j ∈ sl.map (·.1) → ρ i = ρ j → i = j := fun i j hi hj e => by
    have h1 := List.all_eq_true.1 hρ i hi
    simp only [Bool.and_eq_true] at h1
    have h2 := List.all_eq_true.1 h1.2 j hj
    simpa [e] using h2
  have big : ∀ i, i ∈ sl.map (·.1) → (i < 100 ∨ 100 ≤ ρ i) := fun i hi => by
    have h1 := List.all_eq_true.1 hρ i hi
    simp only [Bool.and_eq_true, Bool.or_eq_true, decide_eq_true_eq] at h1
    exact h1.1.2
  have hφ' : ∃ φ' : Nat → Option Loc, (∀ i, okId (sl.map (·.1)) i = true → φ' (ρ i) = φ i) ∧ (∀ i, i < 100 → φ' i = φ i) ∧ ∀ i l, φ' i = some l → i < 100 ∨ i ∈ (sl.map (·.1)).map ρ := by
    refine ⟨fun i' => if i' < 100 then φ i' else match (sl.map (·.1)).find? (fun i => ρ i == i') with | some i => φ i | none => none, fun i hi => ?_, fun i hi => by simp [hi], fun i l h => ?_⟩
    · show (if ρ i < 100 then φ (ρ i) else match (sl.map (·.1)).find? (fun j => ρ j == ρ i) with | some j => φ j | none => none) = φ i
      by_cases h0 : i < 100
      · rw [hρ0 i h0, if_pos h0]
      · have hm : i ∈ sl.map (·.1) := by
          simp only [okId, Bool.or_eq_true, decide_eq_true_eq] at hi
          rcases hi with hi | hi
          · exact absurd hi h0
          · simpa using hi
        rw [if_neg (by rcases big i hm with h | h <;> omega)]
        cases h : (sl.map (·.1)).find? (fun j => ρ j == ρ i) with
        | none => have := List.find?_eq_none.1 h i hm; simp at this
        | some q =>
          have h1 := List.find?_some h
          have : q = i := inj q i (List.mem_of_find?_eq_some h) hm (by simpa using h1)
          subst this
          rfl
    · by_cases h0 : i < 100
      · exact .inl h0
      · right
        simp only [] at h
        rw [if_neg h0] at h
        cases hq : (sl.map (·.1)).find? (fun j => ρ j == i) with
        | none => rw [hq] at h; cases h
        | some q => exact List.mem_map.2 ⟨q, List.mem_of_find?_eq_some hq, by simpa using List.find?_some hq⟩
  obtain ⟨φ', hp1, hp2, hp3⟩ := hφ'
  have notS : ∀ i k l, st.s i = some k → φ i = some l → l.nl = false → ¬ S l.b := fun i k l h1 h2 h3 => by
    obtain ⟨l2, g1, _, g2⟩ := hR.sto.at_ i k h1
    rw [h2] at g1
    obtain rfl := Option.some.inj g1
    rcases g2 with ⟨g2, _⟩ | g2
    · rw [h3] at g2; cases g2
    · exact g2.2.1
  let S' : Nat → Prop := fun b => S b ∨ LentB φ st.s fz b
  have hC : ∀ (x : CV) (y : Value), x.okC st (sl.map (·.1)) fz = true → Rep S w φ x y → Rep S' w φ' (x.cvt st ρ fz) y := fun x y hx h => by
    cases h with
    | v h => exact .v h
    | ptr g => exact .ptr ((hp1 _ hx).trans g)
    | nil g => exact .nil g
    | lst h1 h2 h0 h3 h4 h5 h6 h7 => exact (Rep.lst (φ := fun _ => none) h1 h2 h0 h3 h4 h5 h6 h7).mono (fun _ _ h => (by cases h)) (fun _ h => .inl h) (fun _ _ _ => rfl)
    | rowp h1 h2 h3 h4 => exact (Rep.rowp (φ := fun _ => none) h1 h2 h3 h4).mono (fun _ _ h => (by cases h)) (fun _ h => .inl h) (fun _ _ _ => rfl)
    | @ref _ i o l lo g h1 h2 h3 =>
      simp only [CV.cvt, CV.okC] at hx ⊢
      by_cases hi : fz.contains i = true
      · rw [if_pos hi] at hx ⊢
        have hi' : i ∈ fz := by simpa using hi
        cases hk : st.s i with
        | none => rw [hk] at hx; cases hx
        | some k =>
          rw [hk] at hx
          have hle : o + l ≤ k.rows.length := by simpa using hx
          obtain ⟨_, k', hk', hfree⟩ := hfz i hi'
          rw [hk] at hk'
          obtain rfl := Option.some.inj hk'
          have := LendC.rep (ρ := fun i => i) (ids := []) hR (LendC.lend hi' hk hle rfl (fun r hr x hx => hfree r (List.mem_of_mem_drop (List.mem_of_mem_take hr)) x hx)) (Rep.ref g h1 h2 h3)
          exact this.free rfl
      · rw [if_neg hi] at hx ⊢
        exact .ref ((hp1 _ hx).trans g) h1 h2 h3
    | @refn _ i lo g h1 =>
      simp only [CV.cvt, CV.okC] at hx ⊢
      by_cases hi : fz.contains i = true
      · rw [if_pos hi] at hx ⊢
        cases hk : st.s i with
        | none => rw [hk] at hx; cases hx
        | some k => simp only [List.take_zero]; exact .nil (by omega)
      · rw [if_neg hi] at hx ⊢
        exact .refn ((hp1 _ hx).trans g) h1
    | @refe _ i off lo A c g h1 h2 =>
      simp only [CV.cvt, CV.okC] at hx ⊢
      by_cases hi : fz.contains i = true
      · rw [if_pos hi] at hx ⊢
        cases hk : st.s i with
        | none => rw [hk] at hx; cases hx
        | some k => simp only [List.take_zero]; exact .nil h2
      · rw [if_neg hi] at hx ⊢
        exact .refe ((hp1 _ hx).trans g) h1 h2
  have hA : ∀ (x : AV) (y : Value), x.okC st (sl.map (·.1)) fz = true → RepA S w φ x y → RepA S' w φ' (x.cvt st ρ fz) y := fun x y hx h => by
    cases x with
    | c x => exact hC x y hx h
    | agg cs =>
      obtain ⟨vs, rfl, h⟩ := h
      refine ⟨vs, rfl, by simp [h.1], fun j x y a b => ?_⟩
      rw [List.getElem?_map] at a
      obtain ⟨x', hx', rfl⟩ := Option.map_eq_some_iff.1 a
      exact hC x' y (List.all_eq_true.1 hx x' (List.mem_of_getElem? hx')) (h.2 j x' y hx' b)
  have hF : ∀ (x : FV) (y : Value), x.okC st (sl.map (·.1)) fz = true → RepF S w φ x y → RepF S' w φ' (x.cvt st ρ fz) y := fun x y hx h => by
    cases x with
    | a x => exact hA x y hx h
    | tup cs =>
      obtain ⟨vs, rfl, h⟩ := h
      refine ⟨vs, rfl, by simp [h.1], fun j x y a b => ?_⟩
      rw [List.getElem?_map] at a
      obtain ⟨x', hx', rfl⟩ := Option.map_eq_some_iff.1 a
      exact hA x' y (List.all_eq_true.1 hx x' (List.mem_of_getElem? hx')) (h.2 j x' y hx' b)
  have hst : ∀ id k, look (sl.map fun p => (ρ p.1, p.2)) id = some k → ∃ i k0 l, i ∈ sl.map (·.1) ∧ id = ρ i ∧ st.s i = some k0 ∧ φ i = some l ∧ φ' id = some l ∧ BlkIs S' w φ' l k := fun id k h => by
    obtain ⟨p, hp, he⟩ := List.mem_map.1 (look_get h)
    simp only [Prod.mk.injEq] at he
    obtain ⟨rfl, rfl⟩ := he
    obtain ⟨k0, hk0, h2, h3, h4, h5⟩ := allSC_spec hs p hp
    have hm : p.1 ∈ sl.map (·.1) := List.mem_map.2 ⟨p, hp, rfl⟩
    obtain ⟨l, hl, hsz, hb⟩ := hR.sto.at_ _ _ hk0
    refine ⟨p.1, k0, l, hm, rfl, hk0, hl, (hp1 _ (by simp [okId]; right; simpa using hm)).trans hl, hsz.trans h3.symm, ?_⟩
    rcases hb with ⟨hb1, hb2⟩ | ⟨hb1, hb2, C, hb3⟩
    · refine .inl ⟨hb1, ?_⟩
      rw [hb2] at h5
      exact h5.symm
    · refine .inr ⟨hb1, ?_, C, ⟨hb3.sz.trans h3.symm, by rw [h2]; exact hb3.heap, hb3.size, by rw [← h5, List.length_map]; exact hb3.len, hb3.cap, by rw [h3]; exact hb3.pos, fun r hr => ?_, fun i r j x a b => ?_⟩⟩
      · rintro (h | ⟨q, kq, lq, q1, q2, q3, q4, q5⟩)
        · exact hb2 h
        · have := hR.sto.inj q p.1 kq k0 lq l q2 hk0 q3 hl q4 hb1 q5
          exact (hfz q q1).1 (this ▸ hm)
      · rw [← h5] at hr
        obtain ⟨r0, hr0, rfl⟩ := List.mem_map.1 hr
        rw [List.length_map, h3]; exact hb3.row r0 hr0
      · rw [← h5, List.getElem?_map] at a
        obtain ⟨r0, hr0, rfl⟩ := Option.map_eq_some_iff.1 a
        rw [List.getElem?_map] at b
        obtain ⟨x0, hx0, rfl⟩ := Option.map_eq_some_iff.1 b
        obtain ⟨y, hy, hx⟩ := hb3.cell i r0 j x0 hr0 hx0
        exact ⟨y, by rw [h3]; exact hy, hC x0 y (h4 r0 (List.mem_of_getElem? hr0) x0 (List.mem_of_getElem? hx0)) hx⟩
  refine ⟨φ', S', hR.nd, hR.sz, fun t x hx => ?_, ⟨fun id k h => ?_, fun i j k kj l lj hi hj hli hlj hn hnj he => ?_⟩, fun id l h => ?_, hR.keep, fun b hb => ?_, fun id k l h hl hn => ?_, fun id l h => ?_, fun b h => .inl (hR.S0 b h), fun b hb => ?_⟩
  · obtain ⟨y, h1, h2, rfl⟩ := allFC_spec hf t x hx
    exact hF y _ h2 (hR.fr t y h1)
  · obtain ⟨_, _, l, _, _, _, _, h1, h2⟩ := hst id k h
    exact ⟨l, h1, h2⟩
  · obtain ⟨p, pk, pl, p1, rfl, p3, p4, p5, _⟩ := hst i k hi
    obtain ⟨q, qk, ql, q1, rfl, q3, q4, q5, _⟩ := hst j kj hj
    rw [p5] at hli; obtain rfl := Option.some.inj hli
    rw [q5] at hlj; obtain rfl := Option.some.inj hlj
    rw [hR.sto.inj p q pk qk _ _ p3 q3 p4 q4 hn hnj he]
  · simp only [stOf, okId, Bool.or_eq_true, decide_eq_true_eq]
    rcases hp3 id l h with h | h
    · exact .inl h
    · right
      simpa [List.map_map, Function.comp] using h
  · rcases hb with hb | ⟨q, kq, lq, q1, q2, q3, q4, rfl⟩
    · exact hR.lt b hb
    · obtain ⟨l2, f1, _, f2⟩ := hR.sto.at_ q kq q2
      rw [q3] at f1
      obtain rfl := Option.some.inj f1
      rcases f2 with ⟨f2, _⟩ | ⟨_, _, C, f2⟩
      · rw [q4] at f2; cases f2
      · exact lt_of_get f2.heap
  · obtain ⟨p, pk, pl, p1, rfl, p3, p4, p5, _⟩ := hst id k h
    rw [p5] at hl; obtain rfl := Option.some.inj hl
    exact hR.own p pk _ p3 p4 hn
  · rw [hp2 id (hJ id l h)]
    exact hR.par id l h
  · rcases hb with hb | ⟨q, kq, lq, q1, q2, q3, q4, rfl⟩
    · exact hR.S1 b hb
    · exact .inr (hR.own q kq lq q2 q3 q4)

theorem aw_conv {c : Code} (ρ : Nat → Nat) (fz : List Nat) (fl : List (Nat × FV)) (sl : List (Nat × Blk)) (hJ : JOK J) (hρ : injOn ρ (sl.map (·.1)) = true) (hρ0 : ∀ i, i < 100 → ρ i = i) (hfz : ∀ i ∈ fz, i ∉ sl.map (·.1) ∧ ∃ k, st.s i = some k ∧ ∀ r ∈ k.rows, ∀ x ∈ r, CV.free x = true)
    (hf : AllFC st ρ (sl.map (·.1)) fz fl) (hs : AllSC st ρ (sl.map (·.1)) fz sl) (h : AW P J c Q (stOf fl (sl.map fun p => (ρ p.1, p.2)))) : AW P J c Q st :=
  fun φ S a w hR => by
    obtain ⟨φ', S', hR'⟩ := hR.conv hJ ρ fz hρ hρ0 hfz hf hs
    exact h φ' S' a w hR'

theorem aw_keep {c : Code} (fl : List (Nat × FV)) (sl : List (Nat × Blk)) (hJ : JOK J) (hf : AllF st.f (sl.map (·.1)) fl) (hs : AllS st.s (sl.map (·.1)) sl) (h : AW P J c Q (stOf fl sl)) : AW P J c Q st :=
  fun φ S a w hR => h _ S a w (hR.keepOnly hJ hf hs)

theorem aw_cond2 {t : Nat} {x y : Code} {b : Bool} (hc : st.f t = some (.b b)) (h1 : b = true → AW P J x Q st) (h2 : b = false → AW P J y Q st) : AW P J (.cond (.tmp t) x y) Q st := by
  cases b
  · exact aw_cond hc (h2 rfl)
  · exact aw_cond hc (h1 rfl)

/-- Code in two parts, with what holds between them. -/
theorem aw_cut {x y : Code} (I : St → Prop) (h1 : AW P J x (AThen (fun st' => ∃ st2, Cv J st' st2 ∧ I st2) Q) st) (h2 : ∀ st, I st → AW P J y Q st) : AW P J (.seq x y) Q st :=
  aw_seq (h1.mono fun e st h => by
    cases e with
    | normal =>
      obtain ⟨st2, hcv, hI⟩ := h
      intro φ S a w hR
      obtain ⟨φ', S', hR'⟩ := hcv φ S a w hR
      exact h2 st2 hI φ' S' a w hR'
    | _ => exact h)

/-- The same state, told anew. -/
theorem cv_conv (ρ : Nat → Nat) (fz : List Nat) (fl : List (Nat × FV)) (sl : List (Nat × Blk)) (hJ : JOK J) (hρ : injOn ρ (sl.map (·.1)) = true) (hρ0 : ∀ i, i < 100 → ρ i = i) (hfz : ∀ i ∈ fz, i ∉ sl.map (·.1) ∧ ∃ k, st.s i = some k ∧ ∀ r ∈ k.rows, ∀ x ∈ r, CV.free x = true)
    (hf : AllFC st ρ (sl.map (·.1)) fz fl) (hs : AllSC st ρ (sl.map (·.1)) fz sl) : Cv J st (stOf fl (sl.map fun p => (ρ p.1, p.2))) := fun _ _ _ _ hR => hR.conv hJ ρ fz hρ hρ0 hfz hf hs

theorem at_exit {id : Nat} {next : St → Prop} (h : Q (.exit id) st) : AThen next Q (.exit id) st := h
theorem ab_hit {id : Nat} (h : Q .normal st) : ABlock id Q (.exit id) st := by simp only [ABlock, if_true]; exact h
theorem ab_miss {id id' : Nat} (hne : id' ≠ id) (h : Q (.exit id') st) : ABlock id Q (.exit id') st := by simp only [ABlock, if_neg hne]; exact h

def AV.free : AV → Bool
  | .c x => x.free
  | .agg cs => cs.all CV.free
def FV.free : FV → Bool
  | .a x => x.free
  | .tup vs => vs.all AV.free
def Blk.free (k : Blk) : Bool := k.rows.all fun r => r.all CV.free

theorem CV.ren_free {ρ : Nat → Nat} {x : CV} (h : x.free = true) : x.ren ρ = x := by cases x <;> first | rfl | cases h
theorem map_ren_free {ρ : Nat → Nat} {cs : List CV} (h : cs.all CV.free = true) : cs.map (·.ren ρ) = cs := by
  induction cs with
  | nil => rfl
  | cons c cs ih =>
    simp only [List.all_cons, Bool.and_eq_true] at h
    rw [List.map_cons, CV.ren_free h.1, ih h.2]
theorem AV.ren_free {ρ : Nat → Nat} {x : AV} (h : x.free = true) : x.ren ρ = x := by
  cases x with
  | c x => exact congrArg AV.c (CV.ren_free h)
  | agg cs => exact congrArg AV.agg (map_ren_free h)
theorem FV.ren_free {ρ : Nat → Nat} {x : FV} (h : x.free = true) : x.ren ρ = x := by
  cases x with
  | a x => exact congrArg FV.a (AV.ren_free h)
  | tup vs =>
    refine congrArg FV.tup ?_
    have h' : vs.all AV.free = true := h
    clear h
    induction vs with
    | nil => rfl
    | cons v vs ih =>
      simp only [List.all_cons, Bool.and_eq_true] at h'
      rw [List.map_cons, AV.ren_free h'.1, ih h'.2]
theorem Blk.ren_free {ρ : Nat → Nat} {k : Blk} (h : k.free = true) : k.ren ρ = k := by
  obtain ⟨e, sz, rows⟩ := k
  simp only [Blk.ren, Blk.mk.injEq, true_and]
  have h' : (rows.all fun r => r.all CV.free) = true := h
  clear h
  induction rows with
  | nil => rfl
  | cons r rows ih =>
    simp only [List.all_cons, Bool.and_eq_true] at h'
    rw [List.map_cons, map_ren_free h'.1, ih h'.2]
theorem CV.in_free {ids : List Nat} {x : CV} (h : x.free = true) : x.inIds ids = true := by cases x <;> first | rfl | cases h
theorem all_imp {α : Type} {p q : α → Bool} {l : List α} (h : l.all p = true) (hpq : ∀ x, p x = true → q x = true) : l.all q = true :=
  List.all_eq_true.2 fun x hx => hpq x (List.all_eq_true.1 h x hx)
theorem AV.in_free {ids : List Nat} {x : AV} (h : x.free = true) : x.inIds ids = true := by
  cases x with
  | c x => exact CV.in_free h
  | agg cs => exact all_imp h fun x h => CV.in_free h
theorem FV.in_free {ids : List Nat} {x : FV} (h : x.free = true) : x.inIds ids = true := by
  cases x with
  | a x => exact AV.in_free h
  | tup cs => exact all_imp h fun x h => AV.in_free h
theorem Blk.in_free {ids : List Nat} {k : Blk} (h : k.free = true) : k.inIds ids = true := all_imp h fun r h => all_imp h fun x h => CV.in_free h

/-- One block. -/
def one1 (i : Nat) (k : Blk) : Nat → Option Blk := fun j => if j = i then some k else none

theorem one_sub {s : Nat → Option Blk} {i : Nat} {k : Blk} (h : s i = some k) : ∀ id q, one1 i k id = some q → s id = some q := fun id q hq => by
  simp only [one1] at hq
  split at hq
  · rename_i e; subst e; rw [h]; exact hq
  · cases hq

/-- No blocks. -/
abbrev none1 : Nat → Option Blk := fun _ => none

theorem lend_free {st : St} {ρ : Nat → Nat} {ids lent : List Nat} {xs : List AV} (h : xs.all AV.free = true) : All2 (LendA st ρ ids lent) xs xs := by
  refine ⟨rfl, fun j x y hx hy => ?_⟩
  rw [hx] at hy
  obtain rfl := Option.some.inj hy
  have hf := List.all_eq_true.1 h x (List.mem_of_getElem? hx)
  cases x with
  | c x => exact .c (.same hf)
  | agg cs =>
    refine .agg ⟨rfl, fun j x y hx hy => ?_⟩
    rw [hx] at hy
    obtain rfl := Option.some.inj hy
    exact .same (List.all_eq_true.1 hf x (List.mem_of_getElem? hx))

/-- A call without pointers. -/
theorem step_call0 {ops : Array Oper} {o : Oper} {g : FuncId} {c : Call} {xs : List AV} {r : FV} (ho : o.op = .call c) (hc : c.callee = .value (.func g)) (hcal : callable P g = true) (hg : guardVal ops st o = some true) (hd : dstOk n o.dst = true)
    (hx : evL st c.args.toList = some xs) (hf : xs.all AV.free = true) (hr : r.free = true) (hAC : AC P g xs none1 (fun r' σ' => r' = r ∧ σ' = none1)) : Step P n ops o st ⟨some r, [], [], []⟩ := by
  have := step_call (st := st) (P := P) (n := n) (ops := ops) (τ := none1) (τ' := none1) (fun i => i) [] [] [] ho hc hcal hg hd hx (lend_free hf) (fun i k h => by cases h) (fun i h => by simp at h) (fun i j h => by simp at h) (fun j h => by simp at h) (fun i k h => by cases h) (FV.in_free hr) (fun i h => by simp at h) (.inl rfl) hAC
  rw [FV.ren_free hr] at this
  exact this

/-- A call with one pointer, to a block of its own. -/
theorem step_call1 {ops : Array Oper} {o : Oper} {g : FuncId} {c : Call} {xs : List AV} {r : FV} {id : Nat} {k k' : Blk} (ho : o.op = .call c) (hc : c.callee = .value (.func g)) (hcal : callable P g = true) (hg : guardVal ops st o = some true) (hd : dstOk n o.dst = true)
    (hx : evL st c.args.toList = some (.c (.ptr id 0 0) :: xs)) (hs : st.s id = some k) (hf : xs.all AV.free = true) (hk : k.free = true) (hk' : k'.free = true) (hr : r.free = true)
    (hAC : AC P g (.c (.ptr 0 0 0) :: xs) (one1 0 k) (fun r' σ' => r' = r ∧ σ' = one1 0 k')) : Step P n ops o st ⟨some r, [(id, some k')], [], [id]⟩ := by
  have one : ∀ i (q p : Blk), one1 0 q i = some p → i = 0 ∧ p = q := fun i q p h => by
    simp only [one1] at h
    split at h
    · rename_i h0; exact ⟨h0, (Option.some.inj h).symm⟩
    · cases h
  have := step_call (st := st) (P := P) (n := n) (ops := ops) (τ := one1 0 k) (τ' := one1 0 k') (fun _ => id) [0] [] [] ho hc hcal hg hd hx (All2.cons (.c (.ptr (i := 0) (by simp))) (lend_free hf))
    (fun i p h => by simp [(one i k p h).1]) (fun i h => by
      have : i = 0 := by simpa using h
      subst this
      exact ⟨by decide, k, rfl, by rw [Blk.ren_free hk]; exact hs, Blk.in_free hk⟩) (fun i j h h' _ => by simp at h h'; omega) (fun j h => by simp at h) (fun i p h => by
      obtain ⟨h1, h2⟩ := one i k' p h
      subst h1; subst h2
      exact ⟨by simp, Blk.in_free hk'⟩) (FV.in_free hr) (fun i h => by simp at h) (.inl rfl) hAC
  rw [FV.ren_free hr] at this
  have e : ([0] ++ []).map (fun i => ((fun _ => id : Nat → Nat) i, (one1 0 k' i).map (Blk.ren (fun _ => id)))) = [(id, some k')] := by
    simp [one1, Blk.ren_free hk']
  rw [e] at this
  exact this

theorem none_sub {s : Nat → Option Blk} : ∀ id q, none1 id = some q → s id = some q := fun _ _ h => (by cases h)

/-- A function of plain values that leaves the world alone. -/
theorem ac_plain {f : FuncId} {args : List Value} {v : Value} (hv : plain v = true) (hc : ∀ w, Calls P f args.toArray w fun e w' => e = .returned v ∧ w = w') :
    AC P f (args.map fun x => .c (.v x)) none1 (fun r σ' => r = .x v ∧ σ' = none1) := by
  intro w φ S vs hargs hsto hlt hφ
  have : vs = args := by
    apply List.ext_getElem?
    intro j
    have hl := hargs.1
    rw [List.length_map] at hl
    by_cases hj : j < args.length
    · have h1 : vs[j]? = some (vs[j]'(by omega)) := List.getElem?_eq_getElem (by omega)
      have h2 := hargs.2 j (.c (.v args[j])) _ (by rw [List.getElem?_map, List.getElem?_eq_getElem hj]; rfl) h1
      have h3 : Rep S w φ (.v args[j]) (vs[j]'(by omega)) := h2
      have h4 := repF_x h3
      rw [h1, List.getElem?_eq_getElem hj, h4]
    · rw [List.getElem?_eq_none (by omega), List.getElem?_eq_none (by omega)]
  subst this
  refine (hc w).mono ?_
  rintro e w' ⟨rfl, rfl⟩
  have e0 : ∀ id k, none1 id = some k → False := fun id k h => by cases h
  have hp : Post S S w w φ φ none1 none1 := by
    refine ⟨⟨fun id k h => (e0 id k h).elim, fun id _ k _ _ _ h => (e0 id k h).elim⟩, fun id k _ h => (e0 id k h).elim, fun _ _ h => ?_, fun _ h => h, fun _ h => .inl h, hlt, Keep.refl _ _⟩
    cases h
  exact ⟨.x v, none1, φ, S, v, ⟨rfl, rfl⟩, rfl, Rep.v hv, hp⟩
end
end Go.Proofs.Ytbcjjenidkgodaa
