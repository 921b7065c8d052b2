/- The law, by the abstract walk. -/
import Derived.Test.YtbcjjenidkgodaaAwakeA
import Derived.Test.YtbcjjenidkgodaaBody
namespace Go.Proofs.Ytbcjjenidkgodaa
open Go Go.RowKit

def caB (c : Ca) : Blk := ⟨29, 4, [encCa c]⟩
def linesR (l : List Line) : List (List CV) := l.map encLine
def linesB (l : List Line) : Blk := ⟨37, 4, linesR l⟩
theorem linesR_len (l : List Line) : (linesR l).length = l.length := by simp [linesR]
theorem encLine_free (x : Line) : ∀ y ∈ encLine x, CV.free y = true := fun y hy => by
  simp only [encLine, List.mem_cons, List.not_mem_nil, or_false] at hy
  rcases hy with rfl | rfl | rfl | rfl <;> rfl
theorem linesR_free (l : List Line) : ∀ r ∈ linesR l, ∀ x ∈ r, CV.free x = true := fun r hr => by
  obtain ⟨y, _, rfl⟩ := List.mem_map.1 hr; exact encLine_free y
theorem linesR_get {l : List Line} {k : Nat} {x : Line} (h : l[k]? = some x) : (linesR l)[k]? = some (encLine x) := by simp [linesR, h]

/-- Between two operations of the law. -/
def mid (L : List Int) (kd k : Nat) (c : Ca) (Hs : List Line) : St := stOf [(3, .a (.c (.ptr 3400 0 0))), (4, .a (.c (.ptr 500 0 0))), (6, .a (.c (.ref 700 0 Hs.length))), (7, .i k)] [(3400, diceB L kd), (500, caB c), (700, linesB Hs)]

theorem aw_cv {P : Program} {J : Env} {c : Code} {Q : Exit → St → Prop} {st st2 : St} (h : Cv J st st2) (h2 : AW P J c Q st2) : AW P J c Q st := fun φ S a w hR => by
  obtain ⟨φ', S', hR'⟩ := h φ S a w hR
  exact h2 φ' S' a w hR'

theorem cv_mid {J : Env} {st : St} {L : List Int} {kd k : Nat} {c : Ca} {Hs : List Line} {idh : Nat} (hJK : JOK J) (h3 : st.f 3 = some (.a (.c (.ptr 3400 0 0)))) (h4 : st.f 4 = some (.a (.c (.ptr 500 0 0)))) (h6 : st.f 6 = some (.a (.c (.ref idh 0 Hs.length)))) (h7 : st.f 7 = some (.i k))
    (s1 : st.s 3400 = some (diceB L kd)) (s2 : st.s 500 = some (caB c)) (s3 : st.s idh = some (linesB Hs)) (hid : 600 ≤ idh) (hne : idh ≠ 3400) : Cv J st (mid L kd k c Hs) := by
  have := cv_conv (J := J) (st := st) (fun i => if i = idh then 700 else i) [] [(3, .a (.c (.ptr 3400 0 0))), (4, .a (.c (.ptr 500 0 0))), (6, .a (.c (.ref 700 0 Hs.length))), (7, .i k)] [(3400, diceB L kd), (500, caB c), (idh, linesB Hs)] hJK
    (by
      have e1 : (3400 : Nat) ≠ idh := fun h => hne h.symm
      have e2 : (500 : Nat) ≠ idh := by omega
      simp [injOn, e1, e2, hne, show idh ≠ 500 by omega]; omega) (fun i hi => if_neg (by omega)) (fun i h => by simp at h)
    ⟨⟨_, h3, by simp [FV.okC, AV.okC, CV.okC, okId], by simp [FV.cvt, AV.cvt, CV.cvt, Ne.symm hne]⟩, ⟨_, h4, by simp [FV.okC, AV.okC, CV.okC, okId], by simp [FV.cvt, AV.cvt, CV.cvt, show (500 : Nat) ≠ idh by omega]⟩, ⟨_, h6, by simp [FV.okC, AV.okC, CV.okC, okId], by simp [FV.cvt, AV.cvt, CV.cvt]⟩, ⟨_, h7, rfl, rfl⟩, trivial⟩
    (allSC_free s1 (blk_free rfl) (allSC_free s2 (blk_free rfl) (allSC_free s3 (linesR_free _) trivial)))
  have e1 : (3400 : Nat) ≠ idh := fun h => hne h.symm
  have e2 : (500 : Nat) ≠ idh := by omega
  simpa [mid, e1, e2] using this

/-- What an operation of the law must come to. -/
def QOKA (J : Env) (Q : Exit → St → Prop) (L : List Int) (k n : Nat) : Prop :=
  ∀ st' kd' c' Hs', kd' ≤ L.length → JC c' Hs' → c'.size = 2 → Hs'.length ≤ n + 1 → Cv J st' (mid L kd' k c' Hs') → Q .normal st'

/-- With the address and where it is. -/
def midA (L : List Int) (kd k : Nat) (c : Ca) (Hs : List Line) (ad at_ : Int) : St := stOf [(3, .a (.c (.ptr 3400 0 0))), (4, .a (.c (.ptr 500 0 0))), (6, .a (.c (.ref 700 0 Hs.length))), (7, .i k), (8, .i ad), (9, .i at_)] [(3400, diceB L kd), (500, caB c), (700, linesB Hs)]

theorem dec_ge (q : Nat) : decide ((q : Int) ≥ 0) = true := by simp
theorem dec_lt0 (q : Nat) : decide ((q : Int) < 0) = false := by simp
theorem wrap1 {q : Nat} (h : q < 1000000) : IntKind.i64.wrap ((q : Int) + 1) = ((q + 1 : Nat) : Int) := by rw [IntKind.wrap_i64]; omega
theorem elemAt_ref {id off len m q : Nat} (h : q < len) : elemAt (.ref id off len) (q : Int) m = some (.ptr id (off + q) 0) := by
  simp only [elemAt]; rw [if_pos (by omega)]; simp
theorem slice_ref {e id off n lo hi : Nat} (h : lo ≤ hi) (h2 : hi ≤ n) : sliceV e (.ref id off n) (lo : Int) (hi : Int) = some (.ref id (off + lo) (hi - lo)) := by
  simp only [sliceV]; rw [if_pos (by omega)]; simp
theorem slice_ref0 {e id off n hi : Nat} (h2 : hi ≤ n) : sliceV e (.ref id off n) 0 (hi : Int) = some (.ref id off hi) := by
  simp only [sliceV]; rw [if_pos (by omega)]; simp
theorem linesR_row (l : List Line) : ∀ r ∈ linesR l, r.length = 4 := fun r hr => by
  obtain ⟨y, _, rfl⟩ := List.mem_map.1 hr; rfl
theorem rows_take {l : List Line} {q : Nat} : ((linesB l).rows.drop 0).take q = linesR (l.take q) := by simp [linesB, linesR, List.map_take]
theorem rows_drop {l : List Line} {q : Nat} : ((linesB l).rows.drop (0 + (q + 1))).take (l.length - (q + 1)) = linesR (l.drop (q + 1)) := by
  rw [Nat.zero_add, List.take_of_length_le (by simp [linesB, linesR])]
  simp [linesB, linesR, List.map_drop]
/-- Where the first one is. -/
def firstIx (p : Line → Bool) (l : List Line) : Int := match l.findIdx? p with
  | some i => (i : Int)
  | none => -1
theorem firstIx_snoc (p : Line → Bool) (l : List Line) (x : Line) : firstIx p (l ++ [x]) = if firstIx p l < 0 then (if p x then (l.length : Int) else -1) else firstIx p l := by
  unfold firstIx
  rw [List.findIdx?_append]
  cases h : l.findIdx? p with
  | some i => simp; omega
  | none => by_cases hp : p x = true <;> simp [hp]
theorem firstIx_bd (p : Line → Bool) (l : List Line) : -1 ≤ firstIx p l ∧ firstIx p l < l.length + 1 := by
  unfold firstIx
  cases h : l.findIdx? p with
  | none => simp; omega
  | some i => have := (List.findIdx?_eq_some_iff_getElem.1 h).1; simp only []; omega
theorem take_snoc' {l : List Line} {j : Nat} {x : Line} (h : l[j]? = some x) : l.take (j + 1) = l.take j ++ [x] := by
  rw [List.take_add_one, h]; rfl

noncomputable def cntC : Code := sub [1,1,1,1,0] putC

def lineB (x : Line) : Blk := ⟨37, 4, [encLine x]⟩
def cntSt (L : List Int) (kd k : Nat) (c c' : Ca) (Hs : List Line) (ad at_ : Int) (z v : Line) (ok : Bool) (s o : Int) : St :=
  stOf [(3, .a (.c (.ptr 3400 0 0))), (4, .a (.c (.ptr 500 0 0))), (6, .a (.c (.ref 700 0 Hs.length))), (7, .i k), (8, .i ad), (9, .i at_), (18, .a (.c (.ptr 1900 0 0))), (19, .a (.c (.ptr 2000 0 0))), (20, .a (.c (.ptr 2100 0 0))), (21, .b ok), (23, .i s), (24, .i o)]
    [(3400, diceB L kd), (500, caB c), (700, linesB Hs), (1900, lineB z), (2000, caB c'), (2100, lineB v)]
def cntSt2 (L : List Int) (kd k : Nat) (c c' : Ca) (Hs : List Line) (ad at_ : Int) (z v : Line) (ok : Bool) (s o : Int) (j : Nat) : St :=
  stOf [(3, .a (.c (.ptr 3400 0 0))), (4, .a (.c (.ptr 500 0 0))), (6, .a (.c (.ref 700 0 Hs.length))), (7, .i k), (8, .i ad), (9, .i at_), (18, .a (.c (.ptr 1900 0 0))), (19, .a (.c (.ptr 2000 0 0))), (20, .a (.c (.ptr 2100 0 0))), (21, .b ok), (23, .i s), (24, .i o), (90, .a (.c (.ref 700 0 Hs.length))), (91, .i Hs.length), (92, .i j)]
    [(3400, diceB L kd), (500, caB c), (700, linesB Hs), (1900, lineB z), (2000, caB c'), (2100, lineB v)]

/-- Behind an operation of the law: valid; the next round. -/
theorem tail_aw {J : Env} {Q : Exit → St → Prop} (hJ : J.n = 247) (L : List Int) (kd k : Nat) (c : Ca) (Hs : List Line) (hJC : JC c Hs) (hk : k < 40)
    (hJK : JOK J) (hQ : ∀ st', Cv J st' (mid L kd k c Hs) → Q .normal st') : AW Try.prog J tailC Q (mid L kd k c Hs) := by
  have hv := valid_ac c hJC.valid
  have h1 := hJC.sets1
  have h2 := hJC.ways1
  show AW Try.prog J (.seq (.region 56 _ _) (.cond _ _ _)) Q _
  refine aw_seq ?_
  -- region 56
  refine aw_region hJ (fun h => (by cases h)) ?_
  refine ⟨_, (by first | exact step_load rfl rfl rfl rfl sz29 ag29 rfl rfl rfl | exact step_loadRow rfl rfl rfl rfl sz29 ag29 rfl), ?_⟩  -- t233
  refine ⟨_, step_call0 (xs := [.agg (encCa c)]) rfl rfl cal14 rfl rfl rfl rfl rfl hv, ?_⟩  -- t234
  refine ⟨_, step_un rfl rfl rfl rfl rfl, ?_⟩  -- t235
  refine ⟨_, step_move (.inl rfl) rfl rfl rfl, ?_⟩  -- t236
  refine ⟨_, step_fieldAddr rfl rfl rfl rfl fld29_0 (by decide) rfl, ?_⟩  -- t237
  refine ⟨_, (by first | exact step_load rfl rfl rfl rfl sz3 ag3 rfl rfl rfl | exact step_loadRow rfl rfl rfl rfl sz3 ag3 rfl), ?_⟩  -- t238
  refine ⟨_, step_bin rfl rfl rfl rfl rfl (show some (Value.bool (decide ((c.sets : Int) < 1))) = some (.bool false) by rw [decide_eq_false (by omega)]), ?_⟩  -- t239
  refine ⟨_, step_pick rfl rfl rfl rfl rfl, ?_⟩  -- t240
  refine ⟨_, step_move (.inl rfl) rfl rfl rfl, ?_⟩  -- t241
  refine ⟨_, step_fieldAddr rfl rfl rfl rfl fld29_1 (by decide) rfl, ?_⟩  -- t242
  refine ⟨_, (by first | exact step_load rfl rfl rfl rfl sz3 ag3 rfl rfl rfl | exact step_loadRow rfl rfl rfl rfl sz3 ag3 rfl), ?_⟩  -- t243
  refine ⟨_, step_bin rfl rfl rfl rfl rfl (show some (Value.bool (decide ((c.ways : Int) < 1))) = some (.bool false) by rw [decide_eq_false (by omega)]), ?_⟩  -- t244
  refine ⟨_, step_pick rfl rfl rfl rfl rfl, ?_⟩  -- t245
  refine ⟨fun h => (by cases h), ?_⟩
  refine aw_cond2 rfl (fun h => (by cases h)) (fun h => ?_)
  refine aw_skip ?_
  exact hQ _ (cv_mid (idh := 700) hJK rfl rfl rfl rfl rfl rfl rfl (by decide) (by decide))

set_option maxRecDepth 20000 in
theorem get_noA {J : Env} {Q : Exit → St → Prop} (hJ : J.n = 247) (hJK : JOK J) (L : List Int) (kd k : Nat) (ad : Int) (c : Ca) (Hs : List Line) (hkd : kd ≤ L.length) (hJC : JC c Hs) (hz : c.size = 2) (had : 0 ≤ ad) (hno : ∀ x ∈ Hs, x.addr ≠ ad) (hQ : QOKA J Q L k Hs.length) :
    AW Try.prog J getC Q (midA L kd k c Hs ad (-1)) := by
  have hget := get_ac c ad hJC.valid had
  rw [get_law_not hJC hno] at hget
  refine aw_seq ?_
  -- region 43
  refine aw_region hJ (fun h => (by cases h)) ?_
  refine ⟨_, (by first | exact step_load rfl rfl rfl rfl sz29 ag29 rfl rfl rfl | exact step_loadRow rfl rfl rfl rfl sz29 ag29 rfl), ?_⟩  -- t158
  refine ⟨_, step_move (.inl rfl) rfl rfl rfl, ?_⟩  -- t159
  refine ⟨_, step_call0 (xs := [.agg (encCa c), .i ad]) rfl rfl cal9 rfl rfl rfl rfl rfl hget, ?_⟩  -- t160
  refine ⟨_, step_move (.inl rfl) rfl rfl rfl, ?_⟩  -- t157
  refine ⟨_, step_extract rfl rfl rfl rfl rfl, ?_⟩  -- t161
  refine ⟨_, step_extract rfl rfl rfl rfl rfl, ?_⟩  -- t162
  refine ⟨_, step_extract rfl rfl rfl rfl rfl, ?_⟩  -- t163
  refine ⟨_, step_alloc (id := 1300) rfl rfl rfl zr29 rfl (by decide) rfl, ?_⟩  -- t12
  refine ⟨_, step_alloc (id := 1400) rfl rfl rfl zr37 rfl (by decide) rfl, ?_⟩  -- t13
  refine ⟨_, step_store rfl rfl rfl rfl rfl rfl sz29 rfl rfl (Nat.le_of_ble_eq_true rfl), ?_⟩  -- t_
  refine ⟨_, step_store rfl rfl rfl rfl rfl rfl sz37 rfl rfl (Nat.le_of_ble_eq_true rfl), ?_⟩  -- t_
  refine ⟨_, step_move (.inr rfl) rfl rfl rfl, ?_⟩  -- t14
  refine ⟨fun h => (by cases h), ?_⟩
  refine aw_seq ?_
  refine aw_seq ?_
  -- region 44 DRAWS
  refine aw_region hJ (fun _ => ⟨mixed, by kernel_rfl⟩) ?_
  refine ⟨_, step_move (.inl rfl) rfl rfl rfl, ?_⟩  -- t164
  refine ⟨_, step_move (.inl rfl) rfl rfl rfl, ?_⟩  -- t165
  refine ⟨_, step_bin rfl rfl rfl rfl rfl rfl, ?_⟩  -- t166
  refine ⟨_, step_bin rfl rfl rfl rfl rfl (by simp only [evBin, un4]; rfl), ?_⟩  -- t167
  refine ⟨_, step_move (.inl rfl) rfl rfl rfl, ?_⟩  -- t168
  refine ⟨_, step_move (.inl rfl) rfl rfl rfl, ?_⟩  -- t169
  refine ⟨_, step_move (.inl rfl) rfl rfl rfl, ?_⟩  -- t170
  refine ⟨_, step_off rfl rfl, ?_⟩  -- t171
  refine ⟨_, step_off rfl rfl, ?_⟩  -- t172
  refine ⟨_, step_off rfl rfl, ?_⟩  -- t173
  refine ⟨_, step_off rfl rfl, ?_⟩  -- t174
  refine ⟨_, step_off rfl rfl, ?_⟩  -- t175
  refine ⟨_, step_off rfl rfl, ?_⟩  -- t176
  refine ⟨_, step_off rfl rfl, ?_⟩  -- t177
  refine ⟨_, step_pick rfl rfl rfl rfl rfl, ?_⟩  -- t178
  refine ⟨_, step_pick rfl rfl rfl rfl rfl, ?_⟩  -- t179
  refine ⟨fun _ => by kernel_rfl, ?_⟩
  refine aw_cond2 rfl (fun h => (by cases h)) (fun h => ?_)
  refine aw_skip ?_
  refine aw_seq ?_
  -- region 46
  refine aw_region hJ (fun h => (by cases h)) ?_
  refine ⟨_, (by first | exact step_load rfl rfl rfl rfl sz29 ag29 rfl rfl rfl | exact step_loadRow rfl rfl rfl rfl sz29 ag29 rfl), ?_⟩  -- t180
  refine ⟨_, step_store rfl rfl rfl rfl rfl rfl sz29 rfl rfl (Nat.le_of_ble_eq_true rfl), ?_⟩  -- t_
  refine ⟨fun h => (by cases h), ?_⟩
  refine aw_seq ?_
  -- region 47
  refine aw_region hJ (fun h => (by cases h)) ?_
  refine ⟨_, step_move (.inl rfl) rfl rfl rfl, ?_⟩  -- t181
  refine ⟨fun h => (by cases h), ?_⟩
  refine aw_cond2 rfl (fun h => (by cases h)) (fun h => ?_)
  refine aw_skip ?_
  exact hQ _ kd c Hs hkd hJC hz (by omega) (cv_mid (idh := 700) hJK rfl rfl rfl rfl rfl rfl rfl (by decide) (by decide))

set_option maxRecDepth 20000 in
theorem drop_noA {J : Env} {Q : Exit → St → Prop} (hJ : J.n = 247) (hJK : JOK J) (L : List Int) (kd k : Nat) (ad : Int) (c : Ca) (Hs : List Line) (hkd : kd ≤ L.length) (hJC : JC c Hs) (hz : c.size = 2) (had : 0 ≤ ad) (hno : ∀ x ∈ Hs, x.addr ≠ ad) (hQ : QOKA J Q L k Hs.length) :
    AW Try.prog J dropC Q (midA L kd k c Hs ad (-1)) := by
  have hget := drop_ac c ad hJC.valid had
  rw [drop_law_not hJC hno] at hget
  refine aw_seq ?_
  -- region 50
  refine aw_region hJ (fun h => (by cases h)) ?_
  refine ⟨_, (by first | exact step_load rfl rfl rfl rfl sz29 ag29 rfl rfl rfl | exact step_loadRow rfl rfl rfl rfl sz29 ag29 rfl), ?_⟩  -- t200
  refine ⟨_, step_move (.inl rfl) rfl rfl rfl, ?_⟩  -- t201
  refine ⟨_, step_call0 (xs := [.agg (encCa c), .i ad]) rfl rfl cal11 rfl rfl rfl rfl rfl hget, ?_⟩  -- t202
  refine ⟨_, step_move (.inl rfl) rfl rfl rfl, ?_⟩  -- t199
  refine ⟨_, step_extract rfl rfl rfl rfl rfl, ?_⟩  -- t203
  refine ⟨_, step_extract rfl rfl rfl rfl rfl, ?_⟩  -- t204
  refine ⟨_, step_extract rfl rfl rfl rfl rfl, ?_⟩  -- t205
  refine ⟨_, step_alloc (id := 1600) rfl rfl rfl zr29 rfl (by decide) rfl, ?_⟩  -- t15
  refine ⟨_, step_alloc (id := 1700) rfl rfl rfl zr37 rfl (by decide) rfl, ?_⟩  -- t16
  refine ⟨_, step_store rfl rfl rfl rfl rfl rfl sz29 rfl rfl (Nat.le_of_ble_eq_true rfl), ?_⟩  -- t_
  refine ⟨_, step_store rfl rfl rfl rfl rfl rfl sz37 rfl rfl (Nat.le_of_ble_eq_true rfl), ?_⟩  -- t_
  refine ⟨_, step_move (.inr rfl) rfl rfl rfl, ?_⟩  -- t17
  refine ⟨fun h => (by cases h), ?_⟩
  refine aw_seq ?_
  refine aw_seq ?_
  -- region 51 DRAWS
  refine aw_region hJ (fun _ => ⟨mixed, by kernel_rfl⟩) ?_
  refine ⟨_, step_move (.inl rfl) rfl rfl rfl, ?_⟩  -- t206
  refine ⟨_, step_move (.inl rfl) rfl rfl rfl, ?_⟩  -- t207
  refine ⟨_, step_bin rfl rfl rfl rfl rfl rfl, ?_⟩  -- t208
  refine ⟨_, step_bin rfl rfl rfl rfl rfl (by simp only [evBin, un4]; rfl), ?_⟩  -- t209
  refine ⟨_, step_move (.inl rfl) rfl rfl rfl, ?_⟩  -- t210
  refine ⟨_, step_move (.inl rfl) rfl rfl rfl, ?_⟩  -- t211
  refine ⟨_, step_move (.inl rfl) rfl rfl rfl, ?_⟩  -- t212
  refine ⟨_, step_off rfl rfl, ?_⟩  -- t213
  refine ⟨_, step_off rfl rfl, ?_⟩  -- t214
  refine ⟨_, step_off rfl rfl, ?_⟩  -- t215
  refine ⟨_, step_off rfl rfl, ?_⟩  -- t216
  refine ⟨_, step_off rfl rfl, ?_⟩  -- t217
  refine ⟨_, step_off rfl rfl, ?_⟩  -- t218
  refine ⟨_, step_off rfl rfl, ?_⟩  -- t219
  refine ⟨_, step_pick rfl rfl rfl rfl rfl, ?_⟩  -- t220
  refine ⟨_, step_pick rfl rfl rfl rfl rfl, ?_⟩  -- t221
  refine ⟨fun _ => by kernel_rfl, ?_⟩
  refine aw_cond2 rfl (fun h => (by cases h)) (fun h => ?_)
  refine aw_skip ?_
  refine aw_seq ?_
  -- region 53
  refine aw_region hJ (fun h => (by cases h)) ?_
  refine ⟨_, (by first | exact step_load rfl rfl rfl rfl sz29 ag29 rfl rfl rfl | exact step_loadRow rfl rfl rfl rfl sz29 ag29 rfl), ?_⟩  -- t222
  refine ⟨_, step_store rfl rfl rfl rfl rfl rfl sz29 rfl rfl (Nat.le_of_ble_eq_true rfl), ?_⟩  -- t_
  refine ⟨fun h => (by cases h), ?_⟩
  refine aw_seq ?_
  -- region 54
  refine aw_region hJ (fun h => (by cases h)) ?_
  refine ⟨_, step_move (.inl rfl) rfl rfl rfl, ?_⟩  -- t223
  refine ⟨fun h => (by cases h), ?_⟩
  refine aw_cond2 rfl (fun h => (by cases h)) (fun h => ?_)
  refine aw_skip ?_
  exact hQ _ kd c Hs hkd hJC hz (by omega) (cv_mid (idh := 700) hJK rfl rfl rfl rfl rfl rfl rfl (by decide) (by decide))

set_option maxRecDepth 20000 in
theorem get_yesA {J : Env} {Q : Exit → St → Prop} (hJ : J.n = 247) (hJK : JOK J) (L : List Int) (kd k q : Nat) (x : Line) (c : Ca) (Hs : List Line) (hkd : kd ≤ L.length) (hJC : JC c Hs) (hz : c.size = 2) (hx : Hs[q]? = some x) (hn : Hs.length ≤ 40) (hQ : QOKA J Q L k Hs.length) :
    AW Try.prog J getC Q (midA L kd k c Hs x.addr q) := by
  have hxe := hJC.hs.each x (List.mem_of_getElem? hx)
  have hget := get_ac c x.addr hJC.valid hxe.1
  obtain ⟨ss, hsl, hlaw, hJ2⟩ := get_law hJC hx
  rw [hlaw] at hget
  have hsame := same_ac x (by have := hxe.2.2; omega)
  have hql : q < Hs.length := (List.getElem?_eq_some_iff.1 hx).1
  have hrow : (linesB Hs).rows[0 + q]? = some (encLine x) := by rw [Nat.zero_add]; exact linesR_get hx
  refine aw_seq ?_
  -- region 43
  refine aw_region hJ (fun h => (by cases h)) ?_
  refine ⟨_, (by first | exact step_load rfl rfl rfl rfl sz29 ag29 rfl rfl rfl | exact step_loadRow rfl rfl rfl rfl sz29 ag29 rfl), ?_⟩  -- t158
  refine ⟨_, step_move (.inl rfl) rfl rfl rfl, ?_⟩  -- t159
  refine ⟨_, step_call0 (xs := [.agg (encCa c), .i x.addr]) rfl rfl cal9 rfl rfl rfl rfl rfl hget, ?_⟩  -- t160
  refine ⟨_, step_move (.inl rfl) rfl rfl rfl, ?_⟩  -- t157
  refine ⟨_, step_extract rfl rfl rfl rfl rfl, ?_⟩  -- t161
  refine ⟨_, step_extract rfl rfl rfl rfl rfl, ?_⟩  -- t162
  refine ⟨_, step_extract rfl rfl rfl rfl rfl, ?_⟩  -- t163
  refine ⟨_, step_alloc (id := 1300) rfl rfl rfl zr29 rfl (by decide) rfl, ?_⟩  -- t12
  refine ⟨_, step_alloc (id := 1400) rfl rfl rfl zr37 rfl (by decide) rfl, ?_⟩  -- t13
  refine ⟨_, step_store rfl rfl rfl rfl rfl rfl sz29 rfl rfl (Nat.le_of_ble_eq_true rfl), ?_⟩  -- t_
  refine ⟨_, step_store rfl rfl rfl rfl rfl rfl sz37 rfl rfl (Nat.le_of_ble_eq_true rfl), ?_⟩  -- t_
  refine ⟨_, step_move (.inr rfl) rfl rfl rfl, ?_⟩  -- t14
  refine ⟨fun h => (by cases h), ?_⟩
  refine aw_seq ?_
  refine aw_seq ?_
  -- region 44 DRAWS
  refine aw_region hJ (fun _ => ⟨mixed, by kernel_rfl⟩) ?_
  refine ⟨_, step_move (.inl rfl) rfl rfl rfl, ?_⟩  -- t164
  refine ⟨_, step_move (.inl rfl) rfl rfl rfl, ?_⟩  -- t165
  refine ⟨_, step_bin rfl rfl rfl rfl rfl (show some (Value.bool (decide ((q : Int) ≥ 0))) = some (.bool true) by rw [dec_ge]), ?_⟩  -- t166
  refine ⟨_, step_bin rfl rfl rfl rfl rfl (by simp only [evBin, un4]; rfl), ?_⟩  -- t167
  refine ⟨_, step_move (.inl rfl) rfl rfl rfl, ?_⟩  -- t168
  refine ⟨_, step_move (.inl rfl) rfl rfl rfl, ?_⟩  -- t169
  refine ⟨_, step_move (.inl rfl) rfl rfl rfl, ?_⟩  -- t170
  refine ⟨_, (by first | exact step_load rfl rfl rfl rfl sz37 ag37 rfl rfl rfl | exact step_loadRow rfl rfl rfl rfl sz37 ag37 rfl), ?_⟩  -- t171
  refine ⟨_, step_move (.inl rfl) rfl rfl rfl, ?_⟩  -- t172
  refine ⟨_, step_move (.inl rfl) rfl rfl rfl, ?_⟩  -- t173
  refine ⟨_, step_indexAddr rfl rfl rfl rfl rfl el34 (elemAt_ref hql) (fun id off len h => by cases h; exact ⟨_, rfl, rfl⟩), ?_⟩  -- t174
  refine ⟨_, step_load rfl rfl rfl rfl sz37 ag37 rfl hrow rfl, ?_⟩  -- t175
  refine ⟨_, step_call0 (xs := [.agg (encLine x), .agg (encLine x)]) rfl rfl cal10 rfl rfl rfl rfl rfl hsame, ?_⟩  -- t176
  refine ⟨_, step_un rfl rfl rfl rfl rfl, ?_⟩  -- t177
  refine ⟨_, step_pick rfl rfl rfl rfl rfl, ?_⟩  -- t178
  refine ⟨_, step_pick rfl rfl rfl rfl rfl, ?_⟩  -- t179
  refine ⟨fun _ => by kernel_rfl, ?_⟩
  refine aw_cond2 rfl (fun h => (by cases h)) (fun h => ?_)
  refine aw_skip ?_
  refine aw_seq ?_
  -- region 46
  refine aw_region hJ (fun h => (by cases h)) ?_
  refine ⟨_, (by first | exact step_load rfl rfl rfl rfl sz29 ag29 rfl rfl rfl | exact step_loadRow rfl rfl rfl rfl sz29 ag29 rfl), ?_⟩  -- t180
  refine ⟨_, step_store rfl rfl rfl rfl rfl rfl sz29 rfl rfl (Nat.le_of_ble_eq_true rfl), ?_⟩  -- t_
  refine ⟨fun h => (by cases h), ?_⟩
  refine aw_seq ?_
  -- region 47
  refine aw_region hJ (fun h => (by cases h)) ?_
  refine ⟨_, step_move (.inl rfl) rfl rfl rfl, ?_⟩  -- t181
  refine ⟨fun h => (by cases h), ?_⟩
  refine aw_cond2 rfl (fun h => ?_) (fun h => (by cases h))
  -- region 48 DRAWS
  refine aw_region hJ (fun _ => ⟨mixed, by kernel_rfl⟩) ?_
  refine ⟨_, step_move (.inl rfl) rfl rfl rfl, ?_⟩  -- t182
  refine ⟨_, step_move (.inl rfl) rfl rfl rfl, ?_⟩  -- t183
  refine ⟨_, step_slice rfl rfl rfl rfl el34 rfl rfl rfl (slice_ref0 (by omega)) rfl (fun id off len h => by cases h; exact ⟨_, rfl, rfl⟩), ?_⟩  -- t184
  refine ⟨_, step_append (id := 18600) rfl rfl rfl rfl rfl el34 by37 zr37 rfl (by decide) rfl (news_ref (rows := linesR (Hs.take q)) rfl (by show 0 + q ≤ (linesR Hs).length; rw [linesR_len]; omega) rows_take) (linesR_row _) (by simp [linesR_len]; omega) (by decide) rfl, ?_⟩  -- t185
  refine ⟨_, step_move (.inl rfl) rfl rfl rfl, ?_⟩  -- t186
  refine ⟨_, step_move (.inl rfl) rfl rfl rfl, ?_⟩  -- t187
  refine ⟨_, step_bin rfl rfl rfl rfl rfl (show some (Value.int .i64 (IntKind.i64.wrap ((q : Int) + 1))) = some (.int .i64 ((q + 1 : Nat) : Int)) by rw [wrap1 (by omega)]), ?_⟩  -- t188
  refine ⟨_, step_slice rfl rfl rfl rfl el34 rfl rfl rfl (slice_ref (lo := q + 1) (hi := Hs.length) (by omega) (by omega)) rfl (fun id off len h => by cases h; exact ⟨_, rfl, rfl⟩), ?_⟩  -- t189
  refine ⟨_, step_append (id := 19100) rfl rfl rfl rfl rfl el34 by37 zr37 rfl (by decide) (base_ref rfl (by simp) rfl rfl) (news_ref (rows := linesR (Hs.drop (q + 1))) rfl (by show 0 + (q + 1) + (Hs.length - (q + 1)) ≤ (linesR Hs).length; rw [linesR_len]; omega) rows_drop) (linesR_row _) (by simp [linesR_len]; omega) (by decide) rfl, ?_⟩  -- t190
  refine ⟨_, step_move (.inl rfl) rfl rfl rfl, ?_⟩  -- t191
  refine ⟨_, step_move (.inl rfl) rfl rfl rfl, ?_⟩  -- t192
  refine ⟨_, step_indexAddr rfl rfl rfl rfl rfl el34 (elemAt_ref hql) (fun id off len h => by cases h; exact ⟨_, rfl, rfl⟩), ?_⟩  -- t193
  refine ⟨_, step_load rfl rfl rfl rfl sz37 ag37 rfl hrow rfl, ?_⟩  -- t194
  refine ⟨_, step_buildSlice (id := 19600) rfl rfl rfl el34 zr37 rfl rfl (by decide) (by decide) rfl rfl rfl, ?_⟩  -- t195
  refine ⟨_, step_append (id := 19700) rfl rfl rfl rfl rfl el34 by37 zr37 rfl (by decide) (base_ref rfl (by simp) rfl rfl) (news_ref (rows := [encLine x]) rfl (Nat.le_of_ble_eq_true rfl) rfl) (fun r hr => (by obtain rfl : r = encLine x := (by simpa using hr); rfl)) (by simp [linesR_len]; omega) (by decide) rfl, ?_⟩  -- t196
  refine ⟨_, step_move (.inr rfl) rfl rfl rfl, ?_⟩  -- t6
  refine ⟨fun _ => by kernel_rfl, ?_⟩
  exact hQ _ kd _ _ hkd hJ2 hz (by simp; try omega) (cv_mid (idh := 19700) hJK rfl rfl (by show some (FV.a (.c (.ref 19700 0 _))) = some (FV.a (.c (.ref 19700 0 _))); simp [linesR_len]; try omega) rfl rfl rfl (by show some (Blk.mk _ _ _) = some (Blk.mk _ _ _); simp [linesR]) (by decide) (by decide))

set_option maxRecDepth 20000 in
theorem drop_yesA {J : Env} {Q : Exit → St → Prop} (hJ : J.n = 247) (hJK : JOK J) (L : List Int) (kd k q : Nat) (x : Line) (c : Ca) (Hs : List Line) (hkd : kd ≤ L.length) (hJC : JC c Hs) (hz : c.size = 2) (hx : Hs[q]? = some x) (hn : Hs.length ≤ 40) (hQ : QOKA J Q L k Hs.length) :
    AW Try.prog J dropC Q (midA L kd k c Hs x.addr q) := by
  have hxe := hJC.hs.each x (List.mem_of_getElem? hx)
  have hget := drop_ac c x.addr hJC.valid hxe.1
  obtain ⟨ss, hsl, hlaw, hJ2⟩ := drop_law hJC hx
  rw [hlaw] at hget
  have hsame := same_ac x (by have := hxe.2.2; omega)
  have hql : q < Hs.length := (List.getElem?_eq_some_iff.1 hx).1
  have hrow : (linesB Hs).rows[0 + q]? = some (encLine x) := by rw [Nat.zero_add]; exact linesR_get hx
  refine aw_seq ?_
  -- region 50
  refine aw_region hJ (fun h => (by cases h)) ?_
  refine ⟨_, (by first | exact step_load rfl rfl rfl rfl sz29 ag29 rfl rfl rfl | exact step_loadRow rfl rfl rfl rfl sz29 ag29 rfl), ?_⟩  -- t200
  refine ⟨_, step_move (.inl rfl) rfl rfl rfl, ?_⟩  -- t201
  refine ⟨_, step_call0 (xs := [.agg (encCa c), .i x.addr]) rfl rfl cal11 rfl rfl rfl rfl rfl hget, ?_⟩  -- t202
  refine ⟨_, step_move (.inl rfl) rfl rfl rfl, ?_⟩  -- t199
  refine ⟨_, step_extract rfl rfl rfl rfl rfl, ?_⟩  -- t203
  refine ⟨_, step_extract rfl rfl rfl rfl rfl, ?_⟩  -- t204
  refine ⟨_, step_extract rfl rfl rfl rfl rfl, ?_⟩  -- t205
  refine ⟨_, step_alloc (id := 1600) rfl rfl rfl zr29 rfl (by decide) rfl, ?_⟩  -- t15
  refine ⟨_, step_alloc (id := 1700) rfl rfl rfl zr37 rfl (by decide) rfl, ?_⟩  -- t16
  refine ⟨_, step_store rfl rfl rfl rfl rfl rfl sz29 rfl rfl (Nat.le_of_ble_eq_true rfl), ?_⟩  -- t_
  refine ⟨_, step_store rfl rfl rfl rfl rfl rfl sz37 rfl rfl (Nat.le_of_ble_eq_true rfl), ?_⟩  -- t_
  refine ⟨_, step_move (.inr rfl) rfl rfl rfl, ?_⟩  -- t17
  refine ⟨fun h => (by cases h), ?_⟩
  refine aw_seq ?_
  refine aw_seq ?_
  -- region 51 DRAWS
  refine aw_region hJ (fun _ => ⟨mixed, by kernel_rfl⟩) ?_
  refine ⟨_, step_move (.inl rfl) rfl rfl rfl, ?_⟩  -- t206
  refine ⟨_, step_move (.inl rfl) rfl rfl rfl, ?_⟩  -- t207
  refine ⟨_, step_bin rfl rfl rfl rfl rfl (show some (Value.bool (decide ((q : Int) ≥ 0))) = some (.bool true) by rw [dec_ge]), ?_⟩  -- t208
  refine ⟨_, step_bin rfl rfl rfl rfl rfl (by simp only [evBin, un4]; rfl), ?_⟩  -- t209
  refine ⟨_, step_move (.inl rfl) rfl rfl rfl, ?_⟩  -- t210
  refine ⟨_, step_move (.inl rfl) rfl rfl rfl, ?_⟩  -- t211
  refine ⟨_, step_move (.inl rfl) rfl rfl rfl, ?_⟩  -- t212
  refine ⟨_, (by first | exact step_load rfl rfl rfl rfl sz37 ag37 rfl rfl rfl | exact step_loadRow rfl rfl rfl rfl sz37 ag37 rfl), ?_⟩  -- t213
  refine ⟨_, step_move (.inl rfl) rfl rfl rfl, ?_⟩  -- t214
  refine ⟨_, step_move (.inl rfl) rfl rfl rfl, ?_⟩  -- t215
  refine ⟨_, step_indexAddr rfl rfl rfl rfl rfl el34 (elemAt_ref hql) (fun id off len h => by cases h; exact ⟨_, rfl, rfl⟩), ?_⟩  -- t216
  refine ⟨_, step_load rfl rfl rfl rfl sz37 ag37 rfl hrow rfl, ?_⟩  -- t217
  refine ⟨_, step_call0 (xs := [.agg (encLine x), .agg (encLine x)]) rfl rfl cal10 rfl rfl rfl rfl rfl hsame, ?_⟩  -- t218
  refine ⟨_, step_un rfl rfl rfl rfl rfl, ?_⟩  -- t219
  refine ⟨_, step_pick rfl rfl rfl rfl rfl, ?_⟩  -- t220
  refine ⟨_, step_pick rfl rfl rfl rfl rfl, ?_⟩  -- t221
  refine ⟨fun _ => by kernel_rfl, ?_⟩
  refine aw_cond2 rfl (fun h => (by cases h)) (fun h => ?_)
  refine aw_skip ?_
  refine aw_seq ?_
  -- region 53
  refine aw_region hJ (fun h => (by cases h)) ?_
  refine ⟨_, (by first | exact step_load rfl rfl rfl rfl sz29 ag29 rfl rfl rfl | exact step_loadRow rfl rfl rfl rfl sz29 ag29 rfl), ?_⟩  -- t222
  refine ⟨_, step_store rfl rfl rfl rfl rfl rfl sz29 rfl rfl (Nat.le_of_ble_eq_true rfl), ?_⟩  -- t_
  refine ⟨fun h => (by cases h), ?_⟩
  refine aw_seq ?_
  -- region 54
  refine aw_region hJ (fun h => (by cases h)) ?_
  refine ⟨_, step_move (.inl rfl) rfl rfl rfl, ?_⟩  -- t223
  refine ⟨fun h => (by cases h), ?_⟩
  refine aw_cond2 rfl (fun h => ?_) (fun h => (by cases h))
  -- region 55 DRAWS
  refine aw_region hJ (fun _ => ⟨mixed, by kernel_rfl⟩) ?_
  refine ⟨_, step_move (.inl rfl) rfl rfl rfl, ?_⟩  -- t224
  refine ⟨_, step_move (.inl rfl) rfl rfl rfl, ?_⟩  -- t225
  refine ⟨_, step_slice rfl rfl rfl rfl el34 rfl rfl rfl (slice_ref0 (by omega)) rfl (fun id off len h => by cases h; exact ⟨_, rfl, rfl⟩), ?_⟩  -- t226
  refine ⟨_, step_append (id := 22800) rfl rfl rfl rfl rfl el34 by37 zr37 rfl (by decide) rfl (news_ref (rows := linesR (Hs.take q)) rfl (by show 0 + q ≤ (linesR Hs).length; rw [linesR_len]; omega) rows_take) (linesR_row _) (by simp [linesR_len]; omega) (by decide) rfl, ?_⟩  -- t227
  refine ⟨_, step_move (.inl rfl) rfl rfl rfl, ?_⟩  -- t228
  refine ⟨_, step_move (.inl rfl) rfl rfl rfl, ?_⟩  -- t229
  refine ⟨_, step_bin rfl rfl rfl rfl rfl (show some (Value.int .i64 (IntKind.i64.wrap ((q : Int) + 1))) = some (.int .i64 ((q + 1 : Nat) : Int)) by rw [wrap1 (by omega)]), ?_⟩  -- t230
  refine ⟨_, step_slice rfl rfl rfl rfl el34 rfl rfl rfl (slice_ref (lo := q + 1) (hi := Hs.length) (by omega) (by omega)) rfl (fun id off len h => by cases h; exact ⟨_, rfl, rfl⟩), ?_⟩  -- t231
  refine ⟨_, step_append (id := 23300) rfl rfl rfl rfl rfl el34 by37 zr37 rfl (by decide) (base_ref rfl (by simp) rfl rfl) (news_ref (rows := linesR (Hs.drop (q + 1))) rfl (by show 0 + (q + 1) + (Hs.length - (q + 1)) ≤ (linesR Hs).length; rw [linesR_len]; omega) rows_drop) (linesR_row _) (by simp [linesR_len]; omega) (by decide) rfl, ?_⟩  -- t232
  refine ⟨_, step_move (.inr rfl) rfl rfl rfl, ?_⟩  -- t6
  refine ⟨fun _ => by kernel_rfl, ?_⟩
  exact hQ _ kd _ _ hkd hJ2 hz (by simp; try omega) (cv_mid (idh := 23300) hJK rfl rfl (by show some (FV.a (.c (.ref 23300 0 _))) = some (FV.a (.c (.ref 23300 0 _))); simp [linesR_len]; try omega) rfl rfl rfl (by show some (Blk.mk _ _ _) = some (Blk.mk _ _ _); simp [linesR]) (by decide) (by decide))

set_option maxRecDepth 20000 in
/-- How many lines of the set there are, and the first of them. -/
theorem count_aw {J : Env} {Q : Exit → St → Prop} (hJ : J.n = 247) (hJK : JOK J) (L : List Int) (kd k : Nat) (c c' : Ca) (Hs : List Line) (ad at_ : Int) (z v : Line) (ok : Bool) (hc1 : 1 ≤ c.sets) (had : 0 ≤ ad) (hHs : ∀ x ∈ Hs, 0 ≤ x.addr) (hn : Hs.length ≤ 40)
    (hQ : ∀ st', Cv J st' (cntSt L kd k c c' Hs ad at_ z v ok ((Hs.filter (inSet c.sets (c.no ad))).length : Nat) (firstIx (inSet c.sets (c.no ad)) Hs)) → Q .normal st') :
    AW Try.prog J cntC Q (cntSt L kd k c c' Hs ad at_ z v ok 0 (-1)) := by
  have hno : (c.no ad : Int) = ad % (c.sets : Int) := by unfold Ca.no; exact Int.toNat_of_nonneg (Int.emod_nonneg _ (by omega))
  refine aw_seq ?_
  -- region 25
  refine aw_region hJ (fun h => (by cases h)) ?_
  refine ⟨_, step_move (.inl rfl) rfl rfl rfl, ?_⟩  -- t90
  refine ⟨_, step_len rfl rfl rfl rfl (by rw [el34]; rfl) rfl, ?_⟩  -- t91
  refine ⟨_, step_move (.inl rfl) rfl rfl rfl, ?_⟩  -- t92
  refine ⟨fun h => (by cases h), ?_⟩
  refine aw_block ?_
  refine aw_conv (fun i => i) [] [(3, .a (.c (.ptr 3400 0 0))), (4, .a (.c (.ptr 500 0 0))), (6, .a (.c (.ref 700 0 Hs.length))), (7, .i k), (8, .i ad), (9, .i at_), (18, .a (.c (.ptr 1900 0 0))), (19, .a (.c (.ptr 2000 0 0))), (20, .a (.c (.ptr 2100 0 0))), (21, .b ok), (23, .i 0), (24, .i (-1)), (90, .a (.c (.ref 700 0 Hs.length))), (91, .i Hs.length), (92, .i (0 : Nat))] [(3400, diceB L kd), (500, caB c), (700, linesB Hs), (1900, lineB z), (2000, caB c'), (2100, lineB v)] hJK rfl (fun _ _ => rfl) (fun i h => by simp at h) ⟨⟨_, rfl, rfl, rfl⟩, ⟨_, rfl, rfl, rfl⟩, ⟨_, rfl, rfl, rfl⟩, ⟨_, rfl, rfl, rfl⟩, ⟨_, rfl, rfl, rfl⟩, ⟨_, rfl, rfl, rfl⟩, ⟨_, rfl, rfl, rfl⟩, ⟨_, rfl, rfl, rfl⟩, ⟨_, rfl, rfl, rfl⟩, ⟨_, rfl, rfl, rfl⟩, ⟨_, rfl, rfl, rfl⟩, ⟨_, rfl, rfl, rfl⟩, ⟨_, rfl, rfl, rfl⟩, ⟨_, rfl, rfl, rfl⟩, ⟨_, rfl, rfl, rfl⟩, trivial⟩ (allSC_free rfl (blk_free rfl) (allSC_free rfl (blk_free rfl) (allSC_free rfl (linesR_free _) (allSC_free rfl (blk_free rfl) (allSC_free rfl (blk_free rfl) (allSC_free rfl (blk_free rfl) trivial)))))) ?_
  refine aw_loop (fun m st => ∃ j, j ≤ Hs.length ∧ m = Hs.length - j ∧ st = cntSt2 L kd k c c' Hs ad at_ z v ok (((Hs.take j).filter (inSet c.sets (c.no ad))).length : Nat) (firstIx (inSet c.sets (c.no ad)) (Hs.take j)) j) Hs.length ⟨0, by omega, by omega, rfl⟩ (fun m st hI => ?_)
  obtain ⟨j, hj, rfl, rfl⟩ := hI
  have hs40 : ((Hs.take j).filter (inSet c.sets (c.no ad))).length ≤ 40 := Nat.le_trans (List.length_filter_le _ _) (by rw [List.length_take]; omega)
  have hfb := firstIx_bd (inSet c.sets (c.no ad)) (Hs.take j)
  refine aw_seq ?_
  -- region 26
  refine aw_region hJ (fun h => (by cases h)) ?_
  refine ⟨_, step_bin rfl rfl rfl rfl rfl rfl, ?_⟩  -- t93
  refine ⟨fun h => (by cases h), ?_⟩
  refine aw_seq ?_
  refine aw_cond2 rfl (fun h => ?_) (fun h => ?_)
  · have hlt : j < Hs.length := by simpa using h
    obtain ⟨x, hx⟩ : ∃ x, Hs[j]? = some x := ⟨_, List.getElem?_eq_getElem hlt⟩
    have hrow : (linesB Hs).rows[0 + j]? = some (encLine x) := by rw [Nat.zero_add]; exact linesR_get hx
    have hx0 := hHs x (List.mem_of_getElem? hx)
    have hts := take_snoc' hx
    have hf1 : (Hs.take (j + 1)).filter (inSet c.sets (c.no ad)) = (Hs.take j).filter (inSet c.sets (c.no ad)) ++ (if inSet c.sets (c.no ad) x then [x] else []) := by
      rw [hts, List.filter_append]; by_cases hp : inSet c.sets (c.no ad) x = true <;> simp [List.filter_cons, hp]
    have hf2 := firstIx_snoc (inSet c.sets (c.no ad)) (Hs.take j) x
    rw [← hts, List.length_take, Nat.min_eq_left hj] at hf2
    have hin : (x.addr % (c.sets : Int) == ad % (c.sets : Int)) = inSet c.sets (c.no ad) x := by unfold inSet; rw [hno]
    generalize ((Hs.take j).filter (inSet c.sets (c.no ad))) = F at *
    generalize firstIx (inSet c.sets (c.no ad)) (Hs.take j) = o at *
    have hw1 := wrap1 (q := j) (by omega)
    have hw2 := wrap1 (q := F.length) (by omega)
    refine aw_skip ?_
    refine aw_seq ?_
    refine aw_block ?_
    refine aw_seq ?_
    -- region 27
    refine aw_region hJ (fun h => (by cases h)) ?_
    refine ⟨_, step_move (.inl rfl) rfl rfl rfl, ?_⟩  -- t94
    refine ⟨_, step_indexAddr rfl rfl rfl rfl rfl el34 (elemAt_ref hlt) (fun id off len h => by cases h; exact ⟨_, rfl, rfl⟩), ?_⟩  -- t95
    refine ⟨_, step_load rfl rfl rfl rfl sz37 ag37 rfl hrow rfl, ?_⟩  -- t96
    refine ⟨_, step_alloc (id := 2700) rfl rfl rfl zr37 rfl (by decide) rfl, ?_⟩  -- t26
    refine ⟨_, step_move (.inr rfl) rfl rfl rfl, ?_⟩  -- t25
    refine ⟨_, step_store rfl rfl rfl rfl rfl rfl sz37 rfl rfl (Nat.le_of_ble_eq_true rfl), ?_⟩  -- t_
    refine ⟨fun h => (by cases h), ?_⟩
    refine aw_seq ?_
    -- region 28 DRAWS
    refine aw_region hJ (fun _ => ⟨mixed, by kernel_rfl⟩) ?_
    refine ⟨_, step_fieldAddr rfl rfl rfl rfl fld37_0 (by decide) rfl, ?_⟩  -- t97
    refine ⟨_, (by first | exact step_load rfl rfl rfl rfl sz3 ag3 rfl rfl rfl | exact step_loadRow rfl rfl rfl rfl sz3 ag3 rfl), ?_⟩  -- t98
    refine ⟨_, step_fieldAddr rfl rfl rfl rfl fld29_0 (by decide) rfl, ?_⟩  -- t99
    refine ⟨_, (by first | exact step_load rfl rfl rfl rfl sz3 ag3 rfl rfl rfl | exact step_loadRow rfl rfl rfl rfl sz3 ag3 rfl), ?_⟩  -- t100
    refine ⟨_, step_bin (z := .int .i64 (x.addr % (c.sets : Int))) rfl rfl rfl rfl rfl (by show (if (c.sets : Int) = 0 then none else some (Value.int .i64 ((x.addr).tmod (c.sets : Int)))) = _; rw [if_neg (by omega), Int.tmod_eq_emod_of_nonneg (by omega)]), ?_⟩  -- t101
    refine ⟨_, step_move (.inl rfl) rfl rfl rfl, ?_⟩  -- t102
    refine ⟨_, step_fieldAddr rfl rfl rfl rfl fld29_0 (by decide) rfl, ?_⟩  -- t103
    refine ⟨_, (by first | exact step_load rfl rfl rfl rfl sz3 ag3 rfl rfl rfl | exact step_loadRow rfl rfl rfl rfl sz3 ag3 rfl), ?_⟩  -- t104
    refine ⟨_, step_bin (z := .int .i64 (ad % (c.sets : Int))) rfl rfl rfl rfl rfl (by show (if (c.sets : Int) = 0 then none else some (Value.int .i64 ((ad).tmod (c.sets : Int)))) = _; rw [if_neg (by omega), Int.tmod_eq_emod_of_nonneg (by omega)]), ?_⟩  -- t105
    refine ⟨_, step_bin (z := .bool (inSet c.sets (c.no ad) x)) rfl rfl rfl rfl rfl (by show some (Value.bool (x.addr % (c.sets : Int) == ad % (c.sets : Int))) = _; rw [hin]), ?_⟩  -- t106
    refine ⟨fun _ => by kernel_rfl, ?_⟩
    refine aw_cond2 rfl (fun h2 => ?_) (fun h2 => ?_)
    · rw [h2] at hf1 hf2
      simp only [if_true] at hf1 hf2
      refine aw_seq ?_
      -- region 29
      refine aw_region hJ (fun h => (by cases h)) ?_
      refine ⟨_, step_move (.inl rfl) rfl rfl rfl, ?_⟩  -- t107
      refine ⟨_, step_bin rfl rfl rfl rfl rfl (show some (Value.int .i64 (IntKind.i64.wrap ((F.length : Int) + 1))) = some (.int .i64 ((F.length + 1 : Nat) : Int)) by rw [hw2]), ?_⟩  -- t108
      refine ⟨_, step_move (.inr rfl) rfl rfl rfl, ?_⟩  -- t23
      refine ⟨fun h => (by cases h), ?_⟩
      refine aw_seq ?_
      -- region 30
      refine aw_region hJ (fun h => (by cases h)) ?_
      refine ⟨_, step_move (.inl rfl) rfl rfl rfl, ?_⟩  -- t109
      refine ⟨_, step_bin rfl rfl rfl rfl rfl rfl, ?_⟩  -- t110
      refine ⟨fun h => (by cases h), ?_⟩
      refine aw_cond2 rfl (fun h3 => ?_) (fun h3 => ?_)
      · have h3 : o < 0 := by simpa using h3
        -- region 31
        refine aw_region hJ (fun h => (by cases h)) ?_
        refine ⟨_, step_move (.inl rfl) rfl rfl rfl, ?_⟩  -- t111
        refine ⟨_, step_move (.inr rfl) rfl rfl rfl, ?_⟩  -- t24
        refine ⟨fun h => (by cases h), ?_⟩
        -- region 32
        refine aw_region hJ (fun h => (by cases h)) ?_
        refine ⟨_, step_bin rfl rfl rfl rfl rfl (show some (Value.int .i64 (IntKind.i64.wrap ((j : Int) + 1))) = some (.int .i64 ((j + 1 : Nat) : Int)) by rw [hw1]), ?_⟩  -- t112
        refine ⟨_, step_move (.inl rfl) rfl rfl rfl, ?_⟩  -- t92
        refine ⟨fun h => (by cases h), ?_⟩
        refine ⟨_, Hs.length - (j + 1), cv_conv (fun i => i) [] [(3, .a (.c (.ptr 3400 0 0))), (4, .a (.c (.ptr 500 0 0))), (6, .a (.c (.ref 700 0 Hs.length))), (7, .i k), (8, .i ad), (9, .i at_), (18, .a (.c (.ptr 1900 0 0))), (19, .a (.c (.ptr 2000 0 0))), (20, .a (.c (.ptr 2100 0 0))), (21, .b ok), (23, .i ((F.length + 1 : Nat))), (24, .i (j)), (90, .a (.c (.ref 700 0 Hs.length))), (91, .i Hs.length), (92, .i ((j + 1 : Nat)))] [(3400, diceB L kd), (500, caB c), (700, linesB Hs), (1900, lineB z), (2000, caB c'), (2100, lineB v)] hJK rfl (fun _ _ => rfl) (fun i h => by simp at h) ⟨⟨_, rfl, rfl, rfl⟩, ⟨_, rfl, rfl, rfl⟩, ⟨_, rfl, rfl, rfl⟩, ⟨_, rfl, rfl, rfl⟩, ⟨_, rfl, rfl, rfl⟩, ⟨_, rfl, rfl, rfl⟩, ⟨_, rfl, rfl, rfl⟩, ⟨_, rfl, rfl, rfl⟩, ⟨_, rfl, rfl, rfl⟩, ⟨_, rfl, rfl, rfl⟩, ⟨_, rfl, rfl, rfl⟩, ⟨_, rfl, rfl, rfl⟩, ⟨_, rfl, rfl, rfl⟩, ⟨_, rfl, rfl, rfl⟩, ⟨_, rfl, rfl, rfl⟩, trivial⟩ (allSC_free rfl (blk_free rfl) (allSC_free rfl (blk_free rfl) (allSC_free rfl (linesR_free _) (allSC_free rfl (blk_free rfl) (allSC_free rfl (blk_free rfl) (allSC_free rfl (blk_free rfl) trivial)))))), by omega, j + 1, by omega, rfl, ?_⟩
        rw [hf1, hf2, if_pos h3]; simp [cntSt2]
      · have h3 : ¬ o < 0 := by simpa using h3
        refine aw_skip ?_
        -- region 32
        refine aw_region hJ (fun h => (by cases h)) ?_
        refine ⟨_, step_bin rfl rfl rfl rfl rfl (show some (Value.int .i64 (IntKind.i64.wrap ((j : Int) + 1))) = some (.int .i64 ((j + 1 : Nat) : Int)) by rw [hw1]), ?_⟩  -- t112
        refine ⟨_, step_move (.inl rfl) rfl rfl rfl, ?_⟩  -- t92
        refine ⟨fun h => (by cases h), ?_⟩
        refine ⟨_, Hs.length - (j + 1), cv_conv (fun i => i) [] [(3, .a (.c (.ptr 3400 0 0))), (4, .a (.c (.ptr 500 0 0))), (6, .a (.c (.ref 700 0 Hs.length))), (7, .i k), (8, .i ad), (9, .i at_), (18, .a (.c (.ptr 1900 0 0))), (19, .a (.c (.ptr 2000 0 0))), (20, .a (.c (.ptr 2100 0 0))), (21, .b ok), (23, .i ((F.length + 1 : Nat))), (24, .i (o)), (90, .a (.c (.ref 700 0 Hs.length))), (91, .i Hs.length), (92, .i ((j + 1 : Nat)))] [(3400, diceB L kd), (500, caB c), (700, linesB Hs), (1900, lineB z), (2000, caB c'), (2100, lineB v)] hJK rfl (fun _ _ => rfl) (fun i h => by simp at h) ⟨⟨_, rfl, rfl, rfl⟩, ⟨_, rfl, rfl, rfl⟩, ⟨_, rfl, rfl, rfl⟩, ⟨_, rfl, rfl, rfl⟩, ⟨_, rfl, rfl, rfl⟩, ⟨_, rfl, rfl, rfl⟩, ⟨_, rfl, rfl, rfl⟩, ⟨_, rfl, rfl, rfl⟩, ⟨_, rfl, rfl, rfl⟩, ⟨_, rfl, rfl, rfl⟩, ⟨_, rfl, rfl, rfl⟩, ⟨_, rfl, rfl, rfl⟩, ⟨_, rfl, rfl, rfl⟩, ⟨_, rfl, rfl, rfl⟩, ⟨_, rfl, rfl, rfl⟩, trivial⟩ (allSC_free rfl (blk_free rfl) (allSC_free rfl (blk_free rfl) (allSC_free rfl (linesR_free _) (allSC_free rfl (blk_free rfl) (allSC_free rfl (blk_free rfl) (allSC_free rfl (blk_free rfl) trivial)))))), by omega, j + 1, by omega, rfl, ?_⟩
        rw [hf1, hf2, if_neg h3]; simp [cntSt2]
    · rw [h2] at hf1 hf2
      simp only [Bool.false_eq_true, if_false, List.append_nil] at hf1 hf2
      refine aw_skip ?_
      -- region 32
      refine aw_region hJ (fun h => (by cases h)) ?_
      refine ⟨_, step_bin rfl rfl rfl rfl rfl (show some (Value.int .i64 (IntKind.i64.wrap ((j : Int) + 1))) = some (.int .i64 ((j + 1 : Nat) : Int)) by rw [hw1]), ?_⟩  -- t112
      refine ⟨_, step_move (.inl rfl) rfl rfl rfl, ?_⟩  -- t92
      refine ⟨fun h => (by cases h), ?_⟩
      refine ⟨_, Hs.length - (j + 1), cv_conv (fun i => i) [] [(3, .a (.c (.ptr 3400 0 0))), (4, .a (.c (.ptr 500 0 0))), (6, .a (.c (.ref 700 0 Hs.length))), (7, .i k), (8, .i ad), (9, .i at_), (18, .a (.c (.ptr 1900 0 0))), (19, .a (.c (.ptr 2000 0 0))), (20, .a (.c (.ptr 2100 0 0))), (21, .b ok), (23, .i (F.length)), (24, .i (o)), (90, .a (.c (.ref 700 0 Hs.length))), (91, .i Hs.length), (92, .i ((j + 1 : Nat)))] [(3400, diceB L kd), (500, caB c), (700, linesB Hs), (1900, lineB z), (2000, caB c'), (2100, lineB v)] hJK rfl (fun _ _ => rfl) (fun i h => by simp at h) ⟨⟨_, rfl, rfl, rfl⟩, ⟨_, rfl, rfl, rfl⟩, ⟨_, rfl, rfl, rfl⟩, ⟨_, rfl, rfl, rfl⟩, ⟨_, rfl, rfl, rfl⟩, ⟨_, rfl, rfl, rfl⟩, ⟨_, rfl, rfl, rfl⟩, ⟨_, rfl, rfl, rfl⟩, ⟨_, rfl, rfl, rfl⟩, ⟨_, rfl, rfl, rfl⟩, ⟨_, rfl, rfl, rfl⟩, ⟨_, rfl, rfl, rfl⟩, ⟨_, rfl, rfl, rfl⟩, ⟨_, rfl, rfl, rfl⟩, ⟨_, rfl, rfl, rfl⟩, trivial⟩ (allSC_free rfl (blk_free rfl) (allSC_free rfl (blk_free rfl) (allSC_free rfl (linesR_free _) (allSC_free rfl (blk_free rfl) (allSC_free rfl (blk_free rfl) (allSC_free rfl (blk_free rfl) trivial)))))), by omega, j + 1, by omega, rfl, ?_⟩
      rw [hf1, hf2]
      have ho : (if o < 0 then (-1 : Int) else o) = o := by split <;> omega
      rw [ho]; rfl
  · have hjn : j = Hs.length := by simp at h; omega
    subst hjn
    refine aw_exit ?_
    refine at_exit ?_
    refine at_exit ?_
    refine ab_hit ?_
    rw [List.take_length]
    exact hQ _ (cv_conv (fun i => i) [] [(3, .a (.c (.ptr 3400 0 0))), (4, .a (.c (.ptr 500 0 0))), (6, .a (.c (.ref 700 0 Hs.length))), (7, .i k), (8, .i ad), (9, .i at_), (18, .a (.c (.ptr 1900 0 0))), (19, .a (.c (.ptr 2000 0 0))), (20, .a (.c (.ptr 2100 0 0))), (21, .b ok), (23, .i (((Hs.filter (inSet c.sets (c.no ad))).length : Nat))), (24, .i (firstIx (inSet c.sets (c.no ad)) Hs))] [(3400, diceB L kd), (500, caB c), (700, linesB Hs), (1900, lineB z), (2000, caB c'), (2100, lineB v)] hJK rfl (fun _ _ => rfl) (fun i h => by simp at h) ⟨⟨_, rfl, rfl, rfl⟩, ⟨_, rfl, rfl, rfl⟩, ⟨_, rfl, rfl, rfl⟩, ⟨_, rfl, rfl, rfl⟩, ⟨_, rfl, rfl, rfl⟩, ⟨_, rfl, rfl, rfl⟩, ⟨_, rfl, rfl, rfl⟩, ⟨_, rfl, rfl, rfl⟩, ⟨_, rfl, rfl, rfl⟩, ⟨_, rfl, rfl, rfl⟩, ⟨_, rfl, rfl, rfl⟩, ⟨_, rfl, rfl, rfl⟩, trivial⟩ (allSC_free rfl (blk_free rfl) (allSC_free rfl (blk_free rfl) (allSC_free rfl (linesR_free _) (allSC_free rfl (blk_free rfl) (allSC_free rfl (blk_free rfl) (allSC_free rfl (blk_free rfl) trivial)))))))

theorem count_aw2 {J : Env} {Q : Exit → St → Prop} (hJ : J.n = 247) (hJK : JOK J) (L : List Int) (kd k : Nat) (c c' : Ca) (Hs : List Line) (ad at_ : Int) (z v : Line) (ok : Bool) (hc1 : 1 ≤ c.sets) (had : 0 ≤ ad) (hHs : ∀ x ∈ Hs, 0 ≤ x.addr) (hn : Hs.length ≤ 40)
    (s : Nat) (o : Int) (hs : (Hs.filter (inSet c.sets (c.no ad))).length = s) (ho : firstIx (inSet c.sets (c.no ad)) Hs = o) (hQ : ∀ st', Cv J st' (cntSt L kd k c c' Hs ad at_ z v ok s o) → Q .normal st') :
    AW Try.prog J cntC Q (cntSt L kd k c c' Hs ad at_ z v ok 0 (-1)) := by
  subst hs; subst ho
  exact count_aw hJ hJK L kd k c c' Hs ad at_ z v ok hc1 had hHs hn hQ

set_option maxRecDepth 20000 in
theorem put_atA {J : Env} {Q : Exit → St → Prop} (hJ : J.n = 247) (hJK : JOK J) (L : List Int) (kd k : Nat) (ad : Int) (c : Ca) (Hs : List Line) (hL : ∀ x ∈ L, i64 x) (hlen : L.length ≤ 1000000) (hkd : kd ≤ L.length) (hJC : JC c Hs) (hz2 : c.size = 2) (had : 0 ≤ ad) (had2 : ad < 1048576) (hn : Hs.length ≤ 40) (q : Nat) (x : Line) (hx : Hs[q]? = some x) (hxa : x.addr = ad) (hQ : QOKA J Q L k Hs.length) :
    AW Try.prog J putC Q (midA L kd k c Hs ad (q)) := by
  have hline := line_ac L kd 2 ad hL hkd hlen (by decide)
  have hzl := millLine_len (L.drop kd) 2 ad
  have hza : (millLine (L.drop kd) 2 ad).addr = ad := rfl
  generalize millLine (L.drop kd) 2 ad = z at *
  obtain ⟨kd', hkd'⟩ : ∃ kd', kd' = min (kd + (2 + 2)) L.length := ⟨_, rfl⟩
  rw [← hkd'] at hline
  have hkd2 : kd' ≤ L.length := by omega
  have hzz : 0 ≤ z.addr ∧ z.addr < 1048576 ∧ z.data.length = c.size := ⟨by omega, by omega, by omega⟩
  have hput := put_ac c z hJC.valid hzz.2.2 hzz.1 hzz.2.1
  have h1s := hJC.sets1
  obtain ⟨ss, hsl, hlaw, hJ2⟩ := put_law hJC hx (z := z) (by omega) hzz
  have hql : q < Hs.length := (List.getElem?_eq_some_iff.1 hx).1
  obtain ⟨s, hs⟩ : ∃ s, (Hs.filter (inSet c.sets (c.no ad))).length = s := ⟨_, rfl⟩
  obtain ⟨o, ho⟩ : ∃ o, firstIx (inSet c.sets (c.no ad)) Hs = o := ⟨_, rfl⟩
  rw [hlaw] at hput
  refine aw_seq ?_
  -- region 20
  refine aw_region hJ (fun h => (by cases h)) ?_
  refine ⟨_, step_move (.inl rfl) rfl rfl rfl, ?_⟩  -- t77
  refine ⟨_, step_move (.inl rfl) rfl rfl rfl, ?_⟩  -- t78
  refine ⟨_, step_call1 (xs := [.i 2, .i ad]) rfl rfl cal12 rfl rfl rfl rfl rfl rfl rfl rfl hline, ?_⟩  -- t79
  refine ⟨_, step_alloc (id := 1900) rfl rfl rfl zr37 rfl (by decide) rfl, ?_⟩  -- t18
  refine ⟨_, step_store rfl rfl rfl rfl rfl rfl sz37 rfl rfl (Nat.le_of_ble_eq_true rfl), ?_⟩  -- t_
  refine ⟨fun h => (by cases h), ?_⟩
  refine aw_seq ?_
  -- region 21
  refine aw_region hJ (fun h => (by cases h)) ?_
  refine ⟨_, (by first | exact step_load rfl rfl rfl rfl sz29 ag29 rfl rfl rfl | exact step_loadRow rfl rfl rfl rfl sz29 ag29 rfl), ?_⟩  -- t81
  refine ⟨_, (by first | exact step_load rfl rfl rfl rfl sz37 ag37 rfl rfl rfl | exact step_loadRow rfl rfl rfl rfl sz37 ag37 rfl), ?_⟩  -- t82
  refine ⟨_, step_call0 (xs := [.agg (encCa c), .agg (encLine z)]) rfl rfl cal13 rfl rfl rfl rfl rfl hput, ?_⟩  -- t83
  refine ⟨_, step_move (.inl rfl) rfl rfl rfl, ?_⟩  -- t80
  refine ⟨_, step_extract rfl rfl rfl rfl rfl, ?_⟩  -- t84
  refine ⟨_, step_extract rfl rfl rfl rfl rfl, ?_⟩  -- t85
  refine ⟨_, step_extract rfl rfl rfl rfl rfl, ?_⟩  -- t86
  refine ⟨_, step_extract rfl rfl rfl rfl rfl, ?_⟩  -- t87
  refine ⟨_, step_alloc (id := 2000) rfl rfl rfl zr29 rfl (by decide) rfl, ?_⟩  -- t19
  refine ⟨_, step_alloc (id := 2100) rfl rfl rfl zr37 rfl (by decide) rfl, ?_⟩  -- t20
  refine ⟨_, step_store rfl rfl rfl rfl rfl rfl sz29 rfl rfl (Nat.le_of_ble_eq_true rfl), ?_⟩  -- t_
  refine ⟨_, step_store rfl rfl rfl rfl rfl rfl sz37 rfl rfl (Nat.le_of_ble_eq_true rfl), ?_⟩  -- t_
  refine ⟨_, step_move (.inr rfl) rfl rfl rfl, ?_⟩  -- t21
  refine ⟨_, step_move (.inr rfl) rfl rfl rfl, ?_⟩  -- t22
  refine ⟨fun h => (by cases h), ?_⟩
  refine aw_seq ?_
  refine aw_seq ?_
  -- region 22
  refine aw_region hJ (fun h => (by cases h)) ?_
  refine ⟨_, step_move (.inl rfl) rfl rfl rfl, ?_⟩  -- t88
  refine ⟨_, step_bin rfl rfl rfl rfl rfl rfl, ?_⟩  -- t89
  refine ⟨fun h => (by cases h), ?_⟩
  refine aw_cond2 rfl (fun h => (by cases h)) (fun h => ?_)
  refine aw_skip ?_
  refine aw_seq ?_
  -- region 24
  refine aw_region hJ (fun h => (by cases h)) ?_
  refine ⟨_, step_move (.inr rfl) rfl rfl rfl, ?_⟩  -- t23
  refine ⟨_, step_move (.inr rfl) rfl rfl rfl, ?_⟩  -- t24
  refine ⟨fun h => (by cases h), ?_⟩
  refine aw_seq ?_
  refine aw_conv (fun i => i) [] [(3, .a (.c (.ptr 3400 0 0))), (4, .a (.c (.ptr 500 0 0))), (6, .a (.c (.ref 700 0 Hs.length))), (7, .i k), (8, .i ad), (9, .i (q)), (18, .a (.c (.ptr 1900 0 0))), (19, .a (.c (.ptr 2000 0 0))), (20, .a (.c (.ptr 2100 0 0))), (21, .b false), (23, .i 0), (24, .i (-1))] [(3400, diceB L kd'), (500, caB c), (700, linesB Hs), (1900, lineB z), (2000, caB { c with slots := ss }), (2100, lineB Line.zero)] hJK rfl (fun _ _ => rfl) (fun i h => by simp at h) ⟨⟨_, rfl, rfl, rfl⟩, ⟨_, rfl, rfl, rfl⟩, ⟨_, rfl, rfl, rfl⟩, ⟨_, rfl, rfl, rfl⟩, ⟨_, rfl, rfl, rfl⟩, ⟨_, rfl, rfl, rfl⟩, ⟨_, rfl, rfl, rfl⟩, ⟨_, rfl, rfl, rfl⟩, ⟨_, rfl, rfl, rfl⟩, ⟨_, rfl, rfl, rfl⟩, ⟨_, rfl, rfl, rfl⟩, ⟨_, rfl, rfl, rfl⟩, trivial⟩ (allSC_free rfl (blk_free rfl) (allSC_free rfl (blk_free rfl) (allSC_free rfl (linesR_free _) (allSC_free rfl (blk_free rfl) (allSC_free rfl (blk_free rfl) (allSC_free rfl (blk_free rfl) trivial)))))) ?_
  refine count_aw2 hJ hJK L kd' k c { c with slots := ss } Hs ad (q) z Line.zero false h1s had (fun x hx => (hJC.hs.each x hx).1) hn s (o) hs ho (fun st' hcv => aw_cv hcv ?_)
  refine aw_seq ?_
  refine aw_seq ?_
  -- region 33 DRAWS
  refine aw_region hJ (fun _ => ⟨mixed, by kernel_rfl⟩) ?_
  refine ⟨_, step_move (.inl rfl) rfl rfl rfl, ?_⟩  -- t113
  refine ⟨_, step_move (.inl rfl) rfl rfl rfl, ?_⟩  -- t114
  refine ⟨_, step_bin rfl rfl rfl rfl rfl (show some (Value.bool (decide ((q : Int) < 0))) = some (.bool false) by rw [dec_lt0]), ?_⟩  -- t115
  refine ⟨_, step_move (.inl rfl) rfl rfl rfl, ?_⟩  -- t116
  refine ⟨_, step_off rfl rfl, ?_⟩  -- t117
  refine ⟨_, step_off rfl rfl, ?_⟩  -- t118
  refine ⟨_, step_off rfl rfl, ?_⟩  -- t119
  refine ⟨_, step_off rfl rfl, ?_⟩  -- t120
  refine ⟨_, step_pick rfl rfl rfl rfl rfl, ?_⟩  -- t121
  refine ⟨_, step_bin rfl rfl rfl rfl rfl (by simp only [evBin, un4]; rfl), ?_⟩  -- t122
  refine ⟨_, step_move (.inl rfl) rfl rfl rfl, ?_⟩  -- t123
  refine ⟨_, step_move (.inl rfl) rfl rfl rfl, ?_⟩  -- t124
  refine ⟨_, step_move (.inl rfl) rfl rfl rfl, ?_⟩  -- t125
  refine ⟨_, step_off rfl rfl, ?_⟩  -- t126
  refine ⟨_, step_off rfl rfl, ?_⟩  -- t127
  refine ⟨_, step_off rfl rfl, ?_⟩  -- t128
  refine ⟨_, step_off rfl rfl, ?_⟩  -- t129
  refine ⟨_, step_off rfl rfl, ?_⟩  -- t130
  refine ⟨_, step_off rfl rfl, ?_⟩  -- t131
  refine ⟨_, step_off rfl rfl, ?_⟩  -- t132
  refine ⟨_, step_pick rfl rfl rfl rfl rfl, ?_⟩  -- t133
  refine ⟨_, step_pick rfl rfl rfl rfl rfl, ?_⟩  -- t134
  refine ⟨fun _ => by kernel_rfl, ?_⟩
  refine aw_cond2 rfl (fun h => (by cases h)) (fun h => ?_)
  refine aw_skip ?_
  refine aw_seq ?_
  -- region 35
  refine aw_region hJ (fun h => (by cases h)) ?_
  refine ⟨_, step_move (.inl rfl) rfl rfl rfl, ?_⟩  -- t135
  refine ⟨_, step_move (.inr rfl) rfl rfl rfl, ?_⟩  -- t27
  refine ⟨fun h => (by cases h), ?_⟩
  refine aw_seq ?_
  refine aw_seq ?_
  -- region 36
  refine aw_region hJ (fun h => (by cases h)) ?_
  refine ⟨_, step_move (.inl rfl) rfl rfl rfl, ?_⟩  -- t136
  refine ⟨fun h => (by cases h), ?_⟩
  refine aw_cond2 rfl (fun h => (by cases h)) (fun h => ?_)
  refine aw_skip ?_
  refine aw_seq ?_
  refine aw_seq ?_
  -- region 38
  refine aw_region hJ (fun h => (by cases h)) ?_
  refine ⟨_, step_move (.inl rfl) rfl rfl rfl, ?_⟩  -- t138
  refine ⟨_, step_bin rfl rfl rfl rfl rfl (show some (Value.bool (decide ((q : Int) ≥ 0))) = some (.bool true) by rw [dec_ge]), ?_⟩  -- t139
  refine ⟨fun h => (by cases h), ?_⟩
  refine aw_cond2 rfl (fun h => ?_) (fun h => (by cases h))
  -- region 39 DRAWS
  refine aw_region hJ (fun _ => ⟨mixed, by kernel_rfl⟩) ?_
  refine ⟨_, step_move (.inl rfl) rfl rfl rfl, ?_⟩  -- t140
  refine ⟨_, step_move (.inl rfl) rfl rfl rfl, ?_⟩  -- t141
  refine ⟨_, step_slice rfl rfl rfl rfl el34 rfl rfl rfl (slice_ref0 (by omega)) rfl (fun id off len h => by cases h; exact ⟨_, rfl, rfl⟩), ?_⟩  -- t142
  refine ⟨_, step_append (id := 14400) rfl rfl rfl rfl rfl el34 by37 zr37 rfl (by decide) rfl (news_ref (rows := linesR (Hs.take q)) rfl (by show 0 + q ≤ (linesR Hs).length; rw [linesR_len]; omega) rows_take) (linesR_row _) (by simp [linesR_len]; omega) (by decide) rfl, ?_⟩  -- t143
  refine ⟨_, step_move (.inl rfl) rfl rfl rfl, ?_⟩  -- t144
  refine ⟨_, step_move (.inl rfl) rfl rfl rfl, ?_⟩  -- t145
  refine ⟨_, step_bin rfl rfl rfl rfl rfl (show some (Value.int .i64 (IntKind.i64.wrap ((q : Int) + 1))) = some (.int .i64 ((q + 1 : Nat) : Int)) by rw [wrap1 (by omega)]), ?_⟩  -- t146
  refine ⟨_, step_slice rfl rfl rfl rfl el34 rfl rfl rfl (slice_ref (lo := q + 1) (hi := Hs.length) (by omega) (by omega)) rfl (fun id off len h => by cases h; exact ⟨_, rfl, rfl⟩), ?_⟩  -- t147
  refine ⟨_, step_append (id := 14900) rfl rfl rfl rfl rfl el34 by37 zr37 rfl (by decide) (base_ref rfl (by simp) rfl rfl) (news_ref (rows := linesR (Hs.drop (q + 1))) rfl (by show 0 + (q + 1) + (Hs.length - (q + 1)) ≤ (linesR Hs).length; rw [linesR_len]; omega) rows_drop) (linesR_row _) (by simp [linesR_len]; omega) (by decide) rfl, ?_⟩  -- t148
  refine ⟨_, step_move (.inr rfl) rfl rfl rfl, ?_⟩  -- t6
  refine ⟨fun _ => by kernel_rfl, ?_⟩
  -- region 40 DRAWS
  refine aw_region hJ (fun _ => ⟨mixed, by kernel_rfl⟩) ?_
  refine ⟨_, (by first | exact step_load rfl rfl rfl rfl sz29 ag29 rfl rfl rfl | exact step_loadRow rfl rfl rfl rfl sz29 ag29 rfl), ?_⟩  -- t149
  refine ⟨_, step_move (.inl rfl) rfl rfl rfl, ?_⟩  -- t150
  refine ⟨_, (by first | exact step_load rfl rfl rfl rfl sz37 ag37 rfl rfl rfl | exact step_loadRow rfl rfl rfl rfl sz37 ag37 rfl), ?_⟩  -- t151
  refine ⟨_, step_buildSlice (id := 15300) rfl rfl rfl el34 zr37 rfl rfl (by decide) (by decide) rfl rfl rfl, ?_⟩  -- t152
  refine ⟨_, step_append (id := 15400) rfl rfl rfl rfl rfl el34 by37 zr37 rfl (by decide) (base_ref rfl (by simp) rfl rfl) (news_ref (rows := [encLine z]) rfl (Nat.le_of_ble_eq_true rfl) rfl) (fun r hr => (by obtain rfl : r = encLine z := (by simpa using hr); rfl)) (by simp [linesB, linesR_len]; omega) (by decide) rfl, ?_⟩  -- t153
  refine ⟨_, step_store rfl rfl rfl rfl rfl rfl sz29 rfl rfl (Nat.le_of_ble_eq_true rfl), ?_⟩  -- t_
  refine ⟨_, step_move (.inr rfl) rfl rfl rfl, ?_⟩  -- t6
  refine ⟨fun _ => by kernel_rfl, ?_⟩
  exact hQ _ kd' _ _ hkd2 hJ2 hz2 (by simp; try omega) (cv_mid (idh := 15400) hJK rfl rfl (by show some (FV.a (.c (.ref 15400 0 _))) = some (FV.a (.c (.ref 15400 0 _))); simp [linesR_len, linesB]; try omega) rfl rfl rfl (by show some (Blk.mk _ _ _) = some (Blk.mk _ _ _); simp [linesR, linesB]) (by decide) (by decide))

set_option maxRecDepth 20000 in
theorem put_newA {J : Env} {Q : Exit → St → Prop} (hJ : J.n = 247) (hJK : JOK J) (L : List Int) (kd k : Nat) (ad : Int) (c : Ca) (Hs : List Line) (hL : ∀ x ∈ L, i64 x) (hlen : L.length ≤ 1000000) (hkd : kd ≤ L.length) (hJC : JC c Hs) (hz2 : c.size = 2) (had : 0 ≤ ad) (had2 : ad < 1048576) (hn : Hs.length ≤ 40) (hno : ∀ x ∈ Hs, x.addr ≠ ad) (hlt : (Hs.filter (inSet c.sets (c.no ad))).length < c.ways) (hQ : QOKA J Q L k Hs.length) :
    AW Try.prog J putC Q (midA L kd k c Hs ad (-1)) := by
  have hline := line_ac L kd 2 ad hL hkd hlen (by decide)
  have hzl := millLine_len (L.drop kd) 2 ad
  have hza : (millLine (L.drop kd) 2 ad).addr = ad := rfl
  generalize millLine (L.drop kd) 2 ad = z at *
  obtain ⟨kd', hkd'⟩ : ∃ kd', kd' = min (kd + (2 + 2)) L.length := ⟨_, rfl⟩
  rw [← hkd'] at hline
  have hkd2 : kd' ≤ L.length := by omega
  have hzz : 0 ≤ z.addr ∧ z.addr < 1048576 ∧ z.data.length = c.size := ⟨by omega, by omega, by omega⟩
  have hput := put_ac c z hJC.valid hzz.2.2 hzz.1 hzz.2.1
  have h1s := hJC.sets1
  obtain ⟨ss, hsl, hlaw, hJ2⟩ := put_law_new hJC (z := z) (by rw [hza]; exact hno) hzz (by rw [hza]; simpa [hset] using hlt)
  obtain ⟨s, hs⟩ : ∃ s, (Hs.filter (inSet c.sets (c.no ad))).length = s := ⟨_, rfl⟩
  obtain ⟨o, ho⟩ : ∃ o, firstIx (inSet c.sets (c.no ad)) Hs = o := ⟨_, rfl⟩
  rw [hs] at hlt
  have hsw : ((s : Int) == (c.ways : Int)) = false := by rw [beq_eq_false_iff_ne]; omega
  rw [hlaw] at hput
  refine aw_seq ?_
  -- region 20
  refine aw_region hJ (fun h => (by cases h)) ?_
  refine ⟨_, step_move (.inl rfl) rfl rfl rfl, ?_⟩  -- t77
  refine ⟨_, step_move (.inl rfl) rfl rfl rfl, ?_⟩  -- t78
  refine ⟨_, step_call1 (xs := [.i 2, .i ad]) rfl rfl cal12 rfl rfl rfl rfl rfl rfl rfl rfl hline, ?_⟩  -- t79
  refine ⟨_, step_alloc (id := 1900) rfl rfl rfl zr37 rfl (by decide) rfl, ?_⟩  -- t18
  refine ⟨_, step_store rfl rfl rfl rfl rfl rfl sz37 rfl rfl (Nat.le_of_ble_eq_true rfl), ?_⟩  -- t_
  refine ⟨fun h => (by cases h), ?_⟩
  refine aw_seq ?_
  -- region 21
  refine aw_region hJ (fun h => (by cases h)) ?_
  refine ⟨_, (by first | exact step_load rfl rfl rfl rfl sz29 ag29 rfl rfl rfl | exact step_loadRow rfl rfl rfl rfl sz29 ag29 rfl), ?_⟩  -- t81
  refine ⟨_, (by first | exact step_load rfl rfl rfl rfl sz37 ag37 rfl rfl rfl | exact step_loadRow rfl rfl rfl rfl sz37 ag37 rfl), ?_⟩  -- t82
  refine ⟨_, step_call0 (xs := [.agg (encCa c), .agg (encLine z)]) rfl rfl cal13 rfl rfl rfl rfl rfl hput, ?_⟩  -- t83
  refine ⟨_, step_move (.inl rfl) rfl rfl rfl, ?_⟩  -- t80
  refine ⟨_, step_extract rfl rfl rfl rfl rfl, ?_⟩  -- t84
  refine ⟨_, step_extract rfl rfl rfl rfl rfl, ?_⟩  -- t85
  refine ⟨_, step_extract rfl rfl rfl rfl rfl, ?_⟩  -- t86
  refine ⟨_, step_extract rfl rfl rfl rfl rfl, ?_⟩  -- t87
  refine ⟨_, step_alloc (id := 2000) rfl rfl rfl zr29 rfl (by decide) rfl, ?_⟩  -- t19
  refine ⟨_, step_alloc (id := 2100) rfl rfl rfl zr37 rfl (by decide) rfl, ?_⟩  -- t20
  refine ⟨_, step_store rfl rfl rfl rfl rfl rfl sz29 rfl rfl (Nat.le_of_ble_eq_true rfl), ?_⟩  -- t_
  refine ⟨_, step_store rfl rfl rfl rfl rfl rfl sz37 rfl rfl (Nat.le_of_ble_eq_true rfl), ?_⟩  -- t_
  refine ⟨_, step_move (.inr rfl) rfl rfl rfl, ?_⟩  -- t21
  refine ⟨_, step_move (.inr rfl) rfl rfl rfl, ?_⟩  -- t22
  refine ⟨fun h => (by cases h), ?_⟩
  refine aw_seq ?_
  refine aw_seq ?_
  -- region 22
  refine aw_region hJ (fun h => (by cases h)) ?_
  refine ⟨_, step_move (.inl rfl) rfl rfl rfl, ?_⟩  -- t88
  refine ⟨_, step_bin rfl rfl rfl rfl rfl rfl, ?_⟩  -- t89
  refine ⟨fun h => (by cases h), ?_⟩
  refine aw_cond2 rfl (fun h => (by cases h)) (fun h => ?_)
  refine aw_skip ?_
  refine aw_seq ?_
  -- region 24
  refine aw_region hJ (fun h => (by cases h)) ?_
  refine ⟨_, step_move (.inr rfl) rfl rfl rfl, ?_⟩  -- t23
  refine ⟨_, step_move (.inr rfl) rfl rfl rfl, ?_⟩  -- t24
  refine ⟨fun h => (by cases h), ?_⟩
  refine aw_seq ?_
  refine aw_conv (fun i => i) [] [(3, .a (.c (.ptr 3400 0 0))), (4, .a (.c (.ptr 500 0 0))), (6, .a (.c (.ref 700 0 Hs.length))), (7, .i k), (8, .i ad), (9, .i (-1)), (18, .a (.c (.ptr 1900 0 0))), (19, .a (.c (.ptr 2000 0 0))), (20, .a (.c (.ptr 2100 0 0))), (21, .b false), (23, .i 0), (24, .i (-1))] [(3400, diceB L kd'), (500, caB c), (700, linesB Hs), (1900, lineB z), (2000, caB { c with slots := ss }), (2100, lineB Line.zero)] hJK rfl (fun _ _ => rfl) (fun i h => by simp at h) ⟨⟨_, rfl, rfl, rfl⟩, ⟨_, rfl, rfl, rfl⟩, ⟨_, rfl, rfl, rfl⟩, ⟨_, rfl, rfl, rfl⟩, ⟨_, rfl, rfl, rfl⟩, ⟨_, rfl, rfl, rfl⟩, ⟨_, rfl, rfl, rfl⟩, ⟨_, rfl, rfl, rfl⟩, ⟨_, rfl, rfl, rfl⟩, ⟨_, rfl, rfl, rfl⟩, ⟨_, rfl, rfl, rfl⟩, ⟨_, rfl, rfl, rfl⟩, trivial⟩ (allSC_free rfl (blk_free rfl) (allSC_free rfl (blk_free rfl) (allSC_free rfl (linesR_free _) (allSC_free rfl (blk_free rfl) (allSC_free rfl (blk_free rfl) (allSC_free rfl (blk_free rfl) trivial)))))) ?_
  refine count_aw2 hJ hJK L kd' k c { c with slots := ss } Hs ad (-1) z Line.zero false h1s had (fun x hx => (hJC.hs.each x hx).1) hn s (o) hs ho (fun st' hcv => aw_cv hcv ?_)
  refine aw_seq ?_
  refine aw_seq ?_
  -- region 33 DRAWS
  refine aw_region hJ (fun _ => ⟨mixed, by kernel_rfl⟩) ?_
  refine ⟨_, step_move (.inl rfl) rfl rfl rfl, ?_⟩  -- t113
  refine ⟨_, step_move (.inl rfl) rfl rfl rfl, ?_⟩  -- t114
  refine ⟨_, step_bin rfl rfl rfl rfl rfl rfl, ?_⟩  -- t115
  refine ⟨_, step_move (.inl rfl) rfl rfl rfl, ?_⟩  -- t116
  refine ⟨_, step_move (.inl rfl) rfl rfl rfl, ?_⟩  -- t117
  refine ⟨_, step_fieldAddr rfl rfl rfl rfl fld29_1 (by decide) rfl, ?_⟩  -- t118
  refine ⟨_, (by first | exact step_load rfl rfl rfl rfl sz3 ag3 rfl rfl rfl | exact step_loadRow rfl rfl rfl rfl sz3 ag3 rfl), ?_⟩  -- t119
  refine ⟨_, step_bin (z := .bool false) rfl rfl rfl rfl rfl (by show some (Value.bool ((s : Int) == (c.ways : Int))) = _; rw [hsw]), ?_⟩  -- t120
  refine ⟨_, step_pick rfl rfl rfl rfl rfl, ?_⟩  -- t121
  refine ⟨_, step_bin rfl rfl rfl rfl rfl (by simp only [evBin, un4]; rfl), ?_⟩  -- t122
  refine ⟨_, step_move (.inl rfl) rfl rfl rfl, ?_⟩  -- t123
  refine ⟨_, step_move (.inl rfl) rfl rfl rfl, ?_⟩  -- t124
  refine ⟨_, step_move (.inl rfl) rfl rfl rfl, ?_⟩  -- t125
  refine ⟨_, step_off rfl rfl, ?_⟩  -- t126
  refine ⟨_, step_off rfl rfl, ?_⟩  -- t127
  refine ⟨_, step_off rfl rfl, ?_⟩  -- t128
  refine ⟨_, step_off rfl rfl, ?_⟩  -- t129
  refine ⟨_, step_off rfl rfl, ?_⟩  -- t130
  refine ⟨_, step_off rfl rfl, ?_⟩  -- t131
  refine ⟨_, step_off rfl rfl, ?_⟩  -- t132
  refine ⟨_, step_pick rfl rfl rfl rfl rfl, ?_⟩  -- t133
  refine ⟨_, step_pick rfl rfl rfl rfl rfl, ?_⟩  -- t134
  refine ⟨fun _ => by kernel_rfl, ?_⟩
  refine aw_cond2 rfl (fun h => (by cases h)) (fun h => ?_)
  refine aw_skip ?_
  refine aw_seq ?_
  -- region 35
  refine aw_region hJ (fun h => (by cases h)) ?_
  refine ⟨_, step_move (.inl rfl) rfl rfl rfl, ?_⟩  -- t135
  refine ⟨_, step_move (.inr rfl) rfl rfl rfl, ?_⟩  -- t27
  refine ⟨fun h => (by cases h), ?_⟩
  refine aw_seq ?_
  refine aw_seq ?_
  -- region 36
  refine aw_region hJ (fun h => (by cases h)) ?_
  refine ⟨_, step_move (.inl rfl) rfl rfl rfl, ?_⟩  -- t136
  refine ⟨fun h => (by cases h), ?_⟩
  refine aw_cond2 rfl (fun h => (by cases h)) (fun h => ?_)
  refine aw_skip ?_
  refine aw_seq ?_
  refine aw_seq ?_
  -- region 38
  refine aw_region hJ (fun h => (by cases h)) ?_
  refine ⟨_, step_move (.inl rfl) rfl rfl rfl, ?_⟩  -- t138
  refine ⟨_, step_bin rfl rfl rfl rfl rfl rfl, ?_⟩  -- t139
  refine ⟨fun h => (by cases h), ?_⟩
  refine aw_cond2 rfl (fun h => (by cases h)) (fun h => ?_)
  refine aw_skip ?_
  -- region 40 DRAWS
  refine aw_region hJ (fun _ => ⟨mixed, by kernel_rfl⟩) ?_
  refine ⟨_, (by first | exact step_load rfl rfl rfl rfl sz29 ag29 rfl rfl rfl | exact step_loadRow rfl rfl rfl rfl sz29 ag29 rfl), ?_⟩  -- t149
  refine ⟨_, step_move (.inl rfl) rfl rfl rfl, ?_⟩  -- t150
  refine ⟨_, (by first | exact step_load rfl rfl rfl rfl sz37 ag37 rfl rfl rfl | exact step_loadRow rfl rfl rfl rfl sz37 ag37 rfl), ?_⟩  -- t151
  refine ⟨_, step_buildSlice (id := 15300) rfl rfl rfl el34 zr37 rfl rfl (by decide) (by decide) rfl rfl rfl, ?_⟩  -- t152
  refine ⟨_, step_append (id := 15400) rfl rfl rfl rfl rfl el34 by37 zr37 rfl (by decide) (base_ref rfl (by show (linesR Hs).length = Hs.length; rw [linesR_len]) rfl rfl) (news_ref (rows := [encLine z]) rfl (Nat.le_of_ble_eq_true rfl) rfl) (fun r hr => (by obtain rfl : r = encLine z := (by simpa using hr); rfl)) (by simp [linesB, linesR_len]; omega) (by decide) rfl, ?_⟩  -- t153
  refine ⟨_, step_store rfl rfl rfl rfl rfl rfl sz29 rfl rfl (Nat.le_of_ble_eq_true rfl), ?_⟩  -- t_
  refine ⟨_, step_move (.inr rfl) rfl rfl rfl, ?_⟩  -- t6
  refine ⟨fun _ => by kernel_rfl, ?_⟩
  exact hQ _ kd' _ _ hkd2 hJ2 hz2 (by simp; try omega) (cv_mid (idh := 15400) hJK rfl rfl (by show some (FV.a (.c (.ref 15400 0 _))) = some (FV.a (.c (.ref 15400 0 _))); simp [linesR_len, linesB]; try omega) rfl rfl rfl (by show some (Blk.mk _ _ _) = some (Blk.mk _ _ _); simp [linesR, linesB]) (by decide) (by decide))

set_option maxRecDepth 20000 in
theorem put_fullA {J : Env} {Q : Exit → St → Prop} (hJ : J.n = 247) (hJK : JOK J) (L : List Int) (kd k : Nat) (ad : Int) (c : Ca) (Hs : List Line) (hL : ∀ x ∈ L, i64 x) (hlen : L.length ≤ 1000000) (hkd : kd ≤ L.length) (hJC : JC c Hs) (hz2 : c.size = 2) (had : 0 ≤ ad) (had2 : ad < 1048576) (hn : Hs.length ≤ 40) (o : Nat) (x : Line) (hno : ∀ x ∈ Hs, x.addr ≠ ad) (hs : (Hs.filter (inSet c.sets (c.no ad))).length = c.ways) (ho : firstIx (inSet c.sets (c.no ad)) Hs = (o : Int)) (hx : Hs[o]? = some x) (hxs : inSet c.sets (c.no ad) x = true) (hfirst : (Hs.take o).filter (inSet c.sets (c.no ad)) = []) (hQ : QOKA J Q L k Hs.length) :
    AW Try.prog J putC Q (midA L kd k c Hs ad (-1)) := by
  have hline := line_ac L kd 2 ad hL hkd hlen (by decide)
  have hzl := millLine_len (L.drop kd) 2 ad
  have hza : (millLine (L.drop kd) 2 ad).addr = ad := rfl
  generalize millLine (L.drop kd) 2 ad = z at *
  obtain ⟨kd', hkd'⟩ : ∃ kd', kd' = min (kd + (2 + 2)) L.length := ⟨_, rfl⟩
  rw [← hkd'] at hline
  have hkd2 : kd' ≤ L.length := by omega
  have hzz : 0 ≤ z.addr ∧ z.addr < 1048576 ∧ z.data.length = c.size := ⟨by omega, by omega, by omega⟩
  have hput := put_ac c z hJC.valid hzz.2.2 hzz.1 hzz.2.1
  have h1s := hJC.sets1
  obtain ⟨ss, hsl, hlaw, hJ2⟩ := put_law_full hJC (z := z) (by rw [hza]; exact hno) hzz (by rw [hza]; simpa [hset] using hs) hx (by rw [hza]; exact hxs) (by rw [hza]; exact hfirst)
  have hql : o < Hs.length := (List.getElem?_eq_some_iff.1 hx).1
  have hrow : (linesB Hs).rows[0 + o]? = some (encLine x) := by rw [Nat.zero_add]; exact linesR_get hx
  have hsame := same_ac x (by have := (hJC.hs.each x (List.mem_of_getElem? hx)).2.2; omega)
  have hsw : ((c.ways : Int) == (c.ways : Int)) = true := by simp
  rw [hlaw] at hput
  refine aw_seq ?_
  -- region 20
  refine aw_region hJ (fun h => (by cases h)) ?_
  refine ⟨_, step_move (.inl rfl) rfl rfl rfl, ?_⟩  -- t77
  refine ⟨_, step_move (.inl rfl) rfl rfl rfl, ?_⟩  -- t78
  refine ⟨_, step_call1 (xs := [.i 2, .i ad]) rfl rfl cal12 rfl rfl rfl rfl rfl rfl rfl rfl hline, ?_⟩  -- t79
  refine ⟨_, step_alloc (id := 1900) rfl rfl rfl zr37 rfl (by decide) rfl, ?_⟩  -- t18
  refine ⟨_, step_store rfl rfl rfl rfl rfl rfl sz37 rfl rfl (Nat.le_of_ble_eq_true rfl), ?_⟩  -- t_
  refine ⟨fun h => (by cases h), ?_⟩
  refine aw_seq ?_
  -- region 21
  refine aw_region hJ (fun h => (by cases h)) ?_
  refine ⟨_, (by first | exact step_load rfl rfl rfl rfl sz29 ag29 rfl rfl rfl | exact step_loadRow rfl rfl rfl rfl sz29 ag29 rfl), ?_⟩  -- t81
  refine ⟨_, (by first | exact step_load rfl rfl rfl rfl sz37 ag37 rfl rfl rfl | exact step_loadRow rfl rfl rfl rfl sz37 ag37 rfl), ?_⟩  -- t82
  refine ⟨_, step_call0 (xs := [.agg (encCa c), .agg (encLine z)]) rfl rfl cal13 rfl rfl rfl rfl rfl hput, ?_⟩  -- t83
  refine ⟨_, step_move (.inl rfl) rfl rfl rfl, ?_⟩  -- t80
  refine ⟨_, step_extract rfl rfl rfl rfl rfl, ?_⟩  -- t84
  refine ⟨_, step_extract rfl rfl rfl rfl rfl, ?_⟩  -- t85
  refine ⟨_, step_extract rfl rfl rfl rfl rfl, ?_⟩  -- t86
  refine ⟨_, step_extract rfl rfl rfl rfl rfl, ?_⟩  -- t87
  refine ⟨_, step_alloc (id := 2000) rfl rfl rfl zr29 rfl (by decide) rfl, ?_⟩  -- t19
  refine ⟨_, step_alloc (id := 2100) rfl rfl rfl zr37 rfl (by decide) rfl, ?_⟩  -- t20
  refine ⟨_, step_store rfl rfl rfl rfl rfl rfl sz29 rfl rfl (Nat.le_of_ble_eq_true rfl), ?_⟩  -- t_
  refine ⟨_, step_store rfl rfl rfl rfl rfl rfl sz37 rfl rfl (Nat.le_of_ble_eq_true rfl), ?_⟩  -- t_
  refine ⟨_, step_move (.inr rfl) rfl rfl rfl, ?_⟩  -- t21
  refine ⟨_, step_move (.inr rfl) rfl rfl rfl, ?_⟩  -- t22
  refine ⟨fun h => (by cases h), ?_⟩
  refine aw_seq ?_
  refine aw_seq ?_
  -- region 22
  refine aw_region hJ (fun h => (by cases h)) ?_
  refine ⟨_, step_move (.inl rfl) rfl rfl rfl, ?_⟩  -- t88
  refine ⟨_, step_bin rfl rfl rfl rfl rfl rfl, ?_⟩  -- t89
  refine ⟨fun h => (by cases h), ?_⟩
  refine aw_cond2 rfl (fun h => (by cases h)) (fun h => ?_)
  refine aw_skip ?_
  refine aw_seq ?_
  -- region 24
  refine aw_region hJ (fun h => (by cases h)) ?_
  refine ⟨_, step_move (.inr rfl) rfl rfl rfl, ?_⟩  -- t23
  refine ⟨_, step_move (.inr rfl) rfl rfl rfl, ?_⟩  -- t24
  refine ⟨fun h => (by cases h), ?_⟩
  refine aw_seq ?_
  refine aw_conv (fun i => i) [] [(3, .a (.c (.ptr 3400 0 0))), (4, .a (.c (.ptr 500 0 0))), (6, .a (.c (.ref 700 0 Hs.length))), (7, .i k), (8, .i ad), (9, .i (-1)), (18, .a (.c (.ptr 1900 0 0))), (19, .a (.c (.ptr 2000 0 0))), (20, .a (.c (.ptr 2100 0 0))), (21, .b true), (23, .i 0), (24, .i (-1))] [(3400, diceB L kd'), (500, caB c), (700, linesB Hs), (1900, lineB z), (2000, caB { c with slots := ss }), (2100, lineB x)] hJK rfl (fun _ _ => rfl) (fun i h => by simp at h) ⟨⟨_, rfl, rfl, rfl⟩, ⟨_, rfl, rfl, rfl⟩, ⟨_, rfl, rfl, rfl⟩, ⟨_, rfl, rfl, rfl⟩, ⟨_, rfl, rfl, rfl⟩, ⟨_, rfl, rfl, rfl⟩, ⟨_, rfl, rfl, rfl⟩, ⟨_, rfl, rfl, rfl⟩, ⟨_, rfl, rfl, rfl⟩, ⟨_, rfl, rfl, rfl⟩, ⟨_, rfl, rfl, rfl⟩, ⟨_, rfl, rfl, rfl⟩, trivial⟩ (allSC_free rfl (blk_free rfl) (allSC_free rfl (blk_free rfl) (allSC_free rfl (linesR_free _) (allSC_free rfl (blk_free rfl) (allSC_free rfl (blk_free rfl) (allSC_free rfl (blk_free rfl) trivial)))))) ?_
  refine count_aw2 hJ hJK L kd' k c { c with slots := ss } Hs ad (-1) z x true h1s had (fun x hx => (hJC.hs.each x hx).1) hn c.ways (o) hs ho (fun st' hcv => aw_cv hcv ?_)
  refine aw_seq ?_
  refine aw_seq ?_
  -- region 33 DRAWS
  refine aw_region hJ (fun _ => ⟨mixed, by kernel_rfl⟩) ?_
  refine ⟨_, step_move (.inl rfl) rfl rfl rfl, ?_⟩  -- t113
  refine ⟨_, step_move (.inl rfl) rfl rfl rfl, ?_⟩  -- t114
  refine ⟨_, step_bin rfl rfl rfl rfl rfl rfl, ?_⟩  -- t115
  refine ⟨_, step_move (.inl rfl) rfl rfl rfl, ?_⟩  -- t116
  refine ⟨_, step_move (.inl rfl) rfl rfl rfl, ?_⟩  -- t117
  refine ⟨_, step_fieldAddr rfl rfl rfl rfl fld29_1 (by decide) rfl, ?_⟩  -- t118
  refine ⟨_, (by first | exact step_load rfl rfl rfl rfl sz3 ag3 rfl rfl rfl | exact step_loadRow rfl rfl rfl rfl sz3 ag3 rfl), ?_⟩  -- t119
  refine ⟨_, step_bin (z := .bool true) rfl rfl rfl rfl rfl (by show some (Value.bool ((c.ways : Int) == (c.ways : Int))) = _; rw [hsw]), ?_⟩  -- t120
  refine ⟨_, step_pick rfl rfl rfl rfl rfl, ?_⟩  -- t121
  refine ⟨_, step_bin rfl rfl rfl rfl rfl (by simp only [evBin, un4]; rfl), ?_⟩  -- t122
  refine ⟨_, step_move (.inl rfl) rfl rfl rfl, ?_⟩  -- t123
  refine ⟨_, step_move (.inl rfl) rfl rfl rfl, ?_⟩  -- t124
  refine ⟨_, step_move (.inl rfl) rfl rfl rfl, ?_⟩  -- t125
  refine ⟨_, (by first | exact step_load rfl rfl rfl rfl sz37 ag37 rfl rfl rfl | exact step_loadRow rfl rfl rfl rfl sz37 ag37 rfl), ?_⟩  -- t126
  refine ⟨_, step_move (.inl rfl) rfl rfl rfl, ?_⟩  -- t127
  refine ⟨_, step_move (.inl rfl) rfl rfl rfl, ?_⟩  -- t128
  refine ⟨_, step_indexAddr rfl rfl rfl rfl rfl el34 (elemAt_ref hql) (fun id off len h => by cases h; exact ⟨_, rfl, rfl⟩), ?_⟩  -- t129
  refine ⟨_, step_load rfl rfl rfl rfl sz37 ag37 rfl hrow rfl, ?_⟩  -- t130
  refine ⟨_, step_call0 (xs := [.agg (encLine x), .agg (encLine x)]) rfl rfl cal10 rfl rfl rfl rfl rfl hsame, ?_⟩  -- t131
  refine ⟨_, step_un rfl rfl rfl rfl rfl, ?_⟩  -- t132
  refine ⟨_, step_pick rfl rfl rfl rfl rfl, ?_⟩  -- t133
  refine ⟨_, step_pick rfl rfl rfl rfl rfl, ?_⟩  -- t134
  refine ⟨fun _ => by kernel_rfl, ?_⟩
  refine aw_cond2 rfl (fun h => (by cases h)) (fun h => ?_)
  refine aw_skip ?_
  refine aw_seq ?_
  -- region 35
  refine aw_region hJ (fun h => (by cases h)) ?_
  refine ⟨_, step_move (.inl rfl) rfl rfl rfl, ?_⟩  -- t135
  refine ⟨_, step_move (.inr rfl) rfl rfl rfl, ?_⟩  -- t27
  refine ⟨fun h => (by cases h), ?_⟩
  refine aw_seq ?_
  refine aw_seq ?_
  -- region 36
  refine aw_region hJ (fun h => (by cases h)) ?_
  refine ⟨_, step_move (.inl rfl) rfl rfl rfl, ?_⟩  -- t136
  refine ⟨fun h => (by cases h), ?_⟩
  refine aw_cond2 rfl (fun h => ?_) (fun h => (by cases h))
  -- region 37
  refine aw_region hJ (fun h => (by cases h)) ?_
  refine ⟨_, step_move (.inl rfl) rfl rfl rfl, ?_⟩  -- t137
  refine ⟨_, step_move (.inr rfl) rfl rfl rfl, ?_⟩  -- t27
  refine ⟨fun h => (by cases h), ?_⟩
  refine aw_seq ?_
  refine aw_seq ?_
  -- region 38
  refine aw_region hJ (fun h => (by cases h)) ?_
  refine ⟨_, step_move (.inl rfl) rfl rfl rfl, ?_⟩  -- t138
  refine ⟨_, step_bin rfl rfl rfl rfl rfl (show some (Value.bool (decide ((o : Int) ≥ 0))) = some (.bool true) by rw [dec_ge]), ?_⟩  -- t139
  refine ⟨fun h => (by cases h), ?_⟩
  refine aw_cond2 rfl (fun h => ?_) (fun h => (by cases h))
  -- region 39 DRAWS
  refine aw_region hJ (fun _ => ⟨mixed, by kernel_rfl⟩) ?_
  refine ⟨_, step_move (.inl rfl) rfl rfl rfl, ?_⟩  -- t140
  refine ⟨_, step_move (.inl rfl) rfl rfl rfl, ?_⟩  -- t141
  refine ⟨_, step_slice rfl rfl rfl rfl el34 rfl rfl rfl (slice_ref0 (by omega)) rfl (fun id off len h => by cases h; exact ⟨_, rfl, rfl⟩), ?_⟩  -- t142
  refine ⟨_, step_append (id := 14400) rfl rfl rfl rfl rfl el34 by37 zr37 rfl (by decide) rfl (news_ref (rows := linesR (Hs.take o)) rfl (by show 0 + o ≤ (linesR Hs).length; rw [linesR_len]; omega) rows_take) (linesR_row _) (by simp [linesR_len]; omega) (by decide) rfl, ?_⟩  -- t143
  refine ⟨_, step_move (.inl rfl) rfl rfl rfl, ?_⟩  -- t144
  refine ⟨_, step_move (.inl rfl) rfl rfl rfl, ?_⟩  -- t145
  refine ⟨_, step_bin rfl rfl rfl rfl rfl (show some (Value.int .i64 (IntKind.i64.wrap ((o : Int) + 1))) = some (.int .i64 ((o + 1 : Nat) : Int)) by rw [wrap1 (by omega)]), ?_⟩  -- t146
  refine ⟨_, step_slice rfl rfl rfl rfl el34 rfl rfl rfl (slice_ref (lo := o + 1) (hi := Hs.length) (by omega) (by omega)) rfl (fun id off len h => by cases h; exact ⟨_, rfl, rfl⟩), ?_⟩  -- t147
  refine ⟨_, step_append (id := 14900) rfl rfl rfl rfl rfl el34 by37 zr37 rfl (by decide) (base_ref rfl (by simp) rfl rfl) (news_ref (rows := linesR (Hs.drop (o + 1))) rfl (by show 0 + (o + 1) + (Hs.length - (o + 1)) ≤ (linesR Hs).length; rw [linesR_len]; omega) rows_drop) (linesR_row _) (by simp [linesR_len]; omega) (by decide) rfl, ?_⟩  -- t148
  refine ⟨_, step_move (.inr rfl) rfl rfl rfl, ?_⟩  -- t6
  refine ⟨fun _ => by kernel_rfl, ?_⟩
  -- region 40 DRAWS
  refine aw_region hJ (fun _ => ⟨mixed, by kernel_rfl⟩) ?_
  refine ⟨_, (by first | exact step_load rfl rfl rfl rfl sz29 ag29 rfl rfl rfl | exact step_loadRow rfl rfl rfl rfl sz29 ag29 rfl), ?_⟩  -- t149
  refine ⟨_, step_move (.inl rfl) rfl rfl rfl, ?_⟩  -- t150
  refine ⟨_, (by first | exact step_load rfl rfl rfl rfl sz37 ag37 rfl rfl rfl | exact step_loadRow rfl rfl rfl rfl sz37 ag37 rfl), ?_⟩  -- t151
  refine ⟨_, step_buildSlice (id := 15300) rfl rfl rfl el34 zr37 rfl rfl (by decide) (by decide) rfl rfl rfl, ?_⟩  -- t152
  refine ⟨_, step_append (id := 15400) rfl rfl rfl rfl rfl el34 by37 zr37 rfl (by decide) (base_ref rfl (by simp) rfl rfl) (news_ref (rows := [encLine z]) rfl (Nat.le_of_ble_eq_true rfl) rfl) (fun r hr => (by obtain rfl : r = encLine z := (by simpa using hr); rfl)) (by simp [linesB, linesR_len]; omega) (by decide) rfl, ?_⟩  -- t153
  refine ⟨_, step_store rfl rfl rfl rfl rfl rfl sz29 rfl rfl (Nat.le_of_ble_eq_true rfl), ?_⟩  -- t_
  refine ⟨_, step_move (.inr rfl) rfl rfl rfl, ?_⟩  -- t6
  refine ⟨fun _ => by kernel_rfl, ?_⟩
  exact hQ _ kd' _ _ hkd2 hJ2 hz2 (by simp; try omega) (cv_mid (idh := 15400) hJK rfl rfl (by show some (FV.a (.c (.ref 15400 0 _))) = some (FV.a (.c (.ref 15400 0 _))); simp [linesR_len, linesB]; try omega) rfl rfl rfl (by show some (Blk.mk _ _ _) = some (Blk.mk _ _ _); simp [linesR, linesB]) (by decide) (by decide))
end Go.Proofs.Ytbcjjenidkgodaa
