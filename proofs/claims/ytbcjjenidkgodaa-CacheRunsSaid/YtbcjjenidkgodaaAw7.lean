/- What single operations do: append. -/
import Derived.Test.YtbcjjenidkgodaaAw6
namespace Go.Proofs.Ytbcjjenidkgodaa
open Go Go.RowKit

def bytesP (P : Program) (t : TypeId) : Option Nat := (P.info? t).map (·.bytes)

section
variable {P : Program} {n : Nat} {ops : Array Oper} {o : Oper} {st : St} {J : Env} {φ : Nat → Option Loc} {S : Nat → Prop} {a : Act} {w : World}

theorem run_app {t ty e m : Nat} {i : TypeInfo} {z : Value} (ht : P.underlying t = some (.slice e)) (hi : P.info? e = some i) (hz : i.zero = some z) (hsize : i.size = m) (hzs : z.cells.size = m) (hsz : 0 < m)
    {v : Value} {k : Nat} {xs : List Value} (own0 : w.ownsRow 0 e m v k xs) {A : Option Addr} {q c : Nat} {vals : List Value} (hl : vals.length = q * m)
    (hcell : q ≠ 0 → ∃ ad, A = some ad ∧ ∀ j u, vals[j]? = some u → w.cell? (ad.add j) = some u) (h1c : ∀ u ∈ vals, u.oneCell' = true) (hbytes : (k + q) * i.bytes ≤ 140737488355328) (hb8 : 0 < i.bytes) :
    ∃ v' w', (Builtin.append_ #[t, t] ty #[v, .slice A q c]).run P w = .ok v' w' ∧ w'.ownsRow 0 e m v' (k + q) (xs ++ vals) ∧ w.grownBy w' v.ownBlock ∧ (v'.ownBlock = v.ownBlock ∨ ∃ g, v'.ownBlock = some g ∧ w.heap.size ≤ g) := by
  have hmul : k + q ≤ (k + q) * i.bytes := Nat.le_mul_of_pos_right _ hb8
  have h63 : k + q ≤ maxLen := by simp only [maxLen]; omega
  by_cases hq : q = 0
  · subst hq
    have hv : vals = [] := List.eq_nil_of_length_eq_zero (by simpa using hl)
    subst hv
    have hr : (Builtin.append_ #[t, t] ty #[v, .slice A 0 c]).run P w = .ok v w := by
      rcases own0.2 with ⟨rfl, _⟩ | ⟨g, cap, cur, rfl, _, _, hnc, _⟩
      · rcases A with _ | ad <;> simp [Builtin.append_, run_underlying ht, sizeOf, typeInfo, hi, Builtin.lenOf, Builtin.firstCells, loadCells, loadCellsFrom]
      · rcases A with _ | ad <;> simp [Builtin.append_, run_underlying ht, sizeOf, typeInfo, hi, Builtin.lenOf, Builtin.firstCells, hnc, storeCells, loadCells, loadCellsFrom]
    exact ⟨v, w, hr, by simpa using own0, ⟨rfl, rfl, rfl, Nat.le_refl _, fun _ _ _ => rfl⟩, .inl rfl⟩
  · obtain ⟨ad, rfl, hnews⟩ := hcell hq
    obtain ⟨v', w', hr, h5, h6, h7⟩ := run_append_own (P := P) w 0 t ty e i z m i.bytes ht hi hz hsize rfl hzs hsz v k xs own0 ad q c vals hl hnews h1c h63 hbytes (Nat.zero_le _)
    refine ⟨v', w', hr, h5, h6, ?_⟩
    rcases own0.2 with ⟨rfl, hn⟩ | ⟨g, cap, cur, rfl, hbg, hg, hnc, hcm, hcs, htake⟩
    · obtain ⟨v2, w2, hr2, h52, _⟩ := run_append_own (P := P) w w.heap.size t ty e i z m i.bytes ht hi hz hsize rfl hzs hsz (.slice none 0 0) k xs ⟨own0.1, .inl ⟨rfl, hn⟩⟩ ad q c vals hl hnews h1c h63 hbytes (Nat.le_refl _)
      rw [hr] at hr2
      obtain ⟨rfl, rfl⟩ : v' = v2 ∧ w' = w2 := by simpa using hr2
      rcases hv : v'.ownBlock with _ | b
      · exact .inl rfl
      · exact .inr ⟨b, rfl, (h52.lt b hv).1⟩
    · by_cases hroom : k + q ≤ cap
      · have hfit : k * i.size + vals.length ≤ cur.size := by rw [hl, hcs, hsize, ← Nat.add_mul]; exact Nat.mul_le_mul_right _ hroom
        have hr2 := run_append_room (P := P) w t ty e i ht hi g k cap cur hg ad q c vals (by rw [hsize]; exact hl) hnews h1c hroom hfit
        rw [hr] at hr2
        simp only [Result.ok.injEq] at hr2
        rw [hr2.1]
        exact .inl rfl
      · have holds : ∀ j u, xs[j]? = some u → w.cell? ((⟨g, 0, none⟩ : Addr).add j) = some u := own0.cells (g := g) rfl
        have hr2 := run_append_grow (P := P) w t ty e i z ht hi hz ⟨g, 0, none⟩ k cap xs (by rw [hsize]; exact own0.1) holds ad q c vals (by rw [hsize]; exact hl) hnews (by omega) (by simp only [maxLen] at h63; omega) (growslice_fits (by omega) hbytes)
        rw [hr] at hr2
        simp only [Result.ok.injEq] at hr2
        rw [hr2.1]
        exact .inr ⟨_, rfl, Nat.le_refl _⟩

theorem All3.append {m : Nat} {r1 r2 : List (List CV)} {v1 v2 : List Value} (h1 : All3 S w φ m r1 v1) (h2 : All3 S w φ m r2 v2) (hm : ∀ r ∈ r1, r.length = m) : All3 S w φ m (r1 ++ r2) (v1 ++ v2) := by
  refine ⟨by rw [List.length_append, List.length_append, h1.1, h2.1, Nat.add_mul], fun i r j x hi hj => ?_⟩
  rw [List.getElem?_append] at hi
  split at hi
  · rename_i hlt
    obtain ⟨v, hv, hx⟩ := h1.2 i r j x hi hj
    exact ⟨v, by rw [List.getElem?_append_left (List.getElem?_eq_some_iff.1 hv).1]; exact hv, hx⟩
  · rename_i hge
    obtain ⟨v, hv, hx⟩ := h2.2 _ r j x hi hj
    refine ⟨v, ?_, hx⟩
    have hle : r1.length * m ≤ i * m := Nat.mul_le_mul_right _ (by omega)
    have hs : (i - r1.length) * m = i * m - r1.length * m := Nat.sub_mul _ _ _
    rw [List.getElem?_append_right (by rw [h1.1]; omega), h1.1, ← hv]
    congr 1
    omega

/-- What an own slice that is appended to holds. -/
def baseRows (st : St) (e m : Nat) : CV → Option (Option Nat × List (List CV))
  | .v x => if isNilS x then some (none, []) else none
  | .ref id 0 len => match st.s id with
    | some k => if k.rows.length = len ∧ k.e = e ∧ k.sz = m then some (some id, k.rows) else none
    | none => none
  | _ => none

theorem base_own {st2 : St} (hR : Rel J st2 φ S a w) {x : CV} {y : Value} {e m : Nat} {old : Option Nat} {rows : List (List CV)} (h : Rep S w φ x y) (hb : baseRows st2 e m x = some (old, rows)) :
    ∃ xs, w.ownsRow 0 e m y rows.length xs ∧ All3 S w φ m rows xs ∧ (∀ r ∈ rows, r.length = m) ∧
      ∀ b, y.ownBlock = some b → ∃ i k l, old = some i ∧ st2.s i = some k ∧ φ i = some l ∧ l.nl = false ∧ l.b = b := by
  cases h with
  | v hp =>
    simp only [baseRows] at hb
    split at hb
    · rename_i h; obtain rfl := nilS h
      simp only [Option.some.injEq, Prod.mk.injEq] at hb
      obtain ⟨rfl, rfl⟩ := hb
      exact ⟨[], World.ownsRow_nil _ _ _ _, ⟨by simp, fun i r j x h => by simp at h⟩, by simp, fun b h => by cases h⟩
    · cases hb
  | @ref _ id off len l hl hn hc hcm =>
    cases off with
    | succ off => simp [baseRows] at hb
    | zero =>
      simp only [baseRows] at hb
      split at hb
      · rename_i k hk
        split at hb
        · rename_i hcond
          obtain ⟨h1, h2, h3⟩ := hcond
          simp only [Option.some.injEq, Prod.mk.injEq] at hb
          obtain ⟨rfl, rfl⟩ := hb
          obtain ⟨l2, hl2, hsz, hbi⟩ := hR.sto.at_ id k hk
          rw [hl] at hl2
          obtain rfl := Option.some.inj hl2
          rcases hbi with ⟨hnl, _⟩ | ⟨_, hS, C, hbk⟩
          · rw [hn] at hnl; cases hnl
          · subst h2; subst h3; subst h1
            have hlen : k.rows.length * k.sz ≤ C.size := by rw [hbk.size, hbk.sz]; exact Nat.mul_le_mul_right _ hbk.len
            refine ⟨C.toList.take (k.rows.length * k.sz), ⟨by rw [List.length_take, Array.length_toList]; omega, .inr ⟨l.b, l.cap, C, by simp, Nat.zero_le _, hbk.heap, hbk.len, by simp only [maxLen]; exact hbk.cap, by rw [hbk.size, hbk.sz], rfl⟩⟩, ⟨by rw [List.length_take, Array.length_toList]; omega, fun i r j x h1 h2 => ?_⟩, hbk.row, fun b h => ?_⟩
            · obtain ⟨v, hv, hx⟩ := hbk.cell i r j x h1 h2
              refine ⟨v, ?_, hx⟩
              have h3 : i < k.rows.length := (List.getElem?_eq_some_iff.1 h1).1
              have h4 : j < k.sz := by rw [← hbk.row r (List.mem_of_getElem? h1)]; exact (List.getElem?_eq_some_iff.1 h2).1
              have h5 : (i + 1) * k.sz ≤ k.rows.length * k.sz := Nat.mul_le_mul_right _ h3
              rw [Nat.add_mul] at h5
              rw [List.getElem?_take_of_lt (by omega)]
              simpa using hv
            · simp only [Nat.zero_mul, Value.ownBlock, Option.some.injEq] at h
              exact ⟨id, k, l, rfl, hk, hl, hn, h⟩
        · cases hb
      · cases hb
  | @refn _ id l hl hn =>
    simp only [baseRows] at hb
    split at hb
    · rename_i k hk
      split at hb
      · rename_i hcond
        simp only [Option.some.injEq, Prod.mk.injEq] at hb
        obtain ⟨rfl, rfl⟩ := hb
        have hr : k.rows = [] := List.eq_nil_of_length_eq_zero hcond.1
        rw [hr]
        exact ⟨[], World.ownsRow_nil _ _ _ _, ⟨by simp, fun i r j x h => by simp at h⟩, by simp, fun b h => by cases h⟩
      · cases hb
    · cases hb
  | @refe _ id off l A c hl h0 hc =>
    cases off with
    | zero => omega
    | succ off => simp [baseRows] at hb
  | _ => cases hb

def killOld : Option Nat → List (Nat × Option Blk)
  | none => []
  | some i => [(i, none)]

theorem step_append {s p : Operand} {t e m by_ : Nat} {ag : Bool} {zl : List Value} {xb xp : CV} {old : Option Nat} {rows news : List (List CV)} {id : Nat}
    (ho : o.op = .call { callee := .builtin .append, args := #[s, p], argTypes := #[t, t] }) (hg : guardVal ops st o = some true) (hd : dstOk n o.dst = true)
    (hs : st.ev s = some (.a (.c xb))) (hp : st.ev p = some (.a (.c xp))) (ht : elOf P t = some (e, m, ag)) (hby : bytesP P e = some by_) (hz : zeroOf P e = some zl) (hzl : zl.length = m) (hm : 0 < m)
    (hbase : baseRows st e m xb = some (old, rows)) (hnews : rowsOf st xp = some news) (hml : ∀ r ∈ news, r.length = m) (hbytes : (rows.length + news.length) * by_ ≤ 140737488355328) (hb8 : 0 < by_) (hid : st.u id = false) :
    Step P n ops o st ⟨some (.a (.c (.ref id 0 (rows.length + news.length)))), killOld old ++ [(id, some ⟨e, m, rows ++ news⟩)], [id], refIds xb ++ refIds xp⟩ := by
  intro st2 hA
  refine Sound.of (hA.guard.trans hg) fun J φ S a w hJ hR => ?_
  have e1 : Rep S w φ xb (a.eval s) := ev_rep hR ((hA.ev (by rw [ho]; simp [Op.operands, Call.operands])).trans hs)
  have e2 : Rep S w φ xp (a.eval p) := ev_rep hR ((hA.ev (by rw [ho]; simp [Op.operands, Call.operands])).trans hp)
  have hu : st2.u id = false := (hA.u id (by simp)).trans hid
  have hbase2 : baseRows st2 e m xb = some (old, rows) := by
    rw [← hbase]
    cases xb with
    | ref i off len => cases off with
      | zero => simp only [baseRows]; rw [hA.s i (by simp [refIds])]
      | succ _ => rfl
    | _ => rfl
  have hnews2 : rowsOf st2 xp = some news := by
    rw [← hnews]
    cases xp with
    | ref i off len => simp only [rowsOf]; rw [hA.s i (by simp [refIds])]
    | _ => rfl
  obtain ⟨xs, hown, hall, hrm, hblock⟩ := base_own hR e1 hbase2
  obtain ⟨A, c, hy, hc, hcells⟩ := rowsOf_rep hR e2 hnews2 hml
  obtain ⟨h1, h2, h3⟩ := run_elem ht
  obtain ⟨i, hi, hzz⟩ := Option.bind_eq_some_iff.1 (show (P.info? e).bind (fun i => i.zero.map (·.cells.toList)) = some zl from hz)
  obtain ⟨z, hz1, hz2⟩ := Option.map_eq_some_iff.1 hzz
  have hsize : i.size = m := by unfold szOf at h2; rw [hi] at h2; simpa using h2
  have hby' : i.bytes = by_ := by unfold bytesP at hby; rw [hi] at hby; simpa using hby
  have hzs : z.cells.size = m := by rw [← hzl, ← hz2]; simp
  obtain ⟨vals, hv1, hv2, hv3⟩ : ∃ vals, All3 S w φ m news vals ∧ (news.length ≠ 0 → ∃ ad, A = some ad ∧ ∀ j u, vals[j]? = some u → w.cell? (ad.add j) = some u) ∧ ∀ u ∈ vals, u.oneCell' = true := by
    by_cases hne : news = []
    · subst hne; exact ⟨[], ⟨by simp, fun i r j x h => by simp at h⟩, fun h => absurd rfl h, by simp⟩
    · obtain ⟨b, o', rfl, hcell⟩ := hcells hne
      obtain ⟨vals, g1, g2, g3⟩ := vals_of hml hcell
      exact ⟨vals, g1, fun _ => ⟨_, rfl, g2⟩, g3⟩
  obtain ⟨v', w', hr, hown', hgrow, hob⟩ := run_app (ty := o.type) (c := c) h1 hi hz1 hsize hzs hm hown hv1.1 hv2 hv3 (by rw [hby']; exact hbytes) (by rw [hby']; exact hb8)
  have hrun : (execOp a.eval o).run P w = .ok (.value v') w' := by
    unfold execOp
    simp only [ho, resolve, invoke, builtin, Sem.run_bind, Sem.run_pure, Result.andThen_ok, List.map_toArray, List.map_cons, List.map_nil, hy, hr]
  have hφid : φ id = none := by
    cases h : φ id with
    | none => rfl
    | some l => have := hR.use id l h; rw [hu] at this; cases this
  have hkeep : Keep (fun b => (a.eval s).ownBlock = some b) w w' := Keep.of_grown hgrow (fun b hb _ => hb)
  have hfix : Fix S w w' := fun b hb hlt => hkeep.block b hlt (fun h => by
    obtain ⟨i', k, l, _, g2, g3, g4, rfl⟩ := hblock b h
    obtain ⟨l2, f1, _, f2⟩ := hR.sto.at_ i' k g2
    rw [g3] at f1
    obtain rfl := Option.some.inj f1
    rcases f2 with ⟨f2, _⟩ | f2
    · rw [g4] at f2; cases f2
    · exact f2.2.1 hb)
  have hallv := hall.append hv1 hrm
  have hne : ∀ i', old = some i' → i' ≠ id := fun i' h e => by
    subst e
    obtain ⟨k, hk⟩ : ∃ k, st2.s i' = some k := by
      cases xb with
      | ref j off len => cases off with
        | zero =>
          simp only [baseRows] at hbase2
          split at hbase2
          · rename_i k hk
            split at hbase2
            · simp only [Option.some.injEq, Prod.mk.injEq] at hbase2
              rw [h] at hbase2
              obtain ⟨e1, _⟩ := hbase2
              obtain rfl := Option.some.inj e1
              exact ⟨k, hk⟩
            · cases hbase2
          · cases hbase2
        | succ _ => simp [baseRows] at hbase2
      | v x =>
        simp only [baseRows] at hbase2
        split at hbase2
        · simp only [Option.some.injEq, Prod.mk.injEq] at hbase2
          rw [h] at hbase2; cases hbase2.1
        · cases hbase2
      | _ => cases hbase2
    obtain ⟨l, hl, _⟩ := hR.sto.at_ i' k hk
    rw [hφid] at hl; cases hl
  -- where the new slice lies
  obtain ⟨l', hl'1, hl'2, hl'3, hl'4⟩ : ∃ l' : Loc, l'.sz = m ∧ (∀ φ', φ' id = some l' → Rep S w' φ' (.ref id 0 (rows.length + news.length)) v') ∧ (l'.nl = true ∨ v'.ownBlock = some l'.b) ∧
      ∀ φ' : Nat → Option Loc, (∀ i l, φ i = some l → φ' i = some l) → (l'.nl = true ∧ rows ++ news = []) ∨ (l'.nl = false ∧ ∃ C', BlkAt S w' φ' l' ⟨e, m, rows ++ news⟩ C') := by
    rcases hown'.2 with ⟨rfl, h0⟩ | ⟨g, cap, cur, rfl, _, hg, hnc, hcm, hcs, htake⟩
    · have h00 : rows.length + news.length = 0 := h0
      exact ⟨⟨0, m, 0, true⟩, rfl, fun φ' h => by rw [h00]; exact .refn h rfl, .inl rfl, fun φ' _ => .inl ⟨rfl, List.eq_nil_of_length_eq_zero (by rw [List.length_append]; exact h00)⟩⟩
    · simp only [maxLen] at hcm
      refine ⟨⟨g, m, cap, false⟩, rfl, fun φ' h => ?_, .inr rfl, fun φ' hmono => .inr ⟨rfl, cur, ⟨rfl, hg, hcs, by rw [List.length_append]; exact hnc, hcm, hm, fun r hr => ?_, fun i r j x hi hj => ?_⟩⟩⟩
      · have := Rep.ref (S := S) (w := w') (off := 0) (len := rows.length + news.length) h rfl (by simpa using hnc) hcm
        simpa using this
      · rcases List.mem_append.1 hr with h | h
        · exact hrm r h
        · exact hml r h
      · obtain ⟨v, hv, hx⟩ := hallv.2 i r j x hi hj
        refine ⟨v, ?_, hx.mono hmono (fun _ h => h) hfix⟩
        rw [← htake, List.getElem?_take] at hv
        split at hv
        · simpa using hv
        · cases hv
  have hmono : ∀ i l, φ i = some l → (fun i => if i = id then some l' else φ i) i = some l := fun i l h => by
    simp only []
    rw [if_neg (fun e => by rw [e, hφid] at h; cases h)]; exact h
  have hst : ∀ i, updS st2.s (killOld old ++ [(id, some ⟨e, m, rows ++ news⟩)]) i = if i = id then some ⟨e, m, rows ++ news⟩ else if old = some i then none else st2.s i := fun i => by
    cases old with
    | none => simp [killOld, updS]
    | some j =>
      simp only [killOld, List.cons_append, List.nil_append, updS]
      by_cases hi : i = id
      · simp [hi]
      · by_cases hj : i = j
        · simp [hj]
        · simp [hi, hj, Ne.symm hj]
  refine ⟨.value v', w', fun i => if i = id then some l' else φ i, S, v', hrun, .inl rfl, ?_⟩
  refine Rel.turn hR id ⟨e, m, rows ++ news⟩ l' (fun b => (a.eval s).ownBlock = some b) hkeep (fun b hb => ?_) (fun _ => rfl) (.inl hφid) (fun i k h => ?_) ?_ hl'1 (hl'4 _ hmono) (fun i h => ?_) (put_nd hR.nd) (put_sz hR.sz)
    (fr_step hR (by rw [hJ]; exact hd) hmono hfix (fun x' e => by obtain rfl := Option.some.inj e; exact hl'2 _ (if_pos rfl)))
  · obtain ⟨i', k, l, g1, g2, g3, g4, g5⟩ := hblock b hb
    refine ⟨i', k, l, g2, g3, g4, g5, .inr ?_⟩
    show updS st2.s _ i' = none
    rw [hst, if_neg (hne i' g1), if_pos g1]
  · have h' : updS st2.s _ i = some k := h
    rw [hst] at h'
    by_cases hi : i = id
    · rw [if_pos hi] at h'; exact .inl ⟨hi, (Option.some.inj h').symm⟩
    · rw [if_neg hi] at h'
      split at h'
      · cases h'
      · exact .inr ⟨hi, h'⟩
  · rcases hl'3 with h | h
    · exact .inl h
    · rcases hob with h5 | ⟨g, h5, h6⟩
      · rw [h5] at h
        obtain ⟨i', k, l, g1, g2, g3, g4, g5⟩ := hblock _ h
        refine .inr (.inl ⟨i', k, l, g2, g3, g4, g5, .inr ?_⟩)
        show updS st2.s _ i' = none
        rw [hst, if_neg (hne i' g1), if_pos g1]
      · rw [h] at h5
        obtain rfl := Option.some.inj h5
        exact .inr (.inr h6)
  · simp only [St.app]
    rcases h with rfl | h
    · simp
    · simp [h]
end
end Go.Proofs.Ytbcjjenidkgodaa
