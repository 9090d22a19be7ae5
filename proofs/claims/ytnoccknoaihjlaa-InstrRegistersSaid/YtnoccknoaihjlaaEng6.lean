import Derived.Test.YtnoccknoaihjlaaEng6a
set_option linter.unusedVariables false
set_option linter.unusedSimpArgs false
set_option linter.unnecessarySimpa false
/- The engine, part 6: a silent operation, whichever it is. -/
namespace Go.DE
universe u v

/-- The operation runs, and what follows it may count on d in its slot. -/
def SOk (P : Program) (o : Oper) (ev : Operand → Value) (g : G) (w : World) (d : DV) : Prop :=
  ∀ (a : Act) (next : Act → World → Prop) (Q : Exit → Act → World → Prop), a.eval = ev → (∀ v w', Silent w w' → Rep g w' d v → next (a.put o.dst v) w') → o.wp P a w next Q

theorem sok_gives {P : Program} {o : Oper} {ev : Operand → Value} {g : G} {w : World} {d : DV} {s : Sem Value} (he : execOp ev o = (do pure (.value (← s)))) (h : Gives P g w s d) : SOk P o ev g w d := by
  intro a next Q ha hn
  obtain ⟨v, hv, hr⟩ := h
  unfold Oper.wp
  rw [ha, he]
  simp only [Sem.run_bind, hv, Result.andThen_ok, Sem.run_pure, Oper.upon_value]
  exact hn v w (Silent.refl w) hr

theorem mapO_ok {g : G} {w : World} {lk : Operand → Option DV} {ev : Operand → Value} :
    ∀ {l : List Operand} {ds : List DV}, (∀ x, x ∈ l → ∀ d, lk x = some d → Rep g w d (ev x)) → mapO lk l = some ds → RepL g w ds (l.map ev)
  | [], ds, _, h => by simp [mapO] at h; subst h; exact RepL.nil
  | x :: l, ds, hlk, h => by
    unfold mapO at h
    split at h
    · rename_i d ds' h1 h2
      obtain rfl := Option.some.inj h
      exact RepL.cons (hlk _ (by simp) _ h1) (mapO_ok (fun x hx => hlk x (by simp [hx])) h2)
    · simp at h

theorem partsD_ok {g : G} {w : World} {lk : Operand → Option DV} {ev : Operand → Value} :
    ∀ {l : List (Nat × Operand)} {ps : List (Nat × DV)}, (∀ x, x ∈ l.map (·.2) → ∀ d, lk x = some d → Rep g w d (ev x)) → partsD lk l = some ps → ps.length = l.length ∧
      ∀ (k i : Nat) (e : DV), ps[k]? = some (i, e) → ∃ v, (l.map fun x => (x.1, ev x.2))[k]? = some (i, v) ∧ Rep g w e v
  | [], ps, _, h => by simp [partsD] at h; subst h; simp
  | (j, x) :: l, ps, hlk, h => by
    unfold partsD at h
    split at h
    · rename_i d ds' h1 h2
      obtain rfl := Option.some.inj h
      obtain ⟨hl, hr⟩ := partsD_ok (fun x hx => hlk x (by simp at hx ⊢; exact .inr hx)) h2
      refine ⟨by simp [hl], ?_⟩
      intro k i e hk
      cases k with
      | zero =>
        simp at hk
        obtain ⟨rfl, rfl⟩ := hk
        exact ⟨ev x, by simp, hlk _ (by simp) _ h1⟩
      | succ k => simpa using hr k i e (by simpa using hk)
    · simp at h

theorem sok_call {P : Program} {o : Oper} {ev : Operand → Value} {g : G} {w : World} {d : DV} {c : Call} {x : Operand} {f : FuncId} {cap : List Value}
    (ho : o.op = .call c) (hc : c.callee = .value x) (hx : ev x = .func (.func f) #[] cap.toArray) (hb : HasBody P f)
    (h : Calls P f (c.args.toList.map ev ++ cap).toArray w fun e w' => ∃ v, e = .returned v ∧ Silent w w' ∧ Rep g w' d v) : SOk P o ev g w d := by
  intro a next Q hae hn
  obtain ⟨fn, h1, h2, h3⟩ := hb
  have hrun : (execOp ev o).run P w = .ok (.enter f (c.args.toList.map ev ++ cap).toArray) w := by
    have e : #[] ++ c.args.map ev ++ cap.toArray = (c.args.toList.map ev ++ cap).toArray := by
      apply Array.toList_inj.1; simp
    simp only [execOp, ho, resolve, hc, hx, Deferred.ofValue, Sem.run_bind, Sem.run_pure, Result.andThen_ok, invoke, callFunc, run_program, h1, h2, h3, Bool.false_eq_true, if_false, e]
  unfold Oper.wp
  rw [hae, hrun, Oper.upon_enter]
  refine h.mono ?_
  rintro e w' ⟨v, rfl, hs, hr⟩
  exact hn v w' hs hr

theorem findCC_f {P : Program} : ∀ {l : List (CanC P)} {f : FuncId} {c : CanC P}, findCC l f = some c → c.f = f
  | [], _, _, h => by simp [findCC] at h
  | c0 :: r, f, c, h => by
    unfold findCC at h
    split at h
    · rename_i hb; obtain rfl := Option.some.inj h; exact Nat.eq_of_beq_eq_true hb
    · exact findCC_f h
theorem findC_f {P : Program} : ∀ {l : List (PureC P)} {f : FuncId} {c : PureC P}, findC l f = some c → c.f = f
  | [], _, _, h => by simp [findC] at h
  | c0 :: r, f, c, h => by
    unfold findC at h
    split at h
    · rename_i hb; obtain rfl := Option.some.inj h; exact Nat.eq_of_beq_eq_true hb
    · exact findC_f h

theorem evS_ok {P : Program} {ct : Cx P} {g : G} {hp : Hp} {w : World} {lk : Operand → Option DV} {ev : Operand → Value} {o : Oper} {d : DV}
    (hR : Rel g hp w) (hlk' : ∀ x, x ∈ o.op.operands.toList → ∀ d, lk x = some d → Rep g w d (ev x)) (h : (evS P ct hp lk o.op).Path d) : SOk P o ev g w d := by
  obtain ⟨dst, op, type, pos, after, guard⟩ := o
  dsimp only at h hlk'
  unfold evS at h
  split at h
  · -- move
    rename_i x
    have h := T.path_opt h
    exact sok_gives (s := pure (ev x)) (by simp [execOp]) ⟨_, rfl, hlk' _ (by simp [Op.operands]) _ h⟩
  · rename_i x
    have h := T.path_opt h
    exact sok_gives (s := pure (ev x)) (by simp [execOp]) ⟨_, rfl, hlk' _ (by simp [Op.operands]) _ h⟩
  · -- pick
    rename_i c a b
    have key : ∀ bb : Bool, ev c = .bool bb → (bb = true → lk a = some d) → (bb = false → lk b = some d) → SOk P ⟨dst, .pick c a b, type, pos, after, guard⟩ ev g w d := by
      intro bb hc h1 h2
      refine sok_gives (s := pure (if bb then ev a else ev b)) (by simp [execOp, hc, asBool]) ⟨_, rfl, ?_⟩
      cases bb
      · simpa using hlk' _ (by simp [Op.operands]) _ (h2 rfl)
      · simpa using hlk' _ (by simp [Op.operands]) _ (h1 rfl)
    split at h
    · rename_i hc; have r := hlk' _ (by simp [Op.operands]) _ hc; simp only [Rep, DB.v] at r
      exact key true r (fun _ => T.path_opt h) (by simp)
    · rename_i hc; have r := hlk' _ (by simp [Op.operands]) _ hc; simp only [Rep, DB.v] at r
      exact key false r (by simp) (fun _ => T.path_opt h)
    · rename_i cc hc; have r := hlk' _ (by simp [Op.operands]) _ hc; simp only [Rep, DB.v] at r
      rcases h with ⟨hb, h⟩ | ⟨hb, h⟩
      · exact key cc r (fun _ => T.path_opt h) (by simp [hb])
      · exact key cc r (by simp [hb]) (fun _ => T.path_opt h)
    · exact h.elim
  · -- extract
    rename_i t i
    split at h
    · rename_i vs hv
      have r := hlk' _ (by simp [Op.operands]) _ hv
      simp only [Rep] at r
      obtain ⟨us, hu, r⟩ := r
      obtain ⟨v, hv', hr⟩ := r.get (T.path_opt h)
      exact sok_gives (s := Instr.extract (ev t) i) (by simp [execOp]) ⟨v, by simp [Instr.extract, hu, hv'], hr⟩
    · exact h.elim
  · -- fieldAddr
    rename_i s x f
    split at h
    · rename_i fs p hu hp'
      have r := hlk' _ (by simp [Op.operands]) _ hp'
      simp only [Rep] at r
      obtain ⟨b, hb, hv⟩ := r
      split at h
      · rename_i fd hf
        split at h
        · rename_i n hn
          split at h
          · exact h.elim
          · rename_i hn0
            obtain rfl : d = _ := h
            have hn0 : n ≠ 0 := Nat.ne_of_beq_eq_false hn0
            refine sok_gives (s := Instr.fieldAt s (ev x) f) (by simp [execOp]) ⟨.pointer (some ⟨b, g.off p + fd.offset, none⟩), ?_, ?_⟩
            · simp [Instr.fieldAt, run_under hu, hf, hv, Instr.sureAddr, fieldPlace, run_sizeD hn, hn0, addr_add]
            · simp only [Rep]
              exact ⟨b, hb, by simp [G.off, DP.off, Nat.add_assoc]⟩
        · exact h.elim
      · exact h.elim
    · exact h.elim
  · -- load
    rename_i t x
    split at h
    · rename_i p hp'
      have r := hlk' _ (by simp [Op.operands]) _ hp'
      simp only [Rep] at r
      obtain ⟨b, hb, hv⟩ := r
      obtain ⟨b', v, hb', hl, hr⟩ := loadT_ok (P := P) hR h
      obtain rfl : b = b' := by rw [hb] at hb'; exact Option.some.inj hb'
      exact sok_gives (s := Instr.loadAt t (ev x)) (by simp [execOp]) ⟨v, by simp [Instr.loadAt, hv, Instr.sureAddr, hl], hr⟩
    · exact h.elim
  · -- field
    rename_i t x f
    split at h
    · rename_i fs cs hu hx
      have r := hlk' _ (by simp [Op.operands]) _ hx
      simp only [Rep] at r
      obtain ⟨us, hv, r, r1⟩ := r
      split at h
      · rename_i fd hf
        obtain ⟨v, hv', hr⟩ := partO_ok r r1 (T.path_opt h)
        exact sok_gives (s := Instr.field t (ev x) f) (by simp [execOp]) ⟨v, by simp [Instr.field, run_under hu, hf, hv, asAgg, hv'], hr⟩
      · exact h.elim
    · exact h.elim
  · -- index
    rename_i t x i
    split at h
    · rename_i dx di hx hi
      exact sok_gives (s := Instr.index t (ev x) (ev i)) (by simp [execOp]) (indexV_ok h (hlk' _ (by simp [Op.operands]) _ hx) (hlk' _ (by simp [Op.operands]) _ hi))
    · exact h.elim
  · -- indexAddr
    rename_i t x i
    split at h
    · rename_i dx di hx hi
      exact sok_gives (s := Instr.indexAt t (ev x) (ev i)) (by simp [execOp]) (indexAddrV_ok h (hlk' _ (by simp [Op.operands]) _ hx) (hlk' _ (by simp [Op.operands]) _ hi))
    · exact h.elim
  · -- binOp
    rename_i op t x y yt
    split at h
    · rename_i dx dy hx hy
      exact sok_gives (s := do eqGuard op t x y (ev x) (ev y); binOp op t (ev x) (ev y)) (by simp [execOp]) (binV_ok h (hlk' _ (by simp [Op.operands]) _ hx) (hlk' _ (by simp [Op.operands]) _ hy))
    · exact h.elim
  · -- unOp
    rename_i op t x
    split at h
    · rename_i dx hx
      exact sok_gives (s := Op.unary op (ev x)) (by simp [execOp]) (unV_ok h (hlk' _ (by simp [Op.operands]) _ hx))
    · exact h.elim
  · -- convert
    rename_i src dst x
    split at h
    · rename_i dx hx
      exact sok_gives (s := convert src dst (ev x)) (by simp [execOp]) (convV_ok h (hlk' _ (by simp [Op.operands]) _ hx))
    · exact h.elim
  · -- build
    rename_i t parts
    split at h
    · rename_i ps hps
      obtain ⟨hl, hr⟩ := partsD_ok (fun x hx => hlk' x (by simpa [Op.operands] using hx)) hps
      refine sok_gives (s := Instr.build t (parts.map fun (i, x) => (i, ev x))) (by simp [execOp]) (buildD_ok (T.path_opt h) (by simpa using hl) ?_)
      intro k i e hk
      obtain ⟨v, hv, rv⟩ := hr k i e hk
      exact ⟨v, by simpa using hv, rv⟩
    · exact h.elim
  · -- nilCheck
    rename_i x
    split at h
    · rename_i p hp'
      obtain rfl : d = _ := h
      have r := hlk' _ (by simp [Op.operands]) _ hp'
      have r' := r
      simp only [Rep] at r
      obtain ⟨b, hb, hv⟩ := r
      refine sok_gives (s := pure (ev x)) ?_ ⟨_, rfl, r'⟩
      simp [execOp, hv]
    · rename_i f c hp'
      obtain rfl : d = _ := h
      have r := hlk' _ (by simp [Op.operands]) _ hp'
      have r' := r
      simp only [Rep] at r
      obtain ⟨us, hv, _⟩ := r
      refine sok_gives (s := pure (ev x)) ?_ ⟨_, rfl, r'⟩
      simp [execOp, hv]
    · exact h.elim
  · -- makeFunc
    rename_i f first cap
    split at h
    · rename_i ds hf hc
      obtain rfl : d = _ := h
      refine sok_gives (s := Instr.makeFunc (.func f) (first.map ev) (cap.map ev)) (by simp [execOp]) ⟨_, rfl, ?_⟩
      simp only [Rep]
      refine ⟨cap.toList.map ev, ?_, mapO_ok (fun x hx => hlk' x (by simp at hx; simp [Op.operands, hx])) hc⟩
      have hf' : first = #[] := by apply Array.toList_inj.1; simpa using hf
      subst hf'
      simp only [Array.map_empty]
      congr 2
      apply Array.toList_inj.1
      simp
    · exact h.elim
  · -- call
    rename_i c
    split at h
    · rename_i hc
      split at h
      · rename_i t ts x xs ht hx
        split at h
        · rename_i dx hdx
          have hxm : x ∈ c.args := by rw [← Array.mem_toList_iff, hx]; simp
          have rx := hlk' x (by simp [Op.operands, Call.operands, hxm]) _ hdx
          have hc0 : c.argTypes[0]? = some t := by rw [← Array.getElem?_toList, ht]; rfl
          have hx0 : (c.args.map ev)[0]? = some (ev x) := by
            have : c.args[0]? = some x := by rw [← Array.getElem?_toList, hx]; rfl
            simp [this]
          refine sok_gives (s := Builtin.len_ c.argTypes type (c.args.map ev)) ?_ (lenV_ok h rx hc0 hx0)
          simp [execOp, resolve, hc, invoke, builtin]
        · exact h.elim
      · exact h.elim
    · rename_i hc
      split at h
      · rename_i x y hxy
        split at h
        · rename_i dx dy hdx hdy
          have hxm : x ∈ c.args := by rw [← Array.mem_toList_iff, hxy]; simp
          have hym : y ∈ c.args := by rw [← Array.mem_toList_iff, hxy]; simp
          have hargs : c.args.map ev = #[ev x, ev y] := by apply Array.toList_inj.1; simp [hxy]
          refine sok_gives (s := Builtin.max_ c.argTypes type (c.args.map ev)) ?_ (by rw [hargs]; exact maxV_ok h (hlk' x (by simp [Op.operands, Call.operands, hxm]) _ hdx) (hlk' y (by simp [Op.operands, Call.operands, hym]) _ hdy))
          simp [execOp, resolve, hc, invoke, builtin]
        · exact h.elim
      · exact h.elim
    · rename_i hc
      split at h
      · rename_i x y hxy
        split at h
        · rename_i dx dy hdx hdy
          have hxm : x ∈ c.args := by rw [← Array.mem_toList_iff, hxy]; simp
          have hym : y ∈ c.args := by rw [← Array.mem_toList_iff, hxy]; simp
          have hargs : c.args.map ev = #[ev x, ev y] := by apply Array.toList_inj.1; simp [hxy]
          refine sok_gives (s := Builtin.min_ c.argTypes type (c.args.map ev)) ?_ (by rw [hargs]; exact minV_ok h (hlk' x (by simp [Op.operands, Call.operands, hxm]) _ hdx) (hlk' y (by simp [Op.operands, Call.operands, hym]) _ hdy))
          simp [execOp, resolve, hc, invoke, builtin]
        · exact h.elim
      · exact h.elim
    · rename_i x hc
      split at h
      · rename_i f cap args hx ha
        unfold callS at h
        split at h
        · rename_i pc hpc
          have key : ∀ p, pc.spec (args ++ cap) = some (p, d) → (∀ q, p = some q → q) → SOk P ⟨dst, .call c, type, pos, after, guard⟩ ev g w d := by
            intro p hs hp0
            have r := hlk' x (by simp [Op.operands, Call.operands, hc]) _ hx
            simp only [Rep] at r
            obtain ⟨vs, hv, rc⟩ := r
            have hfid : pc.f = f := findC_f hpc
            subst hfid
            exact sok_call rfl hc hv pc.body (pc.ok _ _ _ hs hp0 g w _ ((mapO_ok (fun x hx => hlk' x (by simp at hx; simp [Op.operands, Call.operands, hx])) ha).append rc) hR.prl)
          split at h
          · rename_i dd hs
            obtain rfl : d = _ := h
            exact key none hs (by simp)
          · rename_i p dd hs
            obtain ⟨hp0, h⟩ := h
            obtain rfl : d = _ := h
            exact key (some p) hs (by rintro q ⟨⟩; exact hp0)
          · exact h.elim
        · split at h
          · rename_i cc hcc
            split at h
            · rename_i hsil
              split at h
              · rename_i ps dd hcall
                obtain ⟨hps, h⟩ := h
                obtain rfl : d = _ := h
                have r := hlk' x (by simp [Op.operands, Call.operands, hc]) _ hx
                simp only [Rep] at r
                obtain ⟨vs, hv, rc⟩ := r
                have hfid : cc.f = f := findCC_f hcc
                subst hfid
                exact sok_call rfl hc hv cc.body (callR_ok hsil hcall (allP_ok hps) hR ((mapO_ok (fun x hx => hlk' x (by simp at hx; simp [Op.operands, Call.operands, hx])) ha).append rc))
              · exact h.elim
            · exact h.elim
          · exact h.elim
      · exact h.elim
    · exact h.elim
  · -- lookup
    rename_i t m k ok
    split at h
    · rename_i dm dk hm hk
      exact sok_gives (s := Instr.lookup t (ev m) (ev k) ok) (by simp [execOp]) (lookupT_ok hR h (hlk' _ (by simp [Op.operands]) _ hm) (hlk' _ (by simp [Op.operands]) _ hk))
    · exact h.elim
  · -- slice
    rename_i t x lo hi mx
    split at h
    · rename_i dx dlo dhi hx hlo hhi
      have bnd : ∀ (o : Option Operand) (e : Option DV), lkO lk o = some e → (∀ y, o = some y → ∀ d, lk y = some d → Rep g w d (ev y)) → Bnd g w e (o.map ev) := by
        intro o e he hy
        cases o with
        | none =>
          obtain rfl : e = none := by simpa [lkO] using he.symm
          exact ⟨fun e h => by simp at h, fun _ => rfl⟩
        | some y =>
          simp only [lkO] at he
          split at he
          · rename_i d hd
            obtain rfl : e = some d := by simpa using he.symm
            refine ⟨fun e h => ⟨ev y, rfl, ?_⟩, fun h => by simp at h⟩
            obtain rfl : d = e := by simpa using h
            exact hy y rfl d hd
          · simp at he
      refine sok_gives (s := Instr.sliceAt t (ev x) (lo.map ev) (hi.map ev) none) (by simp [execOp]) (sliceV_ok hR h (hlk' _ (by simp [Op.operands]) _ hx) (bnd lo _ hlo ?_) (bnd hi _ hhi ?_))
      · rintro y rfl d hd; exact hlk' y (by simp [Op.operands]) d hd
      · rintro y rfl d hd; exact hlk' y (by simp [Op.operands]) d hd
    · exact h.elim
  · exact h.elim

end Go.DE
