import Derived.Test.YtfacddeaobogjaaF10
set_option linter.unusedVariables false
set_option linter.unusedSimpArgs false
set_option linter.unnecessarySimpa false
/- The engine, part 11: a function as a whole. -/
namespace Go.DF
universe u v
set_option linter.unusedSimpArgs false
set_option linter.unusedVariables false
set_option linter.unnecessarySimpa false
variable [Fam]

/-! ### a function as a whole -/
theorem frameOf_ok {g : G} {w : World} : ∀ (ds : List DV) (vs : List Value) (i : Nat) (pre : List Value), RepL g w ds vs → pre.length = i → ∀ rest t d, look (frameOf i ds) t = some d →
    ∃ v, (pre ++ vs ++ rest)[t]? = some v ∧ Rep g w d v
  | [], vs, i, pre, h, hi, rest, t, d, hd => by simp [frameOf, look] at hd
  | e :: ds, vs, i, pre, h, hi, rest, t, d, hd => by
    simp only [RepL] at h
    obtain ⟨v, us, rfl, h2, h3⟩ := h
    unfold frameOf at hd
    rw [look_cons] at hd
    split at hd
    · rename_i he
      subst he
      obtain rfl := Option.some.inj hd
      refine ⟨v, ?_, h2⟩
      subst hi
      simp
    · have := frameOf_ok ds us (i + 1) (pre ++ [v]) h3 (by simp [hi]) rest t d hd
      simpa using this

def resF (tmps : Array Value) : ResultVar → Sem Value
  | .tmp t => pure (tmps.getD t undef)
  | .cell x t => do loadVar t (← asAddr (tmps.getD x undef))

omit [Fam] in
theorem results_eq (fn : Func) (tmps : Array Value) : results fn tmps = (do let vs ← fn.results.mapM (resF tmps); pure (if h : vs.size = 1 then vs[0] else .tuple vs)) := by
  unfold results
  have e : (fun x : ResultVar => match x with
      | .tmp t => pure (tmps.getD t undef)
      | .cell a t => do loadVar t (← asAddr (tmps.getD a undef))) = resF tmps := by
    funext x; cases x <;> rfl
  exact congrArg (fun f => (do let vs ← fn.results.mapM f; pure (if h : vs.size = 1 then vs[0] else .tuple vs) : Sem Value)) e


theorem resD_ok {P : Program} {g0 : G} {w0 : World} {M : Nat → Prop} {n0 N : Nat} {g : G} {st : St} {a : Act} {w : World} (hO : Ok g0 w0 M n0 N g st a w) :
    ∀ (rs : List ResultVar) (ds : List DV), (resD P st rs).Path ds → ∃ vs, RepL g w ds vs ∧ (rs.mapM (resF a.tmps)).run P w = .ok vs w
  | [], ds, h => by
    obtain rfl : ds = [] := h
    exact ⟨[], RepL.nil, rfl⟩
  | .tmp t :: rs, ds, h => by
    unfold resD at h
    split at h
    · rename_i d hd
      obtain ⟨ds', h1, h2⟩ := T.path_bind h
      obtain rfl : ds = d :: ds' := h2
      obtain ⟨vs, r, hr⟩ := resD_ok hO rs ds' h1
      obtain ⟨v, hv, hrv⟩ := hO.frm.frm t d hd
      have hg : a.tmps.getD t undef = v := by simp [hv]
      refine ⟨v :: vs, RepL.cons hrv r, ?_⟩
      simp only [List.mapM_cons, Sem.run_bind, resF, Sem.run_pure, Result.andThen_ok, hr, hg]
    · exact h.elim
  | .cell x t :: rs, ds, h => by
    unfold resD at h
    split at h
    · rename_i p hp
      obtain ⟨d, h1, h2⟩ := T.path_bind h
      obtain ⟨ds', h3, h4⟩ := T.path_bind h2
      obtain rfl : ds = d :: ds' := h4
      obtain ⟨vs, r, hr⟩ := resD_ok hO rs ds' h3
      obtain ⟨v, hv, hrv⟩ := hO.frm.frm x _ hp
      obtain ⟨b, o, u, hvb, hl, hru⟩ := loadT_ok (P := P) hO.rel hrv h1
      have hg : a.tmps.getD x undef = .pointer (some ⟨b, o, none⟩) := by simp [hv, hvb]
      refine ⟨u :: vs, RepL.cons hru r, ?_⟩
      have haddr : (asAddr (a.tmps.getD x undef)).run P w = .ok ⟨b, o, none⟩ w := by rw [hg]; rfl
      simp only [List.mapM_cons, Sem.run_bind, resF, Sem.run_pure, Result.andThen_ok, hr, haddr, hl]
    · exact h.elim

/-- A state at a function's end: the marks are come to, the results are read. -/
theorem leaves_ok {P : Program} {g0 : G} {w0 : World} {M : Nat → Prop} {n0 N : Nat} {fn : Func} {R : Ending → World → Prop} {ds : List DV} {st : St} : ∀ (l : List Deferred) {g : G} {a : Act} {w : World}, a.defers = l → Ok g0 w0 M n0 N g st a w → (resD P st fn.results.toList).Path ds →
    (∀ g' a' w' us, Ok g0 w0 M n0 N g' st a' w' → RepL g' w' ds us → R (.returned (if h : us.toArray.size = 1 then us.toArray[0] else .tuple us.toArray)) w') → LeavesInM (fz none) 0 P fn a.tmps R l .returning w
  | [], g, a, w, hl, hO, hp, hR => by
    obtain ⟨us, r, hr⟩ := resD_ok hO _ _ hp
    refine ⟨_, ?_, hR g a w us hO r⟩
    rw [results_eq, Array.mapM_eq_mapM_toList, Sem.run_bind, Sem.run_map, hr]
    rfl
  | d :: l, g, a, w, hl, hO, hp, hR => by
    obtain ⟨D, hd, hD, hDl, hDp⟩ := hO.mks d (by rw [hl]; simp)
    have hpw := hO.mkn
    rw [hl] at hpw
    obtain ⟨hp1, hp2⟩ := List.pairwise_cons.1 hpw
    refine ⟨by simp, .inl ⟨D, w.putObj D (.deferred none), by rw [hd], run_takeDeferred hD, ?_⟩⟩
    have hU : Upd D w (w.putObj D (.deferred none)) := ⟨rfl, rfl, rfl, by simp, fun c hc => World.putObj_heap_other hc, fun cs t fr hcs => by rw [hD] at hcs; simp at hcs⟩
    have hnm : ¬ Mine g st.hp D := fun h => h.nodef hO.rel _ hD
    have e : Ext g w g (w.putObj D (.deferred none)) := hU.ext hDp (fun _ _ h => h) rfl (fun _ _ _ => rfl)
    have hR' : Rel g st.hp (w.putObj D (.deferred none)) := by
      have h := hO.rel
      refine ⟨fun i z o hi => ?_, h.rws, h.inj, fun i z o k c hi hk hc => ?_, fun c hc => by rw [hU.size]; exact h.prl c hc⟩
      · rcases h.obj i z o hi with ⟨c, h1, h2, h3⟩ | h1
        · refine .inl ⟨c, h1, ORep.ext e (hU.other c (fun hc => h2.nodef _ (hc ▸ hD))) (fun k hk => ⟨rfl, fun c' hc' => hU.other c' (fun hcb => ?_)⟩) h2, h3⟩
          have hz : z = false := h.rws i z o hi (by cases o <;> simp [subOf] at hk <;> rfl)
          subst hz
          exact hnm ⟨i, o, hi, .inr ⟨k, hk, hcb ▸ hc'⟩⟩
        · exact .inr h1
      · obtain ⟨a1, a2⟩ := h.sub i z o k c hi hk hc
        exact ⟨by rw [hU.size]; exact a1, a2⟩
    have hO' : Ok g0 w0 M n0 N g st { a with defers := l } (w.putObj D (.deferred none)) :=
      ⟨hR', ⟨fun t d hd => let ⟨v, h1, h2⟩ := hO.frm.frm t d hd; ⟨v, h1, Rep.ext e _ _ h2⟩, hO.frm.size⟩, hO.mine, hO.fresh, hO.ext.trans e, ⟨hO.kept.os, hO.kept.tape, hO.kept.output, by rw [hU.size]; exact hO.kept.size, fun b hb hm => by rw [hU.other b (by omega)]; exact hO.kept.kept b hb hm⟩, hO.prg, hO.same, hO.lo, fun d' hd' => by
        obtain ⟨D2, e2, h2, h3, h4⟩ := hO.mks d' (by rw [hl]; exact List.mem_cons_of_mem _ hd')
        refine ⟨D2, e2, ?_, h3, h4⟩
        have hne : D2 ≠ D := fun h => hp1 d' hd' (by rw [hd, e2, h])
        rw [hU.other D2 hne]; exact h2, hp2⟩
    exact leaves_ok l (a := { a with defers := l }) rfl hO' hp hR

/-- What a function's activation begins with. -/
theorem ok_start {g : G} {w : World} {args : List DV} {vs : List Value} {hp : Hp} {nx N : Nat} (hR : Rel g hp w) (hfr : ∀ i, nx ≤ i → g.ρ i = none) (ha : RepL g w args vs) (hn : args.length ≤ N) :
    Ok g w (Mine g hp) nx N g ⟨frameOf 0 args, hp, nx⟩ { tmps := vs.toArray ++ Array.replicate (N - vs.toArray.size) undef, defers := [] } w := by
  have hlen := ha.length
  refine ⟨hR, ⟨?_, by simp; omega⟩, fun b hb => .inl hb, hfr, Ext.refl _ _, Kept.refl _ _, fun b hb => .inl hb, fun _ _ => rfl, Nat.le_refl _, fun d hd => by simp at hd, List.Pairwise.nil⟩
  intro t d hd
  obtain ⟨v, hv, hr⟩ := frameOf_ok args vs 0 [] ha rfl (List.replicate (N - vs.toArray.size) undef) t d hd
  refine ⟨v, ?_, hr⟩
  rw [← Array.getElem?_toList]
  simpa using hv
/-- What is read at the end is the result. -/
theorem rep_res {g : G} {w : World} {ds : List DV} {us : List Value} (r : RepL g w ds us) : Rep g w (tupD ds) (if h : us.toArray.size = 1 then us.toArray[0] else .tuple us.toArray) := by
  have hl := r.length
  cases ds with
  | nil =>
    simp only [RepL] at r
    subst r
    simp only [tupD, Rep]
    exact ⟨[], rfl, RepL.nil⟩
  | cons d ds =>
    simp only [RepL] at r
    obtain ⟨u, us', rfl, r1, r2⟩ := r
    cases ds with
    | nil =>
      simp only [RepL] at r2
      subst r2
      simpa [tupD] using r1
    | cons d2 ds =>
      have : us'.length = ds.length + 1 := by simpa using r2.length
      have hne : ¬ (u :: us').toArray.size = 1 := by simp; intro e; rw [e] at this; simp at this
      rw [dif_neg hne]
      simp only [tupD, Rep]
      exact ⟨_, rfl, RepL.cons r1 r2⟩
/-- A function's body, walked, is its call. -/
theorem calls_of_ok {P : Program} {f : FuncId} {fn : Func} {c : Code} {hp : Hp} {nx : Nat} {K : DV → St → Prop} {g : G} {w : World} {vs : Array Value} (hf : P.funcs[f]? = some fn) (hb : fn.body = some c)
    (h : ∀ Q : Exit → Act → World → Prop, (∀ x st' g' a' w', retK P fn.results.toList K x st' → Ok g w (Mine g hp) nx fn.ntmps g' st' a' w' → Q x.exit' a' w') → c.wpIn (fz none) 0 P Q { tmps := vs ++ Array.replicate (fn.ntmps - vs.size) undef, defers := [] } w) :
    DRun (Calls P f vs w) g w hp nx K := by
  refine in_calls (n := 0) (callsIn_of_wp_marks hf hb trivial (h _ ?_))
  intro x st' g' a' w' hk hO'
  have key : (resD P st' fn.results.toList).Holds (fun ds => K (tupD ds) st') → LeavesInM (fz none) 0 P fn a'.tmps (fun e w' => ∃ v d st' g', e = .returned v ∧ K d st' ∧ Rel g' st'.hp w' ∧ Rep g' w' d v ∧ Ext g w g' w' ∧
    Kept (Mine g hp) w w' ∧ (∀ i, st'.nx ≤ i → g'.ρ i = none) ∧ (∀ b, Mine g' st'.hp b → Mine g hp b ∨ w.heap.size ≤ b) ∧ (∀ b, g'.pr b → g.pr b ∨ Mine g hp b ∨ w.heap.size ≤ b) ∧ (∀ i, i < nx → g'.ρ i = g.ρ i)) a'.defers .returning w' := by
    intro hk
    obtain ⟨ds, hp', hk⟩ := hk.path
    refine leaves_ok a'.defers rfl hO' hp' ?_
    intro g2 a2 w2 us hO2 r
    exact ⟨_, tupD ds, st', g2, rfl, hk, hO2.rel, rep_res r, hO2.ext, hO2.kept, hO2.fresh, hO2.mine, hO2.prg, hO2.same⟩
  cases x with
  | normal => exact key hk
  | exit id => exact hk.elim
  | ret => exact key hk

/-- ████ What the evaluator says of a function's body is so of its call. -/
theorem calls_of_exec {P : Program} {ct : Cx P} {invs : List (Nat × LInv)} {f : FuncId} {fn : Func} {args : List DV} {hp : Hp} {nx : Nat} {K : DV → St → Prop} (hf : P.funcs[f]? = some fn)
    (h : execF P ct invs fn args hp nx K) (hn : args.length ≤ fn.ntmps) : DCall P f args hp nx K := by
  intro g w vs hR hfr ha
  unfold execF at h
  split at h
  · rename_i c hb
    exact calls_of_ok hf hb (fun Q hQ => exec_ok hfr c _ _ h g _ w (ok_start hR hfr ha hn) Q hQ)
  · exact h.elim

/-! ### functions that work on data -/
mutual
theorem idf_rep {g g' : G} {w : World} (hp : g'.pr = g.pr) : ∀ (d : DV) (v : Value), idf d = true → Rep g w d v → Rep g' w d v
  | .bool _, _, _, r => by simpa only [Rep] using r
  | .int _ _, _, _, r => by simpa only [Rep] using r
  | .str _, _, _, r => by simpa only [Rep] using r
  | .ptr _, _, h, _ => by simp [idf] at h
  | .nilptr, _, _, r => by simpa only [Rep] using r
  | .slice _ _, _, h, _ => by simp [idf] at h
  | .nilslice, _, _, r => by simpa only [Rep] using r
  | .map _, _, h, _ => by simp [idf] at h
  | .nilmap, _, _, r => by simpa only [Rep] using r
  | .func f c, _, h, r => by
    simp only [Rep] at r ⊢
    obtain ⟨vs, h1, h2⟩ := r
    exact ⟨vs, h1, idfL_rep hp c vs (by simpa [idf] using h) h2⟩
  | .nilfunc, _, _, r => by simpa only [Rep] using r
  | .nilif, _, _, r => by simpa only [Rep] using r
  | .agg c, _, h, r => by
    simp only [Rep] at r ⊢
    obtain ⟨vs, h1, h2, h3⟩ := r
    exact ⟨vs, h1, idfL_rep hp c vs (by simpa [idf] using h) h2, h3⟩
  | .tup c, _, h, r => by
    simp only [Rep] at r ⊢
    obtain ⟨vs, h1, h2⟩ := r
    exact ⟨vs, h1, idfL_rep hp c vs (by simpa [idf] using h) h2⟩
  | .per c a, _, _, r => by simp only [Rep] at r ⊢; rw [hp]; exact r
  | .nn c a, _, _, r => by simp only [Rep] at r ⊢; rw [hp]; exact r
  | .pel c a o, _, _, r => by simp only [Rep] at r ⊢; rw [hp]; exact r
  | .any, _, _, _ => by simp only [Rep]
theorem idfL_rep {g g' : G} {w : World} (hp : g'.pr = g.pr) : ∀ (ds : List DV) (vs : List Value), idfL ds = true → RepL g w ds vs → RepL g' w ds vs
  | [], _, _, r => by simpa only [RepL] using r
  | d :: ds, vs, h, r => by
    simp only [RepL] at r ⊢
    obtain ⟨v, us, rfl, r1, r2⟩ := r
    have h' : idf d = true ∧ idfL ds = true := by
      cases hd : idf d <;> simp [idfL, hd] at h ⊢; exact h
    exact ⟨v, us, rfl, idf_rep hp d v h'.1 r1, idfL_rep hp ds us h'.2 r2⟩
end

theorem idfL_append : ∀ {a b : List DV}, idfL a = true → idfL b = true → idfL (a ++ b) = true
  | [], b, _, h => h
  | d :: a, b, h, k => by
    have h' : idf d = true ∧ idfL a = true := by
      cases hd : idf d <;> simp [idfL, hd] at h ⊢; exact h
    simp only [List.cons_append, idfL, h'.1]
    exact idfL_append h'.2 k
theorem enc_idf : ∀ (c : CT) (a : c.D), idfL (c.enc a) = true
  | .int _, _ => rfl
  | .bool, _ => rfl
  | .str, _ => rfl
  | .pair p q, x => idfL_append (enc_idf p x.1) (enc_idf q x.2)
  | .sl _, _ => rfl
  | .pt _, _ => rfl
  | .mp _ _ _ _, _ => rfl
  | .ref _, _ => rfl
theorem toV_idf (agg : Bool) (c : CT) (a : c.D) : idf (toV agg c a) = true := by
  have := enc_idf c a
  unfold toV
  cases agg with
  | true => simpa [idf] using this
  | false =>
    dsimp only
    split
    · rename_i d h
      rw [h] at this
      cases hd : idf d <;> simp [idfL, hd] at this ⊢
    · rfl
theorem encCL_idf : ∀ (cs : List CT) (x : CLD cs), idfL (encCL cs x) = true
  | [], _ => rfl
  | c :: r, x => by simp only [encCL, idfL, toV_idf, encCL_idf r x.2]
theorem encAL_idf : ∀ (s : List AS) (x : ALD s), idfL (encAL s x) = true
  | [], _ => rfl
  | .dat agg c :: r, x => by
    simp only [encAL, idfL, AS.enc, encAL_idf r x.2]
    rw [show idf (toV agg c x.1) = true from toV_idf agg c x.1]
  | .fn f cap :: r, x => by
    simp only [encAL, idfL, AS.enc, idf, encAL_idf r x.2]
    rw [show idfL (encCL cap x.1) = true from encCL_idf cap x.1]

/-- ████ A function that works on data alone, by the evaluator. -/
theorem pure1_of_exec {P : Program} {ct : Cx P} {f : FuncId} {fn : Func} {args : List DV} {d : DV} (invs : List (Nat × LInv)) (hf : P.funcs[f]? = some fn) (ha : idfL args = true)
    (hn : Nat.ble args.length fn.ntmps = true) (h : execF P ct invs fn args [] 0 (fun d' st => subS 0 ⟨[(0, d')], st.hp, st.nx⟩ ⟨[(0, d)], [], 0⟩ True)) : Pure1 P f args d := by
  intro g w vs r hpr
  let g1 : G := ⟨fun _ => none, g.pr, fun _ => 0, fun _ _ => none⟩
  have hR : Rel g1 [] w := ⟨fun i z o hi => by simp [look] at hi, fun i z o hi => by simp [look] at hi, fun i j oi oj b hi => by simp [look] at hi, fun i z o k b hi => by simp [look] at hi, hpr⟩
  have hno : ∀ b, ¬ Mine g1 [] b := by rintro b ⟨i, o, hi, _⟩; simp [look] at hi
  refine (calls_of_exec hf h (Nat.le_of_ble_eq_true hn) g1 w vs hR (fun _ _ => rfl) (idfL_rep (g := g) (g' := g1) rfl _ _ ha r)).mono ?_
  rintro e w' ⟨v, d', st', g', rfl, hk, hR', hr, hE, hK, _, hown, hprg, _⟩
  obtain ⟨hp1, σ, hgh, tnb, t1, t2, t3, _, t4, t5⟩ := subS_core hk
  obtain ⟨g2, hP⟩ := ghosts_ok (nx := st'.nx) _ _ _ _ hgh hR'
  obtain ⟨d'', hd'', hr'⟩ := t4 0 d (by simp [look])
  have : d'' = d' := by simpa [look] using hd''.symm
  subst this
  have hfin := hr' g2 w' v hP.rel (Rep.ext hP.ext _ _ hr)
  have hs0 : w.heap.size ≤ w'.heap.size := hK.size
  refine ⟨v, ⟨g.ρ, g2.pr, g.base, g.sub⟩, rfl, ⟨hK.os, hK.tape, hK.output, hK.size, fun b hb => hK.kept b hb (hno b)⟩, ⟨rfl, rfl, rfl, fun b hb => hP.ext.pr b (hE.pr b hb), fun b hb => ?_, fun b hb => hP.rel.prl b hb⟩, ?_⟩
  · rcases hP.prg b hb with h1 | h1 | h1
    · rcases hprg b h1 with h2 | h2 | h2
      · exact .inl h2
      · exact (hno b h2).elim
      · exact .inr h2
    · rcases hown b h1 with h2 | h2
      · exact (hno b h2).elim
      · exact .inr h2
    · exact .inr (Nat.le_trans hs0 h1)
  · refine Rep.ext (g := ren g2 σ) (g' := ⟨g.ρ, g2.pr, g.base, g.sub⟩) (w := w') (w' := w') ⟨fun i b hb => ?_, fun _ h => h, fun _ _ => rfl, fun i b hb => ?_, fun b cs t fr h => ⟨cs, h, rfl⟩⟩ _ _ hfin
    · have := t3 i (Nat.zero_le _)
      simp [ren, this] at hb
    · have := t3 i (Nat.zero_le _)
      simp [ren, this] at hb

/-- The same, of data that a signature says. -/
theorem pure_of_exec {P : Program} {ct : Cx P} {f : FuncId} {fn : Func} {sig : List AS} {x : ALD sig} {d : DV} (invs : List (Nat × LInv)) (hf : P.funcs[f]? = some fn)
    (hn : Nat.ble (encAL sig x).length fn.ntmps = true) (h : execF P ct invs fn (encAL sig x) [] 0 (fun d' st => subS 0 ⟨[(0, d')], st.hp, st.nx⟩ ⟨[(0, d)], [], 0⟩ True)) : Pure1 P f (encAL sig x) d :=
  pure1_of_exec invs hf (encAL_idf _ _) hn h

omit [Fam] in
theorem cast_goal {p q : Prop} (h : p = q) (hp : p) : q := h ▸ hp
omit [Fam] in
theorem hasBody_of {P : Program} {f : FuncId} {fn : Func} (hf : P.funcs[f]? = some fn) (hn : (fn.name == "runtime.NumGoroutine") = false) (hb : fn.body.isNone = false) : HasBody P f := ⟨fn, hf, hn, hb⟩

omit [Fam] in
@[simp] theorem DI.lit_v (n : Int) : (DI.lit n).v = n := rfl
omit [Fam] in
@[simp] theorem DI.sym_v (n : Int) : (DI.sym n).v = n := rfl
omit [Fam] in
@[simp] theorem DN.lit_v (n : Nat) : (DN.lit n).v = n := rfl
omit [Fam] in
@[simp] theorem DN.sym_v (n : Nat) : (DN.sym n).v = n := rfl
omit [Fam] in
@[simp] theorem DB.lit_v (n : Bool) : (DB.lit n).v = n := rfl
omit [Fam] in
@[simp] theorem DB.sym_v (n : Bool) : (DB.sym n).v = n := rfl
omit [Fam] in
@[simp] theorem DS.lit_v (n : ByteArray) : (DS.lit n).v = n := rfl
omit [Fam] in
@[simp] theorem DS.sym_v (n : ByteArray) : (DS.sym n).v = n := rfl
end Go.DF
