import Derived.Test.YtnoccknoaihjlaaEng10b
set_option linter.unusedVariables false
set_option linter.unusedSimpArgs false
set_option linter.unnecessarySimpa false
/- The engine, part 11: the evaluator of code is right; a function as a whole; functions that write nothing. -/
namespace Go.DE
universe u v

def DX.exit' : DX → Exit
  | .normal => .normal
  | .exit id => .exit id
  | .ret => .ret

section
variable {P : Program} {ct : Cx P} {g0 : G} {w0 : World} {M : Nat → Prop} {n0 rb N : Nat}

theorem setLit_ok {g : G} {st : St} {a : Act} {w : World} {c : Operand} {v b : Bool} (h : Ok g0 w0 M n0 rb N g st a w) (hc : lkF st.fr c = some (.bool (.sym v))) (hv : v = b) :
    Ok g0 w0 M n0 rb N g ⟨setLit st.fr c b, st.hp, st.nx⟩ a w := by
  refine h.frame ⟨?_, h.frm.size, h.frm.dfr⟩
  intro t d hd
  cases c with
  | tmp s =>
    simp only [setLit, look_cons] at hd
    split at hd
    · rename_i he
      subst he
      obtain rfl := Option.some.inj hd
      obtain ⟨u, h1, h2⟩ := h.frm.frm s _ hc
      exact ⟨u, h1, by simpa [Rep, DB.v, hv] using h2⟩
    · exact h.frm.frm t d hd
  | _ => exact h.frm.frm t d hd

theorem guardT_fr' {all : List Oper} {fr fr' : Fr} {o : Oper} {b : Bool} (h : (guardT all fr o).Path (b, fr')) : ∀ t d, look fr t = some d → ∃ d', look fr' t = some d' ∧ Imp d' d := by
  have same : fr' = fr → ∀ t d, look fr t = some d → ∃ d', look fr' t = some d' ∧ Imp d' d := by
    intro e t d hd; subst e; exact ⟨d, hd, Imp.refl _⟩
  have upd : ∀ s x bb, look fr s = some (.bool (.sym x)) → x = bb → fr' = (s, .bool (.lit bb)) :: fr → ∀ t d, look fr t = some d → ∃ d', look fr' t = some d' ∧ Imp d' d := by
    intro s x bb hs hx e t d hd
    subst e hx
    rw [look_cons]
    split
    · rename_i he
      subst he
      rw [hs] at hd
      obtain rfl := Option.some.inj hd
      exact ⟨_, rfl, fun g w v r => by simpa [Rep, DB.v] using r⟩
    · exact ⟨d, hd, Imp.refl _⟩
  unfold guardT at h
  split at h
  · have h : (b, fr') = (true, fr) := h; exact same (congrArg Prod.snd h)
  · split at h
    · split at h
      · rename_i t _
        split at h
        · have h : (b, fr') = (_, fr) := h; exact same (congrArg Prod.snd h)
        · rename_i x hx
          rcases h with ⟨hb, h⟩ | ⟨hb, h⟩
          · have h : (b, fr') = (_, _ :: fr) := h; exact upd t x true hx hb (congrArg Prod.snd h)
          · have h : (b, fr') = (_, _ :: fr) := h; exact upd t x false hx hb (congrArg Prod.snd h)
        · have h : (b, fr') = (_, fr) := h; exact same (congrArg Prod.snd h)
        · exact h.elim
      · exact h.elim
    · exact h.elim

theorem setF_keeps {N : Nat} {fr fr' : Fr} {o : Oper} {d : DV} (h : setF N fr o.dst d = some fr') {t : Nat} (ht : writes o t = false) : look fr' t = look fr t := by
  unfold writes at ht
  cases hd : o.dst with
  | none => rw [hd] at h; simp [setF] at h; rw [h]
  | some s =>
    rw [hd] at h ht
    obtain ⟨_, rfl⟩ := setF_some h
    rw [look_cons, if_neg (Nat.ne_of_beq_eq_false ht)]

theorem anyW_cons {o : Oper} {l : List Oper} {t : Nat} (h : anyW (o :: l) t = false) : writes o t = false ∧ anyW l t = false := by
  unfold anyW at h
  split at h
  · simp at h
  · rename_i hw; exact ⟨hw, h⟩

theorem runS_keeps {hp : Hp} {all : List Oper} : ∀ (l : List Oper) (fr fr' : Fr), (runS P ct N hp all l fr).Path fr' → ∀ t, anyW l t = false → ∀ d, look fr t = some d → ∃ d', look fr' t = some d' ∧ Imp d' d
  | [], fr, fr', h, t, _, d, hd => by
    obtain rfl : fr' = fr := h
    exact ⟨d, hd, Imp.refl _⟩
  | o :: l, fr, fr', h, t, ht, d, hd => by
    obtain ⟨h1, h2⟩ := anyW_cons ht
    obtain ⟨⟨b, fi⟩, hg, h⟩ := T.path_bind h
    obtain ⟨d1, hd1, hi1⟩ := guardT_fr' hg t d hd
    cases b with
    | true =>
      obtain ⟨dd, _, h⟩ := T.path_bind h
      obtain ⟨fr1, hs, h⟩ := T.path_bind h
      obtain ⟨d2, hd2, hi2⟩ := runS_keeps l fr1 fr' h t h2 d1 (by rw [setF_keeps (T.path_opt hs) h1]; exact hd1)
      exact ⟨d2, hd2, hi2.trans hi1⟩
    | false =>
      obtain ⟨fr1, hs, h⟩ := T.path_bind h
      obtain ⟨d2, hd2, hi2⟩ := runS_keeps l fr1 fr' h t h2 d1 (by rw [setF_keeps (T.path_opt hs) h1]; exact hd1)
      exact ⟨d2, hd2, hi2.trans hi1⟩

theorem look_dropW {ops : List Oper} : ∀ {fr : Fr} {t : Nat} {d : DV}, look (dropW ops fr) t = some d → look fr t = some d ∧ anyW ops t = false
  | [], t, d, h => by simp [dropW, look] at h
  | (s, e) :: fr, t, d, h => by
    unfold dropW at h
    rw [look_cons]
    cases hs : anyW ops s with
    | true =>
      rw [hs] at h
      obtain ⟨h1, h2⟩ := look_dropW h
      have : s ≠ t := by intro e'; subst e'; rw [hs] at h2; simp at h2
      rw [if_neg this]
      exact ⟨h1, h2⟩
    | false =>
      rw [hs] at h
      dsimp only at h
      rw [look_cons] at h
      split at h
      · rename_i he; subst he; rw [if_pos rfl]; exact ⟨h, hs⟩
      · rename_i he; rw [if_neg he]; exact look_dropW h

theorem region_sil {st : St} {K : St → Prop} {id : Nat} {ops : Array Oper} {draw : Bool} {g : G} {a : Act} {w : World} {Q : Exit → Act → World → Prop}
    (hd : draw = true → P.follows .mixedOrders = true ∧ drawOk ops.toList = true)
    (h : isSil P ct N ops.toList st K) (hO : Ok g0 w0 M n0 rb N g st a w) (hQ : ∀ st' g' a' w', K st' → Ok g0 w0 M n0 rb N g' st' a' w' → Q .normal a' w') : (Code.region id ops draw).wp P Q a w := by
  obtain ⟨fr', hpath, fr2, hK, hfr⟩ := isSil_ok h
  have fin : ∀ a' w', Silent w w' → FrOk g N fr' a' w' → Q .normal a' w' := by
    intro a' w' hs hF
    refine hQ _ g a' w' hK ?_
    have hO' : Ok g0 w0 M n0 rb N g ⟨fr', st.hp, st.nx⟩ a' w' := hO.silent hs hF
    rcases hfr with rfl | ⟨s, b, b', rfl, h1, h2, hlt⟩
    · exact hO'
    · refine hO'.frame ⟨?_, hF.size, hF.dfr⟩
      intro t d hd
      rw [look_cons] at hd
      split at hd
      · rename_i he
        subst he
        obtain rfl := Option.some.inj hd
        obtain ⟨v, hv, hr⟩ := hF.frm _ _ h1
        exact ⟨v, hv, by simpa [Rep, h2] using hr⟩
      · obtain ⟨h3, h4⟩ := look_dropW hd
        obtain ⟨d', hd', hi⟩ := runS_keeps _ _ _ hpath t h4 d h3
        obtain ⟨v, hv, hr⟩ := hF.frm _ _ hd'
        exact ⟨v, hv, hi _ _ _ hr⟩
  cases draw with
  | false => exact wp_region_list (runS_seq _ _ _ _ _ hpath hO.rel hO.frm fin)
  | true => exact region_draw (hd rfl).1 (hd rfl).2 hpath hO.rel hO.frm fin
/-- ████ The evaluator of code is right. -/
theorem exec_ok {invs : List (Nat × LInv)} (h0 : ∀ i, n0 ≤ i → g0.ρ i = none) (hrb : rb ≤ n0) : ∀ (c : Code) (st : St) (K : DX → St → Prop), exec P ct N n0 rb invs c st K → ∀ (g : G) (a : Act) (w : World), Ok g0 w0 M n0 rb N g st a w → ∀ (Q : Exit → Act → World → Prop),
    (∀ x st' g' a' w', K x st' → Ok g0 w0 M n0 rb N g' st' a' w' → Q x.exit' a' w') → c.wp P Q a w
  | .skip, st, K, h, g, a, w, hO, Q, hQ => wp_skip (hQ .normal st g a w h hO)
  | .ret, st, K, h, g, a, w, hO, Q, hQ => wp_ret (hQ .ret st g a w h hO)
  | .exit id, st, K, h, g, a, w, hO, Q, hQ => wp_exit (hQ (.exit id) st g a w h hO)
  | .seq x y, st, K, h, g, a, w, hO, Q, hQ => by
    refine wp_seq (exec_ok h0 hrb x st _ h g a w hO _ ?_)
    intro e st' g' a' w' hk hO'
    cases e with
    | normal => exact exec_ok h0 hrb y st' K hk g' a' w' hO' Q hQ
    | exit id => exact hQ (.exit id) st' g' a' w' hk hO'
    | ret => exact hQ .ret st' g' a' w' hk hO'
  | .block id c, st, K, h, g, a, w, hO, Q, hQ => by
    refine wp_block (exec_ok h0 hrb c st _ h g a w hO _ ?_)
    intro e st' g' a' w' hk hO'
    cases e with
    | normal => exact hQ .normal st' g' a' w' hk hO'
    | exit i =>
      simp only [DX.exit', Exit.inBlock]
      dsimp only at hk
      split at hk
      · rename_i hb
        rw [if_pos (Nat.eq_of_beq_eq_true hb)]
        exact hQ .normal st' g' a' w' hk hO'
      · rename_i hb
        rw [if_neg (Nat.ne_of_beq_eq_false hb)]
        exact hQ (.exit i) st' g' a' w' hk hO'
    | ret => exact hQ .ret st' g' a' w' hk hO'
  | .cond c x y, st, K, h, g, a, w, hO, Q, hQ => by
    unfold exec at h
    split at h
    · rename_i hc
      have r := hO.frm.lk hc
      simp only [Rep, DB.v] at r
      exact wp_cond_true r (exec_ok h0 hrb x st K h g a w hO Q hQ)
    · rename_i hc
      have r := hO.frm.lk hc
      simp only [Rep, DB.v] at r
      exact wp_cond_false r (exec_ok h0 hrb y st K h g a w hO Q hQ)
    · rename_i v hc
      have r := hO.frm.lk hc
      simp only [Rep, DB.v] at r
      refine wp_cond_split r (fun hv => ?_) (fun hv => ?_)
      · exact exec_ok h0 hrb x _ K (h.1 hv) g a w (setLit_ok hO hc hv) Q hQ
      · exact exec_ok h0 hrb y _ K (h.2 hv) g a w (setLit_ok hO hc hv) Q hQ
    · exact h.elim
  | .region id ops draw, st, K, h, g, a, w, hO, Q, hQ => by
    unfold exec at h
    split at h
    · split at h
      · exact region_sil (by simp) h hO (fun st' g' a' w' hk hO' => hQ .normal st' g' a' w' hk hO')
      · split at h
        · rename_i h1 h2
          exact region_sil (fun _ => ⟨h1, h2⟩) h hO (fun st' g' a' w' hk hO' => hQ .normal st' g' a' w' hk hO')
        · exact h.elim
    · split at h
      · exact h.elim
      · exact wp_region_list (runE_ok _ _ _ h g a w hO (fun st' g' a' w' hk hO' => hQ .normal st' g' a' w' hk hO'))
  | .loop c, st, K, h, g, a, w, hO, Q, hQ => by
    unfold exec at h
    split at h
    · exact h.elim
    rename_i I _
    obtain ⟨⟨a0, hsub⟩, hround⟩ := h
    obtain ⟨g00, hO0, hp0⟩ := subS_ok hO h0 hrb hsub
    let J : Act → World → Nat → Prop := fun a w m => ∃ x g, I.m x = m ∧ I.p x ∧ Ok g0 w0 M n0 rb N g (I.S x) a w
    let J' : Act → World → Prop := fun a w => ∃ m, J a w m
    have : ∀ a w, J' a w → ∃ m, J a w m ∧ ∀ m', J a w m' → m ≤ m' := by
      intro a w ⟨m, hm⟩
      induction m using Nat.strongRecOn with
      | _ m ih =>
        by_cases hlt : ∃ m', m' < m ∧ J a w m'
        · obtain ⟨m', h1, h2⟩ := hlt; exact ih m' h1 h2
        · exact ⟨m, hm, fun m' h' => Nat.le_of_not_lt fun h => hlt ⟨m', h, h'⟩⟩
    have hmu : ∃ μ : Act → World → Nat, ∀ a w, J' a w → J a w (μ a w) ∧ ∀ m', J a w m' → μ a w ≤ m' := by
      refine ⟨fun a w => Classical.epsilon fun m => J a w m ∧ ∀ m', J a w m' → m ≤ m', fun a w h => ?_⟩
      exact Classical.epsilon_spec (this a w h)
    obtain ⟨μ, hμ⟩ := hmu
    refine wp_loop J' μ ⟨_, a0, g00, rfl, hp0, hO0⟩ ?_
    intro a1 w1 hJ
    obtain ⟨⟨x, g1, hm, hp, hO1⟩, _⟩ := hμ a1 w1 hJ
    refine exec_ok h0 hrb c _ _ (hround x hp) g1 a1 w1 hO1 _ ?_
    intro e st' g' a' w' hk hO'
    cases e with
    | normal =>
      obtain ⟨y, hsub'⟩ := hk
      obtain ⟨g2, hO2, hp2, hlt⟩ := subS_ok hO' h0 hrb hsub'
      have hJ' : J a' w' (I.m y) := ⟨y, g2, rfl, hp2, hO2⟩
      exact ⟨⟨_, hJ'⟩, Nat.lt_of_le_of_lt ((hμ a' w' ⟨_, hJ'⟩).2 _ hJ') (by rw [← hm]; exact hlt)⟩
    | exit i => exact hQ (.exit i) st' g' a' w' hk hO'
    | ret => exact hQ .ret st' g' a' w' hk hO'
  | .rangeFunc _ _ _ _, st, K, h, g, a, w, hO, Q, hQ => by unfold exec at h; exact h.elim
  | .scope _, st, K, h, g, a, w, hO, Q, hQ => by unfold exec at h; exact h.elim
  | .label _, st, K, h, g, a, w, hO, Q, hQ => by unfold exec at h; exact h.elim
  | .goto _, st, K, h, g, a, w, hO, Q, hQ => by unfold exec at h; exact h.elim
  | .refuse _, st, K, h, g, a, w, hO, Q, hQ => by unfold exec at h; exact h.elim

end

/-! ### a function as a whole -/
theorem frameOf_ok {g : G} {w : World} : ∀ (ds : List DV) (vs : List Value) (i : Nat) (pre : List Value), RepL g w ds vs → pre.length = i → ∀ rest t d, look (frameOf i ds) t = some d →
    ∃ v, (pre ++ vs ++ rest)[t]? = some v ∧ Rep g w d v
  | [], vs, i, pre, h, hi, rest, t, d, hd => by simp [frameOf, look] at hd
  | e :: ds, vs, i, pre, h, hi, rest, t, d, hd => by
    simp only [RepL] at h
    obtain ⟨v, us, rfl, h2, h3⟩ := h
    unfold frameOf at hd
    rw [look_cons] at hd
    split at hd
    · rename_i he
      subst he
      obtain rfl := Option.some.inj hd
      refine ⟨v, ?_, h2⟩
      subst hi
      simp
    · have := frameOf_ok ds us (i + 1) (pre ++ [v]) h3 (by simp [hi]) rest t d hd
      simpa using this

def resF (tmps : Array Value) : ResultVar → Sem Value
  | .tmp t => pure (tmps.getD t undef)
  | .cell x t => do loadVar t (← asAddr (tmps.getD x undef))

theorem results_eq (fn : Func) (tmps : Array Value) : results fn tmps = (do let vs ← fn.results.mapM (resF tmps); pure (if h : vs.size = 1 then vs[0] else .tuple vs)) := by
  unfold results
  have e : (fun x : ResultVar => match x with
      | .tmp t => pure (tmps.getD t undef)
      | .cell a t => do loadVar t (← asAddr (tmps.getD a undef))) = resF tmps := by
    funext x; cases x <;> rfl
  exact congrArg (fun f => (do let vs ← fn.results.mapM f; pure (if h : vs.size = 1 then vs[0] else .tuple vs) : Sem Value)) e

theorem resD_ok {P : Program} {g0 : G} {w0 : World} {M : Nat → Prop} {n0 rb N : Nat} {g : G} {st : St} {a : Act} {w : World} (hO : Ok g0 w0 M n0 rb N g st a w) :
    ∀ (rs : List ResultVar) (ds : List DV), (resD P st rs).Path ds → ∃ vs, RepL g w ds vs ∧ (rs.mapM (resF a.tmps)).run P w = .ok vs w
  | [], ds, h => by
    obtain rfl : ds = [] := h
    exact ⟨[], RepL.nil, rfl⟩
  | .tmp t :: rs, ds, h => by
    unfold resD at h
    split at h
    · rename_i d hd
      obtain ⟨ds', h1, h2⟩ := T.path_bind h
      obtain rfl : ds = d :: ds' := h2
      obtain ⟨vs, r, hr⟩ := resD_ok hO rs ds' h1
      obtain ⟨v, hv, hrv⟩ := hO.frm.frm t d hd
      have hg : a.tmps.getD t undef = v := by simp [hv]
      refine ⟨v :: vs, RepL.cons hrv r, ?_⟩
      simp only [List.mapM_cons, Sem.run_bind, resF, Sem.run_pure, Result.andThen_ok, hr, hg]
    · exact h.elim
  | .cell x t :: rs, ds, h => by
    unfold resD at h
    split at h
    · rename_i p hp
      obtain ⟨d, h1, h2⟩ := T.path_bind h
      obtain ⟨ds', h3, h4⟩ := T.path_bind h2
      obtain rfl : ds = d :: ds' := h4
      obtain ⟨vs, r, hr⟩ := resD_ok hO rs ds' h3
      obtain ⟨v, hv, hrv⟩ := hO.frm.frm x _ hp
      simp only [Rep] at hrv
      obtain ⟨b, hb, rfl⟩ := hrv
      obtain ⟨b', u, hb', hl, hru⟩ := loadT_ok (P := P) hO.rel h1
      obtain rfl : b = b' := by rw [hb] at hb'; exact Option.some.inj hb'
      have hg : a.tmps.getD x undef = .pointer (some ⟨b, g.off p, none⟩) := by simp [hv]
      refine ⟨u :: vs, RepL.cons hru r, ?_⟩
      have haddr : (asAddr (a.tmps.getD x undef)).run P w = .ok ⟨b, g.off p, none⟩ w := by rw [hg]; rfl
      simp only [List.mapM_cons, Sem.run_bind, resF, Sem.run_pure, Result.andThen_ok, hr, haddr, hl]
    · exact h.elim

/-- ████ What the evaluator says of a function's body is so of its call. -/
theorem calls_of_exec {P : Program} {ct : Cx P} {invs : List (Nat × LInv)} {f : FuncId} {fn : Func} {args : List DV} {hp : Hp} {nx rb : Nat} {K : DV → St → Prop} (hf : P.funcs[f]? = some fn)
    (h : execF P ct rb invs fn args hp nx K) (hn : args.length ≤ fn.ntmps) (hrb : rb ≤ nx) : DCall P f args hp nx rb K := by
  intro g w vs hR hfr ha
  unfold execF at h
  split at h
  · rename_i c hb
    refine calls_of_wp hf hb ?_
    have hlen := ha.length
    have hO : Ok g w (Mine g hp rb) nx rb fn.ntmps g ⟨frameOf 0 args, hp, nx⟩ { tmps := vs.toArray ++ Array.replicate (fn.ntmps - vs.toArray.size) undef, defers := [] } w := by
      refine ⟨hR, ⟨?_, by simp; omega, rfl⟩, fun i o b hi hl hro hb => .inl ⟨i, o, hi, hl, hro, hb⟩, hfr, Ext.refl _ _, Kept.refl _ _, fun b hb => .inl hb, fun _ _ => rfl, Nat.le_refl _⟩
      intro t d hd
      obtain ⟨v, hv, hr⟩ := frameOf_ok args vs 0 [] ha rfl (List.replicate (fn.ntmps - vs.toArray.size) undef) t d hd
      refine ⟨v, ?_, hr⟩
      rw [← Array.getElem?_toList]
      simpa using hv
    refine exec_ok hfr hrb c _ _ h g _ w hO _ ?_
    intro x st' g' a' w' hk hO'
    have key : (resD P st' fn.results.toList).Holds (fun ds => K (tupD ds) st') → a'.defers = [] ∧ ∃ v, (results fn a'.tmps).run P w' = .ok v w' ∧
        (∃ v' d st'' g'', Ending.returned v = .returned v' ∧ K d st'' ∧ Rel g'' st''.hp w' ∧ Rep g'' w' d v' ∧ Ext g w g'' w' ∧ Kept (Mine g hp rb) w w' ∧ (∀ i, st''.nx ≤ i → g''.ρ i = none) ∧
          (∀ i o b, rb ≤ i → look st''.hp i = some o → isRo o = false → g''.ρ i = some b → Mine g hp rb b ∨ w.heap.size ≤ b) ∧ (∀ b, g''.pr b → g.pr b ∨ Mine g hp rb b ∨ w.heap.size ≤ b) ∧ (∀ i, i < nx → g''.ρ i = g.ρ i)) := by
      intro hk
      obtain ⟨ds, hp', hk⟩ := hk.path
      obtain ⟨us, r, hr⟩ := resD_ok hO' _ _ hp'
      have hrun : (results fn a'.tmps).run P w' = .ok (if h : us.toArray.size = 1 then us.toArray[0] else .tuple us.toArray) w' := by
        rw [results_eq, Array.mapM_eq_mapM_toList, Sem.run_bind, Sem.run_map, hr]
        rfl
      refine ⟨hO'.frm.dfr, _, hrun, _, tupD ds, st', g', rfl, hk, hO'.rel, ?_, hO'.ext, hO'.kept, hO'.fresh, hO'.own, hO'.prg, hO'.same⟩
      have hl := r.length
      cases ds with
      | nil =>
        simp only [RepL] at r
        subst r
        simp only [tupD, Rep]
        exact ⟨[], rfl, RepL.nil⟩
      | cons d ds =>
        simp only [RepL] at r
        obtain ⟨u, us', rfl, r1, r2⟩ := r
        cases ds with
        | nil =>
          simp only [RepL] at r2
          subst r2
          simpa [tupD] using r1
        | cons d2 ds =>
          have : us'.length = ds.length + 1 := by simpa using r2.length
          have hne : ¬ (u :: us').toArray.size = 1 := by simp; intro e; rw [e] at this; simp at this
          rw [dif_neg hne]
          simp only [tupD, Rep]
          exact ⟨_, rfl, RepL.cons r1 r2⟩
    cases x with
    | normal => exact key hk
    | exit id => exact hk.elim
    | ret => exact key hk
  · exact h.elim

end Go.DE
