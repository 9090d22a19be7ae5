import Derived.Test.YtnoccknoaihjlaaF9d
set_option linter.unusedVariables false
set_option linter.unusedSimpArgs false
set_option linter.unnecessarySimpa false
/- The engine, part 10: the evaluator of code is right. -/
namespace Go.DF
universe u v
set_option linter.unusedSimpArgs false
set_option linter.unusedVariables false
set_option linter.unnecessarySimpa false
variable [Fam]

def DX.exit' : DX → Exit
  | .normal => .normal
  | .exit id => .exit id
  | .ret => .ret

section
variable {P : Program} {ct : Cx P} {g0 : G} {w0 : World} {M : Nat → Prop} {n0 N : Nat}

theorem setLit_ok {g : G} {st : St} {a : Act} {w : World} {c : Operand} {v b : Bool} (h : Ok g0 w0 M n0 N g st a w) (hc : lkF st.fr c = some (.bool (.sym v))) (hv : v = b) :
    Ok g0 w0 M n0 N g ⟨setLit st.fr c b, st.hp, st.nx⟩ a w := by
  refine h.frame ⟨?_, h.frm.size, h.frm.dfr⟩
  intro t d hd
  cases c with
  | tmp s =>
    simp only [setLit, look_cons] at hd
    split at hd
    · rename_i he
      subst he
      obtain rfl := Option.some.inj hd
      obtain ⟨u, h1, h2⟩ := h.frm.frm s _ hc
      exact ⟨u, h1, by simpa [Rep, DB.v, hv] using h2⟩
    · exact h.frm.frm t d hd
  | _ => exact h.frm.frm t d hd

theorem guardT_fr' {all : List Oper} {fr fr' : Fr} {o : Oper} {b : Bool} (h : (guardT all fr o).Path (b, fr')) : ∀ t d, look fr t = some d → ∃ d', look fr' t = some d' ∧ Imp d' d := by
  have same : fr' = fr → ∀ t d, look fr t = some d → ∃ d', look fr' t = some d' ∧ Imp d' d := by
    intro e t d hd; subst e; exact ⟨d, hd, Imp.refl _⟩
  have upd : ∀ s x bb, look fr s = some (.bool (.sym x)) → x = bb → fr' = (s, .bool (.lit bb)) :: fr → ∀ t d, look fr t = some d → ∃ d', look fr' t = some d' ∧ Imp d' d := by
    intro s x bb hs hx e t d hd
    subst e hx
    rw [look_cons]
    split
    · rename_i he
      subst he
      rw [hs] at hd
      obtain rfl := Option.some.inj hd
      exact ⟨_, rfl, fun g w v r => by simpa [Rep, DB.v] using r⟩
    · exact ⟨d, hd, Imp.refl _⟩
  unfold guardT at h
  split at h
  · have h : (b, fr') = (true, fr) := h; exact same (congrArg Prod.snd h)
  · split at h
    · split at h
      · rename_i t _
        split at h
        · have h : (b, fr') = (_, fr) := h; exact same (congrArg Prod.snd h)
        · rename_i x hx
          rcases h with ⟨hb, h⟩ | ⟨hb, h⟩
          · have h : (b, fr') = (_, _ :: fr) := h; exact upd t x true hx hb (congrArg Prod.snd h)
          · have h : (b, fr') = (_, _ :: fr) := h; exact upd t x false hx hb (congrArg Prod.snd h)
        · have h : (b, fr') = (_, fr) := h; exact same (congrArg Prod.snd h)
        · exact h.elim
      · exact h.elim
    · exact h.elim

theorem setF_keeps {N : Nat} {fr fr' : Fr} {o : Oper} {d : DV} (h : setF N fr o.dst d = some fr') {t : Nat} (ht : writes o t = false) : look fr' t = look fr t := by
  unfold writes at ht
  cases hd : o.dst with
  | none => rw [hd] at h; simp [setF] at h; rw [h]
  | some s =>
    rw [hd] at h ht
    obtain ⟨_, rfl⟩ := setF_some h
    rw [look_cons, if_neg (Nat.ne_of_beq_eq_false ht)]

omit [Fam] in
theorem anyW_cons {o : Oper} {l : List Oper} {t : Nat} (h : anyW (o :: l) t = false) : writes o t = false ∧ anyW l t = false := by
  unfold anyW at h
  split at h
  · simp at h
  · rename_i hw; exact ⟨hw, h⟩

theorem look_dropW {ops : List Oper} : ∀ {fr : Fr} {t : Nat} {d : DV}, look (dropW ops fr) t = some d → look fr t = some d ∧ anyW ops t = false
  | [], t, d, h => by simp [dropW, look] at h
  | (s, e) :: fr, t, d, h => by
    unfold dropW at h
    rw [look_cons]
    cases hs : anyW ops s with
    | true =>
      rw [hs] at h
      obtain ⟨h1, h2⟩ := look_dropW h
      have : s ≠ t := by intro e'; subst e'; rw [hs] at h2; simp at h2
      rw [if_neg this]
      exact ⟨h1, h2⟩
    | false =>
      rw [hs] at h
      dsimp only at h
      rw [look_cons] at h
      split at h
      · rename_i he; subst he; rw [if_pos rfl]; exact ⟨h, hs⟩
      · rename_i he; rw [if_neg he]; exact look_dropW h


theorem runT_keeps {all : List Oper} {dr : Bool} : ∀ (l : List Oper) (st : St) (fs : List (List Nat × Bool)) (st' : St), (runT P ct N dr all l st).Path (fs, st') →
    (∀ t, anyW l t = false → ∀ d, look st.fr t = some d → ∃ d', look st'.fr t = some d' ∧ Imp d' d) ∧ (allSil fs = true → st'.hp = st.hp ∧ st'.nx = st.nx)
  | [], st, fs, st', h => by
    have h : (fs, st') = ([], st) := h
    simp only [Prod.mk.injEq] at h
    obtain ⟨rfl, rfl⟩ := h
    exact ⟨fun t _ d hd => ⟨d, hd, Imp.refl _⟩, fun _ => ⟨rfl, rfl⟩⟩
  | o :: l, st, fs, st', h => by
    unfold runT at h
    obtain ⟨⟨b, fi⟩, hg, h⟩ := T.path_bind h
    have step : ∀ {d : DV} {fr1 : Fr} {hp1 : Hp} {nx1 : Nat} {fs2 : List (List Nat × Bool)}, setF N fi o.dst d = some fr1 → (runT P ct N dr all l ⟨fr1, hp1, nx1⟩).Path (fs2, st') →
        (∀ t, anyW (o :: l) t = false → ∀ d, look st.fr t = some d → ∃ d', look st'.fr t = some d' ∧ Imp d' d) ∧ (allSil fs2 = true → st'.hp = hp1 ∧ st'.nx = nx1) := by
      intro dd fr1 hp1 nx1 fs2 hs hrec
      obtain ⟨k1, k2⟩ := runT_keeps l _ _ _ hrec
      refine ⟨fun t ht d hd => ?_, k2⟩
      obtain ⟨h1, h2⟩ := anyW_cons ht
      obtain ⟨d1, hd1, hi1⟩ := guardT_fr' hg t d hd
      obtain ⟨d2, hd2, hi2⟩ := k1 t h2 d1 (by rw [setF_keeps hs h1]; exact hd1)
      exact ⟨d2, hd2, hi2.trans hi1⟩
    cases b with
    | true =>
      cases dr with
      | false =>
        (try dsimp only at h)
        obtain ⟨⟨s, d, hx, nx'⟩, hd, h⟩ := T.path_bind h
        (try dsimp only at h)
        obtain ⟨fr1, hs, h⟩ := T.path_bind h
        obtain ⟨⟨fs2, st2⟩, hrec, h⟩ := T.path_bind h
        have h : (fs, st') = (([], s) :: fs2, st2) := h
        simp only [Prod.mk.injEq] at h
        obtain ⟨rfl, rfl⟩ := h
        obtain ⟨k1, k2⟩ := step (T.path_opt hs) hrec
        refine ⟨k1, fun ha => ?_⟩
        unfold allSil at ha
        cases hsv : s with
        | false => rw [hsv] at ha; simp at ha
        | true =>
          rw [hsv] at ha hd
          obtain ⟨e1, e2, _⟩ := opT_sil hd
          obtain ⟨q1, q2⟩ := k2 ha
          exact ⟨q1.trans e1, q2.trans e2⟩
      | true =>
        (try dsimp only at h)
        obtain ⟨⟨s, d, hx, nx'⟩, hd, h⟩ := T.path_bind h
        (try dsimp only at h)
        split at h
        · obtain ⟨fr1, hs, h⟩ := T.path_bind h
          obtain ⟨⟨fs2, st2⟩, hrec, h⟩ := T.path_bind h
          have h : (fs, st') = ((_, s) :: fs2, st2) := h
          simp only [Prod.mk.injEq] at h
          obtain ⟨rfl, rfl⟩ := h
          obtain ⟨k1, k2⟩ := step (T.path_opt hs) hrec
          refine ⟨k1, fun ha => ?_⟩
          unfold allSil at ha
          cases hsv : s with
          | false => rw [hsv] at ha; simp at ha
          | true =>
            rw [hsv] at ha hd k2
            obtain ⟨e1, e2, _⟩ := opT_sil hd
            obtain ⟨q1, q2⟩ := k2 ha
            exact ⟨q1, q2.trans e2⟩
        · exact h.elim
    | false =>
      (try dsimp only at h)
      obtain ⟨fr1, hs, h⟩ := T.path_bind h
      obtain ⟨⟨fs2, st2⟩, hrec, h⟩ := T.path_bind h
      have h : (fs, st') = (([], true) :: fs2, st2) := h
      simp only [Prod.mk.injEq] at h
      obtain ⟨rfl, rfl⟩ := h
      obtain ⟨k1, k2⟩ := step (T.path_opt hs) hrec
      exact ⟨k1, fun ha => k2 ha⟩

theorem mergeT_ok {s : Nat} : ∀ {t : T (List (List Nat × Bool) × St)} {b : DB} {fs : List (List Nat × Bool)} {st' : St}, mergeT s t = some b → t.Path (fs, st') → allSil fs = true ∧ ∃ b', look st'.fr s = some (.bool b') ∧ b'.v = b.v
  | .fail, _, _, _, h, _ => by simp [mergeT] at h
  | .leaf (fs0, st0), b, fs, st', h, hp => by
    have hp : (fs, st') = (fs0, st0) := hp
    simp only [Prod.mk.injEq] at hp
    obtain ⟨rfl, rfl⟩ := hp
    unfold mergeT at h
    split at h
    · rename_i b' ha hb
      obtain rfl := Option.some.inj h
      exact ⟨ha, b', hb, rfl⟩
    · simp at h
  | .br c t e, b, fs, st', h, hp => by
    unfold mergeT at h
    split at h
    · rename_i x y hx hy
      obtain rfl := Option.some.inj h
      rw [iteB_v]
      rcases hp with ⟨hc, hp⟩ | ⟨hc, hp⟩
      · obtain ⟨ha, b', h1, h2⟩ := mergeT_ok hx hp; exact ⟨ha, b', h1, by rw [h2, hc]; rfl⟩
      · obtain ⟨ha, b', h1, h2⟩ := mergeT_ok hy hp; exact ⟨ha, b', h1, by rw [h2, hc]; rfl⟩
    · simp at h
  | .ob _ t, b, fs, st', h, hp => by
    unfold mergeT at h
    exact mergeT_ok h hp.2

omit [Fam] in
theorem path_of_noOb {α : Type u} : ∀ {t : T α}, t.owes = false → ∃ x, t.Path x
  | .fail, h => by simp [T.owes] at h
  | .leaf fr, _ => ⟨fr, rfl⟩
  | .br b t e, h => by
    unfold T.owes at h
    split at h
    · simp at h
    · rename_i ht
      cases b with
      | true => obtain ⟨x, hx⟩ := path_of_noOb ht; exact ⟨x, .inl ⟨rfl, hx⟩⟩
      | false => obtain ⟨x, hx⟩ := path_of_noOb h; exact ⟨x, .inr ⟨rfl, hx⟩⟩
  | .ob _ _, h => by simp [T.owes] at h

/-- One way through a region: the run of it, and the state in which it leaves. -/
theorem reg_path {draw : Bool} {ops : List Oper} {st : St} {K : St → Prop} (h : reg P ct N draw ops st K) : ∃ fs st', (regT P ct N draw ops st).Path (fs, st') ∧
    (K st' ∨ (allSil fs = true ∧ ∃ s b b', K ⟨(s, .bool b) :: dropW ops st.fr, st.hp, st.nx⟩ ∧ look st'.fr s = some (.bool b') ∧ b'.v = b.v)) := by
  have plain : ((regT P ct N draw ops st).Holds fun x => K x.2) → ∃ fs st', (regT P ct N draw ops st).Path (fs, st') ∧
    (K st' ∨ (allSil fs = true ∧ ∃ s b b', K ⟨(s, .bool b) :: dropW ops st.fr, st.hp, st.nx⟩ ∧ look st'.fr s = some (.bool b') ∧ b'.v = b.v)) := by
    intro h
    obtain ⟨⟨fs, st'⟩, hp, hk⟩ := h.path
    exact ⟨fs, st', hp, .inl hk⟩
  unfold reg at h
  split at h
  · exact plain h
  · split at h
    · rename_i s hs
      split at h
      · rename_i b hm hlt
        split at h
        · obtain ⟨⟨fs, st'⟩, hp, _⟩ := h.1.path
          obtain ⟨ha, b', h1, h2⟩ := mergeT_ok hm hp
          exact ⟨fs, st', hp, .inr ⟨ha, s, b, b', h.2, h1, h2⟩⟩
        · rename_i ho
          obtain ⟨⟨fs, st'⟩, hp⟩ := path_of_noOb ho
          obtain ⟨ha, b', h1, h2⟩ := mergeT_ok hm hp
          exact ⟨fs, st', hp, .inr ⟨ha, s, b, b', h, h1, h2⟩⟩
      · exact plain h
    · exact plain h

theorem region_ok {st : St} {K : St → Prop} {id : Nat} {ops : Array Oper} {draw : Bool} {g : G} {a : Act} {w : World} {Q : Exit → Act → World → Prop}
    (h : reg P ct N draw ops.toList st K) (hO : Ok g0 w0 M n0 N g st a w) (hQ : ∀ st' g' a' w', K st' → Ok g0 w0 M n0 N g' st' a' w' → Q .normal a' w') : (Code.region id ops draw).wp P Q a w := by
  obtain ⟨fs, st', hpath, hK⟩ := reg_path h
  have key : ∀ dr, (runT P ct N dr ops.toList ops.toList st).Path (fs, st') → ∀ g' a' w', Ok g0 w0 M n0 N g' st' a' w' → Q .normal a' w' := by
    intro dr hp g' a' w' hO'
    obtain ⟨k1, k2⟩ := runT_keeps _ _ _ _ hp
    rcases hK with hK | ⟨ha, s, b, b', hK, h1, h2⟩
    · exact hQ _ g' a' w' hK hO'
    · obtain ⟨e1, e2⟩ := k2 ha
      have hO2 : Ok g0 w0 M n0 N g' ⟨(s, .bool b) :: dropW ops.toList st.fr, st'.hp, st'.nx⟩ a' w' := by
        refine hO'.frame ⟨?_, hO'.frm.size, hO'.frm.dfr⟩
        intro t d hd
        rw [look_cons] at hd
        split at hd
        · rename_i he
          subst he
          obtain rfl := Option.some.inj hd
          obtain ⟨v, hv, hr⟩ := hO'.frm.frm _ _ h1
          exact ⟨v, hv, by simpa [Rep, h2] using hr⟩
        · obtain ⟨h3, h4⟩ := look_dropW hd
          obtain ⟨d', hd', hi⟩ := k1 t h4 d h3
          obtain ⟨v, hv, hr⟩ := hO'.frm.frm _ _ hd'
          exact ⟨v, hv, hi _ _ _ hr⟩
      rw [e1, e2] at hO2
      exact hQ _ g' a' w' hK hO2
  unfold regT at hpath
  split at hpath
  · exact wp_region_list (run_text _ _ _ _ hpath g a w hO (key _ hpath))
  · split at hpath
    · rename_i hm hok
      obtain ⟨⟨fs1, st1⟩, hp1, hpath⟩ := T.path_bind hpath
      split at hpath
      · rename_i hd hnb
        have hpath : (fs, st') = (fs1, st1) := hpath
        simp only [Prod.mk.injEq] at hpath
        obtain ⟨rfl, rfl⟩ := hpath
        exact region_draw hm hok hp1 hd (Nat.le_of_ble_eq_true hnb) hO.rel hO.frm hO.fresh (fun g' a' w' hP hF => key _ hp1 g' a' w' (hO.post hP hF))
      · exact hpath.elim
    · exact hpath.elim

theorem subS_ok {g : G} {s' s : St} {a : Act} {w : World} {k : Prop} (hO : Ok g0 w0 M n0 N g s' a w) (h0 : ∀ i, n0 ≤ i → g0.ρ i = none) (h : subS n0 s' s k) : ∃ g', Ok g0 w0 M n0 N g' s a w ∧ k := by
  obtain ⟨hp1, σ, hgh, tnb, t1, t2, t3, hk, t4, t5⟩ := subS_core h
  obtain ⟨g1, hP⟩ := ghosts_ok (nx := s'.nx) _ _ _ _ hgh hO.rel
  have hO1 : Ok g0 w0 M n0 N g1 ⟨s'.fr, hp1, s'.nx⟩ a w := hO.post hP (hO.frm.ext hP.ext)
  have hid : ∀ i, i < n0 → look σ i = some i := fun i hi => t1 _ _ (idS_ok n0 i hi)
  have hnb : ∀ i, noBlock ≤ i → g1.ρ i = none := fun i hi => hO1.fresh i (Nat.le_trans tnb hi)
  have hlo : n0 ≤ s.nx := by
    rcases Nat.lt_or_ge s.nx n0 with hlt | hge
    · have h1 := hid s.nx hlt
      rw [t3 s.nx (Nat.le_refl _)] at h1; simp at h1
    · exact hge
  have hlt0 : ∀ i b, g0.ρ i = some b → i < n0 := by
    intro i b hb
    rcases Nat.lt_or_ge i n0 with h | h
    · exact h
    · rw [h0 i h] at hb; simp at hb
  refine ⟨ren g1 σ, ⟨hO1.rel.ren t2 (fun _ j _ h _ => hnb j h) t5, ⟨?_, hO.frm.size, hO.frm.dfr⟩, fun b hb => hO1.mine b (Mine.ren (fun _ j _ h _ => hnb j h) t5 hb), ?_, ⟨?_, hO1.ext.pr, hO1.ext.at', ?_, hO1.ext.shape⟩, hO1.kept, hO1.prg, ?_, hlo⟩, hk⟩
  · intro t d hd
    obtain ⟨d', hd', hr⟩ := t4 t d hd
    obtain ⟨v, hv, hrv⟩ := hO1.frm.frm t d' hd'
    exact ⟨v, hv, hr g1 w v hP.rel hrv⟩
  · intro i hi
    simp [ren, t3 i hi]
  · intro i b hb
    simp [ren, hid i (hlt0 i b hb), hO1.ext.rho i b hb]
  · intro i b hb
    have := hO1.ext.base i b hb
    simpa [ren, hid i (hlt0 i b hb)] using this
  · intro i hi
    simp [ren, hid i hi, hO1.same i hi]

/-- ████ The evaluator of code is right. -/
theorem exec_ok {invs : List (Nat × LInv)} (h0 : ∀ i, n0 ≤ i → g0.ρ i = none) : ∀ (c : Code) (st : St) (K : DX → St → Prop), exec P ct N n0 invs c st K → ∀ (g : G) (a : Act) (w : World), Ok g0 w0 M n0 N g st a w → ∀ (Q : Exit → Act → World → Prop),
    (∀ x st' g' a' w', K x st' → Ok g0 w0 M n0 N g' st' a' w' → Q x.exit' a' w') → c.wp P Q a w
  | .skip, st, K, h, g, a, w, hO, Q, hQ => wp_skip (hQ .normal st g a w h hO)
  | .ret, st, K, h, g, a, w, hO, Q, hQ => wp_ret (hQ .ret st g a w h hO)
  | .exit id, st, K, h, g, a, w, hO, Q, hQ => wp_exit (hQ (.exit id) st g a w h hO)
  | .seq x y, st, K, h, g, a, w, hO, Q, hQ => by
    refine wp_seq (exec_ok h0 x st _ h g a w hO _ ?_)
    intro e st' g' a' w' hk hO'
    cases e with
    | normal => exact exec_ok h0 y st' K hk g' a' w' hO' Q hQ
    | exit id => exact hQ (.exit id) st' g' a' w' hk hO'
    | ret => exact hQ .ret st' g' a' w' hk hO'
  | .block id c, st, K, h, g, a, w, hO, Q, hQ => by
    refine wp_block (exec_ok h0 c st _ h g a w hO _ ?_)
    intro e st' g' a' w' hk hO'
    cases e with
    | normal => exact hQ .normal st' g' a' w' hk hO'
    | exit i =>
      simp only [DX.exit', Exit.inBlock]
      dsimp only at hk
      split at hk
      · rename_i hb
        rw [if_pos (Nat.eq_of_beq_eq_true hb)]
        exact hQ .normal st' g' a' w' hk hO'
      · rename_i hb
        rw [if_neg (Nat.ne_of_beq_eq_false hb)]
        exact hQ (.exit i) st' g' a' w' hk hO'
    | ret => exact hQ .ret st' g' a' w' hk hO'
  | .cond c x y, st, K, h, g, a, w, hO, Q, hQ => by
    unfold exec at h
    split at h
    · rename_i hc
      have r := hO.frm.lk hc
      simp only [Rep, DB.v] at r
      exact wp_cond_true r (exec_ok h0 x st K h g a w hO Q hQ)
    · rename_i hc
      have r := hO.frm.lk hc
      simp only [Rep, DB.v] at r
      exact wp_cond_false r (exec_ok h0 y st K h g a w hO Q hQ)
    · rename_i v hc
      have r := hO.frm.lk hc
      simp only [Rep, DB.v] at r
      refine wp_cond_split r (fun hv => ?_) (fun hv => ?_)
      · exact exec_ok h0 x _ K (h.1 hv) g a w (setLit_ok hO hc hv) Q hQ
      · exact exec_ok h0 y _ K (h.2 hv) g a w (setLit_ok hO hc hv) Q hQ
    · exact h.elim
  | .region id ops draw, st, K, h, g, a, w, hO, Q, hQ => by
    unfold exec at h
    exact region_ok h hO (fun st' g' a' w' hk hO' => hQ .normal st' g' a' w' hk hO')
  | .loop c, st, K, h, g, a, w, hO, Q, hQ => by
    unfold exec at h
    split at h
    · exact h.elim
    rename_i I _
    obtain ⟨⟨a0, hsub⟩, hround⟩ := h
    obtain ⟨g00, hO0, hp0⟩ := subS_ok hO h0 hsub
    let J : Act → World → Nat → Prop := fun a w m => ∃ x g, I.m x = m ∧ I.p x ∧ Ok g0 w0 M n0 N g (I.S x) a w
    let J' : Act → World → Prop := fun a w => ∃ m, J a w m
    have : ∀ a w, J' a w → ∃ m, J a w m ∧ ∀ m', J a w m' → m ≤ m' := by
      intro a w ⟨m, hm⟩
      induction m using Nat.strongRecOn with
      | _ m ih =>
        by_cases hlt : ∃ m', m' < m ∧ J a w m'
        · obtain ⟨m', h1, h2⟩ := hlt; exact ih m' h1 h2
        · exact ⟨m, hm, fun m' h' => Nat.le_of_not_lt fun h => hlt ⟨m', h, h'⟩⟩
    have hmu : ∃ μ : Act → World → Nat, ∀ a w, J' a w → J a w (μ a w) ∧ ∀ m', J a w m' → μ a w ≤ m' := by
      refine ⟨fun a w => Classical.epsilon fun m => J a w m ∧ ∀ m', J a w m' → m ≤ m', fun a w h => ?_⟩
      exact Classical.epsilon_spec (this a w h)
    obtain ⟨μ, hμ⟩ := hmu
    refine wp_loop J' μ ⟨_, a0, g00, rfl, hp0, hO0⟩ ?_
    intro a1 w1 hJ
    obtain ⟨⟨x, g1, hm, hp, hO1⟩, _⟩ := hμ a1 w1 hJ
    refine exec_ok h0 c _ _ (hround x hp) g1 a1 w1 hO1 _ ?_
    intro e st' g' a' w' hk hO'
    cases e with
    | normal =>
      obtain ⟨y, hsub'⟩ := hk
      obtain ⟨g2, hO2, hp2, hlt⟩ := subS_ok hO' h0 hsub'
      have hJ' : J a' w' (I.m y) := ⟨y, g2, rfl, hp2, hO2⟩
      exact ⟨⟨_, hJ'⟩, Nat.lt_of_le_of_lt ((hμ a' w' ⟨_, hJ'⟩).2 _ hJ') (by rw [← hm]; exact hlt)⟩
    | exit i => exact hQ (.exit i) st' g' a' w' hk hO'
    | ret => exact hQ .ret st' g' a' w' hk hO'
  | .rangeFunc _ _ _ _, st, K, h, g, a, w, hO, Q, hQ => by unfold exec at h; exact h.elim
  | .scope _, st, K, h, g, a, w, hO, Q, hQ => by unfold exec at h; exact h.elim
  | .label _, st, K, h, g, a, w, hO, Q, hQ => by unfold exec at h; exact h.elim
  | .goto _, st, K, h, g, a, w, hO, Q, hQ => by unfold exec at h; exact h.elim
  | .refuse _, st, K, h, g, a, w, hO, Q, hQ => by unfold exec at h; exact h.elim

end


end Go.DF
