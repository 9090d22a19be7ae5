import Derived.Test.YtfacddeaobogjaaF9d
import Derived.RangeFuncNested
set_option linter.unusedVariables false
set_option linter.unusedSimpArgs false
set_option linter.unnecessarySimpa false
/- The engine, part 10: the evaluator of code is right. -/
namespace Go.DF
universe u v
set_option linter.unusedSimpArgs false
set_option linter.unusedVariables false
set_option linter.unnecessarySimpa false
variable [Fam]

def DX.exit' : DX → Exit
  | .normal => .normal
  | .exit id => .exit id
  | .ret => .ret

section
variable {P : Program} {ct : Cx P} {g0 : G} {w0 : World} {M : Nat → Prop} {n0 N : Nat}

theorem setLit_ok {g : G} {st : St} {a : Act} {w : World} {c : Operand} {v b : Bool} (h : Ok g0 w0 M n0 N g st a w) (hc : lkF st.fr c = some (.bool (.sym v))) (hv : v = b) :
    Ok g0 w0 M n0 N g ⟨setLit st.fr c b, st.hp, st.nx⟩ a w := by
  refine h.frame ⟨?_, h.frm.size⟩
  intro t d hd
  cases c with
  | tmp s =>
    simp only [setLit, look_cons] at hd
    split at hd
    · rename_i he
      subst he
      obtain rfl := Option.some.inj hd
      obtain ⟨u, h1, h2⟩ := h.frm.frm s _ hc
      exact ⟨u, h1, by simpa [Rep, DB.v, hv] using h2⟩
    · exact h.frm.frm t d hd
  | _ => exact h.frm.frm t d hd

theorem guardT_fr' {all : List Oper} {fr fr' : Fr} {o : Oper} {b : Bool} (h : (guardT all fr o).Path (b, fr')) : ∀ t d, look fr t = some d → ∃ d', look fr' t = some d' ∧ Imp d' d := by
  have same : fr' = fr → ∀ t d, look fr t = some d → ∃ d', look fr' t = some d' ∧ Imp d' d := by
    intro e t d hd; subst e; exact ⟨d, hd, Imp.refl _⟩
  have upd : ∀ s x bb, look fr s = some (.bool (.sym x)) → x = bb → fr' = (s, .bool (.lit bb)) :: fr → ∀ t d, look fr t = some d → ∃ d', look fr' t = some d' ∧ Imp d' d := by
    intro s x bb hs hx e t d hd
    subst e hx
    rw [look_cons]
    split
    · rename_i he
      subst he
      rw [hs] at hd
      obtain rfl := Option.some.inj hd
      exact ⟨_, rfl, fun g w v r => by simpa [Rep, DB.v] using r⟩
    · exact ⟨d, hd, Imp.refl _⟩
  unfold guardT at h
  split at h
  · have h : (b, fr') = (true, fr) := h; exact same (congrArg Prod.snd h)
  · split at h
    · split at h
      · rename_i t _
        split at h
        · have h : (b, fr') = (_, fr) := h; exact same (congrArg Prod.snd h)
        · rename_i x hx
          rcases h with ⟨hb, h⟩ | ⟨hb, h⟩
          · have h : (b, fr') = (_, _ :: fr) := h; exact upd t x true hx hb (congrArg Prod.snd h)
          · have h : (b, fr') = (_, _ :: fr) := h; exact upd t x false hx hb (congrArg Prod.snd h)
        · have h : (b, fr') = (_, fr) := h; exact same (congrArg Prod.snd h)
        · exact h.elim
      · exact h.elim
    · exact h.elim

theorem setF_keeps {N : Nat} {fr fr' : Fr} {o : Oper} {d : DV} (h : setF N fr o.dst d = some fr') {t : Nat} (ht : writes o t = false) : look fr' t = look fr t := by
  unfold writes at ht
  cases hd : o.dst with
  | none => rw [hd] at h; simp [setF] at h; rw [h]
  | some s =>
    rw [hd] at h ht
    obtain ⟨_, rfl⟩ := setF_some h
    rw [look_cons, if_neg (Nat.ne_of_beq_eq_false ht)]

omit [Fam] in
theorem anyW_cons {o : Oper} {l : List Oper} {t : Nat} (h : anyW (o :: l) t = false) : writes o t = false ∧ anyW l t = false := by
  unfold anyW at h
  split at h
  · simp at h
  · rename_i hw; exact ⟨hw, h⟩

theorem look_dropW {ops : List Oper} : ∀ {fr : Fr} {t : Nat} {d : DV}, look (dropW ops fr) t = some d → look fr t = some d ∧ anyW ops t = false
  | [], t, d, h => by simp [dropW, look] at h
  | (s, e) :: fr, t, d, h => by
    unfold dropW at h
    rw [look_cons]
    cases hs : anyW ops s with
    | true =>
      rw [hs] at h
      obtain ⟨h1, h2⟩ := look_dropW h
      have : s ≠ t := by intro e'; subst e'; rw [hs] at h2; simp at h2
      rw [if_neg this]
      exact ⟨h1, h2⟩
    | false =>
      rw [hs] at h
      dsimp only at h
      rw [look_cons] at h
      split at h
      · rename_i he; subst he; rw [if_pos rfl]; exact ⟨h, hs⟩
      · rename_i he; rw [if_neg he]; exact look_dropW h


theorem runT_keeps {all : List Oper} {dr : Bool} : ∀ (l : List Oper) (st : St) (fs : List (List Nat × Bool)) (st' : St), (runT P ct N dr all l st).Path (fs, st') →
    (∀ t, anyW l t = false → ∀ d, look st.fr t = some d → ∃ d', look st'.fr t = some d' ∧ Imp d' d) ∧ (allSil fs = true → st'.hp = st.hp ∧ st'.nx = st.nx)
  | [], st, fs, st', h => by
    have h : (fs, st') = ([], st) := h
    simp only [Prod.mk.injEq] at h
    obtain ⟨rfl, rfl⟩ := h
    exact ⟨fun t _ d hd => ⟨d, hd, Imp.refl _⟩, fun _ => ⟨rfl, rfl⟩⟩
  | o :: l, st, fs, st', h => by
    unfold runT at h
    obtain ⟨⟨b, fi⟩, hg, h⟩ := T.path_bind h
    have step : ∀ {d : DV} {fr1 : Fr} {hp1 : Hp} {nx1 : Nat} {fs2 : List (List Nat × Bool)}, setF N fi o.dst d = some fr1 → (runT P ct N dr all l ⟨fr1, hp1, nx1⟩).Path (fs2, st') →
        (∀ t, anyW (o :: l) t = false → ∀ d, look st.fr t = some d → ∃ d', look st'.fr t = some d' ∧ Imp d' d) ∧ (allSil fs2 = true → st'.hp = hp1 ∧ st'.nx = nx1) := by
      intro dd fr1 hp1 nx1 fs2 hs hrec
      obtain ⟨k1, k2⟩ := runT_keeps l _ _ _ hrec
      refine ⟨fun t ht d hd => ?_, k2⟩
      obtain ⟨h1, h2⟩ := anyW_cons ht
      obtain ⟨d1, hd1, hi1⟩ := guardT_fr' hg t d hd
      obtain ⟨d2, hd2, hi2⟩ := k1 t h2 d1 (by rw [setF_keeps hs h1]; exact hd1)
      exact ⟨d2, hd2, hi2.trans hi1⟩
    cases b with
    | true =>
      cases dr with
      | false =>
        (try dsimp only at h)
        obtain ⟨⟨s, d, hx, nx'⟩, hd, h⟩ := T.path_bind h
        (try dsimp only at h)
        obtain ⟨fr1, hs, h⟩ := T.path_bind h
        obtain ⟨⟨fs2, st2⟩, hrec, h⟩ := T.path_bind h
        have h : (fs, st') = (([], s) :: fs2, st2) := h
        simp only [Prod.mk.injEq] at h
        obtain ⟨rfl, rfl⟩ := h
        obtain ⟨k1, k2⟩ := step (T.path_opt hs) hrec
        refine ⟨k1, fun ha => ?_⟩
        unfold allSil at ha
        cases hsv : s with
        | false => rw [hsv] at ha; simp at ha
        | true =>
          rw [hsv] at ha hd
          obtain ⟨e1, e2, _⟩ := opT_sil hd
          obtain ⟨q1, q2⟩ := k2 ha
          exact ⟨q1.trans e1, q2.trans e2⟩
      | true =>
        (try dsimp only at h)
        obtain ⟨⟨s, d, hx, nx'⟩, hd, h⟩ := T.path_bind h
        (try dsimp only at h)
        split at h
        · obtain ⟨fr1, hs, h⟩ := T.path_bind h
          obtain ⟨⟨fs2, st2⟩, hrec, h⟩ := T.path_bind h
          have h : (fs, st') = ((_, s) :: fs2, st2) := h
          simp only [Prod.mk.injEq] at h
          obtain ⟨rfl, rfl⟩ := h
          obtain ⟨k1, k2⟩ := step (T.path_opt hs) hrec
          refine ⟨k1, fun ha => ?_⟩
          unfold allSil at ha
          cases hsv : s with
          | false => rw [hsv] at ha; simp at ha
          | true =>
            rw [hsv] at ha hd k2
            obtain ⟨e1, e2, _⟩ := opT_sil hd
            obtain ⟨q1, q2⟩ := k2 ha
            exact ⟨q1, q2.trans e2⟩
        · exact h.elim
    | false =>
      (try dsimp only at h)
      obtain ⟨fr1, hs, h⟩ := T.path_bind h
      obtain ⟨⟨fs2, st2⟩, hrec, h⟩ := T.path_bind h
      have h : (fs, st') = (([], true) :: fs2, st2) := h
      simp only [Prod.mk.injEq] at h
      obtain ⟨rfl, rfl⟩ := h
      obtain ⟨k1, k2⟩ := step (T.path_opt hs) hrec
      exact ⟨k1, fun ha => k2 ha⟩

theorem mergeT_ok {s : Nat} : ∀ {t : T (List (List Nat × Bool) × St)} {b : DB} {fs : List (List Nat × Bool)} {st' : St}, mergeT s t = some b → t.Path (fs, st') → allSil fs = true ∧ ∃ b', look st'.fr s = some (.bool b') ∧ b'.v = b.v
  | .fail, _, _, _, h, _ => by simp [mergeT] at h
  | .leaf (fs0, st0), b, fs, st', h, hp => by
    have hp : (fs, st') = (fs0, st0) := hp
    simp only [Prod.mk.injEq] at hp
    obtain ⟨rfl, rfl⟩ := hp
    unfold mergeT at h
    split at h
    · rename_i b' ha hb
      obtain rfl := Option.some.inj h
      exact ⟨ha, b', hb, rfl⟩
    · simp at h
  | .br c t e, b, fs, st', h, hp => by
    unfold mergeT at h
    split at h
    · rename_i x y hx hy
      obtain rfl := Option.some.inj h
      rw [iteB_v]
      rcases hp with ⟨hc, hp⟩ | ⟨hc, hp⟩
      · obtain ⟨ha, b', h1, h2⟩ := mergeT_ok hx hp; exact ⟨ha, b', h1, by rw [h2, hc]; rfl⟩
      · obtain ⟨ha, b', h1, h2⟩ := mergeT_ok hy hp; exact ⟨ha, b', h1, by rw [h2, hc]; rfl⟩
    · simp at h
  | .ob _ _ t, b, fs, st', h, hp => by
    unfold mergeT at h
    exact mergeT_ok h hp.2

omit [Fam] in
theorem path_of_noOb {α : Type u} : ∀ {t : T α}, t.owes = false → ∃ x, t.Path x
  | .fail, h => by simp [T.owes] at h
  | .leaf fr, _ => ⟨fr, rfl⟩
  | .br b t e, h => by
    unfold T.owes at h
    split at h
    · simp at h
    · rename_i ht
      cases b with
      | true => obtain ⟨x, hx⟩ := path_of_noOb ht; exact ⟨x, .inl ⟨rfl, hx⟩⟩
      | false => obtain ⟨x, hx⟩ := path_of_noOb h; exact ⟨x, .inr ⟨rfl, hx⟩⟩
  | .ob _ _ _, h => by simp [T.owes] at h

/-- One way through a region: the run of it, and the state in which it leaves. -/
theorem reg_path {draw : Bool} {ops : List Oper} {st : St} {K : St → Prop} (h : reg P ct N draw ops st K) : ∃ fs st', (regT P ct N draw ops st).Path (fs, st') ∧
    (K st' ∨ (allSil fs = true ∧ ∃ s b b', K ⟨(s, .bool b) :: dropW ops st.fr, st.hp, st.nx⟩ ∧ look st'.fr s = some (.bool b') ∧ b'.v = b.v)) := by
  have plain : ((regT P ct N draw ops st).Holds fun x => K x.2) → ∃ fs st', (regT P ct N draw ops st).Path (fs, st') ∧
    (K st' ∨ (allSil fs = true ∧ ∃ s b b', K ⟨(s, .bool b) :: dropW ops st.fr, st.hp, st.nx⟩ ∧ look st'.fr s = some (.bool b') ∧ b'.v = b.v)) := by
    intro h
    obtain ⟨⟨fs, st'⟩, hp, hk⟩ := h.path
    exact ⟨fs, st', hp, .inl hk⟩
  unfold reg at h
  split at h
  · exact plain h
  · split at h
    · rename_i s hs
      split at h
      · rename_i b hm hlt
        split at h
        · obtain ⟨⟨fs, st'⟩, hp, _⟩ := h.1.path
          obtain ⟨ha, b', h1, h2⟩ := mergeT_ok hm hp
          exact ⟨fs, st', hp, .inr ⟨ha, s, b, b', h.2, h1, h2⟩⟩
        · rename_i ho
          obtain ⟨⟨fs, st'⟩, hp⟩ := path_of_noOb ho
          obtain ⟨ha, b', h1, h2⟩ := mergeT_ok hm hp
          exact ⟨fs, st', hp, .inr ⟨ha, s, b, b', h, h1, h2⟩⟩
      · exact plain h
    · exact plain h

theorem region_core {rd : Option Nat} {st : St} {K : St → Prop} {id : Nat} {ops : Array Oper} {draw : Bool} {g : G} {a : Act} {w : World} {Q : Exit → Act → World → Prop} {fs : List (List Nat × Bool)} {st' : St} (hpath : (regT P ct N draw ops.toList st).Path (fs, st'))
    (hK : K st' ∨ (allSil fs = true ∧ ∃ s b b', K ⟨(s, .bool b) :: dropW ops.toList st.fr, st.hp, st.nx⟩ ∧ look st'.fr s = some (.bool b') ∧ b'.v = b.v)) (hO : Ok g0 w0 M n0 N g st a w)
    (hQ : ∀ st' g' a' w', K st' → Ok g0 w0 M n0 N g' st' a' w' → Q .normal a' w') : (Code.region id ops draw).wpIn (fz rd) 0 P Q a w := by
  have key : ∀ dr, (runT P ct N dr ops.toList ops.toList st).Path (fs, st') → ∀ g' a' w', Ok g0 w0 M n0 N g' st' a' w' → Q .normal a' w' := by
    intro dr hp g' a' w' hO'
    obtain ⟨k1, k2⟩ := runT_keeps _ _ _ _ hp
    rcases hK with hK | ⟨ha, s, b, b', hK, h1, h2⟩
    · exact hQ _ g' a' w' hK hO'
    · obtain ⟨e1, e2⟩ := k2 ha
      have hO2 : Ok g0 w0 M n0 N g' ⟨(s, .bool b) :: dropW ops.toList st.fr, st'.hp, st'.nx⟩ a' w' := by
        refine hO'.frame ⟨?_, hO'.frm.size⟩
        intro t d hd
        rw [look_cons] at hd
        split at hd
        · rename_i he
          subst he
          obtain rfl := Option.some.inj hd
          obtain ⟨v, hv, hr⟩ := hO'.frm.frm _ _ h1
          exact ⟨v, hv, by simpa [Rep, h2] using hr⟩
        · obtain ⟨h3, h4⟩ := look_dropW hd
          obtain ⟨d', hd', hi⟩ := k1 t h4 d h3
          obtain ⟨v, hv, hr⟩ := hO'.frm.frm _ _ hd'
          exact ⟨v, hv, hi _ _ _ hr⟩
      rw [e1, e2] at hO2
      exact hQ _ g' a' w' hK hO2
  unfold regT at hpath
  split at hpath
  · have hpath := T.path_cl hpath
    exact wpIn_region_list (run_text _ _ _ _ hpath g a w hO (key _ hpath))
  · split at hpath
    · rename_i hm hok
      obtain ⟨⟨fs1, st1⟩, hp1, hpath⟩ := T.path_bind hpath
      have hp1 := T.path_cl hp1
      split at hpath
      · rename_i hd hnb
        have hpath : (fs, st') = (fs1, st1) := hpath
        simp only [Prod.mk.injEq] at hpath
        obtain ⟨rfl, rfl⟩ := hpath
        exact region_draw hm hok hp1 hd (Nat.le_of_ble_eq_true hnb) hO.rel hO.frm hO.fresh (fun g' a' w' hP hF hdf => key _ hp1 g' a' w' (hO.post hP hF hdf))
      · exact hpath.elim
    · exact hpath.elim
theorem region_ok {rd : Option Nat} {st : St} {K : St → Prop} {id : Nat} {ops : Array Oper} {draw : Bool} {g : G} {a : Act} {w : World} {Q : Exit → Act → World → Prop}
    (h : reg P ct N draw ops.toList st K) (hO : Ok g0 w0 M n0 N g st a w) (hQ : ∀ st' g' a' w', K st' → Ok g0 w0 M n0 N g' st' a' w' → Q .normal a' w') : (Code.region id ops draw).wpIn (fz rd) 0 P Q a w := by
  obtain ⟨fs, st', hpath, hK⟩ := reg_path h
  exact region_core hpath hK hO hQ
theorem regS_ok {rd : Option Nat} {st st1 : St} {id : Nat} {ops : Array Oper} {draw : Bool} {g : G} {a : Act} {w : World} {Q : Exit → Act → World → Prop}
    (h : (regS P ct N draw ops.toList st).Path st1) (hO : Ok g0 w0 M n0 N g st a w) (hQ : ∀ g' a' w', Ok g0 w0 M n0 N g' st1 a' w' → Q .normal a' w') : (Code.region id ops draw).wpIn (fz rd) 0 P Q a w := by
  have plain : ((regT P ct N draw ops.toList st).bind fun x => .leaf x.2).Path st1 → (Code.region id ops draw).wpIn (fz rd) 0 P Q a w := by
    intro h
    obtain ⟨⟨fs, st'⟩, hp, h⟩ := T.path_bind h
    obtain rfl : st1 = st' := h
    exact region_core (K := (· = st1)) hp (.inl rfl) hO (fun st' g' a' w' e hO' => hQ g' a' w' (e ▸ hO'))
  unfold regS at h
  split at h
  · split at h
    · rename_i s _
      split at h
      · rename_i b hm hlt
        split at h
        · obtain ⟨hh, h⟩ := h
          obtain rfl : st1 = _ := h
          obtain ⟨⟨fs, st'⟩, hp, _⟩ := hh.path
          obtain ⟨ha, b', h1, h2⟩ := mergeT_ok hm hp
          exact region_core (K := (· = _)) hp (.inr ⟨ha, s, b, b', rfl, h1, h2⟩) hO (fun st' g' a' w' e hO' => hQ g' a' w' (e ▸ hO'))
        · rename_i ho
          obtain rfl : st1 = _ := h
          obtain ⟨⟨fs, st'⟩, hp⟩ := path_of_noOb ho
          obtain ⟨ha, b', h1, h2⟩ := mergeT_ok hm hp
          exact region_core (K := (· = _)) hp (.inr ⟨ha, s, b, b', rfl, h1, h2⟩) hO (fun st' g' a' w' e hO' => hQ g' a' w' (e ▸ hO'))
      · exact plain h
    · exact plain h
  · exact plain h

theorem subS_ok {g : G} {s' s : St} {a : Act} {w : World} {k : Prop} (hO : Ok g0 w0 M n0 N g s' a w) (h0 : ∀ i, n0 ≤ i → g0.ρ i = none) (h : subS n0 s' s k) : ∃ g', Ok g0 w0 M n0 N g' s a w ∧ k := by
  obtain ⟨hp1, σ, hgh, tnb, t1, t2, t3, hk, t4, t5⟩ := subS_core h
  obtain ⟨g1, hP⟩ := ghosts_ok (nx := s'.nx) _ _ _ _ hgh hO.rel
  have hO1 : Ok g0 w0 M n0 N g1 ⟨s'.fr, hp1, s'.nx⟩ a w := hO.post hP (hO.frm.ext hP.ext) rfl
  have hid : ∀ i, i < n0 → look σ i = some i := fun i hi => t1 _ _ (idS_ok n0 i hi)
  have hnb : ∀ i, noBlock ≤ i → g1.ρ i = none := fun i hi => hO1.fresh i (Nat.le_trans tnb hi)
  have hlo : n0 ≤ s.nx := by
    rcases Nat.lt_or_ge s.nx n0 with hlt | hge
    · have h1 := hid s.nx hlt
      rw [t3 s.nx (Nat.le_refl _)] at h1; simp at h1
    · exact hge
  have hlt0 : ∀ i b, g0.ρ i = some b → i < n0 := by
    intro i b hb
    rcases Nat.lt_or_ge i n0 with h | h
    · exact h
    · rw [h0 i h] at hb; simp at hb
  refine ⟨ren g1 σ, ⟨hO1.rel.ren t2 (fun _ j _ h _ => hnb j h) t5, ⟨?_, hO.frm.size⟩, fun b hb => hO1.mine b (Mine.ren (fun _ j _ h _ => hnb j h) t5 hb), ?_, ⟨?_, hO1.ext.pr, hO1.ext.at', ?_, hO1.ext.shape⟩, hO1.kept, hO1.prg, ?_, hlo, hO1.mks, hO1.mkn⟩, hk⟩
  · intro t d hd
    obtain ⟨d', hd', hr⟩ := t4 t d hd
    obtain ⟨v, hv, hrv⟩ := hO1.frm.frm t d' hd'
    exact ⟨v, hv, hr g1 w v hP.rel hrv⟩
  · intro i hi
    simp [ren, t3 i hi]
  · intro i b hb
    simp [ren, hid i (hlt0 i b hb), hO1.ext.rho i b hb]
  · intro i b hb
    have := hO1.ext.base i b hb
    simpa [ren, hid i (hlt0 i b hb)] using this
  · intro i hi
    simp [ren, hid i hi, hO1.same i hi]

/-- A loop's record is written. -/
theorem Post.record {g : G} {hp : Hp} {w : World} {nx id l : Nat} {fr : Fr} {N : Nat} {ps : List Nat} {as bo : Code} {s : LoopState} {pe : Option Code} (h : Rel g hp w) (hl : look hp id = some (false, .loop fr N ps as bo s pe)) (hb : g.ρ id = some l) {r : Loop}
    (hr : w.heap[l]? = some (.loop r)) (s' : LoopState) (pe' : Option Code) :
    Post g w hp nx g (w.putObj l (.loop { r with state := s', pending := pe' })) (repl hp id (false, .loop fr N ps as bo s' pe')) nx := by
  have hU : Upd l w (w.putObj l (.loop { r with state := s', pending := pe' })) := ⟨rfl, rfl, rfl, by simp, fun c hc => World.putObj_heap_other hc, fun cs t fr hcs => by rw [hr] at hcs; simp at hcs⟩
  obtain ⟨⟨r1, h1, h2, h3, h4, h5, h6, h7, h8⟩, _⟩ := h.at hl hb
  rw [hr] at h1
  simp only [Option.some.injEq, Obj.loop.injEq] at h1
  subst h1
  exact Post.write' h hU hl (fun k hk => hk.elim) hb (fun ex => ⟨_, World.putObj_heap_same (lt_of_heap hr), rfl, rfl, h4, h5, h6, h7, RepF.ext ex h8⟩)
theorem dedF_look : ∀ {fr : Fr} {s : List Nat} {t : Nat} {d : DV}, look (dedF s fr) t = some d → look fr t = some d ∧ t ∉ s
  | [], s, t, d, h => by simp [dedF, look] at h
  | (u, e) :: r, s, t, d, h => by
    unfold dedF at h
    split at h
    · rename_i hm
      obtain ⟨h1, h2⟩ := dedF_look h
      have : u ≠ t := fun e => h2 (e ▸ memN_iff.1 hm)
      exact ⟨by rw [look_cons, if_neg this]; exact h1, h2⟩
    · rename_i hm
      have hm : u ∉ s := fun h => by rw [memN_iff.2 h] at hm; simp at hm
      rw [look_cons] at h ⊢
      split at h
      · rename_i he; rw [if_pos he]; exact ⟨h, he ▸ hm⟩
      · rename_i he
        obtain ⟨h1, h2⟩ := dedF_look h
        rw [if_neg he]
        exact ⟨h1, fun h => h2 (List.mem_cons_of_mem _ h)⟩

/-- A loop over a function: its record is laid. -/
theorem loop_laid {g : G} {st : St} {a : Act} {w : World} (hO : Ok g0 w0 M n0 N g st a w) (r0 : Loop) (hr : r0.state = .ready) (hp : r0.pending = none) (ht : r0.tmps = a.tmps) {ps : List Nat} (hps : r0.params = ps.toArray) {w1 : World} (hs : Silent w w1)
    (hgx : GX g w g w1) : ∃ g1, Post g w st.hp st.nx g1 (w1.alloc (.loop r0)) ((st.nx, (false, .loop st.fr N ps r0.assign r0.body .ready none)) :: st.hp) (st.nx + 1) ∧ g1.ρ st.nx = some w1.heap.size ∧ (∀ i, st.nx + 1 ≤ i → g1.ρ i = none) ∧ g1.pr = g.pr := by
  have P0 : Post g w st.hp st.nx g w1 st.hp st.nx := Post.silent hO.rel hs hgx
  have P1 := Post.alloc (nx := st.nx) (o := .loop st.fr N ps r0.assign r0.body .ready none) (ob := .loop r0) P0.rel (hO.fresh _ (Nat.le_refl _)) (fun ex => ⟨r0, heap_new w1 _, hr, hp, hps, rfl, rfl, by rw [ht]; exact hO.frm.size, fun t d hd => by
    obtain ⟨v, h1, h2⟩ := hO.frm.frm t d hd
    exact ⟨v, by rw [ht]; exact h1, Rep.ext (P0.ext.trans ex) _ _ h2⟩⟩)
  exact ⟨_, P0.trans P1, by simp [G.new], fun i hi => by
    have : i ≠ st.nx := by omega
    simp [G.new, this, hO.fresh i (by omega)], rfl⟩

/-- ████ Code that is run as far as it goes. -/
theorem execT_ok {rd : Option (Nat × Nat)} (hrd : ∀ i l, rd = some (i, l) → g0.ρ i = some l) : ∀ (f : Nat), (∀ (c : Code) (st : St) (x : DX) (st' : St), (execT P ct N (rd.map (·.1)) f c st).Path (x, st') → ∀ (g : G) (a : Act) (w : World), Ok g0 w0 M n0 N g st a w →
      ∀ (Q : Exit → Act → World → Prop), (∀ g' a' w', Ok g0 w0 M n0 N g' st' a' w' → Q x.exit' a' w') → c.wpIn (fz (rd.map (·.2))) 0 P Q a w) ∧
    (∀ (c : Code) (st : St) (x : DX) (st' : St), (execT P ct N (rd.map (·.1)) f (.loop c) st).Path (x, st') → ∀ (g : G) (a : Act) (w : World), Ok g0 w0 M n0 N g st a w →
      ∀ (Q : Exit → Act → World → Prop), (∀ g' a' w', Ok g0 w0 M n0 N g' st' a' w' → Q x.exit' a' w') → Code.roundsIn (fz (rd.map (·.2))) 0 P c Q f a w)
  | 0 => ⟨fun c st x st' h => by unfold execT at h; exact h.elim, fun c st x st' h => by unfold execT at h; exact h.elim⟩
  | f + 1 => by
    obtain ⟨ih, ihl⟩ := execT_ok hrd f
    have loop : ∀ (c : Code) (st : St) (x : DX) (st' : St), (execT P ct N (rd.map (·.1)) (f + 1) (.loop c) st).Path (x, st') → ∀ (g : G) (a : Act) (w : World), Ok g0 w0 M n0 N g st a w →
        ∀ (Q : Exit → Act → World → Prop), (∀ g' a' w', Ok g0 w0 M n0 N g' st' a' w' → Q x.exit' a' w') → Code.roundsIn (fz (rd.map (·.2))) 0 P c Q (f + 1) a w := by
      intro c st x st' h g a w hO Q hQ
      unfold execT at h
      dsimp only at h
      obtain ⟨⟨x1, st1⟩, h1, h⟩ := T.path_bind h
      rw [roundsIn_succ]
      refine ih c st x1 st1 h1 g a w hO _ ?_
      intro g' a' w' hO'
      cases x1 with
      | normal =>
        dsimp only at h
        exact ihl c _ x st' h g' a' w' (hO'.frame ⟨fun t d hd => hO'.frm.frm t d (dedF_look hd).1, hO'.frm.size⟩) Q hQ
      | exit id =>
        obtain ⟨rfl, rfl⟩ : x = _ ∧ st' = _ := by have h : (x, st') = _ := h; simpa using h
        exact hQ g' a' w' hO'
      | ret =>
        obtain ⟨rfl, rfl⟩ : x = _ ∧ st' = _ := by have h : (x, st') = _ := h; simpa using h
        exact hQ g' a' w' hO'
    refine ⟨fun c st x st' h g a w hO Q hQ => ?_, loop⟩
    cases c with
    | skip =>
      unfold execT at h
      obtain ⟨rfl, rfl⟩ : x = _ ∧ st' = _ := by have h : (x, st') = _ := h; simpa using h
      exact wpIn_skip (hQ g a w hO)
    | ret =>
      unfold execT at h
      obtain ⟨rfl, rfl⟩ : x = _ ∧ st' = _ := by have h : (x, st') = _ := h; simpa using h
      exact wpIn_ret (hQ g a w hO)
    | exit id =>
      unfold execT at h
      obtain ⟨rfl, rfl⟩ : x = _ ∧ st' = _ := by have h : (x, st') = _ := h; simpa using h
      exact wpIn_exit (hQ g a w hO)
    | seq y z =>
      unfold execT at h
      dsimp only at h
      obtain ⟨⟨x1, st1⟩, h1, h⟩ := T.path_bind h
      refine wpIn_seq (ih y st x1 st1 h1 g a w hO _ ?_)
      intro g' a' w' hO'
      cases x1 with
      | normal => exact ih z st1 x st' h g' a' w' hO' Q hQ
      | exit id =>
        obtain ⟨rfl, rfl⟩ : x = _ ∧ st' = _ := by have h : (x, st') = _ := h; simpa using h
        exact hQ g' a' w' hO'
      | ret =>
        obtain ⟨rfl, rfl⟩ : x = _ ∧ st' = _ := by have h : (x, st') = _ := h; simpa using h
        exact hQ g' a' w' hO'
    | block id c =>
      unfold execT at h
      dsimp only at h
      obtain ⟨⟨x1, st1⟩, h1, h⟩ := T.path_bind h
      refine wpIn_block (ih c st x1 st1 h1 g a w hO _ ?_)
      intro g' a' w' hO'
      cases x1 with
      | normal =>
        obtain ⟨rfl, rfl⟩ : x = _ ∧ st' = _ := by have h : (x, st') = _ := h; simpa using h
        exact hQ g' a' w' hO'
      | exit i =>
        simp only [DX.exit', Exit.inBlock]
        dsimp only at h
        split at h
        · rename_i hb
          obtain ⟨rfl, rfl⟩ : x = _ ∧ st' = _ := by have h : (x, st') = _ := h; simpa using h
          rw [if_pos (Nat.eq_of_beq_eq_true hb)]
          exact hQ g' a' w' hO'
        · rename_i hb
          obtain ⟨rfl, rfl⟩ : x = _ ∧ st' = _ := by have h : (x, st') = _ := h; simpa using h
          rw [if_neg (Nat.ne_of_beq_eq_false hb)]
          exact hQ g' a' w' hO'
      | ret =>
        obtain ⟨rfl, rfl⟩ : x = _ ∧ st' = _ := by have h : (x, st') = _ := h; simpa using h
        exact hQ g' a' w' hO'
    | cond c y z =>
      unfold execT at h
      dsimp only at h
      split at h
      · rename_i hc
        have r := hO.frm.lk hc
        simp only [Rep, DB.v] at r
        exact wpIn_cond_true r (ih y st x st' h g a w hO Q hQ)
      · rename_i hc
        have r := hO.frm.lk hc
        simp only [Rep, DB.v] at r
        exact wpIn_cond_false r (ih z st x st' h g a w hO Q hQ)
      · rename_i v hc
        have r := hO.frm.lk hc
        simp only [Rep, DB.v] at r
        have tr : v = true → (execT P ct N (rd.map (·.1)) f y ⟨setLit st.fr c true, st.hp, st.nx⟩).Path (x, st') → (Code.cond c y z).wpIn (fz (rd.map (·.2))) 0 P Q a w := fun hv h =>
          wpIn_cond_true (by rw [r, hv]) (ih y _ x st' h g a w (setLit_ok hO hc hv) Q hQ)
        have fa : v = false → (execT P ct N (rd.map (·.1)) f z ⟨setLit st.fr c false, st.hp, st.nx⟩).Path (x, st') → (Code.cond c y z).wpIn (fz (rd.map (·.2))) 0 P Q a w := fun hv h =>
          wpIn_cond_false (by rw [r, hv]) (ih z _ x st' h g a w (setLit_ok hO hc hv) Q hQ)
        split at h
        · split at h
          · exact tr rfl h
          · exact fa rfl h
        · rcases h with ⟨hv, h⟩ | ⟨hv, h⟩
          · exact tr hv h
          · exact fa hv h
      · exact h.elim
    | region id ops draw =>
      unfold execT at h
      dsimp only at h
      obtain ⟨st1, h1, h⟩ := T.path_bind h
      obtain ⟨rfl, rfl⟩ : x = _ ∧ st' = _ := by have h : (x, st') = _ := h; simpa using h
      exact regS_ok h1 hO hQ
    | loop c => exact wpIn_loop_rounds (f + 1) (loop c st x st' h g a w hO Q hQ)
    | rangeFunc gop ps as bo =>
      unfold execT at h
      dsimp only at h
      split at h
      case h_2 => exact h.elim
      rename_i gf cap hlk hrdo
      obtain ⟨r, hr, h⟩ := T.path_bind h
      obtain ⟨hbody, hcall⟩ := ct.ok.1 _ _ _ _ _ hr
      have rg := hO.frm.lk hlk
      simp only [Rep] at rg
      obtain ⟨vs, hgv, hcap⟩ := rg
      refine wpIn_rangeFunc fun fn _ => ?_
      -- the record, laid
      obtain ⟨l, mark, w1, W, r0, henter, hW, hr1, hr2, hr3, hr4, hr5, hr6, hs, hgx, hmk, hl⟩ : ∃ (l : Nat) (mark : List Deferred) (w1 W : World) (r0 : Loop), (Instr.enterLoop fn a.tmps ps as bo (fz (rd.map (·.2))).round).run P w = .ok (l, mark) W ∧ W = w1.alloc (.loop r0) ∧
          r0.state = .ready ∧ r0.pending = none ∧ r0.tmps = a.tmps ∧ r0.params = ps ∧ r0.assign = as ∧ r0.body = bo ∧ Silent w w1 ∧ GX g w g w1 ∧ (mark = [] ∨ mark = [{ target := .collected w.heap.size, args := #[] }] ∧ w1.heap[w.heap.size]? = some (.deferred (some []))) ∧ l = w1.heap.size := by
        cases hrc : rd with
        | none =>
          have hs : Silent w (w.alloc (.deferred (some []))) := ⟨rfl, rfl, rfl, by simp, fun b hb => by show (w.heap.push _)[b]? = _; rw [Array.getElem?_push, if_neg (by omega)]⟩
          exact ⟨_, _, w.alloc (.deferred (some [])), _, _, run_enterLoop_outer fn a.tmps ps as bo, rfl, rfl, rfl, rfl, rfl, rfl, rfl, hs, GX.refl fun b hb => Nat.lt_of_lt_of_le (hO.rel.prl b hb) hs.size, .inr ⟨rfl, heap_new w _⟩, by simp⟩
        | some il =>
          obtain ⟨i0, l0⟩ := il
          have hi := hO.ext.rho i0 l0 (hrd i0 l0 hrc)
          rw [hrc] at hrdo
          simp only [Option.map_some, rdOk] at hrdo
          have : ∃ rec, w.heap[l0]? = some (.loop rec) := by
            split at hrdo
            · rename_i hl0
              obtain ⟨⟨rec, hrec, _⟩, _⟩ := hO.rel.at hl0 hi
              exact ⟨rec, hrec⟩
            · simp at hrdo
          obtain ⟨rec, hrec⟩ := this
          exact ⟨_, _, w, _, _, run_enterLoop_inner hrec fn a.tmps ps as bo, rfl, rfl, rfl, rfl, rfl, rfl, rfl, Silent.refl w, GX.refl hO.rel.prl, .inl rfl, rfl⟩
      obtain ⟨g1, P1, hg1, hf1, hpr1⟩ := loop_laid hO r0 hr1 hr2 hr3 (ps := ps.toList) (by rw [hr4]) hs hgx
      rw [hr5, hr6] at P1
      subst hW
      have hy : Rep g1 (w1.alloc (.loop r0)) (.yld st.nx) (.func (.yield l) #[] #[]) := by simp only [Rep]; exact ⟨_, hg1, by rw [hl]⟩
      have hargs : RepL g1 (w1.alloc (.loop r0)) (.yld st.nx :: cap) ((.func (.yield l) #[] #[] : Value) :: vs) := RepL.cons hy (RepL.ext P1.ext _ _ hcap)
      have hmarks : ∀ d ∈ mark ++ a.defers, ∃ D, d = { target := .collected D, args := #[] } ∧ (w1.alloc (.loop r0)).heap[D]? = some (.deferred (some [])) ∧ w0.heap.size ≤ D ∧ ¬ g1.pr D := by
        intro d hd
        rcases List.mem_append.1 hd with hd | hd
        · rcases hmk with rfl | ⟨rfl, hm⟩
          · simp at hd
          · simp only [List.mem_singleton] at hd
            refine ⟨_, hd, ?_, hO.kept.size, by rw [hpr1]; intro h; exact Nat.lt_irrefl _ (hO.rel.prl _ h)⟩
            have := lt_of_heap hm
            show (w1.heap.push _)[w.heap.size]? = _
            rw [Array.getElem?_push, if_neg (by omega)]; exact hm
        · obtain ⟨D, e, hD, hl0, hp0⟩ := hO.mks d hd
          exact ⟨D, e, P1.kept.mark hO.rel hD, hl0, by rw [hpr1]; exact hp0⟩
      have hnew : ∀ D, (w.heap[D]? = some (.deferred (some []))) → D ≠ w.heap.size := fun D h => by have := lt_of_heap h; omega
      have hpair : (mark ++ a.defers).Pairwise (fun d e => d ≠ e) := by
        rcases hmk with rfl | ⟨rfl, hm⟩
        · exact hO.mkn
        · refine List.pairwise_cons.2 ⟨fun d hd e => ?_, hO.mkn⟩
          obtain ⟨D, e1, hD, _⟩ := hO.mks d hd
          rw [← e] at e1
          simp only [Deferred.mk.injEq, Target.collected.injEq, and_true] at e1
          exact hnew D hD e1.symm
      obtain ⟨fnb, hb1, hb2, hb3⟩ := hbody
      refine ⟨l, mark, _, { target := .fn (.func gf) vs.toArray, args := #[.func (.yield l) #[] #[]] }, w1.alloc (.loop r0), gf, ((.func (.yield l) #[] #[] : Value) :: vs).toArray, w1.alloc (.loop r0), henter, ?_, fun _ _ => trivial, ?_, nodepth, ?_⟩
      · simp only [resolve, hgv]
        simp [Deferred.ofValue, Act.eval]
      · have e : (#[.func (.yield l) #[] #[]] ++ vs.toArray : Array Value) = ((.func (.yield l) #[] #[] : Value) :: vs).toArray := by apply Array.toList_inj.1; simp
        simp only [invoke, callFunc, Sem.run_bind, run_program, Result.andThen_ok, hb1, hb2, hb3, Bool.false_eq_true, if_false, Sem.run_pure, e]
      · refine calls_in ((hcall g1 _ _ P1.rel hf1 hargs).mono ?_)
        rintro e w2 ⟨v, d, st2, g2, rfl, ⟨rfl, e1, e2⟩, hR2, hrep2, hE2, hK2, hfr2, hmine2, hprg2, hsame2⟩
        rw [e1] at hR2 hmine2
        rw [e2] at hfr2
        have hl2 : g2.ρ st.nx = some l := by rw [hsame2 st.nx (Nat.lt_succ_self _), hg1, hl]
        have hle2 : st.nx + 1 ≤ r.2.2 := by
          rcases Nat.lt_or_ge st.nx r.2.2 with h | h
          · exact h
          · rw [hfr2 _ h] at hl2; simp at hl2
        split at h
        case h_2 => exact h.elim
        rename_i fr' N' ps' as' bo' s pe hlook
        obtain ⟨⟨rec, hrec, hrs, hrp, hrest⟩, _⟩ := hR2.at hlook hl2
        have hnb : s ≠ .busy := by
          intro e; subst e; exact h.elim
        have hend := run_endLoop (P := P) hrec (by rw [hrs]; exact hnb)
        have hP3 : Post g2 w2 r.2.1 r.2.2 g2 (w2.putObj l (.loop { rec with state := .exhausted })) (dropI st.nx r.2.1) r.2.2 := by
          refine (Post.record hR2 hlook hl2 hrec .exhausted rec.pending).to_less fun i e he => ?_
          rw [look_dropI] at he
          rw [look_repl_some hlook]
          split at he
          · simp at he
          · rename_i hne; rw [if_neg (fun e => hne e.symm)]; exact he
        have hE4 : Ext g w g2 (w2.putObj l (.loop { rec with state := .exhausted })) := P1.ext.trans (hE2.trans hP3.ext)
        have hs1 : w.heap.size ≤ (w1.alloc (.loop r0)).heap.size := P1.kept.size
        have hOk : Ok g0 w0 M n0 N g2 ⟨st.fr, dropI st.nx r.2.1, r.2.2⟩ { a with defers := mark ++ a.defers } (w2.putObj l (.loop { rec with state := .exhausted })) := by
          refine hO.run hP3.rel hE4 ⟨hP3.kept.os.trans (hK2.os.trans P1.kept.os), hP3.kept.tape.trans (hK2.tape.trans P1.kept.tape), hP3.kept.output.trans (hK2.output.trans P1.kept.output), Nat.le_trans hs1 (Nat.le_trans hK2.size hP3.kept.size), fun b hb hm => ?_⟩
            (fun b hb => ?_) (fun b hb => ?_) (fun i hi => hfr2 i hi) (fun i hi => ?_) (by omega) ⟨fun t d hd => ?_, hO.frm.size⟩ (fun d hd => ?_) hpair
          · have k1 : ¬ Mine g1 ((st.nx, (false, .loop st.fr N ps.toList as bo .ready none)) :: st.hp) b := fun h => by
              rcases P1.mine b h with h | h
              · exact hm h
              · omega
            have k2 : ¬ Mine g2 r.2.1 b := fun h => by
              rcases hmine2 b h with h | h
              · exact k1 h
              · omega
            rw [hP3.kept.kept b (by have := hK2.size; omega) k2, hK2.kept b (by omega) k1, P1.kept.kept b hb hm]
          · rcases hP3.mine b hb with h | h
            · rcases hmine2 b h with h | h
              · exact P1.mine b h
              · exact .inr (Nat.le_trans hs1 h)
            · exact .inr (Nat.le_trans hs1 (Nat.le_trans hK2.size h))
          · rcases hprg2 b (by rcases hP3.prg b hb with h | h | h
                               · exact h
                               · exact hb
                               · exact hb) with h | h | h
            · exact P1.prg b h
            · rcases P1.mine b h with h | h
              · exact .inr (.inl h)
              · exact .inr (.inr h)
            · exact .inr (.inr (Nat.le_trans hs1 h))
          · rw [hsame2 i (by omega)]; exact P1.out i (.inl hi)
          · obtain ⟨v, h1, h2⟩ := hO.frm.frm t d hd
            exact ⟨v, h1, Rep.ext hE4 _ _ h2⟩
          · obtain ⟨D, e, hD, hl0, hp0⟩ := hmarks d hd
            exact ⟨D, e, hP3.kept.mark hR2 (hK2.mark P1.rel hD), hl0, mark_pr P1.rel hD hp0 hprg2⟩
        refine ⟨rec.pending, _, hend, ?_⟩
        have hjump : ∀ y, (T.leaf (y, (⟨st.fr, dropI st.nx r.2.1, r.2.2⟩ : St)) : T (DX × St)).Path (x, st') → x = y ∧ st' = ⟨st.fr, dropI st.nx r.2.1, r.2.2⟩ := fun y h => by have h : (x, st') = _ := h; simpa using h
        have hfin : (match pe with
            | none => T.leaf (DX.normal, (⟨st.fr, dropI st.nx r.2.1, r.2.2⟩ : St))
            | some .ret => .leaf (.ret, ⟨st.fr, dropI st.nx r.2.1, r.2.2⟩)
            | some (.exit i) => .leaf (.exit i, ⟨st.fr, dropI st.nx r.2.1, r.2.2⟩)
            | _ => .fail).Path (x, st') := by
          cases s with
          | busy => exact (hnb rfl).elim
          | ready => exact h
          | done => exact h
          | exhausted => exact h
        generalize w2.putObj l (.loop { rec with state := .exhausted }) = w4 at hOk ⊢
        rw [hrp]
        cases pe with
        | none =>
          obtain ⟨rfl, rfl⟩ := hjump _ hfin
          exact hQ _ _ _ hOk
        | some c =>
          cases c with
          | ret =>
            obtain ⟨rfl, rfl⟩ := hjump _ hfin
            exact wpIn_ret (hQ _ _ _ hOk)
          | exit i =>
            obtain ⟨rfl, rfl⟩ := hjump _ hfin
            exact wpIn_exit (hQ _ _ _ hOk)
          | _ => exact hfin.elim
    | scope _ => unfold execT at h; exact h.elim
    | label _ => unfold execT at h; exact h.elim
    | goto _ => unfold execT at h; exact h.elim
    | refuse _ => unfold execT at h; exact h.elim

/-- ████ The evaluator of code is right. -/
theorem exec_ok {invs : List (Nat × LInv)} (h0 : ∀ i, n0 ≤ i → g0.ρ i = none) : ∀ (c : Code) (st : St) (K : DX → St → Prop), exec P ct N n0 invs c st K → ∀ (g : G) (a : Act) (w : World), Ok g0 w0 M n0 N g st a w → ∀ (Q : Exit → Act → World → Prop),
    (∀ x st' g' a' w', K x st' → Ok g0 w0 M n0 N g' st' a' w' → Q x.exit' a' w') → c.wpIn (fz none) 0 P Q a w
  | .skip, st, K, h, g, a, w, hO, Q, hQ => wpIn_skip (hQ .normal st g a w h hO)
  | .ret, st, K, h, g, a, w, hO, Q, hQ => wpIn_ret (hQ .ret st g a w h hO)
  | .exit id, st, K, h, g, a, w, hO, Q, hQ => wpIn_exit (hQ (.exit id) st g a w h hO)
  | .seq x y, st, K, h, g, a, w, hO, Q, hQ => by
    refine wpIn_seq (exec_ok h0 x st _ h g a w hO _ ?_)
    intro e st' g' a' w' hk hO'
    cases e with
    | normal => exact exec_ok h0 y st' K hk g' a' w' hO' Q hQ
    | exit id => exact hQ (.exit id) st' g' a' w' hk hO'
    | ret => exact hQ .ret st' g' a' w' hk hO'
  | .block id c, st, K, h, g, a, w, hO, Q, hQ => by
    refine wpIn_block (exec_ok h0 c st _ h g a w hO _ ?_)
    intro e st' g' a' w' hk hO'
    cases e with
    | normal => exact hQ .normal st' g' a' w' hk hO'
    | exit i =>
      simp only [DX.exit', Exit.inBlock]
      dsimp only at hk
      split at hk
      · rename_i hb
        rw [if_pos (Nat.eq_of_beq_eq_true hb)]
        exact hQ .normal st' g' a' w' hk hO'
      · rename_i hb
        rw [if_neg (Nat.ne_of_beq_eq_false hb)]
        exact hQ (.exit i) st' g' a' w' hk hO'
    | ret => exact hQ .ret st' g' a' w' hk hO'
  | .cond c x y, st, K, h, g, a, w, hO, Q, hQ => by
    unfold exec at h
    split at h
    · rename_i hc
      have r := hO.frm.lk hc
      simp only [Rep, DB.v] at r
      exact wpIn_cond_true r (exec_ok h0 x st K h g a w hO Q hQ)
    · rename_i hc
      have r := hO.frm.lk hc
      simp only [Rep, DB.v] at r
      exact wpIn_cond_false r (exec_ok h0 y st K h g a w hO Q hQ)
    · rename_i v hc
      have r := hO.frm.lk hc
      simp only [Rep, DB.v] at r
      split at h
      · split at h
        · exact wpIn_cond_true r (exec_ok h0 x _ K h g a w (setLit_ok hO hc rfl) Q hQ)
        · exact wpIn_cond_false r (exec_ok h0 y _ K h g a w (setLit_ok hO hc rfl) Q hQ)
      · refine wpIn_cond_split r (fun hv => ?_) (fun hv => ?_)
        · exact exec_ok h0 x _ K (h.1 hv) g a w (setLit_ok hO hc hv) Q hQ
        · exact exec_ok h0 y _ K (h.2 hv) g a w (setLit_ok hO hc hv) Q hQ
    · exact h.elim
  | .region id ops draw, st, K, h, g, a, w, hO, Q, hQ => by
    unfold exec at h
    exact region_ok h hO (fun st' g' a' w' hk hO' => hQ .normal st' g' a' w' hk hO')
  | .loop c, st, K, h, g, a, w, hO, Q, hQ => by
    unfold exec at h
    split at h
    · obtain ⟨⟨x, st'⟩, hp, hk⟩ := h.path
      exact (execT_ok (rd := none) (fun _ _ h => by cases h) fuelX).1 _ st x st' hp g a w hO Q (fun g' a' w' hO' => hQ x st' g' a' w' hk hO')
    rename_i I _
    obtain ⟨⟨a0, hsub⟩, hround⟩ := h
    obtain ⟨g00, hO0, hp0⟩ := subS_ok hO h0 hsub
    let J : Act → World → Nat → Prop := fun a w m => ∃ x g, I.m x = m ∧ I.p x ∧ Ok g0 w0 M n0 N g (I.S x) a w
    let J' : Act → World → Prop := fun a w => ∃ m, J a w m
    have : ∀ a w, J' a w → ∃ m, J a w m ∧ ∀ m', J a w m' → m ≤ m' := by
      intro a w ⟨m, hm⟩
      induction m using Nat.strongRecOn with
      | _ m ih =>
        by_cases hlt : ∃ m', m' < m ∧ J a w m'
        · obtain ⟨m', h1, h2⟩ := hlt; exact ih m' h1 h2
        · exact ⟨m, hm, fun m' h' => Nat.le_of_not_lt fun h => hlt ⟨m', h, h'⟩⟩
    have hmu : ∃ μ : Act → World → Nat, ∀ a w, J' a w → J a w (μ a w) ∧ ∀ m', J a w m' → μ a w ≤ m' := by
      refine ⟨fun a w => Classical.epsilon fun m => J a w m ∧ ∀ m', J a w m' → m ≤ m', fun a w h => ?_⟩
      exact Classical.epsilon_spec (this a w h)
    obtain ⟨μ, hμ⟩ := hmu
    refine wpIn_loop J' μ ⟨_, a0, g00, rfl, hp0, hO0⟩ ?_
    intro a1 w1 hJ
    obtain ⟨⟨x, g1, hm, hp, hO1⟩, _⟩ := hμ a1 w1 hJ
    refine exec_ok h0 c _ _ (hround x hp) g1 a1 w1 hO1 _ ?_
    intro e st' g' a' w' hk hO'
    cases e with
    | normal =>
      obtain ⟨y, hsub'⟩ := hk
      obtain ⟨g2, hO2, hp2, hlt⟩ := subS_ok hO' h0 hsub'
      have hJ' : J a' w' (I.m y) := ⟨y, g2, rfl, hp2, hO2⟩
      exact ⟨⟨_, hJ'⟩, Nat.lt_of_le_of_lt ((hμ a' w' ⟨_, hJ'⟩).2 _ hJ') (by rw [← hm]; exact hlt)⟩
    | exit i => exact hQ (.exit i) st' g' a' w' hk hO'
    | ret => exact hQ .ret st' g' a' w' hk hO'
  | .rangeFunc _ _ _ _, st, K, h, g, a, w, hO, Q, hQ => by
    unfold exec at h
    obtain ⟨⟨x, st'⟩, hp, hk⟩ := h.path
    exact (execT_ok (rd := none) (fun _ _ h => by cases h) fuelX).1 _ st x st' hp g a w hO Q (fun g' a' w' hO' => hQ x st' g' a' w' hk hO')
  | .scope _, st, K, h, g, a, w, hO, Q, hQ => by unfold exec at h; exact h.elim
  | .label _, st, K, h, g, a, w, hO, Q, hQ => by unfold exec at h; exact h.elim
  | .goto _, st, K, h, g, a, w, hO, Q, hQ => by unfold exec at h; exact h.elim
  | .refuse _, st, K, h, g, a, w, hO, Q, hQ => by unfold exec at h; exact h.elim

end


end Go.DF
