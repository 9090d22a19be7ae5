import Derived.Test.YtnoccknoaihjlaaF8b
set_option linter.unusedVariables false
set_option linter.unusedSimpArgs false
set_option linter.unnecessarySimpa false
/- The engine, part 8c: a call of a function that has a contract with memory. -/
namespace Go.DF
universe u v
set_option linter.unusedSimpArgs false
set_option linter.unusedVariables false
variable [Fam]

theorem fitH_look {hp : Hp} {nx nx' : Nat} : ∀ {l : Hp} {i : Nat} {e : Bool × DO}, look (fitH hp nx nx' l) i = some e → look l i = some e ∧ ((∃ e', look hp i = some e') ∨ (nx ≤ i ∧ i < nx'))
  | [], i, e, h => by simp [fitH, look] at h
  | (j, x) :: r, i, e, h => by
    unfold fitH at h
    have fall : look (fitH hp nx nx' r) i = some e → j ≠ i → look ((j, x) :: r) i = some e ∧ ((∃ e', look hp i = some e') ∨ (nx ≤ i ∧ i < nx')) := fun h hn => by
      rw [look_cons, if_neg hn]; exact fitH_look h
    split at h
    · rename_i y hy
      rw [look_cons] at h
      split at h
      · rename_i he; subst he; rw [look_cons, if_pos rfl]; exact ⟨h, .inl ⟨y, hy⟩⟩
      · rename_i he; exact fall h he
    · rename_i h1 h2 h3
      rw [look_cons] at h
      split at h
      · rename_i he; subst he; rw [look_cons, if_pos rfl]; exact ⟨h, .inr ⟨Nat.le_of_ble_eq_true h2, Nat.le_of_ble_eq_true h3⟩⟩
      · rename_i he; exact fall h he
    · rename_i h1 h2
      obtain ⟨k1, k2⟩ := fitH_look h
      by_cases he : j = i
      · exfalso
        subst he
        rcases k2 with ⟨y, hy⟩ | ⟨q1, q2⟩
        · exact h1 _ hy
        · cases hl : look hp j with
          | some y => exact h1 _ hl
          | none => exact h2 hl (Nat.ble_eq_true_of_le q1) (Nat.ble_eq_true_of_le q2)
      · rw [look_cons, if_neg he]; exact ⟨k1, k2⟩

theorem outOk_ok : ∀ {l : Hp} {n i : Nat} {z : Bool} {o : DO}, outOk n l = true → look l i = some (z, o) → i < n → z = false
  | [], n, i, z, o, _, h, _ => by simp [look] at h
  | (j, (z', o')) :: r, n, i, z, o, hw, h, hi => by
    unfold outOk at hw
    rw [look_cons] at h
    split at hw
    · simp at hw
    · rename_i hn
      split at h
      · rename_i he
        subst he
        have h := Option.some.inj h
        simp only [Prod.mk.injEq] at h
        obtain ⟨e1, _⟩ := h
        rw [← e1]
        exact Bool.eq_false_iff.2 fun hz => hn (Nat.ble_eq_true_of_le hi) hz
      · exact outOk_ok hw h hi

open Classical in
/-- What the numbers stand for behind a call. -/
noncomputable def G.aft (g g2 : G) (σ : Sg) (hp : Hp) (n nx nx' : Nat) : G :=
  ⟨fun i => if nx ≤ i ∧ i < nx' then g2.ρ (n + (i - nx)) else g.ρ i, g2.pr, fun i => if nx ≤ i ∧ i < nx' then g2.base (n + (i - nx)) else g.base i,
   fun i => if nx ≤ i ∧ i < nx' then g2.sub (n + (i - nx)) else if h : ∃ i0, i0 < n ∧ look σ i0 = some i ∧ ∃ e, look hp i = some e then g2.sub h.choose else g.sub i⟩

theorem callC_ok {P : Program} {c : CanC P} {args : List DV} {hp hp' : Hp} {nx nx' : Nat} {d : DV} {g : G} {w : World} {vs : List Value}
    (h : (callC c args hp nx).Path (d, hp', nx')) (hR : Rel g hp w) (hfr : ∀ i, nx ≤ i → i < nx' → g.ρ i = none) (hnb : nx' ≤ noBlock → ∀ i, noBlock ≤ i → g.ρ i = none) (ha : RepL g w args vs) :
    Calls P c.f vs.toArray w fun e w' => ∃ v g', e = .returned v ∧ Post g w hp nx g' w' hp' nx' ∧ Rep g' w' d v := by
  unfold callC at h
  split at h
  · exact h.elim
  rename_i x hinf
  split at h
  · exact h.elim
  rename_i σ1 ps1 h1
  split at h
  · exact h.elim
  rename_i σ qs h2
  split at h
  case h_2 => exact h.elim
  rename_i hk htg hlt
  obtain ⟨hps, h⟩ := T.path_obs h
  obtain ⟨r, hr, h⟩ := T.path_bind h
  split at h
  case h_2 => exact h.elim
  rename_i d1 hh hd hrh hout hnn hnbk
  have hnn := Nat.le_of_ble_eq_true hnn
  have hnbk := Nat.le_of_ble_eq_true hnbk
  have h : (d, hp', nx') = _ := h
  simp only [Prod.mk.injEq] at h
  obtain ⟨rfl, rfl, rfl⟩ := h
  have hnb := hnb hnbk
  obtain ⟨hin, hinj, hcall⟩ := can_core c (x := x) (hps _ (by simp)) hR ha h1 h2 hk (fun q hq => hps q (by simp [hq])) (fun q hq => hps q (by simp [hq])) (fun _ j _ h _ => hnb j h) hr
  refine hcall.mono ?_
  rintro e w' ⟨v, g2, rfl, hR2, hr2, hE2, hK2, hf2, hown2, hpr2, hsm2⟩
  have hR2 := hR2
  let nx' := nx + (r.2.2 - c.n)
  let g' := g.aft g2 σ hp c.n nx nx'
  have hltx : ∀ j e, look hp j = some e → j < nx := fun j e he => hpLt_ok hlt he
  have hout' : ∀ i, i < nx ∨ nx' ≤ i → g'.ρ i = g.ρ i ∧ g'.base i = g.base i := by
    intro i hi
    have : ¬ (nx ≤ i ∧ i < nx') := by omega
    exact ⟨by simp only [g', G.aft, if_neg this], by simp only [g', G.aft, if_neg this]⟩
  have hρ : ∀ i b, g.ρ i = some b → i < nx ∨ nx' ≤ i := by
    intro i b hb
    rcases Nat.lt_or_ge i nx with h | h
    · exact .inl h
    · rcases Nat.lt_or_ge i nx' with h' | h'
      · rw [hfr i h h'] at hb; simp at hb
      · exact .inr h'
  have hin' : ∀ i, nx ≤ i → i < nx' → g'.ρ i = g2.ρ (c.n + (i - nx)) ∧ g'.base i = g2.base (c.n + (i - nx)) ∧ g'.sub i = g2.sub (c.n + (i - nx)) := by
    intro i h1 h2
    have : nx ≤ i ∧ i < nx' := ⟨h1, h2⟩
    exact ⟨by simp only [g', G.aft, if_pos this], by simp only [g', G.aft, if_pos this], by simp only [g', G.aft, if_pos this]⟩
  have hsubT : ∀ i0 i e, i0 < c.n → look σ i0 = some i → look hp i = some e → g'.sub i = g2.sub i0 := by
    intro i0 i e h0 h1 h2
    have hn : ¬ (nx ≤ i ∧ i < nx') := fun h => by have := hltx i e h2; omega
    have hx : ∃ i0, i0 < c.n ∧ look σ i0 = some i ∧ ∃ e, look hp i = some e := ⟨i0, h0, h1, e, h2⟩
    have he := hx.choose_spec
    have : hx.choose = i0 := hinj _ _ _ he.2.1 h1
    simp only [g', G.aft, if_neg hn, dif_pos hx, this]
  have hsubO : ∀ i, (i < nx ∨ nx' ≤ i) → (∀ i0, look σ i0 = some i → look hp i = none) → g'.sub i = g.sub i := by
    intro i hi hno
    have hn : ¬ (nx ≤ i ∧ i < nx') := by omega
    have hx : ¬ ∃ i0, i0 < c.n ∧ look σ i0 = some i ∧ ∃ e, look hp i = some e := by
      rintro ⟨i0, _, k1, e, k2⟩
      rw [hno i0 k1] at k2; simp at k2
    simp only [g', G.aft, if_neg hn, dif_neg hx]
  have hblt : ∀ i, Nat.blt i c.n = true ↔ i < c.n := fun i => ⟨fun h => Nat.le_of_ble_eq_true h, fun h => Nat.ble_eq_true_of_le h⟩
  have hge : ∀ {i i'}, rnF σ c.n nx i = some i' → (i < c.n ∧ look σ i = some i') ∨ (c.n ≤ i ∧ i' = nx + (i - c.n)) := by
    intro i i' hi
    unfold rnF at hi
    split at hi
    · rename_i h; exact .inl ⟨(hblt i).1 h, hi⟩
    · rename_i h
      refine .inr ⟨?_, (Option.some.inj hi).symm⟩
      rcases Nat.lt_or_ge i c.n with h' | h'
      · rw [(hblt i).2 h'] at h; simp at h
      · exact h'
  have htx : ∀ {i0 i}, look σ i0 = some i → i < nx ∨ nx' ≤ i := by
    intro i0 i h
    rcases tgtsIn_ok htg h with ⟨o, ho⟩ | h
    · exact .inl (hltx _ _ ho)
    · exact .inr (Nat.le_trans hnbk h)
  have hfwd : ∀ i i' b, rnF σ c.n nx i = some i' → g2.ρ i = some b → g'.ρ i' = some b ∧ g'.base i' = g2.base i := by
    intro i i' b hi hb
    rcases hge hi with ⟨hlt', hl⟩ | ⟨hge', rfl⟩
    · have h0 := hsm2 i hlt'
      rw [hb] at h0
      have hb' : g.ρ i' = some b := by
        have h0 := h0.symm
        simpa [ren, hl] using h0
      obtain ⟨e1, e2⟩ := hout' i' (htx hl)
      have hbase := hE2.base i b h0.symm
      exact ⟨e1.trans hb', by rw [e2, hbase]; simp [ren, hl]⟩
    · have hlt2 : i < r.2.2 := by
        rcases Nat.lt_or_ge i r.2.2 with h | h
        · exact h
        · rw [hf2 i h] at hb; simp at hb
      obtain ⟨e1, e2, _⟩ := hin' (nx + (i - c.n)) (by omega) (by show _ < nx + (r.2.2 - c.n); omega)
      have e3 : c.n + (nx + (i - c.n) - nx) = i := by omega
      exact ⟨by rw [e1, e3]; exact hb, by rw [e2, e3]⟩
  have hE : Ext g w g' w' := by
    refine ⟨fun i b hb => ?_, hE2.pr, hE2.at', fun i b hb => ?_, hE2.shape⟩
    · exact (hout' i (hρ i b hb)).1.trans hb
    · exact (hout' i (hρ i b hb)).2
  have hmine : ∀ b, Mine (ren g σ) (c.hp x) b → ∃ j o, look hp j = some (false, o) ∧ tgtW σ hp j = true ∧ (g.ρ j = some b ∨ ∃ k, subOf o k ∧ g.sub j k = some b) := by
    rintro b ⟨i, o, hl, hb⟩
    obtain ⟨j, hj, hx⟩ := hin i false o hl
    rcases hx with ⟨o', ho', hro', _, hs, _⟩ | ⟨k1, k2, k3, k4, k5⟩
    · refine ⟨j, o', ho', tgtW_ok.2 ⟨isTgt_of hj, o', ho'⟩, ?_⟩
      rcases hb with hb | ⟨k, hk, hb⟩
      · exact .inl (by simpa [ren, hj] using hb)
      · exact .inr ⟨k, hs k hk, by simpa [ren, hj] using hb⟩
    · rcases hb with hb | ⟨k, hk, hb⟩
      · simp [ren, hj, hnb j k1] at hb
      · exact (k5 k hk).elim
  have hold : ∀ j z o b, look hp j = some (z, o) → tgtW σ hp j = false → g.ρ j = some b → b < w.heap.size ∧ ¬ Mine (ren g σ) (c.hp x) b := by
    intro j z o b hj ht hb
    obtain ⟨b', hb', r', hz⟩ : ∃ b, g.ρ j = some b ∧ ORep g w j o b (g.base j) ∧ (g.pr b ↔ z = true) := by
      rcases hR.obj j z o hj with ⟨b, x1, x2, x3⟩ | ⟨_, x2⟩
      · exact ⟨b, x1, x2, x3⟩
      · rw [hb] at x2; simp at x2
    rw [hb] at hb'; obtain rfl := Option.some.inj hb'
    refine ⟨r'.lt, fun hm => ?_⟩
    obtain ⟨j', o', ho', ht', hb'⟩ := hmine b hm
    rcases hb' with hb' | ⟨k, hk, hb'⟩
    · cases z with
      | false =>
        have := hR.inj j j' o o' b hj ho' hb hb'
        subst this
        rw [ht] at ht'; simp at ht'
      | true =>
        rcases hR.obj j' false o' ho' with ⟨b2, x1, _, x3⟩ | ⟨_, x2⟩
        · rw [hb'] at x1; obtain rfl := Option.some.inj x1
          exact absurd (x3.1 (hz.2 rfl)) (by simp)
        · rw [hb'] at x2; simp at x2
    · obtain ⟨_, q2, q3, _⟩ := hR.sub j' false o' k b ho' hk hb'
      cases z with
      | false => exact q3 j o hj hb
      | true => exact q2 (hz.2 rfl)
  have holdS : ∀ j z o k b, look hp j = some (z, o) → tgtW σ hp j = false → subOf o k → g.sub j k = some b → b < w.heap.size ∧ ¬ Mine (ren g σ) (c.hp x) b := by
    intro j z o k b hj ht hk hb
    obtain ⟨q1, q2, q3, q4⟩ := hR.sub j z o k b hj hk hb
    refine ⟨q1, fun hm => ?_⟩
    obtain ⟨j', o', ho', ht', hb'⟩ := hmine b hm
    rcases hb' with hb' | ⟨k', hk', hb'⟩
    · exact q3 j' o' ho' hb'
    · obtain ⟨e1, _⟩ := q4 j' false o' k' ho' hk' hb'
      subst e1
      rw [ht] at ht'; simp at ht'
  have hfno : ∀ i i', rnF σ c.n nx i = some i' → ((∃ e', look hp i' = some e') ∨ nx ≤ i' ∧ i' < nx') → g2.ρ i = none → g'.ρ i' = none := by
    intro i i' hi hfit hb
    rcases hge hi with ⟨hlt', hl⟩ | ⟨hge', rfl⟩
    · have h0 := hsm2 i hlt'
      rw [hb] at h0
      have hb' : g.ρ i' = none := by
        have h0 := h0.symm
        simpa [ren, hl] using h0
      exact (hout' i' (htx hl)).1.trans hb'
    · rcases hfit with ⟨e', he'⟩ | ⟨q1, q2⟩
      · have := hltx _ _ he'; omega
      · rw [(hin' _ q1 q2).1]
        have e3 : c.n + (nx + (i - c.n) - nx) = i := by omega
        rw [e3]; exact hb
  have hfsub : ∀ i i', rnF σ c.n nx i = some i' → ((∃ e', look hp i' = some e') ∨ nx ≤ i' ∧ i' < nx') → g'.sub i' = g2.sub i := by
    intro i i' hi hfit
    rcases hge hi with ⟨hlt', hl⟩ | ⟨hge', rfl⟩
    · rcases hfit with ⟨e', he'⟩ | ⟨q1, q2⟩
      · exact hsubT i i' e' hlt' hl he'
      · rcases htx hl with h | h <;> omega
    · rcases hfit with ⟨e', he'⟩ | ⟨q1, q2⟩
      · have := hltx _ _ he'; omega
      · rw [(hin' _ q1 q2).2.2]
        have e3 : c.n + (nx + (i - c.n) - nx) = i := by omega
        rw [e3]
  have hnew : ∀ i z o, look (fitH hp nx nx' hh ++ dropT σ hp hp) i = some (z, o) → (∃ i0 o0, look r.2.1 i0 = some (z, o0) ∧ rnF σ c.n nx i0 = some i ∧ rnO (rnF σ c.n nx) o0 = some o ∧ ((∃ e', look hp i = some e') ∨ nx ≤ i ∧ i < nx') ∧
        g'.sub i = g2.sub i0 ∧ (∀ b, g'.ρ i = some b → g2.ρ i0 = some b)) ∨ (look hp i = some (z, o) ∧ tgtW σ hp i = false ∧ g'.ρ i = g.ρ i ∧ g'.base i = g.base i ∧ ∀ k, subOf o k → g'.sub i = g.sub i) := by
    intro i z o hi
    rw [look_append] at hi
    split at hi
    · rename_i e1 he1
      obtain rfl := Option.some.inj hi
      obtain ⟨k0, kf⟩ := fitH_look he1
      obtain ⟨i0, o0, k1, k2, k3⟩ := rnH_look hrh k0
      refine .inl ⟨i0, o0, k1, k2, k3, kf, hfsub _ _ k2 kf, fun b hb => ?_⟩
      cases hg : g2.ρ i0 with
      | none => rw [hfno _ _ k2 kf hg] at hb; simp at hb
      | some b2 => rw [(hfwd _ _ _ k2 hg).1] at hb; exact hb
    · rw [dropT_look] at hi
      split at hi
      · simp at hi
      · rename_i ht
        have ht : tgtW σ hp i = false := by simpa using ht
        have hx := hltx _ _ hi
        refine .inr ⟨hi, ht, (hout' i (.inl hx)).1, (hout' i (.inl hx)).2, fun k hk => hsubO i (.inl hx) fun i0 h0 => ?_⟩
        exfalso
        have hz : z = false := hR.rws i z o hi (by cases o <;> simp [subOf] at hk <;> rfl)
        subst hz
        rw [tgtW_ok.2 ⟨isTgt_of h0, o, hi⟩] at ht
        simp at ht
  have hA : ∀ {i0 o0 b}, look r.2.1 i0 = some (false, o0) → g2.ρ i0 = some b → ¬ (b < w.heap.size ∧ ¬ Mine (ren g σ) (c.hp x) b) := by
    rintro i0 o0 b h1 h2 ⟨h3, h4⟩
    rcases hown2 b ⟨i0, o0, h1, .inl h2⟩ with h | h
    · exact h4 h
    · omega
  have hAs : ∀ {i0 z o0 k b}, look r.2.1 i0 = some (z, o0) → subOf o0 k → g2.sub i0 k = some b → ¬ (b < w.heap.size ∧ ¬ Mine (ren g σ) (c.hp x) b) := by
    rintro i0 z o0 k b h1 hk h2 ⟨h3, h4⟩
    have hz : z = false := hR2.rws i0 z o0 h1 (by cases o0 <;> simp [subOf] at hk <;> rfl)
    subst hz
    rcases hown2 b ⟨i0, o0, h1, .inr ⟨k, hk, h2⟩⟩ with h | h
    · exact h4 h
    · omega
  have hmr : ∀ b, Mine (ren g σ) (c.hp x) b → Mine g hp b := fun b hb => Mine.ren (fun _ j _ h _ => hnb j h) hin hb
  refine ⟨v, g', rfl, ⟨⟨?_, ?_, ?_, ?_, hR2.prl⟩, hE, ⟨hK2.os, hK2.tape, hK2.output, hK2.size, fun b hb hm => hK2.kept b hb (fun hm' => hm (hmr b hm'))⟩, ?_, ?_, fun i hi => (hout' i hi).1, ?_, ?_, by omega⟩, rnD_ok hfwd _ _ _ hd rfl hr2⟩
  · intro i z o hi
    rcases hnew i z o hi with ⟨i0, o0, k1, k2, k3, kf, ks, _⟩ | ⟨k1, kt, kρ, kb, ks⟩
    · rcases hR2.obj i0 z o0 k1 with ⟨b2, hb2, r2, p2⟩ | ⟨hn, hb2⟩
      · obtain ⟨f1, f2⟩ := hfwd _ _ _ k2 hb2
        exact .inl ⟨b2, f1, by rw [f2]; exact rnO_ok hfwd rfl ks k3 r2, p2⟩
      · exact .inr ⟨(rnO_kind k3).2.1 hn, hfno _ _ k2 kf hb2⟩
    · rcases hR.obj i z o k1 with ⟨b2, hb2, r2, p2⟩ | ⟨hn, hb2⟩
      · obtain ⟨q1, q2⟩ := hold i z o b2 k1 kt hb2
        refine .inl ⟨b2, kρ.trans hb2, ?_, ?_⟩
        · rw [kb]
          refine ORep.ext hE (hK2.kept b2 q1 q2) (fun k hk => ⟨by rw [ks k hk], fun c' hc' => ?_⟩) r2
          obtain ⟨s1, s2⟩ := holdS i z o k c' k1 kt hk hc'
          exact hK2.kept c' s1 s2
        · refine ⟨fun hp => ?_, fun hz => hE.pr _ (p2.2 hz)⟩
          rcases hpr2 b2 hp with h | h | h
          · exact p2.1 h
          · exact (q2 h).elim
          · omega
      · exact .inr ⟨hn, kρ.trans hb2⟩
  · intro i z o hi hro
    rcases hnew i z o hi with ⟨i0, o0, k1, k2, k3, kf, ks, _⟩ | ⟨k1, _⟩
    · exact hR2.rws i0 z o0 k1 (by rw [← (rnO_kind k3).1]; exact hro)
    · exact hR.rws i z o k1 hro
  · intro i j oi oj b hi hj hbi hbj
    rcases hnew i _ oi hi with ⟨i0, o0, k1, k2, k3, kf, ks, kb⟩ | ⟨k1, kt, kρ, kb, ks⟩
    · have hb1 := kb b hbi
      rcases hnew j _ oj hj with ⟨j0, q0, l1, l2, l3, lf, ls, lb⟩ | ⟨l1, lt, lρ, lb, ls⟩
      · have := hR2.inj i0 j0 o0 q0 b k1 l1 hb1 (lb b hbj)
        subst this
        rw [k2] at l2; exact Option.some.inj l2
      · exact (hA k1 hb1 (hold j _ _ b l1 lt (lρ ▸ hbj))).elim
    · rcases hnew j _ oj hj with ⟨j0, q0, l1, l2, l3, lf, ls, lb⟩ | ⟨l1, lt, lρ, lb, ls⟩
      · exact (hA l1 (lb b hbj) (hold i _ _ b k1 kt (kρ ▸ hbi))).elim
      · exact hR.inj i j oi oj b k1 l1 (kρ ▸ hbi) (lρ ▸ hbj)
  · intro i z o k b hi hk hb
    rcases hnew i z o hi with ⟨i0, o0, k1, k2, k3, kf, ks, kb⟩ | ⟨k1, kt, kρ, kb, ks⟩
    · have hk0 := ((rnO_kind k3).2.2 k).1 hk
      rw [ks] at hb
      obtain ⟨q1, q2, q3, q4⟩ := hR2.sub i0 z o0 k b k1 hk0 hb
      refine ⟨q1, q2, fun j oj hj hbj => ?_, fun j z' oj k' hj hk' hb' => ?_⟩
      · rcases hnew j _ oj hj with ⟨j0, p0, l1, l2, l3, lf, ls, lb⟩ | ⟨l1, lt, lρ, lb, ls⟩
        · exact q3 j0 p0 l1 (lb b hbj)
        · exact hAs k1 hk0 hb (hold j _ _ b l1 lt (lρ ▸ hbj))
      · rcases hnew j _ oj hj with ⟨j0, p0, l1, l2, l3, lf, ls, lb⟩ | ⟨l1, lt, lρ, lb, ls⟩
        · rw [ls] at hb'
          obtain ⟨e1, e2⟩ := q4 j0 z' p0 k' l1 (((rnO_kind l3).2.2 k').1 hk') hb'
          subst e1
          rw [k2] at l2; exact ⟨Option.some.inj l2, e2⟩
        · rw [ls k' hk'] at hb'
          exact (hAs k1 hk0 hb (holdS j _ _ k' b l1 lt hk' hb')).elim
    · rw [ks k hk] at hb
      obtain ⟨q1, q2, q3, q4⟩ := hR.sub i z o k b k1 hk hb
      have hh' := holdS i z o k b k1 kt hk hb
      refine ⟨Nat.lt_of_lt_of_le q1 hK2.size, fun hp => ?_, fun j oj hj hbj => ?_, fun j z' oj k' hj hk' hb' => ?_⟩
      · rcases hpr2 b hp with h | h | h
        · exact q2 h
        · exact hh'.2 h
        · omega
      · rcases hnew j _ oj hj with ⟨j0, p0, l1, l2, l3, lf, ls, lb⟩ | ⟨l1, lt, lρ, lb, ls⟩
        · exact hA l1 (lb b hbj) hh'
        · exact q3 j oj l1 (lρ ▸ hbj)
      · rcases hnew j _ oj hj with ⟨j0, p0, l1, l2, l3, lf, ls, lb⟩ | ⟨l1, lt, lρ, lb, ls⟩
        · rw [ls] at hb'
          exact (hAs l1 (((rnO_kind l3).2.2 k').1 hk') hb' hh').elim
        · rw [ls k' hk'] at hb'
          exact q4 j z' oj k' l1 hk' hb'
  · rintro b ⟨i, o, hi, hb⟩
    rcases hnew i _ o hi with ⟨i0, o0, k1, k2, k3, kf, ks, kb⟩ | ⟨k1, kt, kρ, kb, ks⟩
    · have : Mine g2 r.2.1 b := ⟨i0, o0, k1, by
        rcases hb with hb | ⟨k, hk, hb⟩
        · exact .inl (kb b hb)
        · exact .inr ⟨k, ((rnO_kind k3).2.2 k).1 hk, by rw [← ks]; exact hb⟩⟩
      rcases hown2 b this with h | h
      · exact .inl (hmr b h)
      · exact .inr h
    · refine .inl ⟨i, o, k1, ?_⟩
      rcases hb with hb | ⟨k, hk, hb⟩
      · exact .inl (kρ ▸ hb)
      · exact .inr ⟨k, hk, by rw [← ks k hk]; exact hb⟩
  · intro b hb
    rcases hpr2 b hb with h | h | h
    · exact .inl h
    · exact .inr (.inl (hmr b h))
    · exact .inr (.inr h)
  · rintro i ⟨z, o⟩ he
    rcases hnew i z o he with ⟨i0, o0, k1, k2, k3, kf, _⟩ | ⟨k1, _⟩
    · exact kf
    · exact .inl ⟨_, k1⟩
  · intro i hi hx k
    rw [hsubO i hx fun i0 h0 => hi]
end Go.DF
