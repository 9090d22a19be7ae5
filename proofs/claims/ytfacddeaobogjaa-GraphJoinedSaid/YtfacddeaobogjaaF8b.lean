import Derived.Test.YtfacddeaobogjaaF8
set_option linter.unusedVariables false
set_option linter.unusedSimpArgs false
set_option linter.unnecessarySimpa false
/- The engine, part 8b: what a contract with memory gives at a call. -/
namespace Go.DF
universe u v
set_option linter.unusedSimpArgs false
set_option linter.unusedVariables false
variable [Fam]

omit [Fam] in
theorem T.Holds.at {α : Type u} {t : T α} {Q : α → Prop} {a : α} (h : t.Holds Q) (p : t.Path a) : Q a := by
  induction t with
  | fail => exact h.elim
  | leaf b => obtain rfl : a = b := p; exact h
  | br b t e iht ihe =>
    rcases p with ⟨hb, p⟩ | ⟨hb, p⟩
    · exact iht (h.1 hb) p
    · exact ihe (h.2 hb) p
  | ob q dd t ih => exact ih h.2 p.2

theorem hpLt_ok : ∀ {l : Hp} {n i : Nat} {o : Bool × DO}, hpLt n l = true → look l i = some o → i < n
  | [], n, i, o, _, h => by simp [look] at h
  | (j, x) :: l, n, i, o, hn, h => by
    unfold hpLt at hn
    rw [look_cons] at h
    split at hn
    · rename_i hx
      split at h
      · rename_i he; subst he; exact Nat.le_of_ble_eq_true hx
      · exact hpLt_ok hn h
    · simp at hn
omit [Fam] in
theorem isTgt_of : ∀ {σ : Sg} {i j : Nat}, look σ i = some j → isTgt σ j = true
  | [], i, j, h => by simp [look] at h
  | (a, b) :: r, i, j, h => by
    rw [look_cons] at h
    unfold isTgt
    split at h
    · obtain rfl := Option.some.inj h
      simp [Nat.beq_refl]
    · have := isTgt_of h
      split
      · rfl
      · exact this
theorem tgtW_ok {σ : Sg} {hp : Hp} {i : Nat} : tgtW σ hp i = true ↔ isTgt σ i = true ∧ ∃ o, look hp i = some (false, o) := by
  unfold tgtW
  cases h1 : isTgt σ i with
  | false => simp
  | true =>
    cases h2 : look hp i with
    | none => simp
    | some zo => obtain ⟨z, o⟩ := zo; cases z <;> simp
theorem dropT_look {σ : Sg} {hp0 : Hp} : ∀ (l : Hp) (i : Nat), look (dropT σ hp0 l) i = if tgtW σ hp0 i = true then none else look l i
  | [], i => by simp [dropT, look]
  | (j, e) :: l, i => by
    have ih := dropT_look (σ := σ) (hp0 := hp0) l i
    unfold dropT
    cases hj : tgtW σ hp0 j with
    | true =>
      dsimp only
      rw [ih, look_cons]
      split
      · rfl
      · rename_i hne
        rw [if_neg]
        intro e; subst e; exact hne hj
    | false =>
      dsimp only
      rw [look_cons, look_cons, ih]
      by_cases he : j = i
      · subst he
        rw [if_pos rfl, if_pos rfl, if_neg (by rw [hj]; simp)]
      · rw [if_neg he, if_neg he]

mutual
theorem rnD_ok {f : Nat → Option Nat} {g g' : G} {w : World} (hf : ∀ i i' b, f i = some i' → g.ρ i = some b → g'.ρ i' = some b ∧ g'.base i' = g.base i) : ∀ (d d' : DV) (v : Value), rnD f d = some d' → g'.pr = g.pr → Rep g w d v → Rep g' w d' v
  | .bool b, d', v, h, _, r => by unfold rnD at h; obtain rfl := Option.some.inj h; simpa only [Rep] using r
  | .int k n, d', v, h, _, r => by unfold rnD at h; obtain rfl := Option.some.inj h; simpa only [Rep] using r
  | .str s, d', v, h, _, r => by unfold rnD at h; obtain rfl := Option.some.inj h; simpa only [Rep] using r
  | .nilptr, d', v, h, _, r => by unfold rnD at h; obtain rfl := Option.some.inj h; simpa only [Rep] using r
  | .nilslice, d', v, h, _, r => by unfold rnD at h; obtain rfl := Option.some.inj h; simpa only [Rep] using r
  | .nilmap, d', v, h, _, r => by unfold rnD at h; obtain rfl := Option.some.inj h; simpa only [Rep] using r
  | .nilfunc, d', v, h, _, r => by unfold rnD at h; obtain rfl := Option.some.inj h; simpa only [Rep] using r
  | .nilif, d', v, h, _, r => by unfold rnD at h; obtain rfl := Option.some.inj h; simpa only [Rep] using r
  | .any, d', v, h, _, r => by unfold rnD at h; obtain rfl := Option.some.inj h; simp only [Rep]
  | .per c a, d', v, h, hp, r => by
    unfold rnD at h
    obtain rfl := Option.some.inj h
    simp only [Rep] at r ⊢; rw [hp]; exact r
  | .nn c a, d', v, h, hp, r => by
    unfold rnD at h
    obtain rfl := Option.some.inj h
    simp only [Rep] at r ⊢; rw [hp]; exact r
  | .pel c a o, d', v, h, hp, r => by
    unfold rnD at h
    obtain rfl := Option.some.inj h
    simp only [Rep] at r ⊢; rw [hp]; exact r
  | .ptr p, d', v, h, _, r => by
    unfold rnD at h
    split at h
    · rename_i i hi
      obtain rfl := Option.some.inj h
      simp only [Rep] at r ⊢
      obtain ⟨b, hb, rfl⟩ := r
      obtain ⟨f1, f2⟩ := hf _ _ _ hi hb
      exact ⟨b, f1, by simp only [G.off, f2]; rfl⟩
    · simp at h
  | .slice p n, d', v, h, _, r => by
    unfold rnD at h
    split at h
    · rename_i i hi
      obtain rfl := Option.some.inj h
      simp only [Rep] at r ⊢
      rcases r with r | ⟨b, o, c, hb, hc, r1, ho, k⟩
      · exact .inl r
      · obtain ⟨f1, f2⟩ := hf _ _ _ hi hb
        exact .inr ⟨b, o, c, f1, hc, r1, by simp only [G.off, f2] at ho ⊢; exact ho, k⟩
    · simp at h
  | .map i, d', v, h, _, r => by
    unfold rnD at h
    split at h
    · rename_i i' hi
      obtain rfl := Option.some.inj h
      simp only [Rep] at r ⊢
      obtain ⟨b, hb, rfl⟩ := r
      exact ⟨b, (hf _ _ _ hi hb).1, rfl⟩
    · simp at h
  | .yld i, d', v, h, _, r => by
    unfold rnD at h
    split at h
    · rename_i i' hi
      obtain rfl := Option.some.inj h
      simp only [Rep] at r ⊢
      obtain ⟨b, hb, rfl⟩ := r
      exact ⟨b, (hf _ _ _ hi hb).1, rfl⟩
    · simp at h
  | .func fn cap, d', v, h, hp, r => by
    unfold rnD at h
    split at h
    · rename_i c hc
      obtain rfl := Option.some.inj h
      simp only [Rep] at r ⊢
      obtain ⟨vs, rfl, r⟩ := r
      exact ⟨vs, rfl, rnL_ok hf _ _ _ hc hp r⟩
    · simp at h
  | .agg cs, d', v, h, hp, r => by
    unfold rnD at h
    split at h
    · rename_i c hc
      obtain rfl := Option.some.inj h
      simp only [Rep] at r ⊢
      obtain ⟨vs, rfl, r, r1⟩ := r
      exact ⟨vs, rfl, rnL_ok hf _ _ _ hc hp r, r1⟩
    · simp at h
  | .tup cs, d', v, h, hp, r => by
    unfold rnD at h
    split at h
    · rename_i c hc
      obtain rfl := Option.some.inj h
      simp only [Rep] at r ⊢
      obtain ⟨vs, rfl, r⟩ := r
      exact ⟨vs, rfl, rnL_ok hf _ _ _ hc hp r⟩
    · simp at h
theorem rnL_ok {f : Nat → Option Nat} {g g' : G} {w : World} (hf : ∀ i i' b, f i = some i' → g.ρ i = some b → g'.ρ i' = some b ∧ g'.base i' = g.base i) : ∀ (ds ds' : List DV) (vs : List Value), rnL f ds = some ds' → g'.pr = g.pr → RepL g w ds vs → RepL g' w ds' vs
  | [], ds', vs, h, _, r => by unfold rnL at h; obtain rfl := Option.some.inj h; simpa only [RepL] using r
  | d :: ds, ds', vs, h, hp, r => by
    unfold rnL at h
    split at h
    · rename_i d1 ds1 h1 h2
      obtain rfl := Option.some.inj h
      simp only [RepL] at r ⊢
      obtain ⟨v, us, rfl, r1, r2⟩ := r
      exact ⟨v, us, rfl, rnD_ok hf d d1 v h1 hp r1, rnL_ok hf ds ds1 us h2 hp r2⟩
    · simp at h
end

theorem rnM_ok {f : Nat → Option Nat} {g g' : G} {w : World} (hf : ∀ i i' b, f i = some i' → g.ρ i = some b → g'.ρ i' = some b ∧ g'.base i' = g.base i) (hp : g'.pr = g.pr) : ∀ (es es' : List (DV × DV)) (ks vs : List Value), rnM f es = some es' →
    RepL g w (es.map (·.1)) ks → RepL g w (es.map (·.2)) vs → RepL g' w (es'.map (·.1)) ks ∧ RepL g' w (es'.map (·.2)) vs
  | [], es', ks, vs, h, r1, r2 => by unfold rnM at h; obtain rfl := Option.some.inj h; exact ⟨by simpa [RepL] using r1, by simpa [RepL] using r2⟩
  | (a, b) :: es, es', ks, vs, h, r1, r2 => by
    unfold rnM at h
    split at h
    · rename_i a1 b1 es1 h1 h2 h3
      obtain rfl := Option.some.inj h
      simp only [List.map_cons, RepL] at r1 r2 ⊢
      obtain ⟨k, ks, rfl, r1, r1'⟩ := r1
      obtain ⟨v, vs, rfl, r2, r2'⟩ := r2
      obtain ⟨x, y⟩ := rnM_ok hf hp es es1 ks vs h3 r1' r2'
      exact ⟨⟨k, ks, rfl, rnD_ok hf _ _ _ h1 hp r1, x⟩, v, vs, rfl, rnD_ok hf _ _ _ h2 hp r2, y⟩
    · simp at h

theorem rnO_ok {f : Nat → Option Nat} {g g' : G} {w : World} (hf : ∀ i i' b, f i = some i' → g.ρ i = some b → g'.ρ i' = some b ∧ g'.base i' = g.base i) (hp : g'.pr = g.pr) {o o' : DO} {i i' b ba : Nat} (hs : g'.sub i' = g.sub i) (h : rnO f o = some o') (r : ORep g w i o b ba) : ORep g' w i' o' b ba := by
  unfold rnO at h
  split at h
  · split at h
    · rename_i cs' hc
      obtain rfl := Option.some.inj h
      obtain ⟨r0, vs, r1, r2, r3⟩ := r
      exact ⟨r0, vs, r1, rnL_ok hf _ _ _ hc hp r2, r3⟩
    · simp at h
  · obtain rfl := Option.some.inj h
    obtain ⟨vs, r1, r2⟩ := r
    exact ⟨vs, r1, by rw [hp]; exact r2⟩
  · obtain rfl := Option.some.inj h
    obtain ⟨r0, vs, r1, r2, r3, r4⟩ := r
    refine ⟨r0, vs, r1, r2, r3, fun k l hk => ?_⟩
    obtain ⟨v, k1, k2, _⟩ := r4 k l hk
    exact ⟨v, k1, fun hh => by rw [hp, hs]; exact k2 hh, fun _ _ _ h => by simp at h⟩
  · simp at h
  · split at h
    · rename_i es' he
      obtain rfl := Option.some.inj h
      obtain ⟨ms, ck, r1, r0, r2, r3⟩ := r
      obtain ⟨x, y⟩ := rnM_ok hf hp _ _ _ _ he r2 r3
      exact ⟨ms, ck, r1, r0, x, y⟩
    · simp at h
  · obtain rfl := Option.some.inj h
    obtain ⟨ms, ck, r1, r2⟩ := r
    exact ⟨ms, ck, r1, by rw [hp]; exact r2⟩
  · simp at h
theorem rnO_kind {f : Nat → Option Nat} {o o' : DO} (h : rnO f o = some o') : isRows o' = isRows o ∧ (noneO o → noneO o') ∧ ∀ k, subOf o' k ↔ subOf o k := by
  unfold rnO at h
  split at h
  · split at h
    · obtain rfl := Option.some.inj h; exact ⟨rfl, fun h => h, fun k => Iff.rfl⟩
    · simp at h
  · obtain rfl := Option.some.inj h; exact ⟨rfl, fun h => h, fun k => Iff.rfl⟩
  · obtain rfl := Option.some.inj h; exact ⟨rfl, fun h => h, fun k => Iff.rfl⟩
  · simp at h
  · split at h
    · obtain rfl := Option.some.inj h; exact ⟨rfl, fun h => h, fun k => Iff.rfl⟩
    · simp at h
  · obtain rfl := Option.some.inj h; exact ⟨rfl, fun h => h, fun k => Iff.rfl⟩
  · simp at h
theorem rnH_look {f : Nat → Option Nat} : ∀ {l h : Hp} {i' : Nat} {z : Bool} {o' : DO}, rnH f l = some h → look h i' = some (z, o') → ∃ i o, look l i = some (z, o) ∧ f i = some i' ∧ rnO f o = some o'
  | [], h, i', z, o', hr, hl => by unfold rnH at hr; obtain rfl := Option.some.inj hr; simp [look] at hl
  | (i0, (z0, o0)) :: l, h, i', z, o', hr, hl => by
    unfold rnH at hr
    split at hr
    · rename_i j0 o1 l1 h1 h2 h3
      obtain rfl := Option.some.inj hr
      rw [look_cons] at hl
      split at hl
      · rename_i he
        subst he
        have hl := Option.some.inj hl
        simp only [Prod.mk.injEq] at hl
        obtain ⟨rfl, rfl⟩ := hl
        exact ⟨i0, o0, by rw [look_cons, if_pos rfl], h1, h2⟩
      · rename_i he
        obtain ⟨i, o, k1, k2, k3⟩ := rnH_look h3 hl
        refine ⟨i, o, ?_, k2, k3⟩
        rw [look_cons, if_neg]
        · exact k1
        · intro e; subst e; rw [h1] at k2; exact he (Option.some.inj k2)
    · simp at hr
theorem tgtsIn_ok {hp : Hp} : ∀ {σ : Sg} {i j : Nat}, tgtsIn hp σ = true → look σ i = some j → (∃ o, look hp j = some o) ∨ noBlock ≤ j
  | [], i, j, _, h => by simp [look] at h
  | (a, b) :: r, i, j, hw, h => by
    unfold tgtsIn at hw
    rw [look_cons] at h
    split at hw
    · rename_i o ho
      split at h
      · obtain rfl := Option.some.inj h; exact .inl ⟨o, ho⟩
      · exact tgtsIn_ok hw h
    · split at hw
      · rename_i hb
        split at h
        · obtain rfl := Option.some.inj h; exact .inr (Nat.le_of_ble_eq_true hb)
        · exact tgtsIn_ok hw h
      · simp at hw

omit [Fam] in
theorem look_append {α : Type u} {l r : List (Nat × α)} {i : Nat} : look (l ++ r) i = match look l i with | some x => some x | none => look r i := by
  induction l with
  | nil => rfl
  | cons p l ih =>
    obtain ⟨j, x⟩ := p
    rw [List.cons_append, look_cons, look_cons, ih]
    by_cases h : j = i
    · simp [h]
    · simp [h]


/-- What 'subS' says, apart from worlds. -/
theorem subS_core {n0 : Nat} {s' s : St} {k : Prop} (h : subS n0 s' s k) : ∃ hp1 σ, (ghosts (plan n0 s' s) s'.hp).Path hp1 ∧ s'.nx ≤ noBlock ∧ SubS (idS n0) σ ∧ InjS σ ∧ (∀ i, s.nx ≤ i → look σ i = none) ∧ k ∧
    (∀ t d, look s.fr t = some d → ∃ d', look s'.fr t = some d' ∧ ∀ g w v, Rel g hp1 w → Rep g w d' v → Rep (ren g σ) w d v) ∧
    (∀ i z o, look s.hp i = some (z, o) → ∃ j, look σ i = some j ∧ HpAt hp1 σ i j z o) := by
  obtain ⟨hp1, hp, h⟩ := h.path
  split at h
  · rename_i σ1 ps h1
    split at h
    · rename_i σ qs h2
      split at h
      · rename_i hk
        split at h
        case h_2 => exact h.elim
        rename_i hnb
        obtain ⟨hq, hk'⟩ : (∀ q ∈ ps ++ qs, q) ∧ k := ⟨allP_ok h.1, h.2⟩
        obtain ⟨a1, a2, a3⟩ := uniF_ok _ _ _ _ h1
        obtain ⟨b1, b2, b3⟩ := uniH_ok _ _ _ _ h2
        exact ⟨hp1, σ, hp, Nat.le_of_ble_eq_true hnb, a1.trans b1, b2 (a2 (idS_inj n0)), keysLt_ok hk, hk', a3 (fun q hq' => hq q (List.mem_append.2 (.inl hq'))) σ b1, b3 (fun q hq' => hq q (List.mem_append.2 (.inr hq'))) σ (SubS.refl _)⟩
      · exact h.elim
    · exact h.elim
  · exact h.elim

theorem Rel.ren {g : G} {hp' hp : Hp} {w : World} {σ : Sg} (hR : Rel g hp' w) (hinj : InjS σ) (hnb : ∀ i j, look σ i = some j → noBlock ≤ j → look hp' j = none → g.ρ j = none)
    (hH : ∀ i z o, look hp i = some (z, o) → ∃ j, look σ i = some j ∧ HpAt hp' σ i j z o) : Rel (ren g σ) hp w := by
  have main : ∀ {i z o b}, look hp i = some (z, o) → (DF.ren g σ).ρ i = some b → ∃ j o', look σ i = some j ∧ look hp' j = some (z, o') ∧ g.ρ j = some b ∧ (∀ k, subOf o k → subOf o' k) := by
    intro i z o b hi hb
    obtain ⟨j, hj, hx⟩ := hH i z o hi
    simp only [DF.ren, hj, Option.bind_some] at hb
    rcases hx with ⟨o', ho', _, _, hs, _⟩ | ⟨h1, h2, _⟩
    · exact ⟨j, o', hj, ho', hb, hs⟩
    · rw [hnb i j hj h1 h2] at hb; simp at hb
  have rows : ∀ {i z o k b}, look hp i = some (z, o) → subOf o k → (DF.ren g σ).sub i k = some b → ∃ j o', look σ i = some j ∧ look hp' j = some (z, o') ∧ subOf o' k ∧ g.sub j k = some b := by
    intro i z o k b hi hk hb
    obtain ⟨j, hj, hx⟩ := hH i z o hi
    rcases hx with ⟨o', ho', _, _, hs, _⟩ | ⟨h1, h2, _, _, h5⟩
    · exact ⟨j, o', hj, ho', hs k hk, by simpa [DF.ren, hj] using hb⟩
    · exact (h5 k hk).elim
  refine ⟨?_, fun i z o hi hr => ?_, ?_, ?_, hR.prl⟩
  · intro i z o hi
    obtain ⟨j, hj, ⟨o', ho', _, hno, _, hr⟩ | ⟨h1, h2, h3, h4, _⟩⟩ := hH i z o hi
    · rcases hR.obj j z o' ho' with ⟨b, hb, r, hp⟩ | ⟨hn, hb⟩
      · refine .inl ⟨b, by simp [DF.ren, hj, hb], ?_, hp⟩
        have := hr g w b _ hR r
        simpa [DF.ren, hj] using this
      · exact .inr ⟨hno hn, by simp [DF.ren, hj, hb]⟩
    · exact .inr ⟨h3, by simp [DF.ren, hj, hnb i j hj h1 h2]⟩
  · obtain ⟨j, hj, ⟨o', ho', hro, _⟩ | ⟨_, _, _, h4, _⟩⟩ := hH i z o hi
    · exact hR.rws j z o' ho' (by rw [← hro]; exact hr)
    · rw [h4] at hr; simp at hr
  · intro i i' oi oi' b hi hi' hb hb'
    obtain ⟨j, o', hj, ho', k1, _⟩ := main hi hb
    obtain ⟨j', o'', hj', ho'', k2, _⟩ := main hi' hb'
    have := hR.inj j j' o' o'' b ho' ho'' k1 k2
    subst this
    exact hinj i i' j hj hj'
  · intro i z o k b hi hk hb
    obtain ⟨j, o', hj, ho', hk', hb'⟩ := rows hi hk hb
    obtain ⟨a1, a2, a3, a4⟩ := hR.sub j z o' k b ho' hk' hb'
    refine ⟨a1, a2, fun i2 o2 hi2 hb2 => ?_, fun i2 z2 o2 k2 hi2 hk2 hb2 => ?_⟩
    · obtain ⟨j2, o2', hj2, ho2', q1, _⟩ := main hi2 hb2
      exact a3 j2 o2' ho2' q1
    · obtain ⟨j2, o2', hj2, ho2', q1, q2⟩ := rows hi2 hk2 hb2
      obtain ⟨e1, e2⟩ := a4 j2 z2 o2' k2 ho2' q1 q2
      subst e1
      exact ⟨hinj i i2 j hj hj2, e2⟩

/-- Blocks of the new form are blocks of the old one. -/
theorem Mine.ren {g : G} {hp' hp : Hp} {σ : Sg} {b : Nat} (hnb : ∀ i j, look σ i = some j → noBlock ≤ j → look hp' j = none → g.ρ j = none) (hH : ∀ i z o, look hp i = some (z, o) → ∃ j, look σ i = some j ∧ HpAt hp' σ i j z o) (h : Mine (ren g σ) hp b) : Mine g hp' b := by
  obtain ⟨i, o, hi, hb⟩ := h
  obtain ⟨j, hj, hx⟩ := hH i false o hi
  rcases hx with ⟨o', ho', _, _, hs, _⟩ | ⟨h1, h2, _, _, h5⟩
  · refine ⟨j, o', ho', ?_⟩
    rcases hb with hb | ⟨k, hk, hb⟩
    · exact .inl (by simpa [DF.ren, hj] using hb)
    · exact .inr ⟨k, hs k hk, by simpa [DF.ren, hj] using hb⟩
  · rcases hb with hb | ⟨k, hk, _⟩
    · simp [DF.ren, hj, hnb i j hj h1 h2] at hb
    · exact (h5 k hk).elim

/-- What a contract says, in the caller's own numbers. -/
theorem can_core {P : Program} (c : CanC P) {x : c.α} (hx : c.pre x) {g : G} {hp : Hp} {w : World} (hR : Rel g hp w) {args : List DV} {vs : List Value} (ha : RepL g w args vs)
    {σ1 σ : Sg} {ps qs : List Prop} (h1 : uniL hp [] args (c.args x) = some (σ1, ps)) (h2 : uniH hp σ1 (c.hp x) = some (σ, qs)) (hk : keysLt c.n σ = true) (hps : ∀ q ∈ ps, q) (hqs : ∀ q ∈ qs, q) (hnb : ∀ i j, look σ i = some j → noBlock ≤ j → look hp j = none → g.ρ j = none)
    {r : DV × Hp × Nat} (hr : (c.out x).Path r) :
    (∀ i z o, look (c.hp x) i = some (z, o) → ∃ j, look σ i = some j ∧ HpAt hp σ i j z o) ∧ InjS σ ∧
    Calls P c.f vs.toArray w fun e w' => ∃ v g2, e = .returned v ∧ Rel g2 r.2.1 w' ∧ Rep g2 w' r.1 v ∧ Ext (ren g σ) w g2 w' ∧ Kept (Mine (ren g σ) (c.hp x)) w w' ∧ (∀ i, r.2.2 ≤ i → g2.ρ i = none) ∧
      (∀ b, Mine g2 r.2.1 b → Mine (ren g σ) (c.hp x) b ∨ w.heap.size ≤ b) ∧ (∀ b, g2.pr b → g.pr b ∨ Mine (ren g σ) (c.hp x) b ∨ w.heap.size ≤ b) ∧ (∀ i, i < c.n → g2.ρ i = (ren g σ).ρ i) := by
  obtain ⟨a1, a2, a3⟩ := uniL_ok _ _ _ _ _ h1
  obtain ⟨b1, b2, b3⟩ := uniH_ok _ _ _ _ h2
  have hinj : InjS σ := b2 (a2 (fun i i' j h => by simp [look] at h))
  have hH := b3 hqs σ (SubS.refl _)
  have hRc : Rel (ren g σ) (c.hp x) w := hR.ren hinj hnb hH
  have hac : RepL (ren g σ) w (c.args x) vs := a3 hps σ b1 g w vs hR ha
  have hfc : ∀ i, c.n ≤ i → (ren g σ).ρ i = none := fun i hi => by simp [ren, keysLt_ok hk i hi]
  refine ⟨hH, hinj, (c.ok x hx _ w vs hRc hfc hac).mono ?_⟩
  rintro e w' ⟨v, d1, st1, g0, rfl, hsub, hR0, hr0, hE0, hK0, hf0, hown0, hpr0, hsm0⟩
  obtain ⟨hp1, τ, hgh, tnb, t1, t2, t3, _, t4, t5⟩ := subS_core (hsub.at hr)
  obtain ⟨g1, hP⟩ := ghosts_ok (nx := st1.nx) _ _ _ _ hgh hR0
  have hf1 : ∀ i, st1.nx ≤ i → g1.ρ i = none := fun i hi => by rw [hP.out i (.inr hi)]; exact hf0 i hi
  have hnb1 : ∀ i, noBlock ≤ i → g1.ρ i = none := fun i hi => hf1 i (Nat.le_trans tnb hi)
  have hid : ∀ i, i < c.n → look τ i = some i := fun i hi => t1 _ _ (idS_ok c.n i hi)
  have hE1 := hE0.trans hP.ext
  have hsm1 : ∀ i, i < c.n → g1.ρ i = (ren g σ).ρ i := by
    intro i hi
    rw [← hsm0 i hi]
    by_cases hlt : i < st1.nx
    · exact hP.out i (.inl hlt)
    · exact hP.out i (.inr (by omega))
  have hmine1 : ∀ b, Mine g1 hp1 b → Mine (ren g σ) (c.hp x) b ∨ w.heap.size ≤ b := by
    intro b hb
    rcases hP.mine b hb with h | h
    · exact hown0 b h
    · exact .inr (Nat.le_trans hK0.size h)
  have hltn : ∀ i b, (ren g σ).ρ i = some b → i < c.n := by
    intro i b hb
    rcases Nat.lt_or_ge i c.n with h | h
    · exact h
    · rw [hfc i h] at hb; simp at hb
  refine ⟨v, ren g1 τ, rfl, hP.rel.ren t2 (fun _ j _ h _ => hnb1 j h) t5, ?_, ⟨?_, hE1.pr, hE1.at', ?_, hE1.shape⟩, hK0, ?_, fun b hb => hmine1 b (Mine.ren (fun _ j _ h _ => hnb1 j h) t5 hb), fun b hb => ?_, fun i hi => by simp only [ren, hid i hi, Option.bind_some]; exact hsm1 i hi⟩
  · obtain ⟨d', hd', hr'⟩ := t4 0 r.1 (by simp [look])
    have : d' = d1 := by simpa [look] using hd'.symm
    subst this
    exact hr' _ _ _ hP.rel (Rep.ext hP.ext _ _ hr0)
  · intro i b hb
    simp [ren, hid i (hltn i b hb), hE1.rho i b hb]
  · intro i b hb
    have := hE1.base i b hb
    simpa [ren, hid i (hltn i b hb)] using this
  · intro i hi
    simp [ren, t3 i hi]
  · have hb : g1.pr b := hb
    rcases hP.prg b hb with h | h | h
    · exact hpr0 b h
    · exact .inr (hown0 b h)
    · exact .inr (.inr (Nat.le_trans hK0.size h))
end Go.DF

/- The engine, part 8c: a call of a function that has a contract with memory. -/
namespace Go.DF
universe u v
set_option linter.unusedSimpArgs false
set_option linter.unusedVariables false
variable [Fam]

theorem fitH_look {hp : Hp} {nx nx' : Nat} : ∀ {l : Hp} {i : Nat} {e : Bool × DO}, look (fitH hp nx nx' l) i = some e → look l i = some e ∧ ((∃ e', look hp i = some e') ∨ (nx ≤ i ∧ i < nx'))
  | [], i, e, h => by simp [fitH, look] at h
  | (j, x) :: r, i, e, h => by
    unfold fitH at h
    have fall : look (fitH hp nx nx' r) i = some e → j ≠ i → look ((j, x) :: r) i = some e ∧ ((∃ e', look hp i = some e') ∨ (nx ≤ i ∧ i < nx')) := fun h hn => by
      rw [look_cons, if_neg hn]; exact fitH_look h
    split at h
    · rename_i y hy
      rw [look_cons] at h
      split at h
      · rename_i he; subst he; rw [look_cons, if_pos rfl]; exact ⟨h, .inl ⟨y, hy⟩⟩
      · rename_i he; exact fall h he
    · rename_i h1 h2 h3
      rw [look_cons] at h
      split at h
      · rename_i he; subst he; rw [look_cons, if_pos rfl]; exact ⟨h, .inr ⟨Nat.le_of_ble_eq_true h2, Nat.le_of_ble_eq_true h3⟩⟩
      · rename_i he; exact fall h he
    · rename_i h1 h2
      obtain ⟨k1, k2⟩ := fitH_look h
      by_cases he : j = i
      · exfalso
        subst he
        rcases k2 with ⟨y, hy⟩ | ⟨q1, q2⟩
        · exact h1 _ hy
        · cases hl : look hp j with
          | some y => exact h1 _ hl
          | none => exact h2 hl (Nat.ble_eq_true_of_le q1) (Nat.ble_eq_true_of_le q2)
      · rw [look_cons, if_neg he]; exact ⟨k1, k2⟩

theorem outOk_ok : ∀ {l : Hp} {n i : Nat} {z : Bool} {o : DO}, outOk n l = true → look l i = some (z, o) → i < n → z = false
  | [], n, i, z, o, _, h, _ => by simp [look] at h
  | (j, (z', o')) :: r, n, i, z, o, hw, h, hi => by
    unfold outOk at hw
    rw [look_cons] at h
    split at hw
    · simp at hw
    · rename_i hn
      split at h
      · rename_i he
        subst he
        have h := Option.some.inj h
        simp only [Prod.mk.injEq] at h
        obtain ⟨e1, _⟩ := h
        rw [← e1]
        exact Bool.eq_false_iff.2 fun hz => hn (Nat.ble_eq_true_of_le hi) hz
      · exact outOk_ok hw h hi

open Classical in
/-- What the numbers stand for behind a call. -/
noncomputable def G.aft (g g2 : G) (σ : Sg) (hp : Hp) (n nx nx' : Nat) : G :=
  ⟨fun i => if nx ≤ i ∧ i < nx' then g2.ρ (n + (i - nx)) else g.ρ i, g2.pr, fun i => if nx ≤ i ∧ i < nx' then g2.base (n + (i - nx)) else g.base i,
   fun i => if nx ≤ i ∧ i < nx' then g2.sub (n + (i - nx)) else if h : ∃ i0, i0 < n ∧ look σ i0 = some i ∧ ∃ e, look hp i = some e then g2.sub h.choose else g.sub i⟩

theorem callC_ok {P : Program} {c : CanC P} {args : List DV} {hp hp' : Hp} {nx nx' : Nat} {d : DV} {g : G} {w : World} {vs : List Value}
    (h : (callC c args hp nx).Path (d, hp', nx')) (hR : Rel g hp w) (hfr : ∀ i, nx ≤ i → i < nx' → g.ρ i = none) (hnb : nx' ≤ noBlock → ∀ i, noBlock ≤ i → g.ρ i = none) (ha : RepL g w args vs) :
    Calls P c.f vs.toArray w fun e w' => ∃ v g', e = .returned v ∧ Post g w hp nx g' w' hp' nx' ∧ Rep g' w' d v := by
  unfold callC at h
  split at h
  · exact h.elim
  rename_i x hinf
  split at h
  · exact h.elim
  rename_i σ1 ps1 h1
  split at h
  · exact h.elim
  rename_i σ qs h2
  split at h
  case h_2 => exact h.elim
  rename_i hk htg hlt
  obtain ⟨hps, h⟩ := T.path_obs h
  obtain ⟨r, hr, h⟩ := T.path_bind h
  split at h
  case h_2 => exact h.elim
  rename_i d1 hh hd hrh hout hnn hnbk
  have hnn := Nat.le_of_ble_eq_true hnn
  have hnbk := Nat.le_of_ble_eq_true hnbk
  have h : (d, hp', nx') = _ := h
  simp only [Prod.mk.injEq] at h
  obtain ⟨rfl, rfl, rfl⟩ := h
  have hnb := hnb hnbk
  obtain ⟨hin, hinj, hcall⟩ := can_core c (x := x) (hps _ (by simp)) hR ha h1 h2 hk (fun q hq => hps q (by simp [hq])) (fun q hq => hps q (by simp [hq])) (fun _ j _ h _ => hnb j h) hr
  refine hcall.mono ?_
  rintro e w' ⟨v, g2, rfl, hR2, hr2, hE2, hK2, hf2, hown2, hpr2, hsm2⟩
  have hR2 := hR2
  let nx' := nx + (r.2.2 - c.n)
  let g' := g.aft g2 σ hp c.n nx nx'
  have hltx : ∀ j e, look hp j = some e → j < nx := fun j e he => hpLt_ok hlt he
  have hout' : ∀ i, i < nx ∨ nx' ≤ i → g'.ρ i = g.ρ i ∧ g'.base i = g.base i := by
    intro i hi
    have : ¬ (nx ≤ i ∧ i < nx') := by omega
    exact ⟨by simp only [g', G.aft, if_neg this], by simp only [g', G.aft, if_neg this]⟩
  have hρ : ∀ i b, g.ρ i = some b → i < nx ∨ nx' ≤ i := by
    intro i b hb
    rcases Nat.lt_or_ge i nx with h | h
    · exact .inl h
    · rcases Nat.lt_or_ge i nx' with h' | h'
      · rw [hfr i h h'] at hb; simp at hb
      · exact .inr h'
  have hin' : ∀ i, nx ≤ i → i < nx' → g'.ρ i = g2.ρ (c.n + (i - nx)) ∧ g'.base i = g2.base (c.n + (i - nx)) ∧ g'.sub i = g2.sub (c.n + (i - nx)) := by
    intro i h1 h2
    have : nx ≤ i ∧ i < nx' := ⟨h1, h2⟩
    exact ⟨by simp only [g', G.aft, if_pos this], by simp only [g', G.aft, if_pos this], by simp only [g', G.aft, if_pos this]⟩
  have hsubT : ∀ i0 i e, i0 < c.n → look σ i0 = some i → look hp i = some e → g'.sub i = g2.sub i0 := by
    intro i0 i e h0 h1 h2
    have hn : ¬ (nx ≤ i ∧ i < nx') := fun h => by have := hltx i e h2; omega
    have hx : ∃ i0, i0 < c.n ∧ look σ i0 = some i ∧ ∃ e, look hp i = some e := ⟨i0, h0, h1, e, h2⟩
    have he := hx.choose_spec
    have : hx.choose = i0 := hinj _ _ _ he.2.1 h1
    simp only [g', G.aft, if_neg hn, dif_pos hx, this]
  have hsubO : ∀ i, (i < nx ∨ nx' ≤ i) → (∀ i0, look σ i0 = some i → look hp i = none) → g'.sub i = g.sub i := by
    intro i hi hno
    have hn : ¬ (nx ≤ i ∧ i < nx') := by omega
    have hx : ¬ ∃ i0, i0 < c.n ∧ look σ i0 = some i ∧ ∃ e, look hp i = some e := by
      rintro ⟨i0, _, k1, e, k2⟩
      rw [hno i0 k1] at k2; simp at k2
    simp only [g', G.aft, if_neg hn, dif_neg hx]
  have hblt : ∀ i, Nat.blt i c.n = true ↔ i < c.n := fun i => ⟨fun h => Nat.le_of_ble_eq_true h, fun h => Nat.ble_eq_true_of_le h⟩
  have hge : ∀ {i i'}, rnF σ c.n nx i = some i' → (i < c.n ∧ look σ i = some i') ∨ (c.n ≤ i ∧ i' = nx + (i - c.n)) := by
    intro i i' hi
    unfold rnF at hi
    split at hi
    · rename_i h; exact .inl ⟨(hblt i).1 h, hi⟩
    · rename_i h
      refine .inr ⟨?_, (Option.some.inj hi).symm⟩
      rcases Nat.lt_or_ge i c.n with h' | h'
      · rw [(hblt i).2 h'] at h; simp at h
      · exact h'
  have htx : ∀ {i0 i}, look σ i0 = some i → i < nx ∨ nx' ≤ i := by
    intro i0 i h
    rcases tgtsIn_ok htg h with ⟨o, ho⟩ | h
    · exact .inl (hltx _ _ ho)
    · exact .inr (Nat.le_trans hnbk h)
  have hfwd : ∀ i i' b, rnF σ c.n nx i = some i' → g2.ρ i = some b → g'.ρ i' = some b ∧ g'.base i' = g2.base i := by
    intro i i' b hi hb
    rcases hge hi with ⟨hlt', hl⟩ | ⟨hge', rfl⟩
    · have h0 := hsm2 i hlt'
      rw [hb] at h0
      have hb' : g.ρ i' = some b := by
        have h0 := h0.symm
        simpa [ren, hl] using h0
      obtain ⟨e1, e2⟩ := hout' i' (htx hl)
      have hbase := hE2.base i b h0.symm
      exact ⟨e1.trans hb', by rw [e2, hbase]; simp [ren, hl]⟩
    · have hlt2 : i < r.2.2 := by
        rcases Nat.lt_or_ge i r.2.2 with h | h
        · exact h
        · rw [hf2 i h] at hb; simp at hb
      obtain ⟨e1, e2, _⟩ := hin' (nx + (i - c.n)) (by omega) (by show _ < nx + (r.2.2 - c.n); omega)
      have e3 : c.n + (nx + (i - c.n) - nx) = i := by omega
      exact ⟨by rw [e1, e3]; exact hb, by rw [e2, e3]⟩
  have hE : Ext g w g' w' := by
    refine ⟨fun i b hb => ?_, hE2.pr, hE2.at', fun i b hb => ?_, hE2.shape⟩
    · exact (hout' i (hρ i b hb)).1.trans hb
    · exact (hout' i (hρ i b hb)).2
  have hmine : ∀ b, Mine (ren g σ) (c.hp x) b → ∃ j o, look hp j = some (false, o) ∧ tgtW σ hp j = true ∧ (g.ρ j = some b ∨ ∃ k, subOf o k ∧ g.sub j k = some b) := by
    rintro b ⟨i, o, hl, hb⟩
    obtain ⟨j, hj, hx⟩ := hin i false o hl
    rcases hx with ⟨o', ho', hro', _, hs, _⟩ | ⟨k1, k2, k3, k4, k5⟩
    · refine ⟨j, o', ho', tgtW_ok.2 ⟨isTgt_of hj, o', ho'⟩, ?_⟩
      rcases hb with hb | ⟨k, hk, hb⟩
      · exact .inl (by simpa [ren, hj] using hb)
      · exact .inr ⟨k, hs k hk, by simpa [ren, hj] using hb⟩
    · rcases hb with hb | ⟨k, hk, hb⟩
      · simp [ren, hj, hnb j k1] at hb
      · exact (k5 k hk).elim
  have hold : ∀ j z o b, look hp j = some (z, o) → tgtW σ hp j = false → g.ρ j = some b → b < w.heap.size ∧ ¬ Mine (ren g σ) (c.hp x) b := by
    intro j z o b hj ht hb
    obtain ⟨b', hb', r', hz⟩ : ∃ b, g.ρ j = some b ∧ ORep g w j o b (g.base j) ∧ (g.pr b ↔ z = true) := by
      rcases hR.obj j z o hj with ⟨b, x1, x2, x3⟩ | ⟨_, x2⟩
      · exact ⟨b, x1, x2, x3⟩
      · rw [hb] at x2; simp at x2
    rw [hb] at hb'; obtain rfl := Option.some.inj hb'
    refine ⟨r'.lt, fun hm => ?_⟩
    obtain ⟨j', o', ho', ht', hb'⟩ := hmine b hm
    rcases hb' with hb' | ⟨k, hk, hb'⟩
    · cases z with
      | false =>
        have := hR.inj j j' o o' b hj ho' hb hb'
        subst this
        rw [ht] at ht'; simp at ht'
      | true =>
        rcases hR.obj j' false o' ho' with ⟨b2, x1, _, x3⟩ | ⟨_, x2⟩
        · rw [hb'] at x1; obtain rfl := Option.some.inj x1
          exact absurd (x3.1 (hz.2 rfl)) (by simp)
        · rw [hb'] at x2; simp at x2
    · obtain ⟨_, q2, q3, _⟩ := hR.sub j' false o' k b ho' hk hb'
      cases z with
      | false => exact q3 j o hj hb
      | true => exact q2 (hz.2 rfl)
  have holdS : ∀ j z o k b, look hp j = some (z, o) → tgtW σ hp j = false → subOf o k → g.sub j k = some b → b < w.heap.size ∧ ¬ Mine (ren g σ) (c.hp x) b := by
    intro j z o k b hj ht hk hb
    obtain ⟨q1, q2, q3, q4⟩ := hR.sub j z o k b hj hk hb
    refine ⟨q1, fun hm => ?_⟩
    obtain ⟨j', o', ho', ht', hb'⟩ := hmine b hm
    rcases hb' with hb' | ⟨k', hk', hb'⟩
    · exact q3 j' o' ho' hb'
    · obtain ⟨e1, _⟩ := q4 j' false o' k' ho' hk' hb'
      subst e1
      rw [ht] at ht'; simp at ht'
  have hfno : ∀ i i', rnF σ c.n nx i = some i' → ((∃ e', look hp i' = some e') ∨ nx ≤ i' ∧ i' < nx') → g2.ρ i = none → g'.ρ i' = none := by
    intro i i' hi hfit hb
    rcases hge hi with ⟨hlt', hl⟩ | ⟨hge', rfl⟩
    · have h0 := hsm2 i hlt'
      rw [hb] at h0
      have hb' : g.ρ i' = none := by
        have h0 := h0.symm
        simpa [ren, hl] using h0
      exact (hout' i' (htx hl)).1.trans hb'
    · rcases hfit with ⟨e', he'⟩ | ⟨q1, q2⟩
      · have := hltx _ _ he'; omega
      · rw [(hin' _ q1 q2).1]
        have e3 : c.n + (nx + (i - c.n) - nx) = i := by omega
        rw [e3]; exact hb
  have hfsub : ∀ i i', rnF σ c.n nx i = some i' → ((∃ e', look hp i' = some e') ∨ nx ≤ i' ∧ i' < nx') → g'.sub i' = g2.sub i := by
    intro i i' hi hfit
    rcases hge hi with ⟨hlt', hl⟩ | ⟨hge', rfl⟩
    · rcases hfit with ⟨e', he'⟩ | ⟨q1, q2⟩
      · exact hsubT i i' e' hlt' hl he'
      · rcases htx hl with h | h <;> omega
    · rcases hfit with ⟨e', he'⟩ | ⟨q1, q2⟩
      · have := hltx _ _ he'; omega
      · rw [(hin' _ q1 q2).2.2]
        have e3 : c.n + (nx + (i - c.n) - nx) = i := by omega
        rw [e3]
  have hnew : ∀ i z o, look (fitH hp nx nx' hh ++ dropT σ hp hp) i = some (z, o) → (∃ i0 o0, look r.2.1 i0 = some (z, o0) ∧ rnF σ c.n nx i0 = some i ∧ rnO (rnF σ c.n nx) o0 = some o ∧ ((∃ e', look hp i = some e') ∨ nx ≤ i ∧ i < nx') ∧
        g'.sub i = g2.sub i0 ∧ (∀ b, g'.ρ i = some b → g2.ρ i0 = some b)) ∨ (look hp i = some (z, o) ∧ tgtW σ hp i = false ∧ g'.ρ i = g.ρ i ∧ g'.base i = g.base i ∧ ∀ k, subOf o k → g'.sub i = g.sub i) := by
    intro i z o hi
    rw [look_append] at hi
    split at hi
    · rename_i e1 he1
      obtain rfl := Option.some.inj hi
      obtain ⟨k0, kf⟩ := fitH_look he1
      obtain ⟨i0, o0, k1, k2, k3⟩ := rnH_look hrh k0
      refine .inl ⟨i0, o0, k1, k2, k3, kf, hfsub _ _ k2 kf, fun b hb => ?_⟩
      cases hg : g2.ρ i0 with
      | none => rw [hfno _ _ k2 kf hg] at hb; simp at hb
      | some b2 => rw [(hfwd _ _ _ k2 hg).1] at hb; exact hb
    · rw [dropT_look] at hi
      split at hi
      · simp at hi
      · rename_i ht
        have ht : tgtW σ hp i = false := by simpa using ht
        have hx := hltx _ _ hi
        refine .inr ⟨hi, ht, (hout' i (.inl hx)).1, (hout' i (.inl hx)).2, fun k hk => hsubO i (.inl hx) fun i0 h0 => ?_⟩
        exfalso
        have hz : z = false := hR.rws i z o hi (by cases o <;> simp [subOf] at hk <;> rfl)
        subst hz
        rw [tgtW_ok.2 ⟨isTgt_of h0, o, hi⟩] at ht
        simp at ht
  have hA : ∀ {i0 o0 b}, look r.2.1 i0 = some (false, o0) → g2.ρ i0 = some b → ¬ (b < w.heap.size ∧ ¬ Mine (ren g σ) (c.hp x) b) := by
    rintro i0 o0 b h1 h2 ⟨h3, h4⟩
    rcases hown2 b ⟨i0, o0, h1, .inl h2⟩ with h | h
    · exact h4 h
    · omega
  have hAs : ∀ {i0 z o0 k b}, look r.2.1 i0 = some (z, o0) → subOf o0 k → g2.sub i0 k = some b → ¬ (b < w.heap.size ∧ ¬ Mine (ren g σ) (c.hp x) b) := by
    rintro i0 z o0 k b h1 hk h2 ⟨h3, h4⟩
    have hz : z = false := hR2.rws i0 z o0 h1 (by cases o0 <;> simp [subOf] at hk <;> rfl)
    subst hz
    rcases hown2 b ⟨i0, o0, h1, .inr ⟨k, hk, h2⟩⟩ with h | h
    · exact h4 h
    · omega
  have hmr : ∀ b, Mine (ren g σ) (c.hp x) b → Mine g hp b := fun b hb => Mine.ren (fun _ j _ h _ => hnb j h) hin hb
  refine ⟨v, g', rfl, ⟨⟨?_, ?_, ?_, ?_, hR2.prl⟩, hE, ⟨hK2.os, hK2.tape, hK2.output, hK2.size, fun b hb hm => hK2.kept b hb (fun hm' => hm (hmr b hm'))⟩, ?_, ?_, fun i hi => (hout' i hi).1, ?_, ?_, by omega⟩, rnD_ok hfwd _ _ _ hd rfl hr2⟩
  · intro i z o hi
    rcases hnew i z o hi with ⟨i0, o0, k1, k2, k3, kf, ks, _⟩ | ⟨k1, kt, kρ, kb, ks⟩
    · rcases hR2.obj i0 z o0 k1 with ⟨b2, hb2, r2, p2⟩ | ⟨hn, hb2⟩
      · obtain ⟨f1, f2⟩ := hfwd _ _ _ k2 hb2
        exact .inl ⟨b2, f1, by rw [f2]; exact rnO_ok hfwd rfl ks k3 r2, p2⟩
      · exact .inr ⟨(rnO_kind k3).2.1 hn, hfno _ _ k2 kf hb2⟩
    · rcases hR.obj i z o k1 with ⟨b2, hb2, r2, p2⟩ | ⟨hn, hb2⟩
      · obtain ⟨q1, q2⟩ := hold i z o b2 k1 kt hb2
        refine .inl ⟨b2, kρ.trans hb2, ?_, ?_⟩
        · rw [kb]
          refine ORep.ext hE (hK2.kept b2 q1 q2) (fun k hk => ⟨by rw [ks k hk], fun c' hc' => ?_⟩) r2
          obtain ⟨s1, s2⟩ := holdS i z o k c' k1 kt hk hc'
          exact hK2.kept c' s1 s2
        · refine ⟨fun hp => ?_, fun hz => hE.pr _ (p2.2 hz)⟩
          rcases hpr2 b2 hp with h | h | h
          · exact p2.1 h
          · exact (q2 h).elim
          · omega
      · exact .inr ⟨hn, kρ.trans hb2⟩
  · intro i z o hi hro
    rcases hnew i z o hi with ⟨i0, o0, k1, k2, k3, kf, ks, _⟩ | ⟨k1, _⟩
    · exact hR2.rws i0 z o0 k1 (by rw [← (rnO_kind k3).1]; exact hro)
    · exact hR.rws i z o k1 hro
  · intro i j oi oj b hi hj hbi hbj
    rcases hnew i _ oi hi with ⟨i0, o0, k1, k2, k3, kf, ks, kb⟩ | ⟨k1, kt, kρ, kb, ks⟩
    · have hb1 := kb b hbi
      rcases hnew j _ oj hj with ⟨j0, q0, l1, l2, l3, lf, ls, lb⟩ | ⟨l1, lt, lρ, lb, ls⟩
      · have := hR2.inj i0 j0 o0 q0 b k1 l1 hb1 (lb b hbj)
        subst this
        rw [k2] at l2; exact Option.some.inj l2
      · exact (hA k1 hb1 (hold j _ _ b l1 lt (lρ ▸ hbj))).elim
    · rcases hnew j _ oj hj with ⟨j0, q0, l1, l2, l3, lf, ls, lb⟩ | ⟨l1, lt, lρ, lb, ls⟩
      · exact (hA l1 (lb b hbj) (hold i _ _ b k1 kt (kρ ▸ hbi))).elim
      · exact hR.inj i j oi oj b k1 l1 (kρ ▸ hbi) (lρ ▸ hbj)
  · intro i z o k b hi hk hb
    rcases hnew i z o hi with ⟨i0, o0, k1, k2, k3, kf, ks, kb⟩ | ⟨k1, kt, kρ, kb, ks⟩
    · have hk0 := ((rnO_kind k3).2.2 k).1 hk
      rw [ks] at hb
      obtain ⟨q1, q2, q3, q4⟩ := hR2.sub i0 z o0 k b k1 hk0 hb
      refine ⟨q1, q2, fun j oj hj hbj => ?_, fun j z' oj k' hj hk' hb' => ?_⟩
      · rcases hnew j _ oj hj with ⟨j0, p0, l1, l2, l3, lf, ls, lb⟩ | ⟨l1, lt, lρ, lb, ls⟩
        · exact q3 j0 p0 l1 (lb b hbj)
        · exact hAs k1 hk0 hb (hold j _ _ b l1 lt (lρ ▸ hbj))
      · rcases hnew j _ oj hj with ⟨j0, p0, l1, l2, l3, lf, ls, lb⟩ | ⟨l1, lt, lρ, lb, ls⟩
        · rw [ls] at hb'
          obtain ⟨e1, e2⟩ := q4 j0 z' p0 k' l1 (((rnO_kind l3).2.2 k').1 hk') hb'
          subst e1
          rw [k2] at l2; exact ⟨Option.some.inj l2, e2⟩
        · rw [ls k' hk'] at hb'
          exact (hAs k1 hk0 hb (holdS j _ _ k' b l1 lt hk' hb')).elim
    · rw [ks k hk] at hb
      obtain ⟨q1, q2, q3, q4⟩ := hR.sub i z o k b k1 hk hb
      have hh' := holdS i z o k b k1 kt hk hb
      refine ⟨Nat.lt_of_lt_of_le q1 hK2.size, fun hp => ?_, fun j oj hj hbj => ?_, fun j z' oj k' hj hk' hb' => ?_⟩
      · rcases hpr2 b hp with h | h | h
        · exact q2 h
        · exact hh'.2 h
        · omega
      · rcases hnew j _ oj hj with ⟨j0, p0, l1, l2, l3, lf, ls, lb⟩ | ⟨l1, lt, lρ, lb, ls⟩
        · exact hA l1 (lb b hbj) hh'
        · exact q3 j oj l1 (lρ ▸ hbj)
      · rcases hnew j _ oj hj with ⟨j0, p0, l1, l2, l3, lf, ls, lb⟩ | ⟨l1, lt, lρ, lb, ls⟩
        · rw [ls] at hb'
          exact (hAs l1 (((rnO_kind l3).2.2 k').1 hk') hb' hh').elim
        · rw [ls k' hk'] at hb'
          exact q4 j z' oj k' l1 hk' hb'
  · rintro b ⟨i, o, hi, hb⟩
    rcases hnew i _ o hi with ⟨i0, o0, k1, k2, k3, kf, ks, kb⟩ | ⟨k1, kt, kρ, kb, ks⟩
    · have : Mine g2 r.2.1 b := ⟨i0, o0, k1, by
        rcases hb with hb | ⟨k, hk, hb⟩
        · exact .inl (kb b hb)
        · exact .inr ⟨k, ((rnO_kind k3).2.2 k).1 hk, by rw [← ks]; exact hb⟩⟩
      rcases hown2 b this with h | h
      · exact .inl (hmr b h)
      · exact .inr h
    · refine .inl ⟨i, o, k1, ?_⟩
      rcases hb with hb | ⟨k, hk, hb⟩
      · exact .inl (kρ ▸ hb)
      · exact .inr ⟨k, hk, by rw [← ks k hk]; exact hb⟩
  · intro b hb
    rcases hpr2 b hb with h | h | h
    · exact .inl h
    · exact .inr (.inl (hmr b h))
    · exact .inr (.inr h)
  · rintro i ⟨z, o⟩ he
    rcases hnew i z o he with ⟨i0, o0, k1, k2, k3, kf, _⟩ | ⟨k1, _⟩
    · exact kf
    · exact .inl ⟨_, k1⟩
  · intro i hi hx k
    rw [hsubO i hx fun i0 h0 => hi]

/-! ### a callee that is run in place -/
/-- Numbers from n on name no block. -/
def G.low (g : G) (n : Nat) : G := ⟨fun i => if i < n then g.ρ i else none, g.pr, g.base, g.sub⟩
omit [Fam] in
theorem idsLt_ok : ∀ {l : List Nat} {n : Nat}, idsLt n l = true → ∀ i ∈ l, i < n
  | [], n, _, i, h => by simp at h
  | j :: r, n, h, i, hi => by
    unfold idsLt at h
    split at h
    · rename_i hb
      rcases List.mem_cons.1 hi with rfl | hi
      · exact Nat.le_of_ble_eq_true hb
      · exact idsLt_ok h i hi
    · simp at h
omit [Fam] in
theorem low_ext {g : G} {n : Nat} {i b : Nat} (hi : i < n) (h : g.ρ i = some b) : (g.low n).ρ i = some b := by simp [G.low, hi, h]
mutual
theorem Rep.low {g : G} {w : World} {n : Nat} : ∀ (d : DV) (v : Value), (∀ i ∈ idsD d, i < n) → Rep g w d v → Rep (g.low n) w d v
  | .bool _, _, _, r => by simpa only [Rep] using r
  | .int _ _, _, _, r => by simpa only [Rep] using r
  | .str _, _, _, r => by simpa only [Rep] using r
  | .ptr p, _, h, r => by simp only [Rep] at r ⊢; obtain ⟨b, h1, h2⟩ := r; exact ⟨b, low_ext (h _ (by simp [idsD])) h1, h2⟩
  | .nilptr, _, _, r => by simpa only [Rep] using r
  | .slice p k, _, h, r => by
    simp only [Rep] at r ⊢
    rcases r with r | ⟨b, o, c, h1, h2, h3, h4, h5⟩
    · exact .inl r
    · exact .inr ⟨b, o, c, low_ext (h _ (by simp [idsD])) h1, h2, h3, h4, h5⟩
  | .nilslice, _, _, r => by simpa only [Rep] using r
  | .map i, _, h, r => by simp only [Rep] at r ⊢; obtain ⟨b, h1, h2⟩ := r; exact ⟨b, low_ext (h _ (by simp [idsD])) h1, h2⟩
  | .yld i, _, h, r => by simp only [Rep] at r ⊢; obtain ⟨b, h1, h2⟩ := r; exact ⟨b, low_ext (h _ (by simp [idsD])) h1, h2⟩
  | .nilmap, _, _, r => by simpa only [Rep] using r
  | .func f cap, _, h, r => by simp only [Rep] at r ⊢; obtain ⟨vs, h1, h2⟩ := r; exact ⟨vs, h1, RepL.low cap vs (by simpa [idsD] using h) h2⟩
  | .nilfunc, _, _, r => by simpa only [Rep] using r
  | .nilif, _, _, r => by simpa only [Rep] using r
  | .agg cs, _, h, r => by simp only [Rep] at r ⊢; obtain ⟨vs, h1, h2, h3⟩ := r; exact ⟨vs, h1, RepL.low cs vs (by simpa [idsD] using h) h2, h3⟩
  | .tup ds, _, h, r => by simp only [Rep] at r ⊢; obtain ⟨vs, h1, h2⟩ := r; exact ⟨vs, h1, RepL.low ds vs (by simpa [idsD] using h) h2⟩
  | .per c a, _, _, r => by simp only [Rep] at r ⊢; exact r
  | .nn c a, _, _, r => by simp only [Rep] at r ⊢; exact r
  | .pel c a off, _, _, r => by simp only [Rep] at r ⊢; exact r
  | .any, _, _, _ => by simp only [Rep]
theorem RepL.low {g : G} {w : World} {n : Nat} : ∀ (ds : List DV) (vs : List Value), (∀ i ∈ idsL ds, i < n) → RepL g w ds vs → RepL (g.low n) w ds vs
  | [], _, _, r => by simpa only [RepL] using r
  | d :: ds, _, h, r => by
    simp only [RepL] at r ⊢
    obtain ⟨v, us, h1, h2, h3⟩ := r
    simp only [idsL, List.mem_append] at h
    exact ⟨v, us, h1, Rep.low d v (fun i hi => h i (.inl hi)) h2, RepL.low ds us (fun i hi => h i (.inr hi)) h3⟩
end
theorem ids_look : ∀ {fr : Fr} {t : Nat} {d : DV}, look fr t = some d → ∀ i ∈ idsD d, i ∈ idsL (fr.map (·.2))
  | [], t, d, h, i, _ => by simp [look] at h
  | (s, e) :: fr, t, d, h, i, hi => by
    rw [look_cons] at h
    simp only [List.map_cons, idsL, List.mem_append]
    split at h
    · obtain rfl := Option.some.inj h; exact .inl hi
    · exact .inr (ids_look h i hi)
theorem ORep.low {g : G} {w : World} {n i : Nat} {o : DO} {b ba : Nat} (h : ∀ j ∈ idsO o, j < n) (r : ORep g w i o b ba) : ORep (g.low n) w i o b ba := by
  cases o with
  | cells t cs => obtain ⟨h0, vs, h1, h2, h3⟩ := r; exact ⟨h0, vs, h1, RepL.low _ _ (by simpa [idsO] using h) h2, h3⟩
  | arr t c l => exact r
  | rows t e c ls ho =>
    obtain ⟨h0, vs, h1, h2, h3, h4⟩ := r
    refine ⟨h0, vs, h1, h2, h3, fun k l hl => ?_⟩
    obtain ⟨v, k1, k2, k3⟩ := h4 k l hl
    exact ⟨v, k1, k2, fun j i' n' hh hj => Rep.low _ _ (fun q hq => h q (by subst hh; simpa [idsO, idsD] using hq)) (k3 j i' n' hh hj)⟩
  | map es =>
    obtain ⟨ms, ck, h1, h0, h2, h3⟩ := r
    simp only [idsO, List.mem_append] at h
    exact ⟨ms, ck, h1, h0, RepL.low _ _ (fun q hq => h q (.inl hq)) h2, RepL.low _ _ (fun q hq => h q (.inr hq)) h3⟩
  | mp ka k ea e es => exact r
  | loop fr N ps as bo s pe =>
    obtain ⟨r0, h1, h2, h3, h4, h5, h6, h7, h8⟩ := r
    refine ⟨r0, h1, h2, h3, h4, h5, h6, h7, fun t d hd => ?_⟩
    obtain ⟨v, k1, k2⟩ := h8 t d hd
    exact ⟨v, k1, Rep.low _ _ (fun q hq => h q (ids_look hd q hq)) k2⟩
theorem idsLtH_ok : ∀ {l : Hp} {n : Nat}, idsLtH n l = true → ∀ {i : Nat} {z : Bool} {o : DO}, look l i = some (z, o) → i < n ∧ ∀ j ∈ idsO o, j < n
  | [], n, _, i, z, o, h => by simp [look] at h
  | (j, (z', o')) :: r, n, h, i, z, o, hi => by
    unfold idsLtH at h
    split at h
    · rename_i h1 h2
      rw [look_cons] at hi
      split at hi
      · rename_i he
        subst he
        have hi := Option.some.inj hi
        simp only [Prod.mk.injEq] at hi
        obtain ⟨rfl, rfl⟩ := hi
        exact ⟨Nat.le_of_ble_eq_true h1, idsLt_ok h2⟩
      · exact idsLtH_ok h hi
    · simp at h
theorem Rel.low {g : G} {hp : Hp} {w : World} {n : Nat} (h : Rel g hp w) (hi : idsLtH n hp = true) : Rel (g.low n) hp w := by
  have hρ : ∀ i e, look hp i = some e → (g.low n).ρ i = g.ρ i := fun i e he => by simp [G.low, (idsLtH_ok (z := e.1) (o := e.2) hi he).1]
  refine ⟨fun i z o hl => ?_, h.rws, fun i j oi oj b h1 h2 h3 h4 => h.inj i j oi oj b h1 h2 (by rw [← hρ _ _ h1]; exact h3) (by rw [← hρ _ _ h2]; exact h4), fun i z o k b h1 hk hb => ?_, h.prl⟩
  · rw [hρ _ _ hl]
    rcases h.obj i z o hl with ⟨b, h1, h2, h3⟩ | h1
    · exact .inl ⟨b, h1, h2.low (idsLtH_ok hi hl).2, h3⟩
    · exact .inr h1
  · obtain ⟨a1, a2, a3, a4⟩ := h.sub i z o k b h1 hk hb
    exact ⟨a1, a2, fun j oj hj => by rw [hρ _ _ hj]; exact a3 j oj hj, a4⟩
theorem Mine.low {g : G} {hp : Hp} {n b : Nat} (hi : idsLtH n hp = true) : Mine (g.low n) hp b ↔ Mine g hp b := by
  constructor
  · rintro ⟨i, o, h1, h2⟩
    refine ⟨i, o, h1, h2.imp (fun h => ?_) id⟩
    simpa [G.low, (idsLtH_ok hi h1).1] using h
  · rintro ⟨i, o, h1, h2⟩
    refine ⟨i, o, h1, h2.imp (fun h => ?_) id⟩
    simpa [G.low, (idsLtH_ok hi h1).1] using h
open Classical in
noncomputable def G.mix (g g2 : G) (hp : Hp) (nx nx' : Nat) : G :=
  ⟨fun i => if i < nx' then g2.ρ i else g.ρ i, g2.pr, fun i => if i < nx' then g2.base i else g.base i, fun i => if (nx ≤ i ∧ i < nx') ∨ ∃ e, look hp i = some e then g2.sub i else g.sub i⟩
/-- A callee's run, said of the caller's numbers. -/
theorem inl_aft {C : (Ending → World → Prop) → Prop} (hC : ∀ {R R' : Ending → World → Prop}, C R → (∀ e w, R e w → R' e w) → C R') {g : G} {hp : Hp} {w : World} {nx : Nat} {r : DV × Hp × Nat} (hR : Rel g hp w) (hi : idsLtH nx hp = true)
    (hfr : ∀ i, nx ≤ i → i < r.2.2 → g.ρ i = none) (hle : nx ≤ r.2.2) (h : DRun C (g.low nx) w hp nx (fun d st => d = r.1 ∧ st.hp = r.2.1 ∧ st.nx = r.2.2)) :
    C fun e w' => ∃ v g', e = .returned v ∧ Post g w hp nx g' w' (fitH hp nx r.2.2 r.2.1) r.2.2 ∧ Rep g' w' r.1 v := by
  refine hC h ?_
  rintro e w' ⟨v, d, st, g2, rfl, ⟨rfl, e1, e2⟩, hR2, hr2, hE2, hK2, hf2, hown2, hpr2, hsm2⟩
  rw [e1] at hR2 hown2
  rw [e2] at hf2
  have klt : ∀ {i e}, look hp i = some e → i < nx := fun {i e} he => (idsLtH_ok (z := e.1) (o := e.2) hi he).1
  have lowρ : ∀ {i}, i < nx → (g.low nx).ρ i = g.ρ i := fun h => by simp [G.low, h]
  have kρ : ∀ {i}, i < r.2.2 → (g.mix g2 hp nx r.2.2).ρ i = g2.ρ i := fun h => by simp [G.mix, h]
  have kb : ∀ {i}, i < r.2.2 → (g.mix g2 hp nx r.2.2).base i = g2.base i := fun h => by simp [G.mix, h]
  have oρ : ∀ {i}, r.2.2 ≤ i → (g.mix g2 hp nx r.2.2).ρ i = g.ρ i := fun h => by simp [G.mix, Nat.not_lt.2 h]
  have ob : ∀ {i}, r.2.2 ≤ i → (g.mix g2 hp nx r.2.2).base i = g.base i := fun h => by simp [G.mix, Nat.not_lt.2 h]
  have ent : ∀ {i z o}, look (fitH hp nx r.2.2 r.2.1) i = some (z, o) → look r.2.1 i = some (z, o) ∧ i < r.2.2 ∧ (g.mix g2 hp nx r.2.2).sub i = g2.sub i := by
    intro i z o hl
    obtain ⟨h1, h2⟩ := fitH_look hl
    rcases h2 with ⟨e', he⟩ | h2
    · exact ⟨h1, Nat.lt_of_lt_of_le (klt he) hle, by simp only [G.mix]; rw [if_pos (.inr ⟨e', he⟩)]⟩
    · exact ⟨h1, h2.2, by simp only [G.mix]; rw [if_pos (.inl h2)]⟩
  have lt2 : ∀ {i b}, g2.ρ i = some b → i < r.2.2 := fun {i b} hb => by
    rcases Nat.lt_or_ge i r.2.2 with h | h
    · exact h
    · rw [hf2 i h] at hb; simp at hb
  have ex2 : Ext g2 w' (g.mix g2 hp nx r.2.2) w' := ⟨fun i b hb => by rw [kρ (lt2 hb)]; exact hb, fun _ h => h, fun _ _ => rfl, fun i b hb => kb (lt2 hb), fun _ cs _ _ h => ⟨cs, h, rfl⟩⟩
  have ex : Ext g w (g.mix g2 hp nx r.2.2) w' := by
    have side : ∀ {i b}, g.ρ i = some b → i < nx ∨ r.2.2 ≤ i := fun {i b} hb => by
      rcases Nat.lt_or_ge i nx with h | h
      · exact .inl h
      · rcases Nat.lt_or_ge i r.2.2 with h' | h'
        · rw [hfr i h h'] at hb; simp at hb
        · exact .inr h'
    refine ⟨fun i b hb => ?_, hE2.pr, hE2.at', fun i b hb => ?_, hE2.shape⟩
    · rcases side hb with h | h
      · rw [kρ (Nat.lt_of_lt_of_le h hle)]; exact hE2.rho i b (by rw [lowρ h]; exact hb)
      · rw [oρ h]; exact hb
    · rcases side hb with h | h
      · rw [kb (Nat.lt_of_lt_of_le h hle)]; exact hE2.base i b (by rw [lowρ h]; exact hb)
      · rw [ob h]
  refine ⟨v, g.mix g2 hp nx r.2.2, rfl, ⟨⟨fun i z o hl => ?_, fun i z o hl hr => hR2.rws i z o (ent hl).1 hr, fun i j oi oj b h1 h2 h3 h4 => ?_, fun i z o k b h1 hk hb => ?_, hR2.prl⟩, ex,
    ⟨hK2.os, hK2.tape, hK2.output, hK2.size, fun b hb hm => hK2.kept b hb (fun h => hm ((Mine.low hi).1 h))⟩, fun b hb => ?_, fun b hb => ?_, fun i h => ?_, fun i e he => (fitH_look he).2, fun i hn hx k => ?_, hle⟩, Rep.ext ex2 _ _ hr2⟩
  · obtain ⟨h1, h2, h3⟩ := ent hl
    rw [kρ h2, kb h2]
    rcases hR2.obj i z o h1 with ⟨b, k1, k2, k3⟩ | k1
    · exact .inl ⟨b, k1, ORep.ext ex2 rfl (fun k _ => ⟨by rw [h3], fun _ _ => rfl⟩) k2, k3⟩
    · exact .inr k1
  · obtain ⟨a1, a2, _⟩ := ent h1
    obtain ⟨b1, b2, _⟩ := ent h2
    exact hR2.inj i j oi oj b a1 b1 (by rw [← kρ a2]; exact h3) (by rw [← kρ b2]; exact h4)
  · obtain ⟨a1, a2, a3⟩ := ent h1
    rw [a3] at hb
    obtain ⟨c1, c2, c3, c4⟩ := hR2.sub i z o k b a1 hk hb
    refine ⟨c1, c2, fun j oj hj => ?_, fun j z' oj k' hj hk' hb' => ?_⟩
    · obtain ⟨b1, b2, _⟩ := ent hj
      rw [kρ b2]; exact c3 j oj b1
    · obtain ⟨b1, b2, b3⟩ := ent hj
      exact c4 j z' oj k' b1 hk' (by rw [← b3]; exact hb')
  · have : Mine g2 r.2.1 b := by
      obtain ⟨i, o, h1, h2⟩ := hb
      obtain ⟨a1, a2, a3⟩ := ent h1
      exact ⟨i, o, a1, h2.imp (fun h => by rw [← kρ a2]; exact h) (fun ⟨k, hk, h⟩ => ⟨k, hk, by rw [← a3]; exact h⟩)⟩
    rcases hown2 b this with h | h
    · exact .inl ((Mine.low hi).1 h)
    · exact .inr h
  · rcases hpr2 b hb with h | h | h
    · exact .inl h
    · exact .inr (.inl ((Mine.low hi).1 h))
    · exact .inr (.inr h)
  · rcases h with h | h
    · rw [kρ (Nat.lt_of_lt_of_le h hle), hsm2 i h, lowρ h]
    · exact oρ h
  · have : ¬ ((nx ≤ i ∧ i < r.2.2) ∨ ∃ e, look hp i = some e) := by
      rintro (h | ⟨e, h⟩)
      · omega
      · rw [hn] at h; simp at h
    simp only [G.mix, if_neg this]
end Go.DF

/- The engine, part 8d: one operation, whatever it does. -/
namespace Go.DF
universe u v
set_option linter.unusedSimpArgs false
set_option linter.unusedVariables false
variable [Fam]
variable {P : Program} {ct : Cx P} {g : G} {hp hp' : Hp} {nx nx' : Nat} {w : World} {d : DV}

/-- Run in any activation with these values, the operation gives this value and leaves this memory. -/
def EOk (P : Program) (o : Oper) (ev : Operand → Value) (g : G) (w : World) (hp : Hp) (nx : Nat) (d : DV) (hp' : Hp) (nx' : Nat) : Prop :=
  ∀ (rd : Option Nat) (a : Act) (next : Act → World → Prop) (Q : Exit → Act → World → Prop), a.eval = ev → (∀ v w' g', Post g w hp nx g' w' hp' nx' → Rep g' w' d v → next (a.put o.dst v) w') → o.wpIn (fz rd) 0 P a w next Q

theorem rep_undef (g : G) (w : World) : Rep g w (.tup []) undef := by simp only [Rep]; exact ⟨[], rfl, RepL.nil⟩
theorem EOk.of_run {o : Oper} {ev : Operand → Value} {v : Value} {w' : World} {g' : G} (hnd : ∀ c, o.op ≠ .defer c) (he : (execOp ev o).run P w = .ok (.value v) w') (hp2 : Post g w hp nx g' w' hp' nx') (hr : Rep g' w' d v) : EOk P o ev g w hp nx d hp' nx' := by
  intro rd a next Q ha hn
  refine wpIn_intro ha hnd ?_
  rw [he, Oper.uponIn_value]
  exact hn v w' g' hp2 hr
theorem EOk.of_skip {o : Oper} {ev : Operand → Value} {w' : World} {g' : G} (hnd : ∀ c, o.op ≠ .defer c) (he : (execOp ev o).run P w = .ok .skip w') (hp2 : Post g w hp nx g' w' hp' nx') : EOk P o ev g w hp nx (.tup []) hp' nx' := by
  intro rd a next Q ha hn
  refine wpIn_intro ha hnd ?_
  rw [he, Oper.uponIn_skip]
  exact hn _ w' g' hp2 (rep_undef _ _)
theorem EOk.pre {o : Oper} {ev : Operand → Value} {g1 : G} {hp1 : Hp} (h : Post g w hp nx g1 w hp1 nx) (k : EOk P o ev g1 w hp1 nx d hp' nx') : EOk P o ev g w hp nx d hp' nx' :=
  fun rd a next Q ha hn => k rd a next Q ha fun v w' g' hP hr => hn v w' g' (h.trans hP) hr
theorem SOk.eok {o : Oper} {ev : Operand → Value} (hR : Rel g hp w) (h : SOk P o ev g w d) : EOk P o ev g w hp nx d hp nx :=
  fun rd a next Q ha hn => h rd a next Q ha fun v w' g' hs hx hr => hn v w' g' (Post.silent hR hs hx) hr

theorem appendE_nx {refs : List (TypeId × Nat)} {t t2 : TypeId} {s x : DV} (h : (appendE P refs t t2 s x hp nx).Path (d, hp', nx')) : nx' = nx + 1 := by
  unfold appendE at h
  split at h
  · split at h
    · split at h
      · split at h
        · split at h
          · obtain ⟨_, _, h⟩ := T.path_bind h
            obtain ⟨_, _, h⟩ := T.path_bind h
            obtain ⟨_, h⟩ := h
            split at h
            · obtain ⟨_, h⟩ := h
              have h : (d, hp', nx') = _ := h
              simp only [Prod.mk.injEq] at h
              exact h.2.2
            · split at h
              · have h : (d, hp', nx') = _ := h
                simp only [Prod.mk.injEq] at h
                exact h.2.2
              · exact h.elim
            · have h : (d, hp', nx') = _ := h
              simp only [Prod.mk.injEq] at h
              exact h.2.2
          · exact h.elim
        · exact h.elim
      · exact h.elim
    · exact h.elim
  · exact h.elim
theorem makeSlT_nx {refs : List (TypeId × Nat)} {t : TypeId} {len cap : DV} (h : (makeSlT P refs t len cap hp nx).Path (d, hp', nx')) : nx' = nx + 1 := by
  unfold makeSlT at h
  split at h
  · split at h
    · obtain ⟨_, h⟩ := h
      split at h
      · split at h
        · split at h
          · obtain ⟨_, h⟩ := h
            have h : (d, hp', nx') = _ := h
            simp only [Prod.mk.injEq] at h
            exact h.2.2
          · exact h.elim
        · exact h.elim
      · split at h
        · split at h
          · have h : (d, hp', nx') = _ := h
            simp only [Prod.mk.injEq] at h
            exact h.2.2
          · exact h.elim
        · exact h.elim
    · exact h.elim
  · exact h.elim
theorem zeroI_ok {lk : Operand → Option DV} {ev : Operand → Value} {o : Option Operand} (h : zeroI (lkO lk o) = true) (hlk : ∀ x, o = some x → ∀ d, lk x = some d → Rep g w d (ev x)) : o = none ∨ ∃ x k, o = some x ∧ ev x = .int k 0 := by
  cases o with
  | none => exact .inl rfl
  | some x =>
    right
    unfold lkO at h
    cases hx : lk x with
    | none => simp only [hx] at h; simp [zeroI] at h
    | some d =>
      simp only [hx] at h
      have r := hlk x rfl d hx
      unfold zeroI at h
      split at h
      · rename_i he; simp at he
      · rename_i k he
        have he : d = .int k (.lit 0) := by simpa using he
        subst he
        simp only [Rep, DI.v] at r
        exact ⟨x, _, rfl, r⟩
      · simp at h
theorem slice0T_nx {refs : List (TypeId × Nat)} {t : TypeId} {x : DV} {d : DV} {hp' : Hp} {nx' : Nat} (h : (slice0T P refs t x hp nx).Path (d, hp', nx')) : nx ≤ nx' ∧ nx' ≤ nx + 1 := by
  unfold slice0T at h
  split at h
  · split at h
    · obtain ⟨rfl, rfl, rfl⟩ : d = _ ∧ hp' = _ ∧ nx' = _ := by have h : (d, hp', nx') = _ := h; simpa using h
      omega
    · exact h.elim
  · split at h
    · split at h
      · obtain ⟨rfl, rfl, rfl⟩ : d = _ ∧ hp' = _ ∧ nx' = _ := by have h : (d, hp', nx') = _ := h; simpa using h
        omega
      · exact h.elim
    · exact h.elim
  · exact h.elim
/-- Where no number is new, it was nil. -/
theorem slice0T_nil (hR : Rel g hp w) {refs : List (TypeId × Nat)} {t : TypeId} {x : DV} {vx : Value} {lo hi mx : Option Value} (h : (slice0T P refs t x hp nx).Path (d, hp', nx)) (rx : Rep g w x vx)
    (hlo : lo = none ∨ ∃ k, lo = some (.int k 0)) (k1 k2 : IntKind) (e1 : hi = some (.int k1 0)) (e2 : mx = some (.int k2 0)) :
    ∃ v g', (Instr.sliceAt t vx lo hi mx).run P w = .ok v w ∧ Post g w hp nx g' w hp' nx ∧ Rep g' w d v := by
  subst e1 e2
  have hb : ∀ (n cap : Nat), (Instr.sliceBounds true n cap lo (some (.int k1 0)) (some (.int k2 0))).run P w = .ok (0, 0, 0) w := by
    intro n cap
    rcases hlo with rfl | ⟨k, rfl⟩ <;> simp [Instr.sliceBounds, Instr.sliceBound, asIntOf]
  unfold slice0T at h
  split at h
  · rename_i e hu
    split at h
    · rename_i s hs
      obtain ⟨rfl, rfl⟩ : d = _ ∧ hp' = _ := by have h : (d, hp', nx) = _ := h; simpa using h
      simp only [Rep] at rx
      subst rx
      exact ⟨.slice none 0 0, g, by simp [Instr.sliceAt, Instr.slice, run_under hu, hb, run_sizeD hs], Post.refl hR, by simp only [Rep]⟩
    · exact h.elim
  · split at h
    · split at h
      · exfalso
        have h : (d, hp', nx) = _ := h
        simp only [Prod.mk.injEq] at h
        omega
      · exact h.elim
    · exact h.elim
  · exact h.elim
omit [Fam] in
theorem round_in {P : Program} {r : Option Nat} {n : Nat} {l : Nat} {f : FuncId} {tmps : Array Value} {assign body : Code} {w : World} {R : Ending → World → Prop} (h : RoundIn (fz none) n P l f tmps assign body w R) : RoundIn (fz r) n P l f tmps assign body w R :=
  ⟨trivial, fun c cs _ => h.2 c cs (fun d hd => by simp [fz] at hd)⟩
/-- The number names the record of a loop. -/
theorem yield_there {id : Nat} {l : Nat} (h : ∃ fr N ps as bo s pe, look hp id = some (false, .loop fr N ps as bo s pe)) (hR : Rel g hp w) (hl : g.ρ id = some l) : ∃ rec, w.heap[l]? = some (.loop rec) := by
  obtain ⟨fr, N, ps, as, bo, s, pe, h⟩ := h
  obtain ⟨⟨rec, hr, _⟩, _⟩ := hR.at h hl
  exact ⟨rec, hr⟩

theorem evE0_ok {lk : Operand → Option DV} {ev : Operand → Value} {o : Oper} (hR : Rel g hp w) (hfr : ∀ i, nx ≤ i → i < nx' → g.ρ i = none) (hnb : nx' ≤ noBlock → ∀ i, noBlock ≤ i → g.ρ i = none)
    (hlk : ∀ x, x ∈ o.op.operands.toList → ∀ d, lk x = some d → Rep g w d (ev x)) (h : (evE0 P ct lk o.op hp nx).Path (d, hp', nx')) : EOk P o ev g w hp nx d hp' nx' := by
  obtain ⟨dst, op, type, pos, after, guard⟩ := o
  dsimp only at h hlk
  have hnd : ∀ c, op ≠ .defer c := fun c hc => by subst hc; unfold evE0 at h; exact h.elim
  unfold evE0 at h
  split at h
  · -- alloc
    rename_i e
    split at h
    · rename_i cs hz
      obtain ⟨z, hzr, hz2, hz3⟩ := zeroD_ok hz
      have h : (d, hp', nx') = _ := h
      simp only [Prod.mk.injEq] at h
      obtain ⟨rfl, rfl, rfl⟩ := h
      have hf : g.ρ nx = none := hfr nx (Nat.le_refl _) (by omega)
      refine EOk.of_run hnd (v := .pointer (some ⟨w.heap.size, 0, none⟩)) (w' := w.alloc (.cells z.cells e)) ?_ (Post.alloc hR hf (o := .cells e cs) fun _ => ⟨rfl, z.cells.toList, by rw [heap_new], hz2 _ _, hz3⟩) ?_
      · simp [execOp, Instr.alloc, hzr, newVar, newRow]
      · simp only [Rep]
        exact ⟨w.heap.size, by simp [G.new], by simp [G.new, G.off, DP.off, DN.v]⟩
    · exact h.elim
  · -- box
    rename_i e x
    split at h
    · rename_i dx hd
      split at h
      · rename_i cs hc
        obtain ⟨r1, r2⟩ := cellsV_ok hc (hlk _ (by simp [Op.operands]) _ hd)
        have h : (d, hp', nx') = _ := h
        simp only [Prod.mk.injEq] at h
        obtain ⟨rfl, rfl, rfl⟩ := h
        have hf : g.ρ nx = none := hfr nx (Nat.le_refl _) (by omega)
        refine EOk.of_run hnd (v := .pointer (some ⟨w.heap.size, 0, none⟩)) (w' := w.alloc (.cells (ev x).cells e)) ?_ (Post.alloc hR hf (o := .cells e cs) fun x => ⟨rfl, _, by rw [heap_new], RepL.ext x _ _ r1, r2⟩) ?_
        · simp [execOp, Instr.box, newVar, newRow]
        · simp only [Rep]
          exact ⟨w.heap.size, by simp [G.new], by simp [G.new, G.off, DP.off, DN.v]⟩
      · exact h.elim
    · exact h.elim
  · -- load
    rename_i t x
    split at h
    · rename_i p hx
      have r := hlk _ (by simp [Op.operands]) _ hx
      split at h
      · rename_i e z t0 e0 c0 ls0 ho0 hu hl0
        unfold takeRow at h
        split at h
        · rename_i t' e' c ls hl
          split at h
          · rename_i h1 h2 h3
            have h1 := Nat.eq_of_beq_eq_true h1
            have h2 := Nat.eq_of_beq_eq_true h2
            have h3 := Nat.le_of_ble_eq_true h3
            obtain ⟨hlt, h⟩ := h
            have h : (d, hp', nx') = _ := h
            simp only [Prod.mk.injEq] at h
            obtain ⟨rfl, rfl, rfl⟩ := h
            have hf : g.ρ nx = none := hfr nx (Nat.le_refl _) (by omega)
            obtain ⟨b, v, g', k1, k2, k3, k4, k5⟩ := Post.take hR hf hl h3 hlt
            simp only [Rep] at r
            obtain ⟨b', hb', hv⟩ := r
            rw [k1] at hb'; obtain rfl := Option.some.inj hb'
            have ho : g.off p = p.idx.v := by simp [G.off, DP.off, k3, h1, h2]
            refine EOk.of_run hnd (v := v) (w' := w) ?_ k5 k4
            rw [ho] at hv
            have hagg : (isAgg t).run P w = .ok false w := by rw [run_isAgg hu]
            simp [execOp, Instr.loadAt, hv, Instr.sureAddr, loadVar, hagg, k2]
          · exact h.elim
        · exact h.elim
      · obtain ⟨d1, h1, h⟩ := T.path_bind h
        have h : (d, hp', nx') = _ := h
        simp only [Prod.mk.injEq] at h
        obtain ⟨rfl, rfl, rfl⟩ := h
        obtain ⟨b, o, u, hv, hl, hr⟩ := loadT_ok (P := P) hR r h1
        refine EOk.of_run hnd (v := u) (w' := w) ?_ (Post.refl hR) hr
        simp [execOp, Instr.loadAt, hv, Instr.sureAddr, hl]
    · exact h.elim
  · -- store
    rename_i t x y
    split at h
    · rename_i p dy n hx hy hn
      split at h
      · rename_i cs hc
        split at h
        · rename_i hlen
          have hlen := Nat.eq_of_beq_eq_true hlen
          obtain ⟨hp1, hpath, h⟩ := T.path_bind h
          have h : (d, hp', nx') = _ := h
          simp only [Prod.mk.injEq] at h
          obtain ⟨rfl, rfl, rfl⟩ := h
          have r := hlk _ (by simp [Op.operands]) _ hx
          simp only [Rep] at r
          obtain ⟨b, hb, hv⟩ := r
          obtain ⟨r1, r2⟩ := cellsV_ok hc (hlk _ (by simp [Op.operands]) _ hy)
          obtain ⟨b', w', g', hb', hrun, hok⟩ := storeN_ok (P := P) (nx := nx') hR hpath r1 r2
          obtain rfl : b = b' := by rw [hb] at hb'; exact Option.some.inj hb'
          have hsz : (ev y).cells.size = n := by rw [← hlen, ← r1.length]; simp
          refine EOk.of_skip hnd (w' := w') ?_ hok
          simp [execOp, Instr.storeAt, hv, Instr.sureAddr, storeVar, run_sizeD hn, hsz, hrun]
        · exact h.elim
      · exact h.elim
    · exact h.elim
  · -- buildSlice
    rename_i t len parts
    split at h
    · rename_i ps hps
      split at h
      · rename_i e s cs hb
        obtain ⟨hl, hq⟩ := partsD_ok (g := g) (w := w) (ev := ev) (fun x hx d hd => hlk x (by simpa [Op.operands] using hx) d hd) hps
        obtain ⟨os, hrun0, r1, r2, r3⟩ := buildSl_ok (g := g) (w := w) (qs := parts.map fun x => (x.1, ev x.2)) hb (by simpa using hl) (fun k i d hkd => by
          obtain ⟨v, hv, rv⟩ := hq k i d hkd
          exact ⟨v, by simpa using hv, rv⟩)
        have h : (d, hp', nx') = _ := h
        simp only [Prod.mk.injEq] at h
        obtain ⟨rfl, rfl, rfl⟩ := h
        have hf : g.ρ nx = none := hfr nx (Nat.le_refl _) (by omega)
        refine EOk.of_run hnd (v := .slice (some ⟨w.heap.size, 0, none⟩) len len) (w' := w.alloc (.cells os.toArray e)) ?_ (Post.alloc hR hf (o := .cells e cs) fun x => ⟨rfl, os, by rw [heap_new], RepL.ext x _ _ r1, r2⟩) ?_
        · simp [execOp, hrun0]
        · simp only [Rep]
          exact .inr ⟨w.heap.size, 0, len, by simp [G.new], Nat.le_refl _, rfl, .inr (by simp [G.new, G.off, DP.off, DN.v]), _, _, _, by rw [heap_new], by simp [r3]⟩
      · exact h.elim
    · exact h.elim
  · -- makeSlice
    rename_i t len cap
    split at h
    · rename_i dl dc hl hc
      have hf : nx' = nx + 1 := makeSlT_nx h
      obtain ⟨v, w', g', hrun, k1, k2⟩ := makeSlT_ok hR (hfr nx (Nat.le_refl _) (by omega)) h (hlk _ (by simp [Op.operands]) _ hl) (hlk _ (by simp [Op.operands]) _ hc)
      refine EOk.of_run hnd (v := v) (w' := w') ?_ k1 k2
      simp [execOp, hrun]
    · exact h.elim
  · -- makeMap
    rename_i t r
    split at h
    · rename_i kt et hu
      have key : ∀ o : DO, (∀ g, ORep g (w.alloc (.map #[] 0)) nx o w.heap.size 0) → (d, hp', nx') = (.map nx, (nx, (false, o)) :: hp, nx + 1) → EOk P ⟨dst, .makeMap t none, type, pos, after, guard⟩ ev g w hp nx d hp' nx' := by
        intro o ho h
        simp only [Prod.mk.injEq] at h
        obtain ⟨rfl, rfl, rfl⟩ := h
        have hf : g.ρ nx = none := hfr nx (Nat.le_refl _) (by omega)
        refine EOk.of_run hnd (v := .map (some w.heap.size)) (w' := w.alloc (.map #[] 0)) ?_ (Post.alloc hR hf (o := o) fun _ => ho _) ?_
        · simp [execOp, Instr.makeMap]
        · simp only [Rep]
          exact ⟨w.heap.size, by simp [G.new], rfl⟩
      split at h
      · rename_i kc ec _ _
        exact key (.mp (isAggT P kt) kc (isAggT P et) ec []) (fun _ => ⟨[], 0, by rw [heap_new], ⟨by simp, by simp⟩, rfl, by simp⟩) h
      · exact key (.map []) (fun _ => ⟨[], 0, by rw [heap_new], ⟨by simp, by simp⟩, by simp [RepL], by simp [RepL]⟩) h
    · exact h.elim
  · -- insert
    rename_i t m x y
    split at h
    · rename_i dm dx dy hm hx hy
      obtain ⟨hp1, hpath, h⟩ := T.path_bind h
      have h : (d, hp', nx') = _ := h
      simp only [Prod.mk.injEq] at h
      obtain ⟨rfl, rfl, rfl⟩ := h
      obtain ⟨w', hrun, hok⟩ := insertT_ok (nx := nx') hR hpath (hlk _ (by simp [Op.operands]) _ hm) (hlk _ (by simp [Op.operands]) _ hx) (hlk _ (by simp [Op.operands]) _ hy)
      refine EOk.of_skip hnd (w' := w') ?_ hok
      simp [execOp, hrun]
    · exact h.elim
  · -- mapUpdate
    rename_i t m x y
    split at h
    · rename_i dm dx dy hm hx hy
      obtain ⟨hp1, hpath, h⟩ := T.path_bind h
      have h : (d, hp', nx') = _ := h
      simp only [Prod.mk.injEq] at h
      obtain ⟨rfl, rfl, rfl⟩ := h
      obtain ⟨w', hrun, hok⟩ := insertT_ok (nx := nx') hR hpath (hlk _ (by simp [Op.operands]) _ hm) (hlk _ (by simp [Op.operands]) _ hx) (hlk _ (by simp [Op.operands]) _ hy)
      refine EOk.of_skip hnd (w' := w') ?_ hok
      simp [execOp, hrun]
    · exact h.elim
  · -- slice
    rename_i t x lo hi mx
    split at h
    · rename_i dx xh hdx z1 z4 z3
      have hlo := zeroI_ok (ev := ev) (g := g) (w := w) (o := lo) z1 (fun y hy d hd => hlk y (by subst hy; simp [Op.operands]) d hd)
      obtain ⟨k1, e1⟩ : ∃ k, ev xh = .int k 0 := by
        rcases zeroI_ok (ev := ev) (g := g) (w := w) (o := some xh) z3 (fun y hy d hd => hlk y (by cases hy; simp [Op.operands]) d hd) with h | ⟨y, k, h1, h2⟩
        · cases h
        · cases h1; exact ⟨k, h2⟩
      obtain ⟨k2, e2⟩ : ∃ k, ev mx = .int k 0 := by
        cases hm : lk mx with
        | none => rw [hm] at z4; simp [zeroI] at z4
        | some dm =>
          have r := hlk mx (by simp [Op.operands]) dm hm
          rw [hm] at z4
          simp only [Option.map_some] at z4
          unfold zeroI at z4
          split at z4
          · rename_i he; simp at he
          · rename_i k he
            have he : dm = .int k (.lit 0) := by simpa using he
            subst he
            simp only [Rep, DI.v] at r
            exact ⟨_, r⟩
          · simp at z4
      have hnx : ∀ {d hp' nx'}, (slice0T P ct.refs t dx hp nx).Path (d, hp', nx') → nx ≤ nx' ∧ nx' ≤ nx + 1 := slice0T_nx
      by_cases hf : nx' = nx
      · subst hf
        -- nil stays nil
        obtain ⟨v, g', hrun, k3, k4⟩ := slice0T_nil (hi := some (.int k1 0)) (mx := some (.int k2 0)) (lo := lo.map ev) hR h (hlk _ (by simp [Op.operands]) _ hdx) (by
          rcases hlo with rfl | ⟨y, k, rfl, h2⟩
          · exact .inl rfl
          · exact .inr ⟨k, by simp [h2]⟩) k1 k2 rfl rfl
        refine EOk.of_run hnd (v := v) (w' := w) ?_ k3 k4
        simp [execOp, e1, e2, hrun]
      · have hf1 := (hnx h).1
        have hf2 := (hnx h).2
        obtain ⟨v, g', hrun, k3, k4⟩ := slice0T_ok (lo := lo.map ev) (k1 := k1) (k2 := k2) hR (hfr nx (Nat.le_refl _) (by omega)) h (hlk _ (by simp [Op.operands]) _ hdx) (by
          rcases hlo with rfl | ⟨y, k, rfl, h2⟩
          · exact .inl rfl
          · exact .inr ⟨k, by simp [h2]⟩)
        refine EOk.of_run hnd (v := v) (w' := w) ?_ k3 k4
        simp [execOp, e1, e2, hrun]
    · exact h.elim
  · -- call
    rename_i c
    split at h
    · rename_i hc
      split at h
      · rename_i t t2 s x hty har
        split at h
        · rename_i ds dx hs hx
          have hsm : s ∈ c.args := by rw [← Array.mem_toList_iff, har]; simp
          have hxm : x ∈ c.args := by rw [← Array.mem_toList_iff, har]; simp
          have hargs : c.args.map ev = #[ev s, ev x] := by apply Array.toList_inj.1; simp [har]
          have htys : c.argTypes = #[t, t2] := by apply Array.toList_inj.1; simp [hty]
          have hnx : nx' = nx + 1 := appendE_nx h
          obtain ⟨v, w', g', hrun, k1, k2⟩ := appendE_ok (ty := type) hR (hfr nx (Nat.le_refl _) (by omega)) h (hlk s (by simp [Op.operands, Call.operands, hsm]) _ hs) (hlk x (by simp [Op.operands, Call.operands, hxm]) _ hx)
          refine EOk.of_run hnd (v := v) (w' := w') ?_ k1 k2
          simp [execOp, resolve, hc, invoke, builtin, hargs, htys, hrun]
        · exact h.elim
      · exact h.elim
    · rename_i hc
      split at h
      · rename_i t ts x y hty har
        split at h
        · rename_i dx dy hx hy
          have hxm : x ∈ c.args := by rw [← Array.mem_toList_iff, har]; simp
          have hym : y ∈ c.args := by rw [← Array.mem_toList_iff, har]; simp
          have hargs : c.args.map ev = #[ev x, ev y] := by apply Array.toList_inj.1; simp [har]
          have htys : c.argTypes[0]? = some t := by rw [← Array.getElem?_toList, hty]; rfl
          obtain ⟨r, hr, h⟩ := T.path_bind h
          obtain ⟨rfl, rfl, rfl⟩ : d = _ ∧ hp' = _ ∧ nx' = _ := by have h : (d, hp', nx') = _ := h; simpa using h
          obtain ⟨v, w', hrun, k1, k2⟩ := copyT_ok (ty := type) (nx := nx') (ts := c.argTypes) (vs := #[ev x, ev y]) hR (d := r.1) (hp' := r.2) hr (hlk x (by simp [Op.operands, Call.operands, hxm]) _ hx) (hlk y (by simp [Op.operands, Call.operands, hym]) _ hy) htys (by simp) (by simp)
          refine EOk.of_run hnd (v := v) (w' := w') ?_ k1 k2
          simp [execOp, resolve, hc, invoke, builtin, hargs, hrun]
        · exact h.elim
      · exact h.elim
    · rename_i hc
      split at h
      · rename_i t ts x xs hty har
        split at h
        · rename_i dx hx
          have hxm : x ∈ c.args := by rw [← Array.mem_toList_iff, har]; simp
          have htys : c.argTypes[0]? = some t := by rw [← Array.getElem?_toList, hty]; rfl
          have hargs : (c.args.map ev)[0]? = some (ev x) := by rw [← Array.getElem?_toList]; simp [har]
          obtain ⟨hp1, hr, h⟩ := T.path_bind h
          obtain ⟨rfl, rfl, rfl⟩ : d = _ ∧ hp' = _ ∧ nx' = _ := by have h : (d, hp', nx') = _ := h; simpa using h
          obtain ⟨w', hrun, k1⟩ := clearT_ok (ty := type) (nx := nx') (ts := c.argTypes) (vs := c.args.map ev) hR hr (hlk x (by simp [Op.operands, Call.operands, hxm]) _ hx) htys hargs
          refine EOk.of_run hnd (v := .tuple #[]) (w' := w') ?_ k1 (rep_undef _ _)
          simp [execOp, resolve, hc, invoke, builtin, hrun]
        · exact h.elim
      · exact h.elim
    · rename_i x hc
      split at h
      · rename_i f cap args hx ha
        have r := hlk x (by simp [Op.operands, Call.operands, hc]) _ hx
        simp only [Rep] at r
        obtain ⟨vs, hv, rc⟩ := r
        have hargs := (mapO_ok (fun x hx => hlk x (by simp at hx; simp [Op.operands, Call.operands, hx])) ha).append rc
        have hrun : ∀ {f0 : FuncId}, HasBody P f0 → f0 = f → (execOp ev ⟨dst, .call c, type, pos, after, guard⟩).run P w = .ok (.enter f0 (c.args.toList.map ev ++ vs).toArray) w := by
          rintro f0 ⟨fn, b1, b2, b3⟩ rfl
          have e : #[] ++ c.args.map ev ++ vs.toArray = (c.args.toList.map ev ++ vs).toArray := by
            apply Array.toList_inj.1; simp
          simp only [execOp, resolve, hc, hv, Deferred.ofValue, Sem.run_bind, Sem.run_pure, Result.andThen_ok, invoke, callFunc, run_program, b1, b2, b3, Bool.false_eq_true, if_false, e]
        split at h
        · rename_i pc hpc
          split at h
          · rename_i x' ps hx'
            obtain ⟨hps, h⟩ := T.path_obs h
            obtain ⟨d1, hd1, h⟩ := T.path_bind h
            have h : (d, hp', nx') = _ := h
            simp only [Prod.mk.injEq] at h
            obtain ⟨rfl, rfl, rfl⟩ := h
            have hf : pc.f = f := findC_f hpc
            intro rd a next Q hae hn
            refine wpIn_intro hae hnd ?_
            rw [hrun pc.body hf, Oper.uponIn_enter]
            refine ⟨nodepth, calls_in ((pc.ok x' _ hd1 g w _ (codAL_ok hR _ _ _ _ _ hx' hps hargs) hR.prl).mono ?_)⟩
            rintro e w' ⟨v, g', rfl, hs, hg, hr⟩
            exact hn v w' g' (Post.silent hR hs hg) hr
          · exact h.elim
        · split at h
          · rename_i cc hcc
            have hf : cc.f = f := findCC_f hcc
            intro rd a next Q hae hn
            refine wpIn_intro hae hnd ?_
            rw [hrun cc.body hf, Oper.uponIn_enter]
            refine ⟨nodepth, calls_in ((callC_ok h hR hfr hnb hargs).mono ?_)⟩
            rintro e w' ⟨v, g', rfl, hP, hr⟩
            exact hn v w' g' hP hr
          · unfold inlT at h
            split at h
            · rename_i hid hih
              obtain ⟨r, hr, h⟩ := T.path_bind h
              split at h
              · rename_i hle hnbk
                obtain ⟨rfl, rfl, rfl⟩ : d = _ ∧ hp' = _ ∧ nx' = _ := by have h : (d, hp', nx') = _ := h; simpa using h
                obtain ⟨hb, hcall⟩ := ct.ok.1 _ _ _ _ _ hr
                intro rd a next Q hae hn
                refine wpIn_intro hae hnd ?_
                rw [hrun hb rfl, Oper.uponIn_enter]
                have hc := hcall (g.low nx) w _ (hR.low hih) (fun i hi => by simp [G.low, Nat.not_lt.2 hi]) (RepL.low _ _ (idsLt_ok hid) hargs)
                refine ⟨nodepth, calls_in ((inl_aft (C := Calls P f (c.args.toList.map ev ++ vs).toArray w) (fun h k => h.mono k) hR hih hfr (Nat.le_of_ble_eq_true hle) hc).mono ?_)⟩
                rintro e w' ⟨v, g', rfl, hP, hr⟩
                exact hn v w' g' hP hr
              · exact h.elim
            · exact h.elim
      · rename_i id args hx ha
        have r := hlk x (by simp [Op.operands, Call.operands, hc]) _ hx
        simp only [Rep] at r
        obtain ⟨l, hl, hv⟩ := r
        have hargs := mapO_ok (fun x hx => hlk x (by simp at hx; simp [Op.operands, Call.operands, hx])) ha
        unfold inlT at h
        split at h
        · rename_i hid hih
          obtain ⟨r, hr, h⟩ := T.path_bind h
          split at h
          · rename_i hle hnbk
            obtain ⟨rfl, rfl, rfl⟩ : d = _ ∧ hp' = _ ∧ nx' = _ := by have h : (d, hp', nx') = _ := h; simpa using h
            have hidl := idsLt_ok hid
            obtain ⟨rec, hrec⟩ := yield_there (ct.ok.2 _ _ _ _ _ hr).1 hR hl
            obtain ⟨hsz, hc'⟩ := (ct.ok.2 _ _ _ _ _ hr).2 (g.low nx) w _ l rec (hR.low hih) (fun i hi => by simp [G.low, Nat.not_lt.2 hi]) (RepL.low _ _ (fun i hi => hidl i (by simp [idsL, hi])) hargs) (low_ext (hidl id (by simp [idsL, idsD])) hl) hrec
            intro rd a next Q hae hn
            refine wpIn_intro hae hnd ?_
            have hy := run_yield (P := P) (args := c.args.map ev) hrec (by simpa using hsz)
            have hrun : (execOp ev ⟨dst, .call c, type, pos, after, guard⟩).run P w = .ok (.round l rec.fn ((rec.params.zip (c.args.toList.map ev).toArray).foldl (fun tmps (t, a) => tmps.setIfInBounds t a) rec.tmps) rec.assign rec.body) w := by
              have e : #[] ++ c.args.map ev = c.args.map ev := by simp
              have e2 : (c.args.toList.map ev).toArray = c.args.map ev := by apply Array.toList_inj.1; simp
              simp only [execOp, resolve, hc, hv, Deferred.ofValue, Sem.run_bind, Sem.run_pure, Result.andThen_ok, invoke, e, e2, hy]
            rw [hrun, Oper.uponIn_round]
            have key := inl_aft (C := RoundIn (fz none) 0 P l rec.fn ((rec.params.zip (c.args.toList.map ev).toArray).foldl (fun tmps (t, a) => tmps.setIfInBounds t a) rec.tmps) rec.assign rec.body w) (fun h k => h.mono k) hR hih hfr (Nat.le_of_ble_eq_true hle) hc'
            refine ⟨nodepth, round_in (key.mono ?_)⟩
            rintro e w' ⟨v, g', rfl, hP, hr⟩
            exact hn v w' g' hP hr
          · exact h.elim
        · exact h.elim
      · exact h.elim
    · exact h.elim
  · exact h.elim

theorem evE_ok {lk : Operand → Option DV} {ev : Operand → Value} {o : Oper} (hR : Rel g hp w) (hfr : ∀ i, nx ≤ i → i < nx' → g.ρ i = none) (hnb : nx' ≤ noBlock → ∀ i, noBlock ≤ i → g.ρ i = none)
    (hlk : ∀ x, x ∈ o.op.operands.toList → ∀ d, lk x = some d → Rep g w d (ev x)) (h : (evE P ct lk o.op hp nx).Path (d, hp', nx')) : EOk P o ev g w hp nx d hp' nx' := by
  unfold evE at h
  obtain ⟨hp1, hg, h⟩ := T.path_bind h
  obtain ⟨g1, hP⟩ := ghosts_ok (nx := nx) _ _ _ _ hg hR
  have hρ : ∀ i, g1.ρ i = g.ρ i := fun i => hP.out i (by omega)
  exact EOk.pre hP (evE0_ok hP.rel (fun i h1 h2 => (hρ i).trans (hfr i h1 h2)) (fun hh i h => (hρ i).trans (hnb hh i h)) (fun x hx d hd => Rep.ext hP.ext _ _ (hlk x hx d hd)) h)

theorem opT_ok {lk : Operand → Option DV} {ev : Operand → Value} {o : Oper} {s : Bool} (hR : Rel g hp w) (hfr : ∀ i, nx ≤ i → i < nx' → g.ρ i = none) (hnb : nx' ≤ noBlock → ∀ i, noBlock ≤ i → g.ρ i = none)
    (hlk : ∀ x, x ∈ o.op.operands.toList → ∀ d, lk x = some d → Rep g w d (ev x)) (h : (opT P ct lk o.op hp nx).Path (s, d, hp', nx')) : EOk P o ev g w hp nx d hp' nx' ∧ (s = true → hp' = hp ∧ nx' = nx) := by
  unfold opT at h
  split at h
  · obtain ⟨⟨d1, hp1, nx1⟩, h1, h⟩ := T.path_bind h
    have h : (s, d, hp', nx') = _ := h
    simp only [Prod.mk.injEq] at h
    obtain ⟨rfl, rfl, rfl, rfl⟩ := h
    exact ⟨evE_ok hR hfr hnb hlk h1, by simp⟩
  · obtain ⟨d1, h1, h⟩ := T.path_bind h
    have h : (s, d, hp', nx') = _ := h
    simp only [Prod.mk.injEq] at h
    obtain ⟨rfl, rfl, rfl, rfl⟩ := h
    exact ⟨(evS_ok hR hlk h1).eok hR, fun _ => ⟨rfl, rfl⟩⟩

theorem opT_sil {lk : Operand → Option DV} {op : Op} (h : (opT P ct lk op hp nx).Path (true, d, hp', nx')) : hp' = hp ∧ nx' = nx ∧ (evS P ct hp lk op).Path d := by
  unfold opT at h
  split at h
  · obtain ⟨⟨d1, hp1, nx1⟩, h1, h⟩ := T.path_bind h
    have h : (true, d, hp', nx') = _ := h
    simp at h
  · obtain ⟨d1, h1, h⟩ := T.path_bind h
    have h : (true, d, hp', nx') = _ := h
    simp only [Prod.mk.injEq] at h
    obtain ⟨_, rfl, rfl, rfl⟩ := h
    exact ⟨rfl, rfl, h1⟩

theorem callC_le {c : CanC P} {args : List DV} (h : (callC c args hp nx).Path (d, hp', nx')) : nx ≤ nx' := by
  unfold callC at h
  split at h
  · exact h.elim
  split at h
  · exact h.elim
  split at h
  · exact h.elim
  split at h
  case h_2 => exact h.elim
  obtain ⟨_, h⟩ := T.path_obs h
  obtain ⟨r, _, h⟩ := T.path_bind h
  split at h
  case h_2 => exact h.elim
  have h : (d, hp', nx') = _ := h
  simp only [Prod.mk.injEq] at h
  omega

theorem inlT_le {t : T (DV × Hp × Nat)} {args : List DV} (h : (inlT t args hp nx).Path (d, hp', nx')) : nx ≤ nx' := by
  unfold inlT at h
  split at h
  · obtain ⟨r, hr, h⟩ := T.path_bind h
    split at h
    · rename_i hle _
      obtain ⟨rfl, rfl, rfl⟩ : d = _ ∧ hp' = _ ∧ nx' = _ := by have h : (d, hp', nx') = _ := h; simpa using h
      exact Nat.le_of_ble_eq_true hle
    · exact h.elim
  · exact h.elim
theorem evE0_le {lk : Operand → Option DV} {op : Op} (h : (evE0 P ct lk op hp nx).Path (d, hp', nx')) : nx ≤ nx' := by
  unfold evE0 at h
  have l1 : ∀ {x : DV} {y : Hp} {k : Nat}, (T.leaf (x, y, nx + k) : T (DV × Hp × Nat)).Path (d, hp', nx') → nx ≤ nx' := fun {x y k} h => by
    have h : (d, hp', nx') = (x, y, nx + k) := h
    simp only [Prod.mk.injEq] at h
    omega
  have l0 : ∀ {x : DV} {y : Hp}, (T.leaf (x, y, nx) : T (DV × Hp × Nat)).Path (d, hp', nx') → nx ≤ nx' := fun {x y} h => by
    have h : (d, hp', nx') = (x, y, nx) := h
    simp only [Prod.mk.injEq] at h
    omega
  split at h
  · split at h
    · exact l1 h
    · exact h.elim
  · split at h
    · split at h
      · exact l1 h
      · exact h.elim
    · exact h.elim
  · split at h
    · split at h
      · unfold takeRow at h
        split at h
        · split at h
          · exact l1 h.2
          · exact h.elim
        · exact h.elim
      · obtain ⟨_, _, h⟩ := T.path_bind h; exact l0 h
    · exact h.elim
  · split at h
    · split at h
      · split at h
        · obtain ⟨_, _, h⟩ := T.path_bind h; exact l0 h
        · exact h.elim
      · exact h.elim
    · exact h.elim
  · split at h
    · split at h
      · exact l1 h
      · exact h.elim
    · exact h.elim
  · split at h
    · have := makeSlT_nx h; omega
    · exact h.elim
  · split at h
    · split at h
      · exact l1 h
      · exact l1 h
    · exact h.elim
  · split at h
    · obtain ⟨_, _, h⟩ := T.path_bind h; exact l0 h
    · exact h.elim
  · split at h
    · obtain ⟨_, _, h⟩ := T.path_bind h; exact l0 h
    · exact h.elim
  · split at h
    · exact (slice0T_nx h).1
    · exact h.elim
  · split at h
    · split at h
      · split at h
        · have := appendE_nx h; omega
        · exact h.elim
      · exact h.elim
    · split at h
      · split at h
        · obtain ⟨_, _, h⟩ := T.path_bind h; exact l0 h
        · exact h.elim
      · exact h.elim
    · split at h
      · split at h
        · obtain ⟨_, _, h⟩ := T.path_bind h; exact l0 h
        · exact h.elim
      · exact h.elim
    · split at h
      · split at h
        · split at h
          · obtain ⟨_, h⟩ := T.path_obs h
            obtain ⟨_, _, h⟩ := T.path_bind h
            exact l0 h
          · exact h.elim
        · split at h
          · exact callC_le h
          · exact inlT_le h
      · exact inlT_le h
      · exact h.elim
    · exact h.elim
  · exact h.elim

theorem opT_le {lk : Operand → Option DV} {op : Op} {s : Bool} (h : (opT P ct lk op hp nx).Path (s, d, hp', nx')) : nx ≤ nx' := by
  unfold opT at h
  split at h
  · obtain ⟨⟨d1, hp1, nx1⟩, h1, h⟩ := T.path_bind h
    have h : (s, d, hp', nx') = _ := h
    simp only [Prod.mk.injEq] at h
    obtain ⟨rfl, rfl, rfl, rfl⟩ := h
    unfold evE at h1
    obtain ⟨_, _, h1⟩ := T.path_bind h1
    exact evE0_le h1
  · obtain ⟨d1, h1, h⟩ := T.path_bind h
    have h : (s, d, hp', nx') = _ := h
    simp only [Prod.mk.injEq] at h
    omega
end Go.DF
