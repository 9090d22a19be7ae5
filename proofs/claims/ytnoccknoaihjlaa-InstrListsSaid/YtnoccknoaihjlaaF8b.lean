import Derived.Test.YtnoccknoaihjlaaF8
set_option linter.unusedVariables false
set_option linter.unusedSimpArgs false
set_option linter.unnecessarySimpa false
/- The engine, part 8b: what a contract with memory gives at a call. -/
namespace Go.DF
universe u v
set_option linter.unusedSimpArgs false
set_option linter.unusedVariables false
variable [Fam]

omit [Fam] in
theorem T.Holds.at {α : Type u} {t : T α} {Q : α → Prop} {a : α} (h : t.Holds Q) (p : t.Path a) : Q a := by
  induction t with
  | fail => exact h.elim
  | leaf b => obtain rfl : a = b := p; exact h
  | br b t e iht ihe =>
    rcases p with ⟨hb, p⟩ | ⟨hb, p⟩
    · exact iht (h.1 hb) p
    · exact ihe (h.2 hb) p
  | ob q t ih => exact ih h.2 p.2

theorem hpLt_ok : ∀ {l : Hp} {n i : Nat} {o : Bool × DO}, hpLt n l = true → look l i = some o → i < n
  | [], n, i, o, _, h => by simp [look] at h
  | (j, x) :: l, n, i, o, hn, h => by
    unfold hpLt at hn
    rw [look_cons] at h
    split at hn
    · rename_i hx
      split at h
      · rename_i he; subst he; exact Nat.le_of_ble_eq_true hx
      · exact hpLt_ok hn h
    · simp at hn
omit [Fam] in
theorem isTgt_of : ∀ {σ : Sg} {i j : Nat}, look σ i = some j → isTgt σ j = true
  | [], i, j, h => by simp [look] at h
  | (a, b) :: r, i, j, h => by
    rw [look_cons] at h
    unfold isTgt
    split at h
    · obtain rfl := Option.some.inj h
      simp [Nat.beq_refl]
    · have := isTgt_of h
      split
      · rfl
      · exact this
theorem tgtW_ok {σ : Sg} {hp : Hp} {i : Nat} : tgtW σ hp i = true ↔ isTgt σ i = true ∧ ∃ o, look hp i = some (false, o) := by
  unfold tgtW
  cases h1 : isTgt σ i with
  | false => simp
  | true =>
    cases h2 : look hp i with
    | none => simp
    | some zo => obtain ⟨z, o⟩ := zo; cases z <;> simp
theorem dropT_look {σ : Sg} {hp0 : Hp} : ∀ (l : Hp) (i : Nat), look (dropT σ hp0 l) i = if tgtW σ hp0 i = true then none else look l i
  | [], i => by simp [dropT, look]
  | (j, e) :: l, i => by
    have ih := dropT_look (σ := σ) (hp0 := hp0) l i
    unfold dropT
    cases hj : tgtW σ hp0 j with
    | true =>
      dsimp only
      rw [ih, look_cons]
      split
      · rfl
      · rename_i hne
        rw [if_neg]
        intro e; subst e; exact hne hj
    | false =>
      dsimp only
      rw [look_cons, look_cons, ih]
      by_cases he : j = i
      · subst he
        rw [if_pos rfl, if_pos rfl, if_neg (by rw [hj]; simp)]
      · rw [if_neg he, if_neg he]

mutual
theorem rnD_ok {f : Nat → Option Nat} {g g' : G} {w : World} (hf : ∀ i i' b, f i = some i' → g.ρ i = some b → g'.ρ i' = some b ∧ g'.base i' = g.base i) : ∀ (d d' : DV) (v : Value), rnD f d = some d' → g'.pr = g.pr → Rep g w d v → Rep g' w d' v
  | .bool b, d', v, h, _, r => by unfold rnD at h; obtain rfl := Option.some.inj h; simpa only [Rep] using r
  | .int k n, d', v, h, _, r => by unfold rnD at h; obtain rfl := Option.some.inj h; simpa only [Rep] using r
  | .str s, d', v, h, _, r => by unfold rnD at h; obtain rfl := Option.some.inj h; simpa only [Rep] using r
  | .nilptr, d', v, h, _, r => by unfold rnD at h; obtain rfl := Option.some.inj h; simpa only [Rep] using r
  | .nilslice, d', v, h, _, r => by unfold rnD at h; obtain rfl := Option.some.inj h; simpa only [Rep] using r
  | .nilmap, d', v, h, _, r => by unfold rnD at h; obtain rfl := Option.some.inj h; simpa only [Rep] using r
  | .nilfunc, d', v, h, _, r => by unfold rnD at h; obtain rfl := Option.some.inj h; simpa only [Rep] using r
  | .nilif, d', v, h, _, r => by unfold rnD at h; obtain rfl := Option.some.inj h; simpa only [Rep] using r
  | .any, d', v, h, _, r => by unfold rnD at h; obtain rfl := Option.some.inj h; simp only [Rep]
  | .per c a, d', v, h, hp, r => by
    unfold rnD at h
    obtain rfl := Option.some.inj h
    simp only [Rep] at r ⊢; rw [hp]; exact r
  | .pel c a o, d', v, h, hp, r => by
    unfold rnD at h
    obtain rfl := Option.some.inj h
    simp only [Rep] at r ⊢; rw [hp]; exact r
  | .ptr p, d', v, h, _, r => by
    unfold rnD at h
    split at h
    · rename_i i hi
      obtain rfl := Option.some.inj h
      simp only [Rep] at r ⊢
      obtain ⟨b, hb, rfl⟩ := r
      obtain ⟨f1, f2⟩ := hf _ _ _ hi hb
      exact ⟨b, f1, by simp only [G.off, f2]; rfl⟩
    · simp at h
  | .slice p n, d', v, h, _, r => by
    unfold rnD at h
    split at h
    · rename_i i hi
      obtain rfl := Option.some.inj h
      simp only [Rep] at r ⊢
      rcases r with r | ⟨b, o, c, hb, hc, r1, ho, k⟩
      · exact .inl r
      · obtain ⟨f1, f2⟩ := hf _ _ _ hi hb
        exact .inr ⟨b, o, c, f1, hc, r1, by simp only [G.off, f2] at ho ⊢; exact ho, k⟩
    · simp at h
  | .map i, d', v, h, _, r => by
    unfold rnD at h
    split at h
    · rename_i i' hi
      obtain rfl := Option.some.inj h
      simp only [Rep] at r ⊢
      obtain ⟨b, hb, rfl⟩ := r
      exact ⟨b, (hf _ _ _ hi hb).1, rfl⟩
    · simp at h
  | .func fn cap, d', v, h, hp, r => by
    unfold rnD at h
    split at h
    · rename_i c hc
      obtain rfl := Option.some.inj h
      simp only [Rep] at r ⊢
      obtain ⟨vs, rfl, r⟩ := r
      exact ⟨vs, rfl, rnL_ok hf _ _ _ hc hp r⟩
    · simp at h
  | .agg cs, d', v, h, hp, r => by
    unfold rnD at h
    split at h
    · rename_i c hc
      obtain rfl := Option.some.inj h
      simp only [Rep] at r ⊢
      obtain ⟨vs, rfl, r, r1⟩ := r
      exact ⟨vs, rfl, rnL_ok hf _ _ _ hc hp r, r1⟩
    · simp at h
  | .tup cs, d', v, h, hp, r => by
    unfold rnD at h
    split at h
    · rename_i c hc
      obtain rfl := Option.some.inj h
      simp only [Rep] at r ⊢
      obtain ⟨vs, rfl, r⟩ := r
      exact ⟨vs, rfl, rnL_ok hf _ _ _ hc hp r⟩
    · simp at h
theorem rnL_ok {f : Nat → Option Nat} {g g' : G} {w : World} (hf : ∀ i i' b, f i = some i' → g.ρ i = some b → g'.ρ i' = some b ∧ g'.base i' = g.base i) : ∀ (ds ds' : List DV) (vs : List Value), rnL f ds = some ds' → g'.pr = g.pr → RepL g w ds vs → RepL g' w ds' vs
  | [], ds', vs, h, _, r => by unfold rnL at h; obtain rfl := Option.some.inj h; simpa only [RepL] using r
  | d :: ds, ds', vs, h, hp, r => by
    unfold rnL at h
    split at h
    · rename_i d1 ds1 h1 h2
      obtain rfl := Option.some.inj h
      simp only [RepL] at r ⊢
      obtain ⟨v, us, rfl, r1, r2⟩ := r
      exact ⟨v, us, rfl, rnD_ok hf d d1 v h1 hp r1, rnL_ok hf ds ds1 us h2 hp r2⟩
    · simp at h
end

theorem rnM_ok {f : Nat → Option Nat} {g g' : G} {w : World} (hf : ∀ i i' b, f i = some i' → g.ρ i = some b → g'.ρ i' = some b ∧ g'.base i' = g.base i) (hp : g'.pr = g.pr) : ∀ (es es' : List (DV × DV)) (ks vs : List Value), rnM f es = some es' →
    RepL g w (es.map (·.1)) ks → RepL g w (es.map (·.2)) vs → RepL g' w (es'.map (·.1)) ks ∧ RepL g' w (es'.map (·.2)) vs
  | [], es', ks, vs, h, r1, r2 => by unfold rnM at h; obtain rfl := Option.some.inj h; exact ⟨by simpa [RepL] using r1, by simpa [RepL] using r2⟩
  | (a, b) :: es, es', ks, vs, h, r1, r2 => by
    unfold rnM at h
    split at h
    · rename_i a1 b1 es1 h1 h2 h3
      obtain rfl := Option.some.inj h
      simp only [List.map_cons, RepL] at r1 r2 ⊢
      obtain ⟨k, ks, rfl, r1, r1'⟩ := r1
      obtain ⟨v, vs, rfl, r2, r2'⟩ := r2
      obtain ⟨x, y⟩ := rnM_ok hf hp es es1 ks vs h3 r1' r2'
      exact ⟨⟨k, ks, rfl, rnD_ok hf _ _ _ h1 hp r1, x⟩, v, vs, rfl, rnD_ok hf _ _ _ h2 hp r2, y⟩
    · simp at h

theorem rnO_ok {f : Nat → Option Nat} {g g' : G} {w : World} (hf : ∀ i i' b, f i = some i' → g.ρ i = some b → g'.ρ i' = some b ∧ g'.base i' = g.base i) (hp : g'.pr = g.pr) {o o' : DO} {i i' b ba : Nat} (hs : g'.sub i' = g.sub i) (h : rnO f o = some o') (r : ORep g w i o b ba) : ORep g' w i' o' b ba := by
  unfold rnO at h
  split at h
  · split at h
    · rename_i cs' hc
      obtain rfl := Option.some.inj h
      obtain ⟨r0, vs, r1, r2, r3⟩ := r
      exact ⟨r0, vs, r1, rnL_ok hf _ _ _ hc hp r2, r3⟩
    · simp at h
  · obtain rfl := Option.some.inj h
    obtain ⟨vs, r1, r2⟩ := r
    exact ⟨vs, r1, by rw [hp]; exact r2⟩
  · obtain rfl := Option.some.inj h
    obtain ⟨r0, vs, r1, r2, r3, r4⟩ := r
    refine ⟨r0, vs, r1, r2, r3, fun k l hk => ?_⟩
    obtain ⟨v, k1, k2, _⟩ := r4 k l hk
    exact ⟨v, k1, fun hh => by rw [hp, hs]; exact k2 hh, fun _ _ _ h => by simp at h⟩
  · simp at h
  · split at h
    · rename_i es' he
      obtain rfl := Option.some.inj h
      obtain ⟨ms, ck, r1, r0, r2, r3⟩ := r
      obtain ⟨x, y⟩ := rnM_ok hf hp _ _ _ _ he r2 r3
      exact ⟨ms, ck, r1, r0, x, y⟩
    · simp at h
  · obtain rfl := Option.some.inj h
    obtain ⟨ms, ck, r1, r2⟩ := r
    exact ⟨ms, ck, r1, by rw [hp]; exact r2⟩
theorem rnO_kind {f : Nat → Option Nat} {o o' : DO} (h : rnO f o = some o') : isRows o' = isRows o ∧ (noneO o → noneO o') ∧ ∀ k, subOf o' k ↔ subOf o k := by
  unfold rnO at h
  split at h
  · split at h
    · obtain rfl := Option.some.inj h; exact ⟨rfl, fun h => h, fun k => Iff.rfl⟩
    · simp at h
  · obtain rfl := Option.some.inj h; exact ⟨rfl, fun h => h, fun k => Iff.rfl⟩
  · obtain rfl := Option.some.inj h; exact ⟨rfl, fun h => h, fun k => Iff.rfl⟩
  · simp at h
  · split at h
    · obtain rfl := Option.some.inj h; exact ⟨rfl, fun h => h, fun k => Iff.rfl⟩
    · simp at h
  · obtain rfl := Option.some.inj h; exact ⟨rfl, fun h => h, fun k => Iff.rfl⟩
theorem rnH_look {f : Nat → Option Nat} : ∀ {l h : Hp} {i' : Nat} {z : Bool} {o' : DO}, rnH f l = some h → look h i' = some (z, o') → ∃ i o, look l i = some (z, o) ∧ f i = some i' ∧ rnO f o = some o'
  | [], h, i', z, o', hr, hl => by unfold rnH at hr; obtain rfl := Option.some.inj hr; simp [look] at hl
  | (i0, (z0, o0)) :: l, h, i', z, o', hr, hl => by
    unfold rnH at hr
    split at hr
    · rename_i j0 o1 l1 h1 h2 h3
      obtain rfl := Option.some.inj hr
      rw [look_cons] at hl
      split at hl
      · rename_i he
        subst he
        have hl := Option.some.inj hl
        simp only [Prod.mk.injEq] at hl
        obtain ⟨rfl, rfl⟩ := hl
        exact ⟨i0, o0, by rw [look_cons, if_pos rfl], h1, h2⟩
      · rename_i he
        obtain ⟨i, o, k1, k2, k3⟩ := rnH_look h3 hl
        refine ⟨i, o, ?_, k2, k3⟩
        rw [look_cons, if_neg]
        · exact k1
        · intro e; subst e; rw [h1] at k2; exact he (Option.some.inj k2)
    · simp at hr
theorem tgtsIn_ok {hp : Hp} : ∀ {σ : Sg} {i j : Nat}, tgtsIn hp σ = true → look σ i = some j → (∃ o, look hp j = some o) ∨ noBlock ≤ j
  | [], i, j, _, h => by simp [look] at h
  | (a, b) :: r, i, j, hw, h => by
    unfold tgtsIn at hw
    rw [look_cons] at h
    split at hw
    · rename_i o ho
      split at h
      · obtain rfl := Option.some.inj h; exact .inl ⟨o, ho⟩
      · exact tgtsIn_ok hw h
    · split at hw
      · rename_i hb
        split at h
        · obtain rfl := Option.some.inj h; exact .inr (Nat.le_of_ble_eq_true hb)
        · exact tgtsIn_ok hw h
      · simp at hw

omit [Fam] in
theorem look_append {α : Type u} {l r : List (Nat × α)} {i : Nat} : look (l ++ r) i = match look l i with | some x => some x | none => look r i := by
  induction l with
  | nil => rfl
  | cons p l ih =>
    obtain ⟨j, x⟩ := p
    rw [List.cons_append, look_cons, look_cons, ih]
    by_cases h : j = i
    · simp [h]
    · simp [h]


/-- What 'subS' says, apart from worlds. -/
theorem subS_core {n0 : Nat} {s' s : St} {k : Prop} (h : subS n0 s' s k) : ∃ hp1 σ, (ghosts (plan n0 s' s) s'.hp).Path hp1 ∧ s'.nx ≤ noBlock ∧ SubS (idS n0) σ ∧ InjS σ ∧ (∀ i, s.nx ≤ i → look σ i = none) ∧ k ∧
    (∀ t d, look s.fr t = some d → ∃ d', look s'.fr t = some d' ∧ ∀ g w v, Rel g hp1 w → Rep g w d' v → Rep (ren g σ) w d v) ∧
    (∀ i z o, look s.hp i = some (z, o) → ∃ j, look σ i = some j ∧ HpAt hp1 σ i j z o) := by
  obtain ⟨hp1, hp, h⟩ := h.path
  split at h
  · rename_i σ1 ps h1
    split at h
    · rename_i σ qs h2
      split at h
      · rename_i hk
        split at h
        case h_2 => exact h.elim
        rename_i hnb
        obtain ⟨hq, hk'⟩ : (∀ q ∈ ps ++ qs, q) ∧ k := ⟨allP_ok h.1, h.2⟩
        obtain ⟨a1, a2, a3⟩ := uniF_ok _ _ _ _ h1
        obtain ⟨b1, b2, b3⟩ := uniH_ok _ _ _ _ h2
        exact ⟨hp1, σ, hp, Nat.le_of_ble_eq_true hnb, a1.trans b1, b2 (a2 (idS_inj n0)), keysLt_ok hk, hk', a3 (fun q hq' => hq q (List.mem_append.2 (.inl hq'))) σ b1, b3 (fun q hq' => hq q (List.mem_append.2 (.inr hq'))) σ (SubS.refl _)⟩
      · exact h.elim
    · exact h.elim
  · exact h.elim

theorem Rel.ren {g : G} {hp' hp : Hp} {w : World} {σ : Sg} (hR : Rel g hp' w) (hinj : InjS σ) (hnb : ∀ i j, look σ i = some j → noBlock ≤ j → look hp' j = none → g.ρ j = none)
    (hH : ∀ i z o, look hp i = some (z, o) → ∃ j, look σ i = some j ∧ HpAt hp' σ i j z o) : Rel (ren g σ) hp w := by
  have main : ∀ {i z o b}, look hp i = some (z, o) → (DF.ren g σ).ρ i = some b → ∃ j o', look σ i = some j ∧ look hp' j = some (z, o') ∧ g.ρ j = some b ∧ (∀ k, subOf o k → subOf o' k) := by
    intro i z o b hi hb
    obtain ⟨j, hj, hx⟩ := hH i z o hi
    simp only [DF.ren, hj, Option.bind_some] at hb
    rcases hx with ⟨o', ho', _, _, hs, _⟩ | ⟨h1, h2, _⟩
    · exact ⟨j, o', hj, ho', hb, hs⟩
    · rw [hnb i j hj h1 h2] at hb; simp at hb
  have rows : ∀ {i z o k b}, look hp i = some (z, o) → subOf o k → (DF.ren g σ).sub i k = some b → ∃ j o', look σ i = some j ∧ look hp' j = some (z, o') ∧ subOf o' k ∧ g.sub j k = some b := by
    intro i z o k b hi hk hb
    obtain ⟨j, hj, hx⟩ := hH i z o hi
    rcases hx with ⟨o', ho', _, _, hs, _⟩ | ⟨h1, h2, _, _, h5⟩
    · exact ⟨j, o', hj, ho', hs k hk, by simpa [DF.ren, hj] using hb⟩
    · exact (h5 k hk).elim
  refine ⟨?_, fun i z o hi hr => ?_, ?_, ?_, hR.prl⟩
  · intro i z o hi
    obtain ⟨j, hj, ⟨o', ho', _, hno, _, hr⟩ | ⟨h1, h2, h3, h4, _⟩⟩ := hH i z o hi
    · rcases hR.obj j z o' ho' with ⟨b, hb, r, hp⟩ | ⟨hn, hb⟩
      · refine .inl ⟨b, by simp [DF.ren, hj, hb], ?_, hp⟩
        have := hr g w b _ hR r
        simpa [DF.ren, hj] using this
      · exact .inr ⟨hno hn, by simp [DF.ren, hj, hb]⟩
    · exact .inr ⟨h3, by simp [DF.ren, hj, hnb i j hj h1 h2]⟩
  · obtain ⟨j, hj, ⟨o', ho', hro, _⟩ | ⟨_, _, _, h4, _⟩⟩ := hH i z o hi
    · exact hR.rws j z o' ho' (by rw [← hro]; exact hr)
    · rw [h4] at hr; simp at hr
  · intro i i' oi oi' b hi hi' hb hb'
    obtain ⟨j, o', hj, ho', k1, _⟩ := main hi hb
    obtain ⟨j', o'', hj', ho'', k2, _⟩ := main hi' hb'
    have := hR.inj j j' o' o'' b ho' ho'' k1 k2
    subst this
    exact hinj i i' j hj hj'
  · intro i z o k b hi hk hb
    obtain ⟨j, o', hj, ho', hk', hb'⟩ := rows hi hk hb
    obtain ⟨a1, a2, a3, a4⟩ := hR.sub j z o' k b ho' hk' hb'
    refine ⟨a1, a2, fun i2 o2 hi2 hb2 => ?_, fun i2 z2 o2 k2 hi2 hk2 hb2 => ?_⟩
    · obtain ⟨j2, o2', hj2, ho2', q1, _⟩ := main hi2 hb2
      exact a3 j2 o2' ho2' q1
    · obtain ⟨j2, o2', hj2, ho2', q1, q2⟩ := rows hi2 hk2 hb2
      obtain ⟨e1, e2⟩ := a4 j2 z2 o2' k2 ho2' q1 q2
      subst e1
      exact ⟨hinj i i2 j hj hj2, e2⟩

/-- Blocks of the new form are blocks of the old one. -/
theorem Mine.ren {g : G} {hp' hp : Hp} {σ : Sg} {b : Nat} (hnb : ∀ i j, look σ i = some j → noBlock ≤ j → look hp' j = none → g.ρ j = none) (hH : ∀ i z o, look hp i = some (z, o) → ∃ j, look σ i = some j ∧ HpAt hp' σ i j z o) (h : Mine (ren g σ) hp b) : Mine g hp' b := by
  obtain ⟨i, o, hi, hb⟩ := h
  obtain ⟨j, hj, hx⟩ := hH i false o hi
  rcases hx with ⟨o', ho', _, _, hs, _⟩ | ⟨h1, h2, _, _, h5⟩
  · refine ⟨j, o', ho', ?_⟩
    rcases hb with hb | ⟨k, hk, hb⟩
    · exact .inl (by simpa [DF.ren, hj] using hb)
    · exact .inr ⟨k, hs k hk, by simpa [DF.ren, hj] using hb⟩
  · rcases hb with hb | ⟨k, hk, _⟩
    · simp [DF.ren, hj, hnb i j hj h1 h2] at hb
    · exact (h5 k hk).elim

/-- What a contract says, in the caller's own numbers. -/
theorem can_core {P : Program} (c : CanC P) {x : c.α} (hx : c.pre x) {g : G} {hp : Hp} {w : World} (hR : Rel g hp w) {args : List DV} {vs : List Value} (ha : RepL g w args vs)
    {σ1 σ : Sg} {ps qs : List Prop} (h1 : uniL hp [] args (c.args x) = some (σ1, ps)) (h2 : uniH hp σ1 (c.hp x) = some (σ, qs)) (hk : keysLt c.n σ = true) (hps : ∀ q ∈ ps, q) (hqs : ∀ q ∈ qs, q) (hnb : ∀ i j, look σ i = some j → noBlock ≤ j → look hp j = none → g.ρ j = none)
    {r : DV × Hp × Nat} (hr : (c.out x).Path r) :
    (∀ i z o, look (c.hp x) i = some (z, o) → ∃ j, look σ i = some j ∧ HpAt hp σ i j z o) ∧ InjS σ ∧
    Calls P c.f vs.toArray w fun e w' => ∃ v g2, e = .returned v ∧ Rel g2 r.2.1 w' ∧ Rep g2 w' r.1 v ∧ Ext (ren g σ) w g2 w' ∧ Kept (Mine (ren g σ) (c.hp x)) w w' ∧ (∀ i, r.2.2 ≤ i → g2.ρ i = none) ∧
      (∀ b, Mine g2 r.2.1 b → Mine (ren g σ) (c.hp x) b ∨ w.heap.size ≤ b) ∧ (∀ b, g2.pr b → g.pr b ∨ Mine (ren g σ) (c.hp x) b ∨ w.heap.size ≤ b) ∧ (∀ i, i < c.n → g2.ρ i = (ren g σ).ρ i) := by
  obtain ⟨a1, a2, a3⟩ := uniL_ok _ _ _ _ _ h1
  obtain ⟨b1, b2, b3⟩ := uniH_ok _ _ _ _ h2
  have hinj : InjS σ := b2 (a2 (fun i i' j h => by simp [look] at h))
  have hH := b3 hqs σ (SubS.refl _)
  have hRc : Rel (ren g σ) (c.hp x) w := hR.ren hinj hnb hH
  have hac : RepL (ren g σ) w (c.args x) vs := a3 hps σ b1 g w vs hR ha
  have hfc : ∀ i, c.n ≤ i → (ren g σ).ρ i = none := fun i hi => by simp [ren, keysLt_ok hk i hi]
  refine ⟨hH, hinj, (c.ok x hx _ w vs hRc hfc hac).mono ?_⟩
  rintro e w' ⟨v, d1, st1, g0, rfl, hsub, hR0, hr0, hE0, hK0, hf0, hown0, hpr0, hsm0⟩
  obtain ⟨hp1, τ, hgh, tnb, t1, t2, t3, _, t4, t5⟩ := subS_core (hsub.at hr)
  obtain ⟨g1, hP⟩ := ghosts_ok (nx := st1.nx) _ _ _ _ hgh hR0
  have hf1 : ∀ i, st1.nx ≤ i → g1.ρ i = none := fun i hi => by rw [hP.out i (.inr hi)]; exact hf0 i hi
  have hnb1 : ∀ i, noBlock ≤ i → g1.ρ i = none := fun i hi => hf1 i (Nat.le_trans tnb hi)
  have hid : ∀ i, i < c.n → look τ i = some i := fun i hi => t1 _ _ (idS_ok c.n i hi)
  have hE1 := hE0.trans hP.ext
  have hsm1 : ∀ i, i < c.n → g1.ρ i = (ren g σ).ρ i := by
    intro i hi
    rw [← hsm0 i hi]
    by_cases hlt : i < st1.nx
    · exact hP.out i (.inl hlt)
    · exact hP.out i (.inr (by omega))
  have hmine1 : ∀ b, Mine g1 hp1 b → Mine (ren g σ) (c.hp x) b ∨ w.heap.size ≤ b := by
    intro b hb
    rcases hP.mine b hb with h | h
    · exact hown0 b h
    · exact .inr (Nat.le_trans hK0.size h)
  have hltn : ∀ i b, (ren g σ).ρ i = some b → i < c.n := by
    intro i b hb
    rcases Nat.lt_or_ge i c.n with h | h
    · exact h
    · rw [hfc i h] at hb; simp at hb
  refine ⟨v, ren g1 τ, rfl, hP.rel.ren t2 (fun _ j _ h _ => hnb1 j h) t5, ?_, ⟨?_, hE1.pr, hE1.at', ?_, hE1.shape⟩, hK0, ?_, fun b hb => hmine1 b (Mine.ren (fun _ j _ h _ => hnb1 j h) t5 hb), fun b hb => ?_, fun i hi => by simp only [ren, hid i hi, Option.bind_some]; exact hsm1 i hi⟩
  · obtain ⟨d', hd', hr'⟩ := t4 0 r.1 (by simp [look])
    have : d' = d1 := by simpa [look] using hd'.symm
    subst this
    exact hr' _ _ _ hP.rel (Rep.ext hP.ext _ _ hr0)
  · intro i b hb
    simp [ren, hid i (hltn i b hb), hE1.rho i b hb]
  · intro i b hb
    have := hE1.base i b hb
    simpa [ren, hid i (hltn i b hb)] using this
  · intro i hi
    simp [ren, t3 i hi]
  · have hb : g1.pr b := hb
    rcases hP.prg b hb with h | h | h
    · exact hpr0 b h
    · exact .inr (hown0 b h)
    · exact .inr (.inr (Nat.le_trans hK0.size h))
end Go.DF
