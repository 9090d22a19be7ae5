import Derived.Test.YtnoccknoaihjlaaEng5c
set_option linter.unusedVariables false
set_option linter.unusedSimpArgs false
set_option linter.unnecessarySimpa false
/- The engine, part 5d: what a contract with memory gives at a call. -/
namespace Go.DE
universe u v

theorem Kept.refl (M : Nat → Prop) (w : World) : Kept M w w := ⟨rfl, rfl, rfl, Nat.le_refl _, fun _ _ _ => rfl⟩

mutual
theorem rnD_ok {f : Nat → Option Nat} {g g' : G} {w : World} (hf : ∀ i i' b, f i = some i' → g.ρ i = some b → g'.ρ i' = some b ∧ g'.base i' = g.base i) : ∀ (d d' : DV) (v : Value), rnD f d = some d' → (g'.pr = g.pr ∨ noImm d = true) → Rep g w d v → Rep g' w d' v
  | .bool b, d', v, h, _, r => by unfold rnD at h; obtain rfl := Option.some.inj h; simpa only [Rep] using r
  | .int k n, d', v, h, _, r => by unfold rnD at h; obtain rfl := Option.some.inj h; simpa only [Rep] using r
  | .str s, d', v, h, _, r => by unfold rnD at h; obtain rfl := Option.some.inj h; simpa only [Rep] using r
  | .nilptr, d', v, h, _, r => by unfold rnD at h; obtain rfl := Option.some.inj h; simpa only [Rep] using r
  | .nilslice, d', v, h, _, r => by unfold rnD at h; obtain rfl := Option.some.inj h; simpa only [Rep] using r
  | .nilmap, d', v, h, _, r => by unfold rnD at h; obtain rfl := Option.some.inj h; simpa only [Rep] using r
  | .nilfunc, d', v, h, _, r => by unfold rnD at h; obtain rfl := Option.some.inj h; simpa only [Rep] using r
  | .nilif, d', v, h, _, r => by unfold rnD at h; obtain rfl := Option.some.inj h; simpa only [Rep] using r
  | .any, d', v, h, _, r => by unfold rnD at h; obtain rfl := Option.some.inj h; simp only [Rep]
  | .imm m, d', v, h, hp, r => by
    unfold rnD at h
    obtain rfl := Option.some.inj h
    rcases hp with hp | hp
    · simp only [Rep] at r ⊢; rw [hp]; exact r
    · simp [noImm] at hp
  | .ptr p, d', v, h, _, r => by
    unfold rnD at h
    split at h
    · rename_i i hi
      obtain rfl := Option.some.inj h
      simp only [Rep] at r ⊢
      obtain ⟨b, hb, rfl⟩ := r
      obtain ⟨f1, f2⟩ := hf _ _ _ hi hb
      exact ⟨b, f1, by simp only [G.off, f2]; rfl⟩
    · simp at h
  | .slice p n, d', v, h, _, r => by
    unfold rnD at h
    split at h
    · rename_i i hi
      obtain rfl := Option.some.inj h
      simp only [Rep] at r ⊢
      rcases r with r | ⟨b, o, c, hb, hc, r1, ho, k⟩
      · exact .inl r
      · obtain ⟨f1, f2⟩ := hf _ _ _ hi hb
        exact .inr ⟨b, o, c, f1, hc, r1, by simp only [G.off, f2] at ho ⊢; exact ho, k⟩
    · simp at h
  | .map i, d', v, h, _, r => by
    unfold rnD at h
    split at h
    · rename_i i' hi
      obtain rfl := Option.some.inj h
      simp only [Rep] at r ⊢
      obtain ⟨b, hb, rfl⟩ := r
      exact ⟨b, (hf _ _ _ hi hb).1, rfl⟩
    · simp at h
  | .func fn cap, d', v, h, hp, r => by
    unfold rnD at h
    split at h
    · rename_i c hc
      obtain rfl := Option.some.inj h
      simp only [Rep] at r ⊢
      obtain ⟨vs, rfl, r⟩ := r
      exact ⟨vs, rfl, rnL_ok hf _ _ _ hc (hp.imp id (fun h => by simpa [noImm] using h)) r⟩
    · simp at h
  | .agg cs, d', v, h, hp, r => by
    unfold rnD at h
    split at h
    · rename_i c hc
      obtain rfl := Option.some.inj h
      simp only [Rep] at r ⊢
      obtain ⟨vs, rfl, r, r1⟩ := r
      exact ⟨vs, rfl, rnL_ok hf _ _ _ hc (hp.imp id (fun h => by simpa [noImm] using h)) r, r1⟩
    · simp at h
  | .tup cs, d', v, h, hp, r => by
    unfold rnD at h
    split at h
    · rename_i c hc
      obtain rfl := Option.some.inj h
      simp only [Rep] at r ⊢
      obtain ⟨vs, rfl, r⟩ := r
      exact ⟨vs, rfl, rnL_ok hf _ _ _ hc (hp.imp id (fun h => by simpa [noImm] using h)) r⟩
    · simp at h
theorem rnL_ok {f : Nat → Option Nat} {g g' : G} {w : World} (hf : ∀ i i' b, f i = some i' → g.ρ i = some b → g'.ρ i' = some b ∧ g'.base i' = g.base i) : ∀ (ds ds' : List DV) (vs : List Value), rnL f ds = some ds' → (g'.pr = g.pr ∨ noImmL ds = true) → RepL g w ds vs → RepL g' w ds' vs
  | [], ds', vs, h, _, r => by unfold rnL at h; obtain rfl := Option.some.inj h; simpa only [RepL] using r
  | d :: ds, ds', vs, h, hp, r => by
    unfold rnL at h
    split at h
    · rename_i d1 ds1 h1 h2
      obtain rfl := Option.some.inj h
      simp only [RepL] at r ⊢
      obtain ⟨v, us, rfl, r1, r2⟩ := r
      have hp' : noImmL (d :: ds) = true → noImm d = true ∧ noImmL ds = true := by
        intro h; cases hd : noImm d <;> simp [noImmL, hd] at h ⊢; exact h
      exact ⟨v, us, rfl, rnD_ok hf d d1 v h1 (hp.imp id (fun h => (hp' h).1)) r1, rnL_ok hf ds ds1 us h2 (hp.imp id (fun h => (hp' h).2)) r2⟩
    · simp at h
end

theorem rnM_ok {f : Nat → Option Nat} {g g' : G} {w : World} (hf : ∀ i i' b, f i = some i' → g.ρ i = some b → g'.ρ i' = some b ∧ g'.base i' = g.base i) (hp : g'.pr = g.pr) : ∀ (es es' : List (DV × DV)) (ks vs : List Value), rnM f es = some es' →
    RepL g w (es.map (·.1)) ks → RepL g w (es.map (·.2)) vs → RepL g' w (es'.map (·.1)) ks ∧ RepL g' w (es'.map (·.2)) vs
  | [], es', ks, vs, h, r1, r2 => by unfold rnM at h; obtain rfl := Option.some.inj h; exact ⟨by simpa [RepL] using r1, by simpa [RepL] using r2⟩
  | (a, b) :: es, es', ks, vs, h, r1, r2 => by
    unfold rnM at h
    split at h
    · rename_i a1 b1 es1 h1 h2 h3
      obtain rfl := Option.some.inj h
      simp only [List.map_cons, RepL] at r1 r2 ⊢
      obtain ⟨k, ks, rfl, r1, r1'⟩ := r1
      obtain ⟨v, vs, rfl, r2, r2'⟩ := r2
      obtain ⟨x, y⟩ := rnM_ok hf hp es es1 ks vs h3 r1' r2'
      exact ⟨⟨k, ks, rfl, rnD_ok hf _ _ _ h1 (.inl hp) r1, x⟩, v, vs, rfl, rnD_ok hf _ _ _ h2 (.inl hp) r2, y⟩
    · simp at h

theorem rnO_ok {f : Nat → Option Nat} {g g' : G} {w : World} (hf : ∀ i i' b, f i = some i' → g.ρ i = some b → g'.ρ i' = some b ∧ g'.base i' = g.base i) (hp : g'.pr = g.pr) {o o' : DO} {b ba : Nat} (h : rnO f o = some o') (r : ORep g w o b ba) : ORep g' w o' b ba := by
  unfold rnO at h
  split at h
  · split at h
    · rename_i cs' hc
      obtain rfl := Option.some.inj h
      obtain ⟨vs, r1, r2, r3⟩ := r
      exact ⟨vs, r1, rnL_ok hf _ _ _ hc (.inl hp) r2, r3⟩
    · simp at h
  · obtain rfl := Option.some.inj h
    rename_i t c l
    obtain ⟨vs, r1, r2, r3⟩ := r
    exact ⟨vs, r1, r2, fun i a hi => idfL_rep (g := g) (g' := g') hp _ _ (c.idf a) (r3 i a hi)⟩
  · obtain rfl := Option.some.inj h
    rename_i c l
    obtain ⟨vs, t, fr, r1, r3⟩ := r
    exact ⟨vs, t, fr, r1, fun i a hi => ⟨idfL_rep (g := g) (g' := g') hp _ _ (c.idf a) (r3 i a hi).1, (r3 i a hi).2⟩⟩
  · split at h
    · rename_i es' he
      obtain rfl := Option.some.inj h
      obtain ⟨ms, ck, r1, r2, r3⟩ := r
      obtain ⟨x, y⟩ := rnM_ok hf hp _ _ _ _ he r2 r3
      exact ⟨ms, ck, r1, x, y⟩
    · simp at h

theorem rnO_kind {f : Nat → Option Nat} {o o' : DO} (h : rnO f o = some o') : isRo o' = isRo o ∧ (noneO o → noneO o') := by
  unfold rnO at h
  split at h
  · split at h
    · obtain rfl := Option.some.inj h; exact ⟨rfl, fun h => h⟩
    · simp at h
  · obtain rfl := Option.some.inj h; exact ⟨rfl, fun h => h⟩
  · obtain rfl := Option.some.inj h; exact ⟨rfl, fun h => h⟩
  · split at h
    · obtain rfl := Option.some.inj h; exact ⟨rfl, fun h => h⟩
    · simp at h
theorem hpLt_ok : ∀ {l : Hp} {n i : Nat} {o : DO}, hpLt n l = true → look l i = some o → i < n
  | [], n, i, o, _, h => by simp [look] at h
  | (j, x) :: l, n, i, o, hn, h => by
    unfold hpLt at hn
    rw [look_cons] at h
    split at hn
    · rename_i hx
      split at h
      · rename_i he; subst he; exact Nat.le_of_ble_eq_true hx
      · exact hpLt_ok hn h
    · simp at hn
theorem noRo_ok : ∀ {l : Hp} {i : Nat} {o : DO}, noRo l = true → look l i = some o → isRo o = false
  | [], i, o, _, h => by simp [look] at h
  | (j, x) :: l, i, o, hn, h => by
    unfold noRo at hn
    rw [look_cons] at h
    split at hn
    · simp at hn
    · rename_i hx
      split at h
      · obtain rfl := Option.some.inj h; exact hx
      · exact noRo_ok hn h

theorem rnH_look {f : Nat → Option Nat} : ∀ {l h : Hp} {i' : Nat} {o' : DO}, rnH f l = some h → look h i' = some o' → ∃ i o, look l i = some o ∧ f i = some i' ∧ rnO f o = some o'
  | [], h, i', o', hr, hl => by unfold rnH at hr; obtain rfl := Option.some.inj hr; simp [look] at hl
  | (i0, o0) :: l, h, i', o', hr, hl => by
    unfold rnH at hr
    split at hr
    · rename_i j0 o1 l1 h1 h2 h3
      obtain rfl := Option.some.inj hr
      rw [look_cons] at hl
      split at hl
      · rename_i he
        subst he
        obtain rfl := Option.some.inj hl
        exact ⟨i0, o0, by rw [look_cons, if_pos rfl], h1, h2⟩
      · rename_i he
        obtain ⟨i, o, k1, k2, k3⟩ := rnH_look h3 hl
        refine ⟨i, o, ?_, k2, k3⟩
        rw [look_cons, if_neg]
        · exact k1
        · intro e; subst e; rw [h1] at k2; exact he (Option.some.inj k2)
    · simp at hr

theorem fromR_look {rb : Nat} : ∀ {l : Hp} {i : Nat} {o : DO}, look (fromR rb l) i = some o → rb ≤ i ∧ look l i = some o
  | [], i, o, h => by simp [fromR, look] at h
  | (j, x) :: l, i, o, h => by
    unfold fromR at h
    rw [look_cons]
    split at h
    · rename_i hb
      rw [look_cons] at h
      split at h
      · rename_i he; subst he; exact ⟨Nat.le_of_ble_eq_true hb, by rw [if_pos rfl]; exact h⟩
      · rename_i he; rw [if_neg he]; exact fromR_look h
    · rename_i hb
      obtain ⟨h1, h2⟩ := fromR_look h
      refine ⟨h1, ?_⟩
      rw [if_neg]
      · exact h2
      · intro e; subst e; rw [Nat.ble_eq_true_of_le h1] at hb; simp at hb

theorem isTgtR_of {rb : Nat} : ∀ {σ : Sg} {i j : Nat}, rb ≤ i → look σ i = some j → isTgtR rb σ j = true
  | [], i, j, _, h => by simp [look] at h
  | (a, b) :: r, i, j, hi, h => by
    rw [look_cons] at h
    unfold isTgtR
    split at h
    · rename_i he
      subst he
      obtain rfl := Option.some.inj h
      simp [Nat.ble_eq_true_of_le hi, Nat.beq_refl]
    · have := isTgtR_of hi h
      split
      · rfl
      · exact this

theorem dropT_look {rb : Nat} {σ : Sg} : ∀ {l : Hp} {i : Nat} {o : DO}, look (dropT rb σ l) i = some o → look l i = some o ∧ isTgtR rb σ i = false
  | [], i, o, h => by simp [dropT, look] at h
  | (j, x) :: l, i, o, h => by
    unfold dropT at h
    rw [look_cons]
    split at h
    · rename_i hb
      obtain ⟨h1, h2⟩ := dropT_look h
      rw [if_neg]
      · exact ⟨h1, h2⟩
      · intro e; subst e; rw [hb] at h2; simp at h2
    · rename_i hb
      rw [look_cons] at h
      split at h
      · rename_i he; subst he; rw [if_pos rfl]; exact ⟨h, hb⟩
      · rename_i he; rw [if_neg he]; exact dropT_look h

theorem wrOk_ok {rb rb' : Nat} : ∀ {σ : Sg} {i j : Nat}, wrOk rb rb' σ = true → look σ i = some j → rb ≤ i → rb' ≤ j
  | [], i, j, _, h, _ => by simp [look] at h
  | (a, b) :: r, i, j, hw, h, hi => by
    unfold wrOk at hw
    rw [look_cons] at h
    split at hw
    · simp at hw
    · rename_i hne
      split at h
      · rename_i he
        subst he
        obtain rfl := Option.some.inj h
        rcases Nat.lt_or_ge b rb' with hlt | hge
        · exfalso
          refine hne (Nat.ble_eq_true_of_le hi) ?_
          cases hx : Nat.ble rb' b
          · rfl
          · have := Nat.le_of_ble_eq_true hx; omega
        · exact hge
      · exact wrOk_ok hw h hi

theorem tgtsIn_ok {hp : Hp} : ∀ {σ : Sg} {i j : Nat}, tgtsIn hp σ = true → look σ i = some j → (∃ o, look hp j = some o) ∨ noBlock ≤ j
  | [], i, j, _, h => by simp [look] at h
  | (a, b) :: r, i, j, hw, h => by
    unfold tgtsIn at hw
    rw [look_cons] at h
    split at hw
    · rename_i o ho
      split at h
      · obtain rfl := Option.some.inj h; exact .inl ⟨o, ho⟩
      · exact tgtsIn_ok hw h
    · split at hw
      · rename_i hb
        split at h
        · obtain rfl := Option.some.inj h; exact .inr (Nat.le_of_ble_eq_true hb)
        · exact tgtsIn_ok hw h
      · simp at hw

theorem tgtsIn0_ok {hp : Hp} : ∀ {σ : Sg} {i j : Nat}, tgtsIn0 hp σ = true → look σ i = some j → ∃ o, look hp j = some o
  | [], i, j, _, h => by simp [look] at h
  | (a, b) :: r, i, j, hw, h => by
    unfold tgtsIn0 at hw
    rw [look_cons] at h
    split at hw
    · rename_i o ho
      split at h
      · obtain rfl := Option.some.inj h; exact ⟨o, ho⟩
      · exact tgtsIn0_ok hw h
    · simp at hw

theorem look_append {α : Type u} {l r : List (Nat × α)} {i : Nat} : look (l ++ r) i = match look l i with | some x => some x | none => look r i := by
  induction l with
  | nil => rfl
  | cons p l ih =>
    obtain ⟨j, x⟩ := p
    rw [List.cons_append, look_cons, look_cons, ih]
    by_cases h : j = i
    · simp [h]
    · simp [h]

/-- What 'subS' says, apart from worlds. -/
theorem subS_core {n0 : Nat} {s' s : St} {k : Prop} (h : subS n0 s' s k) : ∃ σ, s'.nx ≤ noBlock ∧ SubS (idS n0) σ ∧ InjS σ ∧ (∀ i, s.nx ≤ i → look σ i = none) ∧ k ∧
    (∀ t d, look s.fr t = some d → ∃ d', look s'.fr t = some d' ∧ ∀ g w v, Rep g w d' v → Rep (ren g σ) w d v) ∧
    (∀ i o, look s.hp i = some o → ∃ j, look σ i = some j ∧ HpAt s'.hp σ j o) := by
  unfold subS at h
  split at h
  · rename_i σ1 ps h1
    split at h
    · rename_i σ qs h2
      split at h
      · rename_i hk
        split at h
        case h_2 => exact h.elim
        rename_i hnb
        obtain ⟨hq, hk'⟩ : (∀ q ∈ ps ++ qs, q) ∧ k := ⟨allP_ok h.1, h.2⟩
        obtain ⟨a1, a2, a3⟩ := uniF_ok _ _ _ _ h1
        obtain ⟨b1, b2, b3⟩ := uniH_ok _ _ _ _ h2
        exact ⟨σ, Nat.le_of_ble_eq_true hnb, a1.trans b1, b2 (a2 (idS_inj n0)), keysLt_ok hk, hk', a3 (fun q hq' => hq q (List.mem_append.2 (.inl hq'))) σ b1, b3 (fun q hq' => hq q (List.mem_append.2 (.inr hq'))) σ (SubS.refl _)⟩
      · exact h.elim
    · exact h.elim
  · exact h.elim

theorem Rel.ren {g : G} {hp' hp : Hp} {w : World} {σ : Sg} (hR : Rel g hp' w) (hinj : InjS σ) (hnb : ∀ i j, look σ i = some j → noBlock ≤ j → look hp' j = none → g.ρ j = none)
    (hH : ∀ i o, look hp i = some o → ∃ j, look σ i = some j ∧ HpAt hp' σ j o) : Rel (ren g σ) hp w := by
  refine ⟨?_, ?_, hR.prl⟩
  · intro i o hi
    obtain ⟨j, hj, ⟨o', ho', hro, hno, hr⟩ | ⟨h1, h2, h3, h4⟩⟩ := hH i o hi
    · rcases hR.obj j o' ho' with ⟨b, hb, r, hp, hba⟩ | ⟨hn, hb⟩
      · refine .inl ⟨b, by simp [DE.ren, hj, hb], ?_, hp, fun h => ?_⟩
        · have := hr g w b _ r
          simpa [DE.ren, hj] using this
        · rw [hro] at h
          simpa [DE.ren, hj] using hba h
      · exact .inr ⟨hno hn, by simp [DE.ren, hj, hb]⟩
    · exact .inr ⟨h3, by simp [DE.ren, hj, hnb i j hj h1 h2]⟩
  · intro i i' oi oi' b hi hi' hb hb'
    obtain ⟨j, hj, hx⟩ := hH i oi hi
    obtain ⟨j', hj', hx'⟩ := hH i' oi' hi'
    simp only [DE.ren, hj, hj', Option.bind_some] at hb hb'
    rcases hx with ⟨o', ho', hro, _⟩ | ⟨h1, h2, _⟩
    · rcases hx' with ⟨o'', ho'', hro', _⟩ | ⟨h1, h2, _⟩
      · rcases hR.inj j j' o' o'' b ho' ho'' hb hb' with this | ⟨q1, q2⟩
        · subst this
          exact .inl (hinj i i' j hj hj')
        · exact .inr ⟨by rw [hro]; exact q1, by rw [hro']; exact q2⟩
      · rw [hnb _ _ hj' h1 h2] at hb'; simp at hb'
    · rw [hnb _ _ hj h1 h2] at hb; simp at hb

/-- What a contract says, in the caller's own numbers. -/
theorem can_core {P : Program} (c : CanC P) {x : c.α} (hx : c.pre x) {g : G} {hp : Hp} {w : World} (hR : Rel g hp w) {args : List DV} {vs : List Value} (ha : RepL g w args vs)
    {σ1 σ : Sg} {ps qs : List Prop} (h1 : uniL [] args (c.args x) = some (σ1, ps)) (h2 : uniH hp σ1 (c.hp x) = some (σ, qs)) (hk : keysLt c.n σ = true) (hps : ∀ q ∈ ps, q) (hqs : ∀ q ∈ qs, q) (hnb : ∀ i j, look σ i = some j → noBlock ≤ j → look hp j = none → g.ρ j = none) :
    (∀ i o, look (c.hp x) i = some o → ∃ j, look σ i = some j ∧ HpAt hp σ j o) ∧ InjS σ ∧
    Calls P c.f vs.toArray w fun e w' => ∃ v g2, e = .returned v ∧ Rel g2 (c.hp' x) w' ∧ Rep g2 w' (c.res x) v ∧ Ext (ren g σ) w g2 w' ∧ Kept (Mine (ren g σ) (c.hp x) c.rb) w w' ∧ (∀ i, c.n' ≤ i → g2.ρ i = none) ∧
      (∀ i o b, c.rb ≤ i → look (c.hp' x) i = some o → isRo o = false → g2.ρ i = some b → Mine (ren g σ) (c.hp x) c.rb b ∨ w.heap.size ≤ b) ∧ (∀ b, g2.pr b → g.pr b ∨ Mine (ren g σ) (c.hp x) c.rb b ∨ w.heap.size ≤ b) ∧
      (∀ i, i < c.n → g2.ρ i = (ren g σ).ρ i) := by
  obtain ⟨a1, a2, a3⟩ := uniL_ok _ _ _ _ _ h1
  obtain ⟨b1, b2, b3⟩ := uniH_ok _ _ _ _ h2
  have hinj : InjS σ := b2 (a2 (fun i i' j h => by simp [look] at h))
  have hH := b3 hqs σ (SubS.refl _)
  have hRc : Rel (ren g σ) (c.hp x) w := hR.ren hinj hnb hH
  have hac : RepL (ren g σ) w (c.args x) vs := a3 hps σ b1 g w vs ha
  have hfc : ∀ i, c.n ≤ i → (ren g σ).ρ i = none := fun i hi => by simp [ren, keysLt_ok hk i hi]
  refine ⟨hH, hinj, (c.ok x hx _ w vs hRc hfc hac).mono ?_⟩
  rintro e w' ⟨v, d1, st1, g1, rfl, hsub, hR1, hr1, hE1, hK1, hf1, hown1, hpr1, hsm1⟩
  obtain ⟨τ, tnb, t1, t2, t3, _, t4, t5⟩ := subS_core hsub
  have hnb1 : ∀ i, noBlock ≤ i → g1.ρ i = none := fun i hi => hf1 i (Nat.le_trans tnb hi)
  have hrb := Nat.le_of_ble_eq_true c.rbn
  have hid : ∀ i, i < c.n → look τ i = some i := fun i hi => t1 _ _ (idS_ok c.n i hi)
  refine ⟨v, ren g1 τ, rfl, hR1.ren t2 (fun _ j _ h _ => hnb1 j h) t5, ?_, ⟨?_, hE1.pr, hE1.at', ?_, hE1.shape⟩, hK1, ?_, ?_, hpr1, fun i hi => by simp [ren, hid i hi, hsm1 i hi]⟩
  · obtain ⟨d', hd', hr'⟩ := t4 0 (c.res x) (by simp [look])
    have : d' = d1 := by simpa [look] using hd'.symm
    subst this
    exact hr' _ _ _ hr1
  · intro i b hb
    have hlt : i < c.n := by
      rcases Nat.lt_or_ge i c.n with h | h
      · exact h
      · rw [hfc i h] at hb; simp at hb
    simp [ren, hid i hlt, hE1.rho i b hb]
  · intro i b hb
    have hlt : i < c.n := by
      rcases Nat.lt_or_ge i c.n with h | h
      · exact h
      · rw [hfc i h] at hb; simp at hb
    have := hE1.base i b hb
    simpa [ren, hid i hlt] using this
  · intro i hi
    simp [ren, t3 i hi]
  · intro i o b hi ho hro hb
    obtain ⟨j, hj, hx⟩ := t5 i o ho
    simp only [ren, hj, Option.bind_some] at hb
    obtain ⟨o', ho', hro', _⟩ : ∃ o', look st1.hp j = some o' ∧ isRo o = isRo o' ∧ True := by
      rcases hx with ⟨o', k1, k2, _⟩ | ⟨k1, _⟩
      · exact ⟨o', k1, k2, trivial⟩
      · rw [hnb1 j k1] at hb; simp at hb
    refine hown1 j o' b ?_ ho' (by rw [← hro']; exact hro) hb
    rcases Nat.lt_or_ge j c.n with hlt | hge
    · have := t2 i j j hj (hid j hlt)
      omega
    · omega

/-- ████ A call of a function with a contract: the state behind it. -/
theorem callC_ok {P : Program} {c : CanC P} {rb : Nat} {args : List DV} {hp hp' : Hp} {nx nx' : Nat} {ps : List Prop} {d : DV} {g : G} {w : World} {vs : List Value}
    (h : callC c rb args hp nx = some (ps, d, hp', nx')) (hps : ∀ q ∈ ps, q) (hR : Rel g hp w) (hfr : ∀ i, nx ≤ i → g.ρ i = none) (ha : RepL g w args vs) :
    Calls P c.f vs.toArray w fun e w' => ∃ v g', e = .returned v ∧ Rel g' hp' w' ∧ Rep g' w' d v ∧ Ext g w g' w' ∧ Kept (Mine g hp rb) w w' ∧ (∀ i, nx' ≤ i → g'.ρ i = none) ∧
      (∀ i o b, rb ≤ i → look hp' i = some o → isRo o = false → g'.ρ i = some b → Mine g hp rb b ∨ w.heap.size ≤ b) ∧ (∀ b, g'.pr b → g.pr b ∨ Mine g hp rb b ∨ w.heap.size ≤ b) ∧ (∀ i, i < nx → g'.ρ i = g.ρ i) := by
  unfold callC at h
  split at h
  · simp at h
  rename_i x hinf
  split at h
  · simp at h
  rename_i σ1 ps1 h1
  split at h
  · simp at h
  rename_i σ qs h2
  split at h
  case h_2 => simp at h
  rename_i d1 hh hk htg hwr hd hrh
  split at h
  case h_2 => simp at h
  rename_i hnro hnxb hkl
  have hnxb := Nat.le_of_ble_eq_true hnxb
  simp only [Option.some.injEq, Prod.mk.injEq] at h
  obtain ⟨rfl, rfl, rfl, rfl⟩ := h
  have hnb : ∀ i, noBlock ≤ i → g.ρ i = none := fun i hi => hfr i (by omega)
  obtain ⟨hin, hinj, hcall⟩ := can_core c (x := x) (hps _ (by simp)) hR ha h1 h2 hk (fun q hq => hps q (by simp [hq])) (fun q hq => hps q (by simp [hq])) (fun _ j _ h _ => hnb j h)
  have hnn := Nat.le_of_ble_eq_true c.nn
  have hrbn := Nat.le_of_ble_eq_true c.rbn
  refine hcall.mono ?_
  rintro e w' ⟨v, g2, rfl, hR2, hr2, hE2, hK2, hf2, hown2, hpr2, hsm2⟩
  let g' : G := ⟨fun i => if i < nx then g.ρ i else g2.ρ (c.n + (i - nx)), g2.pr, fun i => if i < nx then g.base i else g2.base (c.n + (i - nx))⟩
  have hltx : ∀ j b, g.ρ j = some b → j < nx := by
    intro j b hb
    rcases Nat.lt_or_ge j nx with h | h
    · exact h
    · rw [hfr j h] at hb; simp at hb
  have hfwd : ∀ i i' b, rnF σ c.n nx i = some i' → g2.ρ i = some b → g'.ρ i' = some b ∧ g'.base i' = g2.base i := by
    intro i i' b hi hb
    unfold rnF at hi
    split at hi
    · rename_i hlt
      have hlt : i < c.n := Nat.le_of_ble_eq_true hlt
      have h0 := hsm2 i hlt
      rw [hb] at h0
      have hb' : g.ρ i' = some b := by
        have h0 := h0.symm
        simpa [ren, hi] using h0
      have hlt' := hltx i' b hb'
      have hbase := hE2.base i b h0.symm
      refine ⟨by simp only [g', if_pos hlt', hb'], ?_⟩
      simp only [g', if_pos hlt', hbase, ren, hi]
    · rename_i hge
      have hge : c.n ≤ i := by
        rcases Nat.lt_or_ge i c.n with h | h
        · have : Nat.blt i c.n = true := Nat.ble_eq_true_of_le h
          rw [this] at hge; simp at hge
        · exact h
      obtain rfl := Option.some.inj hi
      have e1 : ¬ (nx + (i - c.n) < nx) := by omega
      have e2 : c.n + (nx + (i - c.n) - nx) = i := by omega
      exact ⟨by simp only [g', if_neg e1, e2, hb], by simp only [g', if_neg e1, e2]⟩
  have hE : Ext g w g' w' := by
    refine ⟨fun i b hb => ?_, hE2.pr, hE2.at', fun i b hb => ?_, hE2.shape⟩
    · simp only [g', if_pos (hltx i b hb), hb]
    · simp only [g', if_pos (hltx i b hb)]
  have hmine : ∀ b, Mine (ren g σ) (c.hp x) c.rb b → ∃ j o, rb ≤ j ∧ look hp j = some o ∧ isRo o = false ∧ g.ρ j = some b ∧ isTgtR c.rb σ j = true := by
    rintro b ⟨i, o, hi, hl, hro, hb⟩
    obtain ⟨j, hj, hx⟩ := hin i o hl
    simp only [ren, hj, Option.bind_some] at hb
    rcases hx with ⟨o', ho', hro', _⟩ | ⟨k1, _⟩
    · exact ⟨j, o', wrOk_ok hwr hj hi, ho', by rw [← hro']; exact hro, hb, isTgtR_of hi hj⟩
    · rw [hnb j k1] at hb; simp at hb
  have hold : ∀ j o b, look (dropT c.rb σ hp) j = some o → g.ρ j = some b → b < w.heap.size ∧ ¬ Mine (ren g σ) (c.hp x) c.rb b := by
    intro j o b hj hb
    obtain ⟨k1, k2⟩ := dropT_look hj
    obtain ⟨b', hb', r, _⟩ : ∃ b, g.ρ j = some b ∧ ORep g w o b (g.base j) ∧ True := by
      rcases hR.obj j o k1 with ⟨b, x1, x2, _⟩ | ⟨_, x2⟩
      · exact ⟨b, x1, x2, trivial⟩
      · rw [hb] at x2; simp at x2
    rw [hb] at hb'; obtain rfl := Option.some.inj hb'
    refine ⟨r.lt, fun hm => ?_⟩
    obtain ⟨j', o', _, ho', hro', hb'', ht⟩ := hmine b hm
    rcases hR.inj j j' o o' b k1 ho' hb hb'' with this | ⟨_, q2⟩
    · subst this
      rw [k2] at ht; simp at ht
    · rw [hro'] at q2; simp at q2
  -- the two kinds of blocks of the new memory
  have hnon : ∀ i, i < nx → g.ρ i = none → g'.ρ i = none := fun i hi h => by simp only [g', if_pos hi, h]
  have hfno : ∀ i i', rnF σ c.n nx i = some i' → g2.ρ i = none → g'.ρ i' = none := by
    intro i i' hi hb
    unfold rnF at hi
    split at hi
    · rename_i hlt
      have hlt : i < c.n := Nat.le_of_ble_eq_true hlt
      have h0 := hsm2 i hlt
      rw [hb] at h0
      have hb' : g.ρ i' = none := by
        have h0 := h0.symm
        simpa [ren, hi] using h0
      rcases tgtsIn_ok htg hi with ⟨o, ho⟩ | hbig
      · exact hnon i' (hpLt_ok hkl ho) hb'
      · have e1 : ¬ i' < nx := by omega
        simp only [g', if_neg e1]
        exact hf2 _ (by omega)
    · rename_i hge
      have hge : c.n ≤ i := by
        rcases Nat.lt_or_ge i c.n with h | h
        · have : Nat.blt i c.n = true := Nat.ble_eq_true_of_le h
          rw [this] at hge; simp at hge
        · exact h
      obtain rfl := Option.some.inj hi
      have e1 : ¬ (nx + (i - c.n) < nx) := by omega
      have e2 : c.n + (nx + (i - c.n) - nx) = i := by omega
      simp only [g', if_neg e1, e2, hb]
  have hnew : ∀ i o, look (hh ++ dropT c.rb σ hp) i = some o → (∃ i0 o0 b, c.rb ≤ i0 ∧ look (c.hp' x) i0 = some o0 ∧ rnF σ c.n nx i0 = some i ∧ rnO (rnF σ c.n nx) o0 = some o ∧ g2.ρ i0 = some b ∧ g'.ρ i = some b ∧ isRo o = false) ∨
      (look (dropT c.rb σ hp) i = some o ∧ ∃ b, g.ρ i = some b ∧ g'.ρ i = some b) ∨ (noneO o ∧ g'.ρ i = none) := by
    intro i o hi
    rw [look_append] at hi
    split at hi
    · rename_i o1 ho1
      obtain rfl := Option.some.inj hi
      obtain ⟨i0, o0, k1, k2, k3⟩ := rnH_look hrh ho1
      have hro0 := noRo_ok hnro k1
      obtain ⟨k4, k5⟩ := fromR_look k1
      rcases hR2.obj i0 o0 k5 with ⟨b, hb, _⟩ | ⟨hn, hb⟩
      · exact .inl ⟨i0, o0, b, k4, k5, k2, k3, hb, (hfwd _ _ _ k2 hb).1, by rw [(rnO_kind k3).1]; exact hro0⟩
      · exact .inr (.inr ⟨(rnO_kind k3).2 hn, hfno _ _ k2 hb⟩)
    · obtain ⟨k1, _⟩ := dropT_look hi
      rcases hR.obj i o k1 with ⟨b, hb, _⟩ | ⟨hn, hb⟩
      · exact .inr (.inl ⟨hi, b, hb, hE.rho i b hb⟩)
      · exact .inr (.inr ⟨hn, hnon i (hpLt_ok hkl k1) hb⟩)
  have hsame : ∀ i, i < nx → g'.ρ i = g.ρ i := fun i hi => by simp only [g', if_pos hi]
  refine ⟨v, g', rfl, ⟨?_, ?_, hR2.prl⟩, rnD_ok hfwd _ _ _ hd (.inl rfl) hr2, hE, ⟨hK2.os, hK2.tape, hK2.output, hK2.size, fun b hb hm => hK2.kept b hb (fun hm' => ?_)⟩, ?_, ?_, ?_, hsame⟩
  · intro i o hi
    rcases hnew i o hi with ⟨i0, o0, b, k4, k5, k2, k3, hb, hb', hro⟩ | ⟨hd', b, hb, hb'⟩ | hn
    · have hro0 : isRo o0 = false := by rw [← (rnO_kind k3).1]; exact hro
      rcases hR2.obj i0 o0 k5 with ⟨b2, hb2, r2, p2, hba2⟩ | ⟨_, hb2⟩
      · rw [hb] at hb2; obtain rfl := Option.some.inj hb2
        have hbase := (hfwd _ _ _ k2 hb).2
        exact .inl ⟨b, hb', by rw [hbase]; exact rnO_ok hfwd rfl k3 r2, p2, fun _ => by rw [hbase]; exact hba2 hro0⟩
      · rw [hb] at hb2; simp at hb2
    · obtain ⟨k1, _⟩ := dropT_look hd'
      rcases hR.obj i o k1 with ⟨b2, hb2, r2, p2, hba2⟩ | ⟨_, hb2⟩
      · rw [hb] at hb2; obtain rfl := Option.some.inj hb2
        obtain ⟨hlt, hnm⟩ := hold i o b hd' hb
        have hbase := hE.base i b hb
        refine .inl ⟨b, hb', by rw [hbase]; exact ORep.ext hE (hK2.kept b hlt hnm) r2, fun hp => ?_, fun h => by rw [hbase]; exact hba2 h⟩
        rcases hpr2 b hp with h | h | h
        · exact p2 h
        · exact hnm h
        · omega
      · rw [hb] at hb2; simp at hb2
    · exact .inr hn
  · intro i j oi oj b hi hj hbi hbj
    rcases hnew i oi hi with ⟨i0, o0, b1, k4, k5, k2, k3, hb1, hb1', hro1⟩ | ⟨hdi, b1, hb1, hb1'⟩ | ⟨_, hb1'⟩
    · rw [hb1'] at hbi; obtain rfl := Option.some.inj hbi
      have hro0 : isRo o0 = false := by rw [← (rnO_kind k3).1]; exact hro1
      rcases hnew j oj hj with ⟨j0, q0, b2, l4, l5, l2, l3, hb2, hb2', hro2⟩ | ⟨hdj, b2, hb2, hb2'⟩ | ⟨_, hb2'⟩
      · rw [hb2'] at hbj; obtain rfl := Option.some.inj hbj
        rcases hR2.inj i0 j0 o0 q0 b2 k5 l5 hb1 hb2 with this | ⟨q1, _⟩
        · subst this
          rw [k2] at l2; exact .inl (Option.some.inj l2)
        · rw [hro0] at q1; simp at q1
      · exfalso
        rw [hb2'] at hbj; obtain rfl := Option.some.inj hbj
        obtain ⟨hlt, hnm⟩ := hold j oj b2 hdj hb2
        rcases hown2 i0 o0 b2 k4 k5 hro0 hb1 with h | h
        · exact hnm h
        · omega
      · rw [hb2'] at hbj; simp at hbj
    · rw [hb1'] at hbi; obtain rfl := Option.some.inj hbi
      rcases hnew j oj hj with ⟨j0, q0, b2, l4, l5, l2, l3, hb2, hb2', hro2⟩ | ⟨hdj, b2, hb2, hb2'⟩ | ⟨_, hb2'⟩
      · exfalso
        have hro0 : isRo q0 = false := by rw [← (rnO_kind l3).1]; exact hro2
        rw [hb2'] at hbj; obtain rfl := Option.some.inj hbj
        obtain ⟨hlt, hnm⟩ := hold i oi b2 hdi hb1
        rcases hown2 j0 q0 b2 l4 l5 hro0 hb2 with h | h
        · exact hnm h
        · omega
      · rw [hb2'] at hbj; obtain rfl := Option.some.inj hbj
        exact hR.inj i j oi oj b2 (dropT_look hdi).1 (dropT_look hdj).1 hb1 hb2
      · rw [hb2'] at hbj; simp at hbj
    · rw [hb1'] at hbi; simp at hbi
  · obtain ⟨j, o, q1, q2, q2', q3, _⟩ := hmine b hm'
    exact hm ⟨j, o, q1, q2, q2', q3⟩
  · intro i hi
    have e1 : ¬ i < nx := by omega
    simp only [g', if_neg e1]
    exact hf2 _ (by omega)
  · intro i o b hi ho hro hb
    rcases hnew i o ho with ⟨i0, o0, b1, k4, k5, k2, k3, hb1, hb1', _⟩ | ⟨hdi, b1, hb1, hb1'⟩ | ⟨_, hb1'⟩
    · rw [hb1'] at hb; obtain rfl := Option.some.inj hb
      rcases hown2 i0 o0 b1 k4 k5 (by rw [← (rnO_kind k3).1]; exact hro) hb1 with h | h
      · obtain ⟨j, o, q1, q2, q2', q3, _⟩ := hmine b1 h
        exact .inl ⟨j, o, q1, q2, q2', q3⟩
      · exact .inr h
    · rw [hb1'] at hb; obtain rfl := Option.some.inj hb
      exact .inl ⟨i, o, hi, (dropT_look hdi).1, hro, hb1⟩
    · rw [hb1'] at hb; simp at hb
  · intro b hp
    rcases hpr2 b hp with h | h | h
    · exact .inl h
    · obtain ⟨j, o, q1, q2, q2', q3, _⟩ := hmine b h
      exact .inr (.inl ⟨j, o, q1, q2, q2', q3⟩)
    · exact .inr (.inr h)

/-- A call that only reads. -/
theorem callR_ok {P : Program} {c : CanC P} {args : List DV} {hp : Hp} {ps : List Prop} {d : DV} {g : G} {w : World} {vs : List Value} (hs : c.sil = true)
    (h : callR c args hp = some (ps, d)) (hps : ∀ q ∈ ps, q) (hR : Rel g hp w) (ha : RepL g w args vs) :
    Calls P c.f vs.toArray w fun e w' => ∃ v, e = .returned v ∧ Silent w w' ∧ Rep g w' d v := by
  unfold callR at h
  split at h
  · simp at h
  rename_i x hinf
  split at h
  · simp at h
  rename_i σ1 ps1 h1
  split at h
  · simp at h
  rename_i σ qs h2
  split at h
  case h_2 => simp at h
  rename_i d1 hk htg him hd
  simp only [Option.some.injEq, Prod.mk.injEq] at h
  obtain ⟨rfl, rfl⟩ := h
  have hrb : c.rb = c.n := by
    unfold CanC.sil at hs
    split at hs
    · rename_i hb; exact Nat.eq_of_beq_eq_true hb
    · simp at hs
  obtain ⟨hin, hinj, hcall⟩ := can_core c (x := x) (hps _ (by simp)) hR ha h1 h2 hk (fun q hq => hps q (by simp [hq])) (fun q hq => hps q (by simp [hq])) (fun i j hj _ hn => by
    obtain ⟨o, ho⟩ := tgtsIn0_ok htg hj
    rw [hn] at ho; simp at ho)
  refine hcall.mono ?_
  rintro e w' ⟨v, g2, rfl, hR2, hr2, hE2, hK2, hf2, hown2, hpr2, hsm2⟩
  have hno : ∀ b, ¬ Mine (ren g σ) (c.hp x) c.rb b := by
    rintro b ⟨i, o, hi, _, _, hb⟩
    have := keysLt_ok hk i (by omega)
    simp [ren, this] at hb
  refine ⟨v, rfl, ⟨hK2.os, hK2.tape, hK2.output, hK2.size, fun b hb => hK2.kept b hb (hno b)⟩, ?_⟩
  refine rnD_ok (g := g2) ?_ _ _ _ hd (.inr him) hr2
  intro i i' b hi hb
  unfold rnF0 at hi
  split at hi
  · rename_i hlt
    have h0 := hsm2 i (Nat.le_of_ble_eq_true hlt)
    rw [hb] at h0
    have h1 := h0.symm
    refine ⟨by simpa [ren, hi] using h1, ?_⟩
    have hbase := hE2.base i b h1
    rw [hbase]; simp only [ren, hi]
  · simp at hi

end Go.DE
