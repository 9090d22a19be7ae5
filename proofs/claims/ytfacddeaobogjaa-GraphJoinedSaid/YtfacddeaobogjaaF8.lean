import Derived.Test.YtfacddeaobogjaaF7e
set_option linter.unusedVariables false
set_option linter.unusedSimpArgs false
set_option linter.unnecessarySimpa false
/- The engine, part 8: a state or a memory taken for another one. -/
namespace Go.DF
universe u v
set_option linter.unusedSimpArgs false
set_option linter.unusedVariables false
variable [Fam]

def ren (g : G) (σ : Sg) : G := ⟨fun i => (look σ i).bind g.ρ, g.pr, fun i => match look σ i with | some j => g.base j | none => 0, fun i => match look σ i with | some j => g.sub j | none => fun _ => none⟩
def SubS (σ σ' : Sg) : Prop := ∀ i j, look σ i = some j → look σ' i = some j
def InjS (σ : Sg) : Prop := ∀ i i' j, look σ i = some j → look σ i' = some j → i = i'
omit [Fam] in
theorem SubS.refl (σ : Sg) : SubS σ σ := fun _ _ h => h
omit [Fam] in
theorem SubS.trans {a b c : Sg} (h : SubS a b) (k : SubS b c) : SubS a c := fun i j x => k i j (h i j x)

omit [Fam] in
theorem isTgt_false : ∀ {σ : Sg} {j : Nat}, isTgt σ j = false → ∀ i, look σ i ≠ some j
  | [], j, _, i, h => by simp [look] at h
  | (a, b) :: r, j, h, i, hl => by
    unfold isTgt at h
    split at h
    · simp at h
    · rename_i hb
      rw [look_cons] at hl
      split at hl
      · exact Nat.ne_of_beq_eq_false hb (Option.some.inj hl)
      · exact isTgt_false h i hl

omit [Fam] in
theorem uniI_ok {σ σ' : Sg} {i j : Nat} (h : uniI σ i j = some σ') : SubS σ σ' ∧ (InjS σ → InjS σ') ∧ look σ' i = some j := by
  unfold uniI at h
  split at h
  · rename_i j' hl
    split at h
    · rename_i hb
      obtain rfl := Option.some.inj h
      exact ⟨SubS.refl _, id, by rw [hl, Nat.eq_of_beq_eq_true hb]⟩
    · simp at h
  · rename_i hl
    split at h
    · simp at h
    · rename_i ht
      obtain rfl := Option.some.inj h
      refine ⟨fun k x hk => ?_, fun hI => ?_, by rw [look_cons, if_pos rfl]⟩
      · rw [look_cons, if_neg]
        · exact hk
        · intro e; subst e; rw [hl] at hk; simp at hk
      · intro k k' x hk hk'
        rw [look_cons] at hk hk'
        split at hk <;> split at hk'
        · omega
        · rename_i h1 h2
          obtain rfl := Option.some.inj hk
          exact absurd hk' (isTgt_false ht k')
        · rename_i h1 h2
          obtain rfl := Option.some.inj hk'
          exact absurd hk (isTgt_false ht k)
        · exact hI k k' x hk hk'

omit [Fam] in
theorem eqI_ok {a b : DI} {ps : List Prop} (h : eqI a b (a.v = b.v) = some ps) (hp : ∀ p ∈ ps, p) : a.v = b.v := by
  unfold eqI at h
  split at h
  · split at h
    · rename_i hb; simpa [DI.v] using hb
    · simp at h
  · simp at h; subst h; exact hp _ (by simp)
omit [Fam] in
theorem eqN_ok {a b : DN} {ps : List Prop} (h : eqN a b (a.v = b.v) = some ps) (hp : ∀ p ∈ ps, p) : a.v = b.v := by
  unfold eqN at h
  split at h
  · split at h
    · rename_i hb; exact Nat.eq_of_beq_eq_true hb
    · simp at h
  · simp at h; subst h; exact hp _ (by simp)
omit [Fam] in
theorem eqBl_ok {a b : DB} {ps : List Prop} (h : eqBl a b (a.v = b.v) = some ps) (hp : ∀ p ∈ ps, p) : a.v = b.v := by
  unfold eqBl at h
  split at h
  · split at h
    · rename_i hb; simpa [DB.v] using hb
    · simp at h
  · simp at h; subst h; exact hp _ (by simp)

omit [Fam] in
theorem eqSl_ok {a b : DS} {ps : List Prop} (h : eqSl a b (a.v = b.v) = some ps) (hp : ∀ p ∈ ps, p) : a.v = b.v := by
  unfold eqSl at h
  split at h
  · rename_i x y
    split at h
    · rename_i hb
      obtain ⟨⟨x⟩⟩ := x
      obtain ⟨⟨y⟩⟩ := y
      have : x = y := by simpa using hb
      rw [this]
    · simp at h
  · simp at h; subst h; exact hp _ (by simp)

omit [Fam] in
theorem uniP_ok {σ σ' : Sg} {p' p : DP} {ps : List Prop} (h : uniP σ p' p = some (σ', ps)) :
    SubS σ σ' ∧ (InjS σ → InjS σ') ∧ look σ' p.id = some p'.id ∧ p'.sz = p.sz ∧ ((∀ q ∈ ps, q) → p'.off = p.off) := by
  unfold uniP at h
  split at h
  · rename_i σ1 qs h1 h2 h3 h4
    simp only [Option.some.injEq, Prod.mk.injEq] at h
    obtain ⟨rfl, rfl⟩ := h
    obtain ⟨k1, k2, k3⟩ := uniI_ok h1
    refine ⟨k1, k2, k3, Nat.eq_of_beq_eq_true h3, fun hq => ?_⟩
    have := eqN_ok h2 hq
    simp only [DP.off, this, Nat.eq_of_beq_eq_true h3, Nat.eq_of_beq_eq_true h4]
  · simp at h

omit [Fam] in
theorem ren_get {g : G} {σ σ'' : Sg} {i j b : Nat} (h : look σ i = some j) (s : SubS σ σ'') (hb : g.ρ j = some b) : (ren g σ'').ρ i = some b := by
  simp [ren, s i j h, hb]

omit [Fam] in
theorem ren_off {g : G} {σ σ'' : Sg} {p p' : DP} (h : look σ p.id = some p'.id) (s : SubS σ σ'') (ho : p'.off = p.off) : (ren g σ'').off p = g.off p' := by
  simp only [ren, G.off, s _ _ h, ho]

mutual
theorem uniD_ok {hp : Hp} : ∀ (d : DV) (σ σ' : Sg) (d' : DV) (ps : List Prop), uniD hp σ d' d = some (σ', ps) → SubS σ σ' ∧ (InjS σ → InjS σ') ∧
    ((∀ q ∈ ps, q) → ∀ σ'', SubS σ' σ'' → ∀ g w v, Rel g hp w → Rep g w d' v → Rep (ren g σ'') w d v)
  | .any, σ, σ', d', ps, h => by
    simp [uniD] at h; obtain ⟨rfl, rfl⟩ := h
    exact ⟨SubS.refl _, id, fun _ _ _ _ _ _ _ _ => by simp [Rep]⟩
  | .bool b, σ, σ', d', ps, h => by
    unfold uniD at h
    split at h
    · simp only [Option.map_eq_some_iff, Prod.mk.injEq] at h
      obtain ⟨qs, h1, rfl, rfl⟩ := h
      refine ⟨SubS.refl _, id, fun hq σ'' _ g w v hR r => ?_⟩
      simp only [Rep] at r ⊢
      rw [r, eqBl_ok h1 hq]
    · simp at h
  | .int k b, σ, σ', d', ps, h => by
    unfold uniD at h
    split at h
    · split at h
      · rename_i hk
        simp only [Option.map_eq_some_iff, Prod.mk.injEq] at h
        obtain ⟨qs, h1, rfl, rfl⟩ := h
        refine ⟨SubS.refl _, id, fun hq σ'' _ g w v hR r => ?_⟩
        simp only [Rep] at r ⊢
        rw [r, eqI_ok h1 hq, of_decide_eq_true hk]
      · simp at h
    · simp at h
  | .str b, σ, σ', d', ps, h => by
    unfold uniD at h
    split at h
    · simp only [Option.map_eq_some_iff, Prod.mk.injEq] at h
      obtain ⟨qs, h1, rfl, rfl⟩ := h
      refine ⟨SubS.refl _, id, fun hq σ'' _ g w v hR r => ?_⟩
      simp only [Rep] at r ⊢
      rw [r, eqSl_ok h1 hq]
    · simp at h
  | .ptr p, σ, σ', d', ps, h => by
    unfold uniD at h
    split at h
    · obtain ⟨h1, h2, h3, _, h4⟩ := uniP_ok h
      refine ⟨h1, h2, fun hq σ'' hs g w v hR r => ?_⟩
      simp only [Rep] at r ⊢
      obtain ⟨b, hb, rfl⟩ := r
      exact ⟨b, ren_get h3 hs hb, by rw [ren_off h3 hs (h4 hq)]⟩
    · simp at h
  | .nilptr, σ, σ', d', ps, h => by
    unfold uniD at h
    split at h
    · simp only [Option.some.injEq, Prod.mk.injEq] at h
      obtain ⟨rfl, rfl⟩ := h
      exact ⟨SubS.refl _, id, fun hq σ'' _ g w v hR r => by simpa [Rep] using r⟩
    · simp at h
  | .slice p n, σ, σ', d', ps, h => by
    unfold uniD at h
    split at h
    · split at h
      · rename_i σ1 ps1 qs h0 hn
        simp only [Option.some.injEq, Prod.mk.injEq] at h
        obtain ⟨rfl, rfl⟩ := h
        obtain ⟨h1, h2, h3, hsz, h4⟩ := uniP_ok h0
        refine ⟨h1, h2, fun hq σ'' hs g w v hR r => ?_⟩
        simp only [Rep] at r ⊢
        have en := eqN_ok hn (fun q hq' => hq q (List.mem_append.2 (.inr hq')))
        have ep := h4 (fun q hq' => hq q (List.mem_append.2 (.inl hq')))
        rcases r with ⟨r1, r2⟩ | ⟨b, o, c, hb, hc, r1, ho, cs, t, fr, k1, k2⟩
        · exact .inl ⟨r1, by rw [← en]; exact r2⟩
        · exact .inr ⟨b, o, c, ren_get h3 hs hb, by rw [← en]; exact hc, by rw [← en]; exact r1, by rw [ren_off h3 hs ep]; exact ho, cs, t, fr, k1, by rw [← hsz]; exact k2⟩
      · simp at h
    · split at h
      · rename_i σ1 h0
        simp only [Option.some.injEq, Prod.mk.injEq] at h
        obtain ⟨rfl, rfl⟩ := h
        obtain ⟨h1, h2, h3⟩ := uniI_ok h0
        refine ⟨h1, h2, fun hq σ'' hs g w v hR r => ?_⟩
        simp only [Rep] at r ⊢
        exact .inl ⟨none, r, hq _ (by simp)⟩
      · simp at h
    · simp at h
  | .nilslice, σ, σ', d', ps, h => by
    unfold uniD at h
    split at h
    · simp only [Option.some.injEq, Prod.mk.injEq] at h
      obtain ⟨rfl, rfl⟩ := h
      exact ⟨SubS.refl _, id, fun hq σ'' _ g w v hR r => by simpa [Rep] using r⟩
    · simp at h
  | .map i, σ, σ', d', ps, h => by
    unfold uniD at h
    split at h
    · simp only [Option.map_eq_some_iff, Prod.mk.injEq] at h
      obtain ⟨qs, h1, rfl, rfl⟩ := h
      obtain ⟨k1, k2, k3⟩ := uniI_ok h1
      refine ⟨k1, k2, fun hq σ'' hs g w v hR r => ?_⟩
      simp only [Rep] at r ⊢
      obtain ⟨b, hb, rfl⟩ := r
      exact ⟨b, ren_get k3 hs hb, rfl⟩
    · simp at h
  | .yld i, σ, σ', d', ps, h => by
    unfold uniD at h
    split at h
    · simp only [Option.map_eq_some_iff, Prod.mk.injEq] at h
      obtain ⟨qs, h1, rfl, rfl⟩ := h
      obtain ⟨k1, k2, k3⟩ := uniI_ok h1
      refine ⟨k1, k2, fun hq σ'' hs g w v hR r => ?_⟩
      simp only [Rep] at r ⊢
      obtain ⟨b, hb, rfl⟩ := r
      exact ⟨b, ren_get k3 hs hb, rfl⟩
    · simp at h
  | .nilmap, σ, σ', d', ps, h => by
    unfold uniD at h
    split at h
    · simp only [Option.some.injEq, Prod.mk.injEq] at h
      obtain ⟨rfl, rfl⟩ := h
      exact ⟨SubS.refl _, id, fun hq σ'' _ g w v hR r => by simpa [Rep] using r⟩
    · simp at h
  | .func f c, σ, σ', d', ps, h => by
    unfold uniD at h
    split at h
    · split at h
      · rename_i hf
        obtain ⟨h1, h2, h3⟩ := uniL_ok c σ σ' _ ps h
        refine ⟨h1, h2, fun hq σ'' hs g w v hR r => ?_⟩
        simp only [Rep] at r ⊢
        obtain ⟨vs, rfl, r⟩ := r
        exact ⟨vs, by rw [Nat.eq_of_beq_eq_true hf], h3 hq σ'' hs g w vs hR r⟩
      · simp at h
    · simp at h
  | .nilfunc, σ, σ', d', ps, h => by
    unfold uniD at h
    split at h
    · simp only [Option.some.injEq, Prod.mk.injEq] at h
      obtain ⟨rfl, rfl⟩ := h
      exact ⟨SubS.refl _, id, fun hq σ'' _ g w v hR r => by simpa [Rep] using r⟩
    · simp at h
  | .nilif, σ, σ', d', ps, h => by
    unfold uniD at h
    split at h
    · simp only [Option.some.injEq, Prod.mk.injEq] at h
      obtain ⟨rfl, rfl⟩ := h
      exact ⟨SubS.refl _, id, fun hq σ'' _ g w v hR r => by simpa [Rep] using r⟩
    · simp at h
  | .agg c, σ, σ', d', ps, h => by
    unfold uniD at h
    split at h
    · obtain ⟨h1, h2, h3⟩ := uniL_ok c σ σ' _ ps h
      refine ⟨h1, h2, fun hq σ'' hs g w v hR r => ?_⟩
      simp only [Rep] at r ⊢
      obtain ⟨vs, rfl, r, r1⟩ := r
      exact ⟨vs, rfl, h3 hq σ'' hs g w vs hR r, r1⟩
    · simp at h
  | .tup c, σ, σ', d', ps, h => by
    unfold uniD at h
    split at h
    · obtain ⟨h1, h2, h3⟩ := uniL_ok c σ σ' _ ps h
      refine ⟨h1, h2, fun hq σ'' hs g w v hR r => ?_⟩
      simp only [Rep] at r ⊢
      obtain ⟨vs, rfl, r⟩ := r
      exact ⟨vs, rfl, h3 hq σ'' hs g w vs hR r⟩
    · simp at h
  | .nn c a, σ, σ', d', ps, h => by
    unfold uniD at h
    split at h
    · rename_i c' a'
      split at h
      · rename_i a1 hc
        simp only [Option.some.injEq, Prod.mk.injEq] at h
        obtain ⟨rfl, rfl⟩ := h
        obtain ⟨e, rfl⟩ := castD_ok hc
        have e := CT.sl.inj e
        subst e
        refine ⟨SubS.refl _, id, fun hq σ'' _ g w v hR r => ?_⟩
        have e : a' = a := hq _ (List.mem_singleton.2 rfl)
        simp only [Rep] at r ⊢
        rw [← e]; exact r
      · simp at h
    · simp at h
  | .per c a, σ, σ', d', ps, h => by
    unfold uniD at h
    dsimp only at h
    split at h
    · rename_i a' qs hc
      simp only [Option.some.injEq, Prod.mk.injEq] at h
      obtain ⟨rfl, rfl⟩ := h
      refine ⟨SubS.refl _, id, fun hq σ'' _ g w v hR r => ?_⟩
      simp only [Rep]
      have e : a' = a := hq _ (by simp)
      rw [← e]
      exact cod_ok hR _ _ _ _ _ _ hc (fun q hq' => hq q (by simp [hq'])) (RepL.cons r RepL.nil)
    · simp at h
  | .pel c a o, σ, σ', d', ps, h => by
    unfold uniD at h
    split at h
    · rename_i c' a' o'
      split at h
      · rename_i a1 hc ho
        simp only [Option.some.injEq, Prod.mk.injEq] at h
        obtain ⟨rfl, rfl⟩ := h
        obtain ⟨rfl, rfl⟩ := castD_ok hc
        refine ⟨SubS.refl _, id, fun hq σ'' _ g w v hR r => ?_⟩
        have e := hq _ (List.mem_singleton.2 rfl)
        simp only [Rep] at r ⊢
        rw [← Nat.eq_of_beq_eq_true ho, ← e]
        exact r
      · simp at h
    · simp at h
theorem uniL_ok {hp : Hp} : ∀ (ds : List DV) (σ σ' : Sg) (ds' : List DV) (ps : List Prop), uniL hp σ ds' ds = some (σ', ps) → SubS σ σ' ∧ (InjS σ → InjS σ') ∧
    ((∀ q ∈ ps, q) → ∀ σ'', SubS σ' σ'' → ∀ g w vs, Rel g hp w → RepL g w ds' vs → RepL (ren g σ'') w ds vs)
  | [], σ, σ', ds', ps, h => by
    unfold uniL at h
    split at h
    · simp only [Option.some.injEq, Prod.mk.injEq] at h
      obtain ⟨rfl, rfl⟩ := h
      exact ⟨SubS.refl _, id, fun hq σ'' _ g w v hR r => by simpa [RepL] using r⟩
    · simp at h
  | d :: ds, σ, σ', ds', ps, h => by
    unfold uniL at h
    split at h
    · rename_i d' ds'
      split at h
      · rename_i σ1 ps1 h1
        split at h
        · rename_i σ2 ps2 h2
          simp only [Option.some.injEq, Prod.mk.injEq] at h
          obtain ⟨rfl, rfl⟩ := h
          obtain ⟨a1, a2, a3⟩ := uniD_ok d σ σ1 d' ps1 h1
          obtain ⟨b1, b2, b3⟩ := uniL_ok ds σ1 σ2 ds' ps2 h2
          refine ⟨a1.trans b1, fun h => b2 (a2 h), fun hq σ'' hs g w vs hR r => ?_⟩
          simp only [RepL] at r ⊢
          obtain ⟨v, us, rfl, r1, r2⟩ := r
          exact ⟨v, us, rfl, a3 (fun q hq' => hq q (List.mem_append.2 (.inl hq'))) σ'' (b1.trans hs) g w v hR r1, b3 (fun q hq' => hq q (List.mem_append.2 (.inr hq'))) σ'' hs g w us hR r2⟩
        · simp at h
      · simp at h
    · simp at h
end

theorem uniM_ok {hp : Hp} : ∀ (es es' : List (DV × DV)) (σ σ' : Sg) (ps : List Prop), uniM hp σ es' es = some (σ', ps) → SubS σ σ' ∧ (InjS σ → InjS σ') ∧
    ((∀ q ∈ ps, q) → ∀ σ'', SubS σ' σ'' → ∀ g w ks vs, Rel g hp w → RepL g w (es'.map (·.1)) ks → RepL g w (es'.map (·.2)) vs → RepL (ren g σ'') w (es.map (·.1)) ks ∧ RepL (ren g σ'') w (es.map (·.2)) vs)
  | [], [], σ, σ', ps, h => by
    simp [uniM] at h
    obtain ⟨rfl, rfl⟩ := h
    exact ⟨SubS.refl _, id, fun hq σ'' _ g w ks vs hR r1 r2 => ⟨by simpa [RepL] using r1, by simpa [RepL] using r2⟩⟩
  | [], _ :: _, σ, σ', ps, h => by simp [uniM] at h
  | _ :: _, [], σ, σ', ps, h => by simp [uniM] at h
  | (a, b) :: es, (a', b') :: es', σ, σ', ps, h => by
    simp only [uniM] at h
    split at h
    · rename_i σ1 ps1 h1
      split at h
      · rename_i σ2 ps2 h2
        split at h
        · rename_i σ3 ps3 h3
          simp only [Option.some.injEq, Prod.mk.injEq] at h
          obtain ⟨rfl, rfl⟩ := h
          obtain ⟨a1, a2, a3⟩ := uniD_ok _ _ _ _ _ h1
          obtain ⟨b1, b2, b3⟩ := uniD_ok _ _ _ _ _ h2
          obtain ⟨c1, c2, c3⟩ := uniM_ok es es' _ _ _ h3
          refine ⟨a1.trans (b1.trans c1), fun h => c2 (b2 (a2 h)), fun hq σ'' hs g w ks vs hR r1 r2 => ?_⟩
          simp only [List.map_cons, RepL] at r1 r2 ⊢
          obtain ⟨k, ks, rfl, r1, r1'⟩ := r1
          obtain ⟨v, vs, rfl, r2, r2'⟩ := r2
          obtain ⟨x, y⟩ := c3 (fun q hq' => hq q (by simp [hq'])) σ'' hs g w ks vs hR r1' r2'
          exact ⟨⟨k, ks, rfl, a3 (fun q hq' => hq q (by simp [hq'])) σ'' (b1.trans (c1.trans hs)) g w k hR r1, x⟩, v, vs, rfl, b3 (fun q hq' => hq q (by simp [hq'])) σ'' (c1.trans hs) g w v hR r2, y⟩
        · simp at h
      · simp at h
    · simp at h

theorem RowIn.ren {g : G} {w : World} {e : TypeId} {c : CT} {l : List c.D} {s : Option Nat} {v : Value} (h : RowIn w g.pr e c l s v) (σ : Sg) : RowIn w (ren g σ).pr e c l s v := h
theorem uniO_ok {hp : Hp} {σ σ' : Sg} {o' o : DO} {ps : List Prop} (h : uniO hp σ o' o = some (σ', ps)) : SubS σ σ' ∧ (InjS σ → InjS σ') ∧ isRows o = isRows o' ∧
    ((∀ q ∈ ps, q) → (noneO o' → noneO o) ∧ (∀ k, subOf o k → subOf o' k) ∧ ∀ σ'', SubS σ' σ'' → ∀ g w i i' b ba, Rel g hp w → look σ'' i = some i' → ORep g w i' o' b ba → ORep (ren g σ'') w i o b ba) := by
  unfold uniO at h
  split at h
  · rename_i t cs t' cs'
    split at h
    · rename_i ht
      obtain ⟨h1, h2, h3⟩ := uniL_ok _ _ _ _ _ h
      refine ⟨h1, h2, rfl, fun hq => ⟨fun h => h, fun k hk => hk, fun σ'' hs g w i i' b ba hR hi r => ?_⟩⟩
      obtain ⟨r0, vs, r1, r2, r3⟩ := r
      exact ⟨r0, vs, by rw [← Nat.eq_of_beq_eq_true ht]; exact r1, h3 hq σ'' hs g w vs hR r2, r3⟩
    · simp at h
  · rename_i t c l t' c' l'
    split at h
    · rename_i l1 ht hc
      simp only [Option.some.injEq, Prod.mk.injEq] at h
      obtain ⟨rfl, rfl⟩ := h
      obtain ⟨rfl, rfl⟩ := castL_ok hc
      refine ⟨SubS.refl _, id, rfl, fun hq => ?_⟩
      have e := hq _ (List.mem_singleton.2 rfl)
      have e : l1 = l := e
      subst e
      refine ⟨fun h => h, fun k hk => hk, fun σ'' _ g w i i' b ba hR hi r => ?_⟩
      obtain ⟨vs, r1, r2⟩ := r
      exact ⟨vs, by rw [← Nat.eq_of_beq_eq_true ht]; exact r1, r2⟩
    · simp at h
  · rename_i t c l t' cs'
    split at h
    · rename_i l' qs ht hd
      simp only [Option.some.injEq, Prod.mk.injEq] at h
      obtain ⟨rfl, rfl⟩ := h
      refine ⟨SubS.refl _, id, rfl, fun hq => ?_⟩
      have e : l' = l := hq _ (by simp)
      subst e
      refine ⟨fun h => h.elim, fun k hk => hk.elim, fun σ'' _ g w i i' b ba hR hi r => ?_⟩
      obtain ⟨r0, vs, r1, r2, r3⟩ := r
      obtain ⟨hlen, hel⟩ := codL_ok (R := fun a vs => Rp w g.pr c a vs) (fun cs a ps vs h hp r => cod_ok hR _ c cs a ps vs h hp r) _ _ _ _ _ hd (fun q hq' => hq q (by simp [hq'])) r2
      refine ⟨vs, by rw [← Nat.eq_of_beq_eq_true ht]; exact r1, r3, ?_, fun j a hj => ?_⟩
      · rw [r0, hlen, r2.length, Nat.zero_add]; exact Nat.div_mul_le_self _ _
      · rw [r0, Nat.zero_add]; exact hel j a hj
    · simp at h
  · rename_i t e c ls t' e' c' ls'
    split at h
    · rename_i l1 ht he hc
      simp only [Option.some.injEq, Prod.mk.injEq] at h
      obtain ⟨rfl, rfl⟩ := h
      obtain ⟨rfl, rfl⟩ := castLL_ok hc
      refine ⟨SubS.refl _, id, rfl, fun hq => ?_⟩
      have e0 := hq _ (List.mem_singleton.2 rfl)
      have e0 : l1 = ls := e0
      subst e0
      refine ⟨fun h => h, fun k hk => hk, fun σ'' _ g w i i' b ba hR hi r => ?_⟩
      obtain ⟨r0, vs, r1, r2, r3, r4⟩ := r
      refine ⟨r0, vs, by rw [← Nat.eq_of_beq_eq_true ht]; exact r1, r2, r3, fun k l hk => ?_⟩
      obtain ⟨v, k1, k2, _⟩ := r4 k l hk
      refine ⟨v, k1, fun hh => ?_, fun _ _ _ h => by simp at h⟩
      have : (ren g σ'').sub i k = g.sub i' k := by simp [ren, hi]
      rw [this, ← Nat.eq_of_beq_eq_true he]
      exact k2 hh
    · simp at h
  · rename_i es es'
    obtain ⟨h1, h2, h3⟩ := uniM_ok _ _ _ _ _ h
    refine ⟨h1, h2, rfl, fun hq => ⟨fun h => h, fun k hk => hk, fun σ'' hs g w i i' b ba hR hi r => ?_⟩⟩
    obtain ⟨ms, ck, r1, r0, r2, r3⟩ := r
    obtain ⟨x, y⟩ := h3 hq σ'' hs g w _ _ hR r2 r3
    exact ⟨ms, ck, r1, r0, x, y⟩
  · rename_i ka k ea e es ka' k' ea' e' es'
    split at h
    · rename_i es1 hc
      simp only [Option.some.injEq, Prod.mk.injEq] at h
      obtain ⟨rfl, rfl⟩ := h
      obtain ⟨he, hes⟩ := castD_ok hc
      obtain ⟨rfl, rfl, rfl, rfl⟩ := CT.mp.inj he
      subst hes
      refine ⟨SubS.refl _, id, rfl, fun hq => ?_⟩
      have e0 := hq _ (List.mem_singleton.2 rfl)
      have e0 : es1 = es := e0
      subst e0
      exact ⟨fun h => h, fun k hk => hk, fun σ'' _ g w i i' b ba hR hi r => r⟩
    · simp at h
  · rename_i ka k ea e es es'
    split at h
    · rename_i es1 qs hc
      simp only [Option.some.injEq, Prod.mk.injEq] at h
      obtain ⟨rfl, rfl⟩ := h
      refine ⟨SubS.refl _, id, rfl, fun hq => ?_⟩
      have e0 : es1 = es := hq _ (by simp)
      subst e0
      refine ⟨fun h => h.elim, fun k hk => hk.elim, fun σ'' _ g w i i' b ba hR hi r => ?_⟩
      obtain ⟨ms, ck, r1, r0, r2, r3⟩ := r
      obtain ⟨e1, e2⟩ := codM_ok (R := fun a vs => Rp w g.pr k a vs) (Q := fun a vs => Rp w g.pr e a vs) (fun cs a ps vs h hp r => cod_ok hR _ k cs a ps vs h hp r) (fun cs a ps vs h hp r => cod_ok hR _ e cs a ps vs h hp r) _ _ _ ms hc (fun q hq' => hq q (by simp [hq'])) r2 r3
      exact ⟨ms, ck, r1, r0, e1, e2⟩
    · simp at h
  · simp at h

theorem uniF_ok {hp : Hp} {fr' : Fr} : ∀ (fr : Fr) (σ σ' : Sg) (ps : List Prop), uniF hp fr' σ fr = some (σ', ps) → SubS σ σ' ∧ (InjS σ → InjS σ') ∧
    ((∀ q ∈ ps, q) → ∀ σ'', SubS σ' σ'' → ∀ t d, look fr t = some d → ∃ d', look fr' t = some d' ∧ ∀ g w v, Rel g hp w → Rep g w d' v → Rep (ren g σ'') w d v)
  | [], σ, σ', ps, h => by
    simp [uniF] at h; obtain ⟨rfl, rfl⟩ := h
    exact ⟨SubS.refl _, id, fun _ _ _ t d hd => by simp [look] at hd⟩
  | (s, e) :: fr, σ, σ', ps, h => by
    simp only [uniF] at h
    split at h
    · rename_i d' hd'
      split at h
      · rename_i σ1 ps1 h1
        split at h
        · rename_i σ2 ps2 h2
          simp only [Option.some.injEq, Prod.mk.injEq] at h
          obtain ⟨rfl, rfl⟩ := h
          obtain ⟨a1, a2, a3⟩ := uniD_ok e σ σ1 d' ps1 h1
          obtain ⟨b1, b2, b3⟩ := uniF_ok fr σ1 σ2 ps2 h2
          refine ⟨a1.trans b1, fun h => b2 (a2 h), fun hq σ'' hs t d hd => ?_⟩
          rw [look_cons] at hd
          split at hd
          · rename_i he
            subst he
            obtain rfl := Option.some.inj hd
            exact ⟨d', hd', fun g w v hR r => a3 (fun q hq' => hq q (List.mem_append.2 (.inl hq'))) σ'' (b1.trans hs) g w v hR r⟩
          · exact b3 (fun q hq' => hq q (List.mem_append.2 (.inr hq'))) σ'' hs t d hd
        · simp at h
      · simp at h
    · simp at h

/-- What is known of the thing o of the new form at the number j of the old one. -/
def HpAt (hp' : Hp) (σ'' : Sg) (i j : Nat) (z : Bool) (o : DO) : Prop :=
  (∃ o', look hp' j = some (z, o') ∧ isRows o = isRows o' ∧ (noneO o' → noneO o) ∧ (∀ k, subOf o k → subOf o' k) ∧ ∀ g w b ba, Rel g hp' w → ORep g w j o' b ba → ORep (ren g σ'') w i o b ba) ∨ (noBlock ≤ j ∧ look hp' j = none ∧ noneO o ∧ isRows o = false ∧ ∀ k, ¬ subOf o k)
theorem uniH_ok {hp' : Hp} : ∀ (hp : Hp) (σ σ' : Sg) (ps : List Prop), uniH hp' σ hp = some (σ', ps) → SubS σ σ' ∧ (InjS σ → InjS σ') ∧
    ((∀ q ∈ ps, q) → ∀ σ'', SubS σ' σ'' → ∀ i z o, look hp i = some (z, o) → ∃ j, look σ'' i = some j ∧ HpAt hp' σ'' i j z o)
  | [], σ, σ', ps, h => by
    simp [uniH] at h; obtain ⟨rfl, rfl⟩ := h
    exact ⟨SubS.refl _, id, fun _ _ _ t z d hd => by simp [look] at hd⟩
  | (s, (z0, e)) :: hp, σ, σ', ps, h => by
    simp only [uniH] at h
    split at h
    · rename_i j hj
      split at h
      · rename_i z' o' ho'
        split at h
        · rename_i σ1 ps1 hz h1
          split at h
          · rename_i σ2 ps2 h2
            simp only [Option.some.injEq, Prod.mk.injEq] at h
            obtain ⟨rfl, rfl⟩ := h
            have hz : z' = z0 := by simpa using hz
            subst hz
            obtain ⟨a1, a2, aro, a3⟩ := uniO_ok h1
            obtain ⟨b1, b2, b3⟩ := uniH_ok hp σ1 σ2 ps2 h2
            refine ⟨a1.trans b1, fun h => b2 (a2 h), fun hq σ'' hs i z o hi => ?_⟩
            rw [look_cons] at hi
            split at hi
            · rename_i he
              subst he
              have hi := Option.some.inj hi
              simp only [Prod.mk.injEq] at hi
              obtain ⟨rfl, rfl⟩ := hi
              obtain ⟨a4, a5, a6⟩ := a3 (fun q hq' => hq q (List.mem_append.2 (.inl hq')))
              have hσ := hs _ _ (b1 _ _ (a1 _ _ hj))
              exact ⟨j, hσ, .inl ⟨o', ho', aro, a4, a5, fun g w b ba hR r => a6 σ'' (b1.trans hs) g w _ j b ba hR hσ r⟩⟩
            · exact b3 (fun q hq' => hq q (List.mem_append.2 (.inr hq'))) σ'' hs i z o hi
          · simp at h
        · simp at h
      · rename_i hn
        split at h
        · rename_i t c l hble
          split at h
          · rename_i σ2 ps2 h2
            simp only [Option.some.injEq, Prod.mk.injEq] at h
            obtain ⟨rfl, rfl⟩ := h
            obtain ⟨b1, b2, b3⟩ := uniH_ok hp σ σ2 ps2 h2
            refine ⟨b1, b2, fun hq σ'' hs i z o hi => ?_⟩
            rw [look_cons] at hi
            split at hi
            · rename_i he
              subst he
              have hi := Option.some.inj hi
              simp only [Prod.mk.injEq] at hi
              obtain ⟨rfl, rfl⟩ := hi
              exact ⟨j, hs _ _ (b1 _ _ hj), .inr ⟨Nat.le_of_ble_eq_true hble, hn, hq (l = []) (by simp), rfl, fun k hk => hk.elim⟩⟩
            · exact b3 (fun q hq' => hq q (by simp [hq'])) σ'' hs i z o hi
          · simp at h
        · simp at h
    · simp at h

omit [Fam] in
theorem idS_ok : ∀ (n i : Nat), i < n → look (idS n) i = some i
  | n + 1, i, h => by
    unfold idS
    rw [look_cons]
    split
    · rename_i he; rw [he]
    · exact idS_ok n i (by omega)
omit [Fam] in
theorem idS_inv : ∀ (n i j : Nat), look (idS n) i = some j → i = j
  | 0, i, j, h => by simp [idS, look] at h
  | n + 1, i, j, h => by
    unfold idS at h
    rw [look_cons] at h
    split at h
    · rename_i he; obtain rfl := Option.some.inj h; exact he.symm
    · exact idS_inv n i j h
omit [Fam] in
theorem idS_inj (n : Nat) : InjS (idS n) := fun i i' j h h' => (idS_inv n i j h).trans (idS_inv n i' j h').symm

omit [Fam] in
theorem keysLt_ok : ∀ {σ : Sg} {n : Nat}, keysLt n σ = true → ∀ i, n ≤ i → look σ i = none
  | [], n, _, i, _ => rfl
  | (a, b) :: r, n, h, i, hi => by
    unfold keysLt at h
    split at h
    · rename_i hb
      have := Nat.le_of_ble_eq_true hb
      rw [look_cons, if_neg (by omega)]
      exact keysLt_ok h i hi
    · simp at h

end Go.DF
