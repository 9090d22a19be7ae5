import Derived.Test.YtnoccknoaihjlaaEng5b
set_option linter.unusedVariables false
set_option linter.unusedSimpArgs false
set_option linter.unnecessarySimpa false
/- The engine, part 5c: a state or a memory taken for another one. -/
namespace Go.DE
universe u v

theorem look_cons {α : Type u} {j i : Nat} {x : α} {r : List (Nat × α)} : look ((j, x) :: r) i = if j = i then some x else look r i := by
  simp only [look]
  cases h : Nat.beq j i
  · rw [if_neg (Nat.ne_of_beq_eq_false h)]
  · rw [if_pos (Nat.eq_of_beq_eq_true h)]

def ren (g : G) (σ : Sg) : G := ⟨fun i => (look σ i).bind g.ρ, g.pr, fun i => match look σ i with | some j => g.base j | none => 0⟩
def SubS (σ σ' : Sg) : Prop := ∀ i j, look σ i = some j → look σ' i = some j
def InjS (σ : Sg) : Prop := ∀ i i' j, look σ i = some j → look σ i' = some j → i = i'
theorem SubS.refl (σ : Sg) : SubS σ σ := fun _ _ h => h
theorem SubS.trans {a b c : Sg} (h : SubS a b) (k : SubS b c) : SubS a c := fun i j x => k i j (h i j x)

theorem isTgt_false : ∀ {σ : Sg} {j : Nat}, isTgt σ j = false → ∀ i, look σ i ≠ some j
  | [], j, _, i, h => by simp [look] at h
  | (a, b) :: r, j, h, i, hl => by
    unfold isTgt at h
    split at h
    · simp at h
    · rename_i hb
      rw [look_cons] at hl
      split at hl
      · exact Nat.ne_of_beq_eq_false hb (Option.some.inj hl)
      · exact isTgt_false h i hl

theorem uniI_ok {σ σ' : Sg} {i j : Nat} (h : uniI σ i j = some σ') : SubS σ σ' ∧ (InjS σ → InjS σ') ∧ look σ' i = some j := by
  unfold uniI at h
  split at h
  · rename_i j' hl
    split at h
    · rename_i hb
      obtain rfl := Option.some.inj h
      exact ⟨SubS.refl _, id, by rw [hl, Nat.eq_of_beq_eq_true hb]⟩
    · simp at h
  · rename_i hl
    split at h
    · simp at h
    · rename_i ht
      obtain rfl := Option.some.inj h
      refine ⟨fun k x hk => ?_, fun hI => ?_, by rw [look_cons, if_pos rfl]⟩
      · rw [look_cons, if_neg]
        · exact hk
        · intro e; subst e; rw [hl] at hk; simp at hk
      · intro k k' x hk hk'
        rw [look_cons] at hk hk'
        split at hk <;> split at hk'
        · omega
        · rename_i h1 h2
          obtain rfl := Option.some.inj hk
          exact absurd hk' (isTgt_false ht k')
        · rename_i h1 h2
          obtain rfl := Option.some.inj hk'
          exact absurd hk (isTgt_false ht k)
        · exact hI k k' x hk hk'

theorem eqI_ok {a b : DI} {ps : List Prop} (h : eqI a b (a.v = b.v) = some ps) (hp : ∀ p ∈ ps, p) : a.v = b.v := by
  unfold eqI at h
  split at h
  · split at h
    · rename_i hb; simpa [DI.v] using hb
    · simp at h
  · simp at h; subst h; exact hp _ (by simp)
theorem eqN_ok {a b : DN} {ps : List Prop} (h : eqN a b (a.v = b.v) = some ps) (hp : ∀ p ∈ ps, p) : a.v = b.v := by
  unfold eqN at h
  split at h
  · split at h
    · rename_i hb; exact Nat.eq_of_beq_eq_true hb
    · simp at h
  · simp at h; subst h; exact hp _ (by simp)
theorem eqBl_ok {a b : DB} {ps : List Prop} (h : eqBl a b (a.v = b.v) = some ps) (hp : ∀ p ∈ ps, p) : a.v = b.v := by
  unfold eqBl at h
  split at h
  · split at h
    · rename_i hb; simpa [DB.v] using hb
    · simp at h
  · simp at h; subst h; exact hp _ (by simp)

theorem eqSl_ok {a b : DS} {ps : List Prop} (h : eqSl a b (a.v = b.v) = some ps) (hp : ∀ p ∈ ps, p) : a.v = b.v := by
  unfold eqSl at h
  split at h
  · rename_i x y
    split at h
    · rename_i hb
      obtain ⟨⟨x⟩⟩ := x
      obtain ⟨⟨y⟩⟩ := y
      have : x = y := by simpa using hb
      rw [this]
    · simp at h
  · simp at h; subst h; exact hp _ (by simp)

theorem uniP_ok {σ σ' : Sg} {p' p : DP} {ps : List Prop} (h : uniP σ p' p = some (σ', ps)) :
    SubS σ σ' ∧ (InjS σ → InjS σ') ∧ look σ' p.id = some p'.id ∧ p'.sz = p.sz ∧ ((∀ q ∈ ps, q) → p'.off = p.off) := by
  unfold uniP at h
  split at h
  · rename_i σ1 qs h1 h2 h3 h4
    simp only [Option.some.injEq, Prod.mk.injEq] at h
    obtain ⟨rfl, rfl⟩ := h
    obtain ⟨k1, k2, k3⟩ := uniI_ok h1
    refine ⟨k1, k2, k3, Nat.eq_of_beq_eq_true h3, fun hq => ?_⟩
    have := eqN_ok h2 hq
    simp only [DP.off, this, Nat.eq_of_beq_eq_true h3, Nat.eq_of_beq_eq_true h4]
  · simp at h

theorem ren_get {g : G} {σ σ'' : Sg} {i j b : Nat} (h : look σ i = some j) (s : SubS σ σ'') (hb : g.ρ j = some b) : (ren g σ'').ρ i = some b := by
  simp [ren, s i j h, hb]

theorem ren_off {g : G} {σ σ'' : Sg} {p p' : DP} (h : look σ p.id = some p'.id) (s : SubS σ σ'') (ho : p'.off = p.off) : (ren g σ'').off p = g.off p' := by
  simp only [ren, G.off, s _ _ h, ho]

mutual
theorem uniD_ok : ∀ (d : DV) (σ σ' : Sg) (d' : DV) (ps : List Prop), uniD σ d' d = some (σ', ps) → SubS σ σ' ∧ (InjS σ → InjS σ') ∧
    ((∀ q ∈ ps, q) → ∀ σ'', SubS σ' σ'' → ∀ g w v, Rep g w d' v → Rep (ren g σ'') w d v)
  | .any, σ, σ', d', ps, h => by
    simp [uniD] at h; obtain ⟨rfl, rfl⟩ := h
    exact ⟨SubS.refl _, id, fun _ _ _ _ _ _ _ => by simp [Rep]⟩
  | .bool b, σ, σ', d', ps, h => by
    unfold uniD at h
    split at h
    · simp only [Option.map_eq_some_iff, Prod.mk.injEq] at h
      obtain ⟨qs, h1, rfl, rfl⟩ := h
      refine ⟨SubS.refl _, id, fun hq σ'' _ g w v r => ?_⟩
      simp only [Rep] at r ⊢
      rw [r, eqBl_ok h1 hq]
    · simp at h
  | .int k b, σ, σ', d', ps, h => by
    unfold uniD at h
    split at h
    · split at h
      · rename_i hk
        simp only [Option.map_eq_some_iff, Prod.mk.injEq] at h
        obtain ⟨qs, h1, rfl, rfl⟩ := h
        refine ⟨SubS.refl _, id, fun hq σ'' _ g w v r => ?_⟩
        simp only [Rep] at r ⊢
        rw [r, eqI_ok h1 hq, of_decide_eq_true hk]
      · simp at h
    · simp at h
  | .str b, σ, σ', d', ps, h => by
    unfold uniD at h
    split at h
    · simp only [Option.map_eq_some_iff, Prod.mk.injEq] at h
      obtain ⟨qs, h1, rfl, rfl⟩ := h
      refine ⟨SubS.refl _, id, fun hq σ'' _ g w v r => ?_⟩
      simp only [Rep] at r ⊢
      rw [r, eqSl_ok h1 hq]
    · simp at h
  | .ptr p, σ, σ', d', ps, h => by
    unfold uniD at h
    split at h
    · obtain ⟨h1, h2, h3, _, h4⟩ := uniP_ok h
      refine ⟨h1, h2, fun hq σ'' hs g w v r => ?_⟩
      simp only [Rep] at r ⊢
      obtain ⟨b, hb, rfl⟩ := r
      exact ⟨b, ren_get h3 hs hb, by rw [ren_off h3 hs (h4 hq)]⟩
    · simp at h
  | .nilptr, σ, σ', d', ps, h => by
    unfold uniD at h
    split at h
    · simp only [Option.some.injEq, Prod.mk.injEq] at h
      obtain ⟨rfl, rfl⟩ := h
      exact ⟨SubS.refl _, id, fun hq σ'' _ g w v r => by simpa [Rep] using r⟩
    · simp at h
  | .slice p n, σ, σ', d', ps, h => by
    unfold uniD at h
    split at h
    · split at h
      · rename_i σ1 ps1 qs h0 hn
        simp only [Option.some.injEq, Prod.mk.injEq] at h
        obtain ⟨rfl, rfl⟩ := h
        obtain ⟨h1, h2, h3, hsz, h4⟩ := uniP_ok h0
        refine ⟨h1, h2, fun hq σ'' hs g w v r => ?_⟩
        simp only [Rep] at r ⊢
        have en := eqN_ok hn (fun q hq' => hq q (List.mem_append.2 (.inr hq')))
        have ep := h4 (fun q hq' => hq q (List.mem_append.2 (.inl hq')))
        rcases r with ⟨r1, r2⟩ | ⟨b, o, c, hb, hc, r1, ho, cs, t, fr, k1, k2⟩
        · exact .inl ⟨r1, by rw [← en]; exact r2⟩
        · exact .inr ⟨b, o, c, ren_get h3 hs hb, by rw [← en]; exact hc, by rw [← en]; exact r1, by rw [ren_off h3 hs ep]; exact ho, cs, t, fr, k1, by rw [← hsz]; exact k2⟩
      · simp at h
    · split at h
      · rename_i σ1 h0
        simp only [Option.some.injEq, Prod.mk.injEq] at h
        obtain ⟨rfl, rfl⟩ := h
        obtain ⟨h1, h2, h3⟩ := uniI_ok h0
        refine ⟨h1, h2, fun hq σ'' hs g w v r => ?_⟩
        simp only [Rep] at r ⊢
        exact .inl ⟨r, hq _ (by simp)⟩
      · simp at h
    · simp at h
  | .nilslice, σ, σ', d', ps, h => by
    unfold uniD at h
    split at h
    · simp only [Option.some.injEq, Prod.mk.injEq] at h
      obtain ⟨rfl, rfl⟩ := h
      exact ⟨SubS.refl _, id, fun hq σ'' _ g w v r => by simpa [Rep] using r⟩
    · simp at h
  | .map i, σ, σ', d', ps, h => by
    unfold uniD at h
    split at h
    · simp only [Option.map_eq_some_iff, Prod.mk.injEq] at h
      obtain ⟨qs, h1, rfl, rfl⟩ := h
      obtain ⟨k1, k2, k3⟩ := uniI_ok h1
      refine ⟨k1, k2, fun hq σ'' hs g w v r => ?_⟩
      simp only [Rep] at r ⊢
      obtain ⟨b, hb, rfl⟩ := r
      exact ⟨b, ren_get k3 hs hb, rfl⟩
    · simp at h
  | .nilmap, σ, σ', d', ps, h => by
    unfold uniD at h
    split at h
    · simp only [Option.some.injEq, Prod.mk.injEq] at h
      obtain ⟨rfl, rfl⟩ := h
      exact ⟨SubS.refl _, id, fun hq σ'' _ g w v r => by simpa [Rep] using r⟩
    · simp at h
  | .func f c, σ, σ', d', ps, h => by
    unfold uniD at h
    split at h
    · split at h
      · rename_i hf
        obtain ⟨h1, h2, h3⟩ := uniL_ok c σ σ' _ ps h
        refine ⟨h1, h2, fun hq σ'' hs g w v r => ?_⟩
        simp only [Rep] at r ⊢
        obtain ⟨vs, rfl, r⟩ := r
        exact ⟨vs, by rw [Nat.eq_of_beq_eq_true hf], h3 hq σ'' hs g w vs r⟩
      · simp at h
    · simp at h
  | .nilfunc, σ, σ', d', ps, h => by
    unfold uniD at h
    split at h
    · simp only [Option.some.injEq, Prod.mk.injEq] at h
      obtain ⟨rfl, rfl⟩ := h
      exact ⟨SubS.refl _, id, fun hq σ'' _ g w v r => by simpa [Rep] using r⟩
    · simp at h
  | .nilif, σ, σ', d', ps, h => by
    unfold uniD at h
    split at h
    · simp only [Option.some.injEq, Prod.mk.injEq] at h
      obtain ⟨rfl, rfl⟩ := h
      exact ⟨SubS.refl _, id, fun hq σ'' _ g w v r => by simpa [Rep] using r⟩
    · simp at h
  | .agg c, σ, σ', d', ps, h => by
    unfold uniD at h
    split at h
    · obtain ⟨h1, h2, h3⟩ := uniL_ok c σ σ' _ ps h
      refine ⟨h1, h2, fun hq σ'' hs g w v r => ?_⟩
      simp only [Rep] at r ⊢
      obtain ⟨vs, rfl, r, r1⟩ := r
      exact ⟨vs, rfl, h3 hq σ'' hs g w vs r, r1⟩
    · simp at h
  | .tup c, σ, σ', d', ps, h => by
    unfold uniD at h
    split at h
    · obtain ⟨h1, h2, h3⟩ := uniL_ok c σ σ' _ ps h
      refine ⟨h1, h2, fun hq σ'' hs g w v r => ?_⟩
      simp only [Rep] at r ⊢
      obtain ⟨vs, rfl, r⟩ := r
      exact ⟨vs, rfl, h3 hq σ'' hs g w vs r⟩
    · simp at h
  | .imm m, σ, σ', d', ps, h => by
    unfold uniD at h
    split at h
    · simp only [Option.some.injEq, Prod.mk.injEq] at h
      obtain ⟨rfl, rfl⟩ := h
      refine ⟨SubS.refl _, id, fun hq σ'' _ g w v r => ?_⟩
      simp only [Rep] at r ⊢
      exact hq _ (List.mem_singleton.2 rfl) w _ v r
    · simp at h
theorem uniL_ok : ∀ (ds : List DV) (σ σ' : Sg) (ds' : List DV) (ps : List Prop), uniL σ ds' ds = some (σ', ps) → SubS σ σ' ∧ (InjS σ → InjS σ') ∧
    ((∀ q ∈ ps, q) → ∀ σ'', SubS σ' σ'' → ∀ g w vs, RepL g w ds' vs → RepL (ren g σ'') w ds vs)
  | [], σ, σ', ds', ps, h => by
    unfold uniL at h
    split at h
    · simp only [Option.some.injEq, Prod.mk.injEq] at h
      obtain ⟨rfl, rfl⟩ := h
      exact ⟨SubS.refl _, id, fun hq σ'' _ g w v r => by simpa [RepL] using r⟩
    · simp at h
  | d :: ds, σ, σ', ds', ps, h => by
    unfold uniL at h
    split at h
    · rename_i d' ds'
      split at h
      · rename_i σ1 ps1 h1
        split at h
        · rename_i σ2 ps2 h2
          simp only [Option.some.injEq, Prod.mk.injEq] at h
          obtain ⟨rfl, rfl⟩ := h
          obtain ⟨a1, a2, a3⟩ := uniD_ok d σ σ1 d' ps1 h1
          obtain ⟨b1, b2, b3⟩ := uniL_ok ds σ1 σ2 ds' ps2 h2
          refine ⟨a1.trans b1, fun h => b2 (a2 h), fun hq σ'' hs g w vs r => ?_⟩
          simp only [RepL] at r ⊢
          obtain ⟨v, us, rfl, r1, r2⟩ := r
          exact ⟨v, us, rfl, a3 (fun q hq' => hq q (List.mem_append.2 (.inl hq'))) σ'' (b1.trans hs) g w v r1, b3 (fun q hq' => hq q (List.mem_append.2 (.inr hq'))) σ'' hs g w us r2⟩
        · simp at h
      · simp at h
    · simp at h
end

mutual
theorem idf_rep {g g' : G} {w : World} (hp : g'.pr = g.pr) : ∀ (d : DV) (v : Value), idf d = true → Rep g w d v → Rep g' w d v
  | .bool _, _, _, r => by simpa only [Rep] using r
  | .int _ _, _, _, r => by simpa only [Rep] using r
  | .str _, _, _, r => by simpa only [Rep] using r
  | .ptr _, _, h, _ => by simp [idf] at h
  | .nilptr, _, _, r => by simpa only [Rep] using r
  | .slice _ _, _, h, _ => by simp [idf] at h
  | .nilslice, _, _, r => by simpa only [Rep] using r
  | .map _, _, h, _ => by simp [idf] at h
  | .nilmap, _, _, r => by simpa only [Rep] using r
  | .func f c, _, h, r => by
    simp only [Rep] at r ⊢
    obtain ⟨vs, h1, h2⟩ := r
    exact ⟨vs, h1, idfL_rep hp c vs (by simpa [idf] using h) h2⟩
  | .nilfunc, _, _, r => by simpa only [Rep] using r
  | .nilif, _, _, r => by simpa only [Rep] using r
  | .agg c, _, h, r => by
    simp only [Rep] at r ⊢
    obtain ⟨vs, h1, h2, h3⟩ := r
    exact ⟨vs, h1, idfL_rep hp c vs (by simpa [idf] using h) h2, h3⟩
  | .tup c, _, h, r => by
    simp only [Rep] at r ⊢
    obtain ⟨vs, h1, h2⟩ := r
    exact ⟨vs, h1, idfL_rep hp c vs (by simpa [idf] using h) h2⟩
  | .imm m, _, _, r => by simp only [Rep] at r ⊢; rw [hp]; exact r
  | .any, _, _, _ => by simp only [Rep]
theorem idfL_rep {g g' : G} {w : World} (hp : g'.pr = g.pr) : ∀ (ds : List DV) (vs : List Value), idfL ds = true → RepL g w ds vs → RepL g' w ds vs
  | [], _, _, r => by simpa only [RepL] using r
  | d :: ds, vs, h, r => by
    simp only [RepL] at r ⊢
    obtain ⟨v, us, rfl, r1, r2⟩ := r
    have h' := (idfL_cons d ds).1 h
    exact ⟨v, us, rfl, idf_rep hp d v h'.1 r1, idfL_rep hp ds us h'.2 r2⟩
end

theorem decL_ok (c : CT) : ∀ (n : Nat) (cs : List DV) (l : List c.D), decL c n cs = some l → ∀ (i : Nat) a, l[i]? = some a → c.dec ((cs.drop (i * c.size)).take c.size) = some a
  | 0, [], l, h, i, a, hi => by simp [decL] at h; subst h; simp at hi
  | 0, _ :: _, l, h, i, a, hi => by simp [decL] at h
  | n + 1, [], l, h, i, a, hi => by simp [decL] at h; subst h; simp at hi
  | n + 1, d :: ds, l, h, i, a, hi => by
    simp only [decL] at h
    split at h
    · rename_i x l' h1 h2
      obtain rfl := Option.some.inj h
      cases i with
      | zero => simp at hi; subst hi; simpa using h1
      | succ i =>
        have := decL_ok c n _ l' h2 i a (by simpa using hi)
        rw [List.drop_drop] at this
        rw [Nat.add_mul, Nat.one_mul, Nat.add_comm]
        exact this
    · simp at h

theorem uniM_ok : ∀ (es es' : List (DV × DV)) (σ σ' : Sg) (ps : List Prop), uniM σ es' es = some (σ', ps) → SubS σ σ' ∧ (InjS σ → InjS σ') ∧
    ((∀ q ∈ ps, q) → ∀ σ'', SubS σ' σ'' → ∀ g w ks vs, RepL g w (es'.map (·.1)) ks → RepL g w (es'.map (·.2)) vs → RepL (ren g σ'') w (es.map (·.1)) ks ∧ RepL (ren g σ'') w (es.map (·.2)) vs)
  | [], [], σ, σ', ps, h => by
    simp [uniM] at h
    obtain ⟨rfl, rfl⟩ := h
    exact ⟨SubS.refl _, id, fun hq σ'' _ g w ks vs r1 r2 => ⟨by simpa [RepL] using r1, by simpa [RepL] using r2⟩⟩
  | [], _ :: _, σ, σ', ps, h => by simp [uniM] at h
  | _ :: _, [], σ, σ', ps, h => by simp [uniM] at h
  | (a, b) :: es, (a', b') :: es', σ, σ', ps, h => by
    simp only [uniM] at h
    split at h
    · rename_i σ1 ps1 h1
      split at h
      · rename_i σ2 ps2 h2
        split at h
        · rename_i σ3 ps3 h3
          simp only [Option.some.injEq, Prod.mk.injEq] at h
          obtain ⟨rfl, rfl⟩ := h
          obtain ⟨a1, a2, a3⟩ := uniD_ok _ _ _ _ _ h1
          obtain ⟨b1, b2, b3⟩ := uniD_ok _ _ _ _ _ h2
          obtain ⟨c1, c2, c3⟩ := uniM_ok es es' _ _ _ h3
          refine ⟨a1.trans (b1.trans c1), fun h => c2 (b2 (a2 h)), fun hq σ'' hs g w ks vs r1 r2 => ?_⟩
          simp only [List.map_cons, RepL] at r1 r2 ⊢
          obtain ⟨k, ks, rfl, r1, r1'⟩ := r1
          obtain ⟨v, vs, rfl, r2, r2'⟩ := r2
          obtain ⟨x, y⟩ := c3 (fun q hq' => hq q (by simp [hq'])) σ'' hs g w ks vs r1' r2'
          exact ⟨⟨k, ks, rfl, a3 (fun q hq' => hq q (by simp [hq'])) σ'' (b1.trans (c1.trans hs)) g w k r1, x⟩, v, vs, rfl, b3 (fun q hq' => hq q (by simp [hq'])) σ'' (c1.trans hs) g w v r2, y⟩
        · simp at h
      · simp at h
    · simp at h

theorem uniO_ok {σ σ' : Sg} {o' o : DO} {ps : List Prop} (h : uniO σ o' o = some (σ', ps)) : SubS σ σ' ∧ (InjS σ → InjS σ') ∧ isRo o = isRo o' ∧
    ((∀ q ∈ ps, q) → (noneO o' → noneO o) ∧ ∀ σ'', SubS σ' σ'' → ∀ g w b ba, ORep g w o' b ba → ORep (ren g σ'') w o b ba) := by
  unfold uniO at h
  split at h
  · rename_i t cs t' cs'
    split at h
    · rename_i ht
      obtain ⟨h1, h2, h3⟩ := uniL_ok _ _ _ _ _ h
      refine ⟨h1, h2, rfl, fun hq => ⟨fun h => h, fun σ'' hs g w b ba r => ?_⟩⟩
      obtain ⟨vs, r1, r2, r3⟩ := r
      exact ⟨vs, by rw [← Nat.eq_of_beq_eq_true ht]; exact r1, h3 hq σ'' hs g w vs r2, r3⟩
    · simp at h
  · rename_i t c l t' c' l'
    simp only [Option.some.injEq, Prod.mk.injEq] at h
    obtain ⟨rfl, rfl⟩ := h
    refine ⟨SubS.refl _, id, rfl, fun hq => ⟨fun h => by rw [hq _ (List.mem_singleton.2 rfl)] at h; exact h, fun σ'' _ g w b ba r => ?_⟩⟩
    rw [hq _ (List.mem_singleton.2 rfl)] at r
    obtain ⟨vs, r1, r2, r3⟩ := r
    exact ⟨vs, r1, r2, fun i a hi => idfL_rep (g := g) (g' := ren g σ'') rfl _ _ (c.idf a) (r3 i a hi)⟩
  · rename_i c l c' l'
    simp only [Option.some.injEq, Prod.mk.injEq] at h
    obtain ⟨rfl, rfl⟩ := h
    refine ⟨SubS.refl _, id, rfl, fun hq => ⟨fun h => by rw [hq _ (List.mem_singleton.2 rfl)] at h; exact h, fun σ'' _ g w b ba r => ?_⟩⟩
    rw [hq _ (List.mem_singleton.2 rfl)] at r
    obtain ⟨vs, t, fr, r1, r3⟩ := r
    exact ⟨vs, t, fr, r1, fun i a hi => ⟨idfL_rep (g := g) (g' := ren g σ'') rfl _ _ (c.idf a) (r3 i a hi).1, (r3 i a hi).2⟩⟩
  · rename_i t c l t' cs'
    split at h
    · rename_i l' ht hd
      simp only [Option.some.injEq, Prod.mk.injEq] at h
      obtain ⟨rfl, rfl⟩ := h
      refine ⟨SubS.refl _, id, rfl, fun hq => ⟨fun h => h.elim, fun σ'' _ g w b ba r => ?_⟩⟩
      obtain rfl : l' = l := hq _ (List.mem_singleton.2 rfl)
      obtain ⟨vs, r1, r2, r3⟩ := r
      refine ⟨vs, by rw [← Nat.eq_of_beq_eq_true ht]; exact r1, r3, fun i a hi => ?_⟩
      exact idfL_rep (g := g) (g' := ren g σ'') rfl _ _ (c.idf a) (c.ok _ _ (decL_ok c _ _ _ hd i a hi) g w _ ((r2.drop _).take _))
    · simp at h
  · rename_i es es'
    obtain ⟨h1, h2, h3⟩ := uniM_ok _ _ _ _ _ h
    refine ⟨h1, h2, rfl, fun hq => ⟨fun h => h, fun σ'' hs g w b ba r => ?_⟩⟩
    obtain ⟨ms, ck, r1, r2, r3⟩ := r
    obtain ⟨x, y⟩ := h3 hq σ'' hs g w _ _ r2 r3
    exact ⟨ms, ck, r1, x, y⟩
  · simp at h

theorem uniF_ok {fr' : Fr} : ∀ (fr : Fr) (σ σ' : Sg) (ps : List Prop), uniF fr' σ fr = some (σ', ps) → SubS σ σ' ∧ (InjS σ → InjS σ') ∧
    ((∀ q ∈ ps, q) → ∀ σ'', SubS σ' σ'' → ∀ t d, look fr t = some d → ∃ d', look fr' t = some d' ∧ ∀ g w v, Rep g w d' v → Rep (ren g σ'') w d v)
  | [], σ, σ', ps, h => by
    simp [uniF] at h; obtain ⟨rfl, rfl⟩ := h
    exact ⟨SubS.refl _, id, fun _ _ _ t d hd => by simp [look] at hd⟩
  | (s, e) :: fr, σ, σ', ps, h => by
    simp only [uniF] at h
    split at h
    · rename_i d' hd'
      split at h
      · rename_i σ1 ps1 h1
        split at h
        · rename_i σ2 ps2 h2
          simp only [Option.some.injEq, Prod.mk.injEq] at h
          obtain ⟨rfl, rfl⟩ := h
          obtain ⟨a1, a2, a3⟩ := uniD_ok e σ σ1 d' ps1 h1
          obtain ⟨b1, b2, b3⟩ := uniF_ok fr σ1 σ2 ps2 h2
          refine ⟨a1.trans b1, fun h => b2 (a2 h), fun hq σ'' hs t d hd => ?_⟩
          rw [look_cons] at hd
          split at hd
          · rename_i he
            subst he
            obtain rfl := Option.some.inj hd
            exact ⟨d', hd', fun g w v r => a3 (fun q hq' => hq q (List.mem_append.2 (.inl hq'))) σ'' (b1.trans hs) g w v r⟩
          · exact b3 (fun q hq' => hq q (List.mem_append.2 (.inr hq'))) σ'' hs t d hd
        · simp at h
      · simp at h
    · simp at h

/-- What is known of the thing o of the new form at the number j of the old one. -/
def HpAt (hp' : Hp) (σ'' : Sg) (j : Nat) (o : DO) : Prop :=
  (∃ o', look hp' j = some o' ∧ isRo o = isRo o' ∧ (noneO o' → noneO o) ∧ ∀ g w b ba, ORep g w o' b ba → ORep (ren g σ'') w o b ba) ∨ (noBlock ≤ j ∧ look hp' j = none ∧ noneO o ∧ isRo o = false)
theorem uniH_ok {hp' : Hp} : ∀ (hp : Hp) (σ σ' : Sg) (ps : List Prop), uniH hp' σ hp = some (σ', ps) → SubS σ σ' ∧ (InjS σ → InjS σ') ∧
    ((∀ q ∈ ps, q) → ∀ σ'', SubS σ' σ'' → ∀ i o, look hp i = some o → ∃ j, look σ'' i = some j ∧ HpAt hp' σ'' j o)
  | [], σ, σ', ps, h => by
    simp [uniH] at h; obtain ⟨rfl, rfl⟩ := h
    exact ⟨SubS.refl _, id, fun _ _ _ t d hd => by simp [look] at hd⟩
  | (s, e) :: hp, σ, σ', ps, h => by
    simp only [uniH] at h
    split at h
    · rename_i j hj
      split at h
      · rename_i o' ho'
        split at h
        · rename_i σ1 ps1 h1
          split at h
          · rename_i σ2 ps2 h2
            simp only [Option.some.injEq, Prod.mk.injEq] at h
            obtain ⟨rfl, rfl⟩ := h
            obtain ⟨a1, a2, aro, a3⟩ := uniO_ok h1
            obtain ⟨b1, b2, b3⟩ := uniH_ok hp σ1 σ2 ps2 h2
            refine ⟨a1.trans b1, fun h => b2 (a2 h), fun hq σ'' hs i o hi => ?_⟩
            rw [look_cons] at hi
            split at hi
            · rename_i he
              subst he
              obtain rfl := Option.some.inj hi
              obtain ⟨a4, a5⟩ := a3 (fun q hq' => hq q (List.mem_append.2 (.inl hq')))
              exact ⟨j, hs _ _ (b1 _ _ (a1 _ _ hj)), .inl ⟨o', ho', aro, a4, fun g w b ba r => a5 σ'' (b1.trans hs) g w b ba r⟩⟩
            · exact b3 (fun q hq' => hq q (List.mem_append.2 (.inr hq'))) σ'' hs i o hi
          · simp at h
        · simp at h
      · rename_i hn
        split at h
        · rename_i t c l hble
          split at h
          · rename_i σ2 ps2 h2
            simp only [Option.some.injEq, Prod.mk.injEq] at h
            obtain ⟨rfl, rfl⟩ := h
            obtain ⟨b1, b2, b3⟩ := uniH_ok hp σ σ2 ps2 h2
            refine ⟨b1, b2, fun hq σ'' hs i o hi => ?_⟩
            rw [look_cons] at hi
            split at hi
            · rename_i he
              subst he
              obtain rfl := Option.some.inj hi
              exact ⟨j, hs _ _ (b1 _ _ hj), .inr ⟨Nat.le_of_ble_eq_true hble, hn, hq (l = []) (by simp), rfl⟩⟩
            · exact b3 (fun q hq' => hq q (by simp [hq'])) σ'' hs i o hi
          · simp at h
        · simp at h
    · simp at h

theorem allP_ok : ∀ {l : List Prop}, allP l → ∀ q ∈ l, q
  | [], _, q, hq => by simp at hq
  | [p], h, q, hq => by rw [List.mem_singleton.1 hq]; exact h
  | p :: p2 :: r, h, q, hq => by
    rcases List.mem_cons.1 hq with rfl | hq
    · exact h.1
    · exact allP_ok h.2 q hq

theorem idS_ok : ∀ (n i : Nat), i < n → look (idS n) i = some i
  | n + 1, i, h => by
    unfold idS
    rw [look_cons]
    split
    · rename_i he; rw [he]
    · exact idS_ok n i (by omega)
theorem idS_inv : ∀ (n i j : Nat), look (idS n) i = some j → i = j
  | 0, i, j, h => by simp [idS, look] at h
  | n + 1, i, j, h => by
    unfold idS at h
    rw [look_cons] at h
    split at h
    · rename_i he; obtain rfl := Option.some.inj h; exact he.symm
    · exact idS_inv n i j h
theorem idS_inj (n : Nat) : InjS (idS n) := fun i i' j h h' => (idS_inv n i j h).trans (idS_inv n i' j h').symm

theorem keysLt_ok : ∀ {σ : Sg} {n : Nat}, keysLt n σ = true → ∀ i, n ≤ i → look σ i = none
  | [], n, _, i, _ => rfl
  | (a, b) :: r, n, h, i, hi => by
    unfold keysLt at h
    split at h
    · rename_i hb
      have := Nat.le_of_ble_eq_true hb
      rw [look_cons, if_neg (by omega)]
      exact keysLt_ok h i hi
    · simp at h

end Go.DE
