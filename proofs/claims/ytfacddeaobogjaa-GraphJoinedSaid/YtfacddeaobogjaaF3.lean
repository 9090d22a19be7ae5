import Derived.Test.YtfacddeaobogjaaF2
set_option linter.unusedVariables false
set_option linter.unusedSimpArgs false
set_option linter.unnecessarySimpa false
/- The engine, part 3: taking data for what a code says; loads. -/
namespace Go.DF
universe u v
set_option linter.unusedSimpArgs false
set_option linter.unusedVariables false
variable [Fam]

theorem path_takeN {cs : List DV} {off n : Nat} {l : List DV} (h : takeN cs off n = some l) : l = (cs.drop off).take n ∧ l.length = n := by
  unfold takeN at h
  dsimp only at h
  split at h
  · rename_i hb; simp at h; subst h; exact ⟨rfl, Nat.eq_of_beq_eq_true hb⟩
  · simp at h
theorem Rp.imp_pr {w : World} {S S' : Nat → Prop} (h : ∀ b, S b → S' b) {c : CT} {a : c.D} {vs : List Value} (k : Rp w S c a vs) : Rp w S' c a vs := Rp.mono h (fun _ _ => rfl) c a vs k

omit [Fam] in
theorem lt_get {α : Type u} {l : List α} {i : Nat} {a : α} (h : l[i]? = some a) : i < l.length := by
  rcases Nat.lt_or_ge i l.length with h' | h'
  · exact h'
  · rw [List.getElem?_eq_none h'] at h; simp at h
/-! ### taking data -/
theorem celD_true {d : DV} {cs : List DV} {g : G} {w : World} {v : Value} (h : celD true d = some cs) (r : Rep g w d v) : ∃ vs : List Value, v = .agg vs.toArray ∧ RepL g w cs vs := by
  cases d <;> simp [celD] at h
  subst h
  simp only [Rep] at r
  obtain ⟨vs, h1, h2, _⟩ := r
  exact ⟨vs, h1, h2⟩
theorem celD_false {d : DV} {cs : List DV} {g : G} {w : World} {v : Value} (h : celD false d = some cs) (r : Rep g w d v) : RepL g w cs [v] := by
  cases d <;> simp [celD] at h <;> (subst h; exact RepL.cons r RepL.nil)
theorem celD_vOf {agg : Bool} {d : DV} {cs : List DV} {g : G} {w : World} {v : Value} {p : List Value → Prop} (h : celD agg d = some cs) (r : Rep g w d v) (hp : ∀ vs, RepL g w cs vs → p vs) : vOf agg p v := by
  cases agg with
  | true => obtain ⟨vs, h1, h2⟩ := celD_true h r; exact ⟨vs, h1, hp vs h2⟩
  | false => exact hp _ (celD_false h r)

theorem codL_ok {α : Type} {sz : Nat} {f : List DV → Option (α × List Prop)} {g : G} {w : World} {R : α → List Value → Prop} (hf : ∀ cs a ps vs, f cs = some (a, ps) → (∀ p ∈ ps, p) → RepL g w cs vs → R a vs) :
    ∀ (n : Nat) (cs : List DV) (l : List α) (ps : List Prop) (vs : List Value), codL sz f n cs = some (l, ps) → (∀ p ∈ ps, p) → RepL g w cs vs → l.length = n ∧ ∀ (i : Nat) (a : α), l[i]? = some a → R a ((vs.drop (i * sz)).take sz)
  | 0, [], l, ps, vs, h, _, _ => by simp [codL] at h; obtain ⟨rfl, rfl⟩ := h; exact ⟨rfl, fun i a hi => by simp at hi⟩
  | 0, _ :: _, l, ps, vs, h, _, _ => by simp [codL] at h
  | n + 1, cs, l, ps, vs, h, hp, r => by
    unfold codL at h
    split at h
    · rename_i a qs l' rs h1 h2
      simp only [Option.some.injEq, Prod.mk.injEq] at h
      obtain ⟨rfl, rfl⟩ := h
      have r1 := hf _ _ _ _ h1 (fun p hp' => hp p (List.mem_append.2 (.inl hp'))) (r.take sz)
      obtain ⟨h3, h4⟩ := codL_ok hf n _ _ _ _ h2 (fun p hp' => hp p (List.mem_append.2 (.inr hp'))) (r.drop sz)
      refine ⟨by simp [h3], fun i b hi => ?_⟩
      cases i with
      | zero => simp at hi; subst hi; simpa using r1
      | succ i =>
        have := h4 i b (by simpa using hi)
        rw [List.drop_drop] at this
        rw [Nat.add_mul, Nat.one_mul, Nat.add_comm]
        exact this
    · simp at h

theorem codM_ok {α β : Type} {ka ea : Bool} {f : List DV → Option (α × List Prop)} {h : List DV → Option (β × List Prop)} {g : G} {w : World} {R : α → List Value → Prop} {Q : β → List Value → Prop}
    (hf : ∀ cs a ps vs, f cs = some (a, ps) → (∀ p ∈ ps, p) → RepL g w cs vs → R a vs) (hh : ∀ cs a ps vs, h cs = some (a, ps) → (∀ p ∈ ps, p) → RepL g w cs vs → Q a vs) :
    ∀ (es : List (DV × DV)) (l : List (α × β)) (ps : List Prop) (ms : List MapEntry), codM ka f ea h es = some (l, ps) → (∀ p ∈ ps, p) → RepL g w (es.map (·.1)) (ms.map (·.key)) → RepL g w (es.map (·.2)) (ms.map (·.val)) →
      ms.length = l.length ∧ ∀ (i : Nat) (x : α × β), l[i]? = some x → ∃ m, ms[i]? = some m ∧ vOf ka (R x.1) m.key ∧ vOf ea (Q x.2) m.val
  | [], l, ps, ms, e, _, r1, _ => by
    simp [codM] at e
    obtain ⟨rfl, rfl⟩ := e
    simp only [List.map_nil, RepL, List.map_eq_nil_iff] at r1
    subst r1
    exact ⟨rfl, fun i x hi => by simp at hi⟩
  | (a, b) :: r, l, ps, ms, e, hp, r1, r2 => by
    simp only [codM] at e
    split at e
    · rename_i as bs ha hb
      split at e
      · rename_i x ps1 y ps2 l' ps3 h1 h2 h3
        simp only [Option.some.injEq, Prod.mk.injEq] at e
        obtain ⟨rfl, rfl⟩ := e
        cases ms with
        | nil => simp [RepL] at r1
        | cons m ms =>
          simp only [List.map_cons, RepL] at r1 r2
          obtain ⟨k, ks, e1, q1, r1⟩ := r1
          obtain ⟨v, vs, e2, q2, r2⟩ := r2
          simp only [List.cons.injEq] at e1 e2
          obtain ⟨rfl, rfl⟩ := e1
          obtain ⟨rfl, rfl⟩ := e2
          obtain ⟨k1, k2⟩ := codM_ok hf hh r l' ps3 ms h3 (fun p hp' => hp p (by simp [hp'])) r1 r2
          refine ⟨by simp [k1], fun i z hi => ?_⟩
          cases i with
          | zero =>
            simp at hi; subst hi
            exact ⟨m, rfl, celD_vOf ha q1 fun us ru => hf _ _ _ _ h1 (fun p hp' => hp p (by simp [hp'])) ru, celD_vOf hb q2 fun us ru => hh _ _ _ _ h2 (fun p hp' => hp p (by simp [hp'])) ru⟩
          | succ i => simpa using k2 i z (by simpa using hi)
      · simp at e
    · simp at e

theorem cod_ref {hp : Hp} {f n : Nat} {cs : List DV} {a : (CT.ref n).D} {ps : List Prop} (h : cod hp (f + 1) (.ref n) cs = some (a, ps)) :
    (∃ (c' : CT) (a' : c'.D), cs = [.per c' a'] ∧ castD (.ref n) c' a' = some a ∧ ps = []) ∨ ∃ x, cod hp f (.pt (FamR.ct n)) cs = some (x, ps) ∧ FamR.fold n x = some a := by
  simp only [cod] at h
  split at h
  · split at h
    · rename_i c0 a0 _ l hc
      have h := Option.some.inj h
      cases h
      exact .inl ⟨c0, a0, rfl, hc, rfl⟩
    · simp at h
  · split at h
    · rename_i x qs hx
      split at h
      · rename_i y hf
        have h := Option.some.inj h
        cases h
        exact .inr ⟨x, hx, hf⟩
      · simp at h
    · simp at h

/-- What is taken for a datum is so. -/
theorem cod_ok {g : G} {hp : Hp} {w : World} (hR : Rel g hp w) : ∀ (f : Nat) (c : CT) (cs : List DV) (a : c.D) (ps : List Prop) (vs : List Value), cod hp f c cs = some (a, ps) → (∀ p ∈ ps, p) → RepL g w cs vs → Rp w g.pr c a vs
  | 0, c, cs, a, ps, vs, h, _, _ => by simp [cod] at h
  | f + 1, .int k, cs, a, ps, vs, h, _, r => by
    simp only [cod] at h
    split at h
    · split at h
      · rename_i hk
        simp only [Option.some.injEq, Prod.mk.injEq] at h
        obtain ⟨rfl, rfl⟩ := h
        obtain rfl := of_decide_eq_true hk
        simp only [RepL, Rep] at r
        obtain ⟨v, us, rfl, rfl, rfl⟩ := r
        rfl
      · simp at h
    · simp at h
  | f + 1, .bool, cs, a, ps, vs, h, _, r => by
    simp only [cod] at h
    split at h
    · simp only [Option.some.injEq, Prod.mk.injEq] at h
      obtain ⟨rfl, rfl⟩ := h
      simp only [RepL, Rep] at r
      obtain ⟨v, us, rfl, rfl, rfl⟩ := r
      rfl
    · simp at h
  | f + 1, .str, cs, a, ps, vs, h, _, r => by
    simp only [cod] at h
    split at h
    · simp only [Option.some.injEq, Prod.mk.injEq] at h
      obtain ⟨rfl, rfl⟩ := h
      simp only [RepL, Rep] at r
      obtain ⟨v, us, rfl, rfl, rfl⟩ := r
      rfl
    · simp at h
  | f + 1, .pair c d, cs, a, ps, vs, h, hps, r => by
    simp only [cod] at h
    split at h
    · rename_i x ps1 y ps2 h1 h2
      simp only [Option.some.injEq, Prod.mk.injEq] at h
      obtain ⟨rfl, rfl⟩ := h
      refine ⟨vs.take c.size, vs.drop c.size, (List.take_append_drop _ _).symm, ?_, ?_⟩
      · exact cod_ok hR f c _ x ps1 _ h1 (fun p hp' => hps p (by simp [hp'])) (r.take _)
      · exact cod_ok hR f d _ y ps2 _ h2 (fun p hp' => hps p (by simp [hp'])) (r.drop _)
    · simp at h
  | f + 1, .sl c, cs, a, ps, vs, h, hps, r => by
    simp only [cod] at h
    split at h
    · simp only [Option.some.injEq, Prod.mk.injEq] at h
      obtain ⟨rfl, rfl⟩ := h
      simp only [RepL, Rep] at r
      obtain ⟨v, us, rfl, rfl, rfl⟩ := r
      exact ⟨_, rfl, .inl ⟨none, rfl, rfl⟩⟩
    · split at h
      · rename_i c' a' l hc
        simp only [Option.some.injEq, Prod.mk.injEq] at h
        obtain ⟨rfl, rfl⟩ := h
        obtain ⟨rfl, rfl⟩ := castD_ok hc
        simp only [RepL, Rep] at r
        obtain ⟨v, us, rfl, r, rfl⟩ := r
        exact r
      · simp at h
    · rename_i p n
      split at h
      · rename_i t c' l hsz hfld hl
        split at h
        · rename_i l' hc
          simp only [Option.some.injEq, Prod.mk.injEq] at h
          obtain ⟨rfl, rfl⟩ := h
          obtain ⟨rfl, rfl⟩ := castL_ok hc
          have hle : p.idx.v + n.v ≤ l'.length := hps _ (by simp)
          have hsz := Nat.eq_of_beq_eq_true hsz
          have hfld := Nat.eq_of_beq_eq_true hfld
          simp only [RepL, Rep] at r
          obtain ⟨v, us, rfl, r, rfl⟩ := r
          refine ⟨v, rfl, ?_⟩
          rw [partL_eq]
          have hlen : ((l'.drop p.idx.v).take n.v).length = n.v := by simp; omega
          rcases r with ⟨q0, rfl, hn⟩ | ⟨b, o, cap, hb, hcap, rfl, ho, cs', t', fr', k1, k2⟩
          · exact .inl ⟨q0, rfl, by rw [hn]; rfl⟩
          · obtain ⟨⟨us, k3, _, _, k4⟩, hpr⟩ := hR.at hl hb
            have e := k1.symm.trans k3
            simp only [Option.some.injEq, Obj.cells.injEq] at e
            obtain ⟨rfl, rfl, rfl⟩ := e
            refine .inr ⟨b, o, cap, us, t', _, by rw [hlen], by rw [hlen]; exact hcap, hpr.2 rfl, k3, by simpa [hsz] using k2, fun i a hi => ?_⟩
            have hi' : i < n.v := by
              rcases Nat.lt_or_ge i n.v with h | h
              · exact h
              · rw [List.getElem?_eq_none (by omega)] at hi; simp at hi
            rw [List.getElem?_take_of_lt hi', List.getElem?_drop] at hi
            have := k4 _ a hi
            have ho' : o = g.off p := by
              rcases ho with h | h
              · omega
              · exact h
            rw [ho']
            have e2 : g.off p + i * c'.size = g.base p.id + (p.idx.v + i) * c'.size := by
              simp only [G.off, DP.off, hsz, hfld, Nat.add_mul]; omega
            rw [e2]; exact this
        · simp at h
      · rename_i t ds hsz hfld hl
        have hsz := Nat.eq_of_beq_eq_true hsz
        have hfld := Nat.eq_of_beq_eq_true hfld
        split at h
        · rename_i i k hi
          split at h
          · rename_i part hpart
            obtain ⟨rfl, hplen⟩ := path_takeN hpart
            obtain ⟨b, hb, ⟨hba, us, k3, k4, _⟩, hpr⟩ := hR.there hl (fun h => h)
            have rpart := (k4.drop (i * p.sz)).take (k * p.sz)
            obtain ⟨hlen, hel⟩ := codL_ok (R := fun a vs => Rp w g.pr c a vs) (fun cs a ps vs h hp r => cod_ok hR f c cs a ps vs h hp r) _ _ _ _ _ h hps rpart
            simp only [RepL, Rep] at r
            obtain ⟨v, us', rfl, r, rfl⟩ := r
            refine ⟨v, rfl, ?_⟩
            rcases r with ⟨q0, rfl, hn0⟩ | ⟨b', o, cap, hb', hcap, rfl, ho, cs', t', fr', k1, k2⟩
            · refine .inl ⟨q0, rfl, ?_⟩
              simp only [DN.v] at hn0
              exact List.length_eq_zero_iff.1 (hlen.trans hn0)
            · rw [hb] at hb'
              obtain rfl := Option.some.inj hb'
              have e := k1.symm.trans k3
              simp only [Option.some.injEq, Obj.cells.injEq] at e
              obtain ⟨rfl, rfl, rfl⟩ := e
              simp only [DN.v] at hcap
              refine .inr ⟨b, o, cap, us, t', _, by rw [hlen]; rfl, by rw [hlen]; exact hcap, hpr.2 rfl, k3, by simpa [hsz] using k2, fun j a hj => ?_⟩
              have hj' : j < k := by have := lt_get hj; omega
              have := hel j a hj
              have ho' : o = g.off p := by
                rcases ho with h | h
                · omega
                · exact h
              rw [ho']
              have e1 : g.off p = i * p.sz := by simp only [G.off, hba, DP.off, hi, DN.v, hfld]; omega
              rw [e1]
              have hle : j * c.size + c.size ≤ k * p.sz := by
                rw [hsz]
                have : (j + 1) * c.size ≤ k * c.size := Nat.mul_le_mul_right _ hj'
                rw [Nat.add_mul] at this; omega
              rw [List.drop_take, List.take_take, List.drop_drop, Nat.min_eq_left (by omega)] at this
              exact this
          · simp at h
        · simp at h
      · simp at h
    · simp at h
  | f + 1, .pt c, cs, a, ps, vs, h, hps, r => by
    simp only [cod] at h
    split at h
    · simp only [Option.some.injEq, Prod.mk.injEq] at h
      obtain ⟨rfl, rfl⟩ := h
      simp only [RepL, Rep] at r
      obtain ⟨v, us, rfl, rfl, rfl⟩ := r
      exact ⟨_, rfl, .inl ⟨rfl, rfl⟩⟩
    · split at h
      · rename_i c' a' l hc
        simp only [Option.some.injEq, Prod.mk.injEq] at h
        obtain ⟨rfl, rfl⟩ := h
        obtain ⟨rfl, rfl⟩ := castD_ok hc
        simp only [RepL, Rep] at r
        obtain ⟨v, us, rfl, r, rfl⟩ := r
        exact r
      · simp at h
    · split at h
      · rename_i c' a' off a1 hc
        simp only [Option.some.injEq, Prod.mk.injEq] at h
        obtain ⟨rfl, rfl⟩ := h
        obtain ⟨rfl, rfl⟩ := castD_ok hc
        simp only [RepL, Rep] at r
        obtain ⟨v, us, rfl, ⟨b, o, cs, t, fr, rfl, h1, h2, h3, h4⟩, rfl⟩ := r
        exact ⟨_, rfl, .inr ⟨_, b, o, cs, t, fr, rfl, rfl, h1, h2, h3, h4⟩⟩
      · simp at h
    · rename_i p
      split at h
      · rename_i i t ds hi hl
        split at h
        · rename_i part hpart
          split at h
          · rename_i a' ps' hc
            have h := Option.some.inj h
            cases h
            obtain ⟨rfl, hplen⟩ := path_takeN hpart
            obtain ⟨b, hb, ⟨hba, us, k3, k4, _⟩, hpr⟩ := hR.there hl (fun h => h)
            have rpart := (k4.drop (i * p.sz + p.fld)).take c.size
            have rp := cod_ok hR f c _ a' ps _ hc hps rpart
            simp only [RepL, Rep] at r
            obtain ⟨v, us', rfl, ⟨b', hb', rfl⟩, rfl⟩ := r
            rw [hb] at hb'
            obtain rfl := Option.some.inj hb'
            have e1 : g.off p = i * p.sz + p.fld := by simp only [G.off, hba, DP.off, hi, DN.v]; omega
            have hl2 := rpart.length
            rw [hplen] at hl2
            simp only [List.length_take, List.length_drop] at hl2
            have := c.pos
            exact ⟨_, rfl, .inr ⟨a', b, g.off p, us, t, _, rfl, rfl, hpr.2 rfl, k3, by omega, by rw [e1]; exact rp⟩⟩
          · simp at h
        · simp at h
      · simp at h
    · simp at h
  | f + 1, .mp ka k ea e, cs, a, ps, vs, h, hps, r => by
    simp only [cod] at h
    split at h
    · simp only [Option.some.injEq, Prod.mk.injEq] at h
      obtain ⟨rfl, rfl⟩ := h
      simp only [RepL, Rep] at r
      obtain ⟨v, us, rfl, rfl, rfl⟩ := r
      exact ⟨_, rfl, .inl ⟨rfl, rfl⟩⟩
    · split at h
      · rename_i c' a' l hc
        simp only [Option.some.injEq, Prod.mk.injEq] at h
        obtain ⟨rfl, rfl⟩ := h
        obtain ⟨rfl, rfl⟩ := castD_ok hc
        simp only [RepL, Rep] at r
        obtain ⟨v, us, rfl, r, rfl⟩ := r
        exact r
      · simp at h
    · rename_i id
      cases hl : look hp id with
      | none => rw [hl] at h; simp at h
      | some zo =>
        obtain ⟨z, o⟩ := zo
        rw [hl] at h
        cases z with
        | false => simp at h
        | true =>
          cases o with
          | cells _ _ => simp at h
          | arr _ _ _ => simp at h
          | rows _ _ _ _ _ => simp at h
          | loop _ _ _ _ _ _ _ => simp at h
          | mp ka' k' ea' e' es =>
            dsimp only at h
            split at h
            · rename_i l hc
              have h := Option.some.inj h
              cases h
              obtain ⟨he, rfl⟩ := castD_ok hc
              obtain ⟨rfl, rfl, rfl, rfl⟩ := CT.mp.inj he
              obtain ⟨b, hb, ⟨ms, ck, k1, k2, k3, k4⟩, hpr⟩ := hR.there hl (fun h => h)
              simp only [RepL, Rep] at r
              obtain ⟨v, us, rfl, ⟨b', hb', rfl⟩, rfl⟩ := r
              rw [hb] at hb'
              obtain rfl := Option.some.inj hb'
              exact ⟨_, rfl, .inr ⟨b, ms, ck, rfl, hpr.2 rfl, k1, k2, k3, k4⟩⟩
            · simp at h
          | map es =>
            obtain ⟨b, hb, ⟨ms, ck, k1, k2, k3, k4⟩, hpr⟩ := hR.there hl (fun h => h)
            obtain ⟨e1, e2⟩ := codM_ok (R := fun a vs => Rp w g.pr k a vs) (Q := fun a vs => Rp w g.pr e a vs) (fun cs a ps vs h hp r => cod_ok hR f k cs a ps vs h hp r) (fun cs a ps vs h hp r => cod_ok hR f e cs a ps vs h hp r) _ _ _ ms h hps k3 k4
            simp only [RepL, Rep] at r
            obtain ⟨v, us, rfl, ⟨b', hb', rfl⟩, rfl⟩ := r
            rw [hb] at hb'
            obtain rfl := Option.some.inj hb'
            exact ⟨_, rfl, .inr ⟨b, ms, ck, rfl, hpr.2 rfl, k1, k2, e1, e2⟩⟩
    · simp at h
  | f + 1, .ref n, cs, a, ps, vs, h, hps, r => by
    rcases cod_ref h with ⟨c', a', rfl, hc, rfl⟩ | ⟨x, hx, hf⟩
    · obtain ⟨rfl, rfl⟩ := castD_ok hc
      simp only [RepL, Rep] at r
      obtain ⟨v, us, rfl, r, rfl⟩ := r
      exact r
    · have := cod_ok hR f (.pt (FamR.ct n)) cs x ps vs hx hps r
      have h' := this
      obtain ⟨v, rfl, _⟩ := this
      exact ⟨v, rfl, Fam.cls n x a w g.pr v hf h'⟩

/-! ### loads -/
omit [Fam] in
theorem cell_at {w : World} {b off : Nat} {vs : List Value} {t : TypeId} {fz : Nat × Nat} (h : w.heap[b]? = some (.cells vs.toArray t fz)) (j : Nat) : w.cell? ⟨b, off + j, none⟩ = vs[off + j]? := by
  simp [World.cell?, h]

omit [Fam] in
theorem addr_add (b off j : Nat) : Addr.add ⟨b, off, none⟩ j = ⟨b, off + j, none⟩ := by
  unfold Addr.add; split
  · rename_i h; subst h; rfl
  · rfl

omit [Fam] in
theorem run_loadCells_at {P : Program} {w : World} {b off n : Nat} {vs us : List Value} {t : TypeId} {fz : Nat × Nat} (h : w.heap[b]? = some (.cells vs.toArray t fz))
    (hu : us = (vs.drop off).take n) (hn : us.length = n) : (loadCells ⟨b, off, none⟩ n).run P w = .ok us.toArray w := by
  have := run_loadCells_list (P := P) (w := w) ⟨b, off, none⟩ us (fun j v hj => by
    rw [addr_add, cell_at h]
    subst hu
    have hlt : j < n := by
      rcases Nat.lt_or_ge j n with hlt | hge
      · exact hlt
      · rw [List.getElem?_take, if_neg (by omega)] at hj; simp at hj
    rw [List.getElem?_take_of_lt hlt, List.getElem?_drop] at hj
    exact hj)
  rw [hn] at this
  exact this
omit [Fam] in
theorem getD_get {α : Type u} {l : List α} {i : Nat} (h : i < l.length) (d : α) : l[i]? = some (l.getD i d) := by
  rw [List.getElem?_eq_getElem h, List.getD_eq_getElem?_getD, List.getElem?_eq_getElem h]; rfl

omit [Fam] in
theorem segs {α : Type u} (us : List α) (o k m : Nat) : (us.drop o).take (k + m) = (us.drop o).take k ++ (us.drop (o + k)).take m := by
  rw [List.take_add, List.drop_drop]
theorem encN_ok {g : G} {w : World} {c : CT} {l : List c.D} {vs : List Value} {o : Nat} (h : Elems w g.pr c vs o l) : ∀ (k i : Nat), i + k ≤ l.length → RepL g w (encN c l i k) ((vs.drop (o + i * c.size)).take (k * c.size))
  | 0, i, _ => by simp [encN, RepL]
  | k + 1, i, hle => by
    have e : (k + 1) * c.size = c.size + k * c.size := by rw [Nat.add_mul]; omega
    rw [e, segs]
    have e2 : o + i * c.size + c.size = o + (i + 1) * c.size := by rw [Nat.add_mul]; omega
    rw [e2]
    exact RepL.append (h i _ (getD_get (by omega) c.dflt)).enc (encN_ok h k (i + 1) (by omega))

/-- What a load of n cells gives. -/
theorem loadN_ok {P : Program} {g : G} {hp : Hp} {w : World} (hR : Rel g hp w) {p : DP} {n : Nat} {l : List DV} (h : (loadN hp p n).Path l) :
    ∃ b us, g.ρ p.id = some b ∧ RepL g w l us ∧ (∀ u ∈ us, oneC u = true) ∧ us.length = n ∧ (loadCells ⟨b, g.off p, none⟩ n).run P w = .ok us.toArray w ∧
      (∀ j, j < n → w.cell? ⟨b, g.off p + j, none⟩ = us[j]?) := by
  unfold loadN at h
  split at h
  · rename_i z t cs hl
    obtain ⟨b, hb, ⟨hba, vs, h1, h2, h3⟩, _⟩ := hR.there hl (fun h => h)
    have hgo : g.off p = p.off := by simp only [G.off, hba, Nat.zero_add]
    rw [hgo]
    split at h
    · rename_i i hi
      obtain ⟨rfl, hn⟩ := path_takeN (T.path_opt h)
      have hoff : p.off = i * p.sz + p.fld := by simp [DP.off, hi, DN.v]
      have r := RepL.take n (RepL.drop p.off h2)
      rw [← hoff] at hn ⊢
      have hlen := RepL.length r
      refine ⟨b, _, hb, r, fun u hu => h3 u (List.mem_of_mem_drop (List.mem_of_mem_take hu)), hlen.trans hn, run_loadCells_at h1 rfl (hlen.trans hn), fun j hj => ?_⟩
      rw [cell_at h1, List.getElem?_take_of_lt hj, List.getElem?_drop]
    · exact h.elim
  · rename_i z t c l' hl
    split at h
    · rename_i hsz hble
      have hsz := Nat.eq_of_beq_eq_true hsz
      have hfn : p.fld + n ≤ c.size := Nat.le_of_ble_eq_true hble
      obtain ⟨hlt, h⟩ := h
      obtain ⟨b, hb, ⟨vs, h1, h2, _, h3⟩, _⟩ := hR.there hl (fun h => by subst h; simp at hlt)
      obtain ⟨rfl, hn⟩ := path_takeN (T.path_opt h)
      have r0 := (h3 _ _ (getD_get hlt c.dflt)).enc
      have r := RepL.take n (RepL.drop p.fld r0)
      have hlen := RepL.length r
      have hus : ((((vs.drop (g.base p.id + p.idx.v * c.size)).take c.size).drop p.fld).take n) = (vs.drop (g.off p)).take n := by
        rw [List.drop_take, List.take_take, List.drop_drop, Nat.min_eq_left (by omega)]
        simp only [DP.off, G.off, hsz, Nat.add_assoc]
      rw [hus] at r hlen
      refine ⟨b, _, hb, r, fun u hu => h2 u (List.mem_of_mem_drop (List.mem_of_mem_take hu)), hlen.trans hn, run_loadCells_at h1 rfl (hlen.trans hn), fun j hj => ?_⟩
      rw [cell_at h1, List.getElem?_take_of_lt hj, List.getElem?_drop]
    · rename_i hsz hbl
      have hsz := Nat.eq_of_beq_eq_true hsz
      split at h
      · rename_i hf hm
        have hf := Nat.eq_of_beq_eq_true hf
        have hm := Nat.eq_of_beq_eq_true hm
        obtain ⟨hle, h⟩ := h
        obtain rfl : l = _ := h
        by_cases hn0 : l'.length = 0
        · have h0 : n / c.size = 0 := Nat.le_zero.1 (Nat.le_trans (Nat.le_add_left _ _) (by rw [← hn0]; exact hle))
          have hn : n = 0 := by rw [← hm, h0, Nat.zero_mul]
          have : Nat.ble (p.fld + n) c.size = true := Nat.ble_eq_true_of_le (by omega)
          rw [this] at hbl; simp at hbl
        · obtain ⟨b, hb, ⟨vs, h1, h2, h4, h3⟩, _⟩ := hR.there hl (fun h => by subst h; simp at hn0)
          have r := encN_ok h3 (n / c.size) p.idx.v hle
          have hoff : g.base p.id + p.idx.v * c.size = g.off p := by simp [G.off, DP.off, hsz, hf]
          rw [hm, hoff] at r
          have hlen : ((vs.drop (g.off p)).take n).length = n := by
            rw [List.length_take, List.length_drop, ← hoff]
            have : p.idx.v * c.size + n / c.size * c.size ≤ l'.length * c.size := by rw [← Nat.add_mul]; exact Nat.mul_le_mul_right _ hle
            omega
          refine ⟨b, _, hb, r, fun u hu => h2 u (List.mem_of_mem_drop (List.mem_of_mem_take hu)), hlen, run_loadCells_at h1 rfl hlen, fun j hj => ?_⟩
          rw [cell_at h1, List.getElem?_take_of_lt hj, List.getElem?_drop]
      · exact h.elim
    · split at h
      · rename_i hi hf hm hn
        have hf := Nat.eq_of_beq_eq_true hf
        have hm := Nat.eq_of_beq_eq_true hm
        have hn : 0 < n := Nat.le_of_ble_eq_true hn
        obtain ⟨hle, h⟩ := h
        obtain rfl : l = _ := h
        have hn0 : l'.length ≠ 0 := fun hl0 => by
          have h0 : n / c.size = 0 := Nat.le_zero.1 (Nat.le_trans (Nat.le_add_left _ _) (by rw [← hl0]; exact hle))
          rw [h0, Nat.zero_mul] at hm; omega
        obtain ⟨b, hb, ⟨vs, h1, h2, h4, h3⟩, _⟩ := hR.there hl (fun h => by subst h; simp at hn0)
        have r := encN_ok h3 (n / c.size) 0 hle
        have hoff : g.base p.id + 0 * c.size = g.off p := by simp [G.off, DP.off, hi, hf, DN.v]
        rw [hm, hoff] at r
        have hlen : ((vs.drop (g.off p)).take n).length = n := by
          rw [List.length_take, List.length_drop, ← hoff]
          have : 0 * c.size + n / c.size * c.size ≤ l'.length * c.size := by rw [← Nat.add_mul]; exact Nat.mul_le_mul_right _ hle
          omega
        refine ⟨b, _, hb, r, fun u hu => h2 u (List.mem_of_mem_drop (List.mem_of_mem_take hu)), hlen, run_loadCells_at h1 rfl hlen, fun j hj => ?_⟩
        rw [cell_at h1, List.getElem?_take_of_lt hj, List.getElem?_drop]
      · exact h.elim
  · exact h.elim

/-- What a load of n cells from an address gives. -/
theorem loadA_ok {P : Program} {g : G} {hp : Hp} {w : World} (hR : Rel g hp w) {x : DV} {v : Value} (hx : Rep g w x v) {n : Nat} {l : List DV} (h : (loadA hp x n).Path l) :
    ∃ b o us, v = .pointer (some ⟨b, o, none⟩) ∧ RepL g w l us ∧ (∀ u ∈ us, oneC u = true) ∧ us.length = n ∧ (loadCells ⟨b, o, none⟩ n).run P w = .ok us.toArray w ∧ (∀ j, j < n → w.cell? ⟨b, o + j, none⟩ = us[j]?) := by
  unfold loadA at h
  split at h
  · rename_i p
    simp only [Rep] at hx
    obtain ⟨b, hb, rfl⟩ := hx
    obtain ⟨b', us, h1, h2⟩ := loadN_ok (P := P) hR h
    rw [hb] at h1
    obtain rfl := Option.some.inj h1
    exact ⟨b, _, us, rfl, h2⟩
  · rename_i c a off
    simp only [Rep] at hx
    obtain ⟨b, o, cs, t, fr, rfl, h1, h2, h3, h4⟩ := hx
    obtain ⟨rfl, hn⟩ := path_takeN (T.path_opt h)
    have r := RepL.take n (RepL.drop off h4.enc)
    have hlen := RepL.length r
    have hn' := hn
    simp only [List.length_take, List.length_drop, c.len] at hn'
    have hus : ((((cs.drop o).take c.size).drop off).take n) = (cs.drop (o + off)).take n := by
      rw [List.drop_take, List.take_take, List.drop_drop, Nat.min_eq_left (by omega)]
    have hone : ∀ u ∈ (((cs.drop o).take c.size).drop off).take n, oneC u = true := fun u hu => h4.one u (List.mem_of_mem_drop (List.mem_of_mem_take hu))
    rw [hus] at r hlen hone
    refine ⟨b, _, _, rfl, r, hone, hlen.trans hn, run_loadCells_at h2 rfl (hlen.trans hn), fun j hj => ?_⟩
    rw [cell_at h2, List.getElem?_take_of_lt hj, List.getElem?_drop]
  · exact h.elim

omit [Fam] in
theorem run_under {P : Program} {t : TypeId} {d : TypeDesc} (h : underD P t = some d) (w : World) : (underlying t).run P w = .ok d w := run_underlying h w
omit [Fam] in
theorem run_sizeD {P : Program} {t : TypeId} {n : Nat} (h : sizeD P t = some n) (w : World) : (sizeOf t).run P w = .ok n w := by
  unfold sizeD at h
  split at h
  · rename_i i hi; simp at h; subst h; simp [sizeOf, typeInfo, hi]
  · simp at h
omit [Fam] in
theorem run_isAgg {P : Program} {t : TypeId} {d : TypeDesc} (h : underD P t = some d) (w : World) :
    (isAgg t).run P w = .ok (match d with | .struct _ => true | .array _ _ => true | _ => false) w := by
  unfold isAgg
  simp only [Sem.run_bind, run_under h, Result.andThen_ok]
  cases d <;> rfl

theorem loadT_ok {P : Program} {g : G} {hp : Hp} {w : World} (hR : Rel g hp w) {t : TypeId} {x : DV} {v : Value} (hx : Rep g w x v) {d : DV} (h : (loadT P hp t x).Path d) :
    ∃ b o u, v = .pointer (some ⟨b, o, none⟩) ∧ (loadVar t ⟨b, o, none⟩).run P w = .ok u w ∧ Rep g w d u := by
  have agg : ∀ n, sizeD P t = some n → (∀ w, (isAgg t).run P w = .ok true w) → ((loadA hp x n).bind fun l => T.leaf (DV.agg l)).Path d →
      ∃ b o u, v = .pointer (some ⟨b, o, none⟩) ∧ (loadVar t ⟨b, o, none⟩).run P w = .ok u w ∧ Rep g w d u := by
    intro n hn hagg h
    obtain ⟨l, hl, hd⟩ := T.path_bind h
    obtain rfl : d = .agg l := hd
    obtain ⟨b, o, us, h1, h2, h3, _, h5, _⟩ := loadA_ok (P := P) hR hx hl
    refine ⟨b, o, .agg us.toArray, h1, ?_, ?_⟩
    · simp [loadVar, hagg, run_sizeD hn, h5]
    · simp only [Rep]; exact ⟨us, rfl, h2, h3⟩
  unfold loadT at h
  split at h
  · rename_i fs hu
    split at h
    · rename_i n hn; exact agg n hn (fun w => run_isAgg hu w) h
    · exact h.elim
  · rename_i l e hu
    split at h
    · rename_i n hn; exact agg n hn (fun w => run_isAgg hu w) h
    · exact h.elim
  · rename_i dd hns hna hu
    obtain ⟨l, hl, hd⟩ := T.path_bind h
    obtain ⟨b, o, us, h1, h2, h3, h4, _, h6⟩ := loadA_ok (P := P) hR hx hl
    replace hd : oneO l = some d := T.path_opt hd
    unfold oneO at hd
    split at hd
    · rename_i e
      obtain rfl : e = d := by simpa using hd
      simp only [RepL] at h2
      obtain ⟨v', us', rfl, h2, rfl⟩ := h2
      refine ⟨b, o, v', h1, ?_, h2⟩
      have hagg : (isAgg t).run P w = .ok false w := by
        rw [run_isAgg hu]
        cases dd <;> first | rfl | (exact (hns _ rfl).elim) | (exact (hna _ _ rfl).elim)
      have := h6 0 (by omega)
      simp only [Nat.add_zero, List.getElem?_cons_zero] at this
      simp [loadVar, hagg, this]
    · simp at hd
  · exact h.elim
theorem partO_ok {P : Program} {g : G} {w : World} {t : TypeId} {cs : List DV} {vs : List Value} (hc : RepL g w cs vs) (h1 : ∀ u ∈ vs, oneC u = true) {off : Nat} {d : DV}
    (h : partO P t cs off = some d) : ∃ v, (∀ w', (part t vs.toArray off).run P w' = .ok v w') ∧ Rep g w d v := by
  have agg : ∀ n, sizeD P t = some n → (∀ w, (isAgg t).run P w = .ok true w) → (∃ l, takeN cs off n = some l ∧ DV.agg l = d) →
      ∃ v, (∀ w', (part t vs.toArray off).run P w' = .ok v w') ∧ Rep g w d v := by
    intro n hn hagg ⟨l, hl, hd⟩
    obtain rfl := hd
    obtain ⟨rfl, hlen⟩ := path_takeN hl
    refine ⟨.agg ((vs.drop off).take n).toArray, fun w' => ?_, ?_⟩
    · simp [part, hagg, run_sizeD hn, List.extract_eq_take_drop]
    · simp only [Rep]; exact ⟨_, rfl, RepL.take n (RepL.drop off hc), fun u hu => h1 u (List.mem_of_mem_drop (List.mem_of_mem_take hu))⟩
  unfold partO at h
  split at h
  · rename_i fs hu
    split at h
    · rename_i n hn
      split at h
      · rename_i l hl; exact agg n hn (fun w => run_isAgg hu w) ⟨l, hl, Option.some.inj h⟩
      · simp at h
    · simp at h
  · rename_i l e hu
    split at h
    · rename_i n hn
      split at h
      · rename_i l hl; exact agg n hn (fun w => run_isAgg hu w) ⟨l, hl, Option.some.inj h⟩
      · simp at h
    · simp at h
  · rename_i dd hns hna hu
    split at h
    · rename_i l hl
      unfold oneO at h
      split at h
      · rename_i e
        obtain rfl : e = d := by simpa using h
        obtain ⟨he, hlen⟩ := path_takeN hl
        have r := RepL.take 1 (RepL.drop off hc)
        rw [← he] at r
        simp only [RepL] at r
        obtain ⟨v, us', hv, h2, rfl⟩ := r
        have hagg : ∀ w, (isAgg t).run P w = .ok false w := by
          intro w
          rw [run_isAgg hu]
          cases dd <;> first | rfl | (exact (hns _ rfl).elim) | (exact (hna _ _ rfl).elim)
        have hg : vs[off]? = some v := by
          have : ((vs.drop off).take 1)[0]? = some v := by rw [hv]; rfl
          rw [List.getElem?_take_of_lt (by omega), List.getElem?_drop] at this
          simpa using this
        refine ⟨v, fun w' => ?_, h2⟩
        simp [part, hagg, hg]
      · simp at h
    · simp at h
  · simp at h

end Go.DF
