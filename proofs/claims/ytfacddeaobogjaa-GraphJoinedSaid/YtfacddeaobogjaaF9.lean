import Derived.Test.YtfacddeaobogjaaF8b
import Derived.Orders
set_option linter.unusedVariables false
set_option linter.unusedSimpArgs false
set_option linter.unnecessarySimpa false
/- The engine, part 9: frames, guards, and a region in the order of the text. -/
namespace Go.DF
universe u v
set_option linter.unusedSimpArgs false
set_option linter.unusedVariables false
variable [Fam]

structure FrOk (g : G) (N : Nat) (fr : Fr) (a : Act) (w : World) : Prop where
  frm : ∀ t d, look fr t = some d → ∃ v, a.tmps[t]? = some v ∧ Rep g w d v
  size : a.tmps.size = N

theorem FrOk.ext {g g' : G} {N : Nat} {fr : Fr} {a : Act} {w w' : World} (h : FrOk g N fr a w) (e : Ext g w g' w') : FrOk g' N fr a w' :=
  ⟨fun t d ht => let ⟨v, h1, h2⟩ := h.frm t d ht; ⟨v, h1, Rep.ext e d v h2⟩, h.size⟩

omit [Fam] in
theorem eval_tmp {a : Act} {t : Nat} {v : Value} (h : a.tmps[t]? = some v) : a.eval (.tmp t) = v := by
  simp [Act.eval, h]

theorem lkF_rep {g : G} {fr : Fr} {a : Act} {w : World} {x : Operand} {d : DV} (hx : ∀ t, x = .tmp t → ∀ d, look fr t = some d → ∃ v, a.tmps[t]? = some v ∧ Rep g w d v)
    (h : lkF fr x = some d) : Rep g w d (a.eval x) := by
  cases x with
  | tmp t =>
    obtain ⟨v, h1, h2⟩ := hx t rfl d h
    rw [eval_tmp h1]; exact h2
  | const v => exact rep_of_value g w h
  | global n => simp [lkF] at h
  | func f =>
    simp [lkF] at h
    subst h
    simp only [Rep, Act.eval]
    exact ⟨[], rfl, RepL.nil⟩

theorem FrOk.lk {g : G} {N : Nat} {fr : Fr} {a : Act} {w : World} (h : FrOk g N fr a w) {x : Operand} {d : DV} (hx : lkF fr x = some d) : Rep g w d (a.eval x) :=
  lkF_rep (fun t _ d hd => h.frm t d hd) hx

/-- What d says, e says. -/
def Imp (d e : DV) : Prop := ∀ g w v, Rep g w d v → Rep g w e v
theorem Imp.refl (d : DV) : Imp d d := fun _ _ _ h => h
theorem Imp.trans {d e f : DV} (h : Imp d e) (k : Imp e f) : Imp d f := fun g w v r => k g w v (h g w v r)

theorem guardT_fr {all : List Oper} {fr fr' : Fr} {o : Oper} {b : Bool} (h : (guardT all fr o).Path (b, fr')) : ∀ t d', look fr' t = some d' → ∃ d, look fr t = some d ∧ Imp d d' := by
  have same : fr' = fr → ∀ t d', look fr' t = some d' → ∃ d, look fr t = some d ∧ Imp d d' := by
    intro e t d' hd; subst e; exact ⟨d', hd, Imp.refl _⟩
  have upd : ∀ s x bb, look fr s = some (.bool (.sym x)) → x = bb → fr' = (s, .bool (.lit bb)) :: fr → ∀ t d', look fr' t = some d' → ∃ d, look fr t = some d ∧ Imp d d' := by
    intro s x bb hs hx e t d' hd
    subst e hx
    rw [look_cons] at hd
    split at hd
    · rename_i he
      subst he
      obtain rfl := Option.some.inj hd
      exact ⟨_, hs, fun g w v r => by simpa [Rep, DB.v] using r⟩
    · exact ⟨d', hd, Imp.refl _⟩
  unfold guardT at h
  split at h
  · have h : (b, fr') = (true, fr) := h; exact same (congrArg Prod.snd h)
  · split at h
    · split at h
      · rename_i t _
        split at h
        · have h : (b, fr') = (_, fr) := h; exact same (congrArg Prod.snd h)
        · rename_i x hx
          rcases h with ⟨hb, h⟩ | ⟨hb, h⟩
          · have h : (b, fr') = (_, _ :: fr) := h; exact upd t x true hx hb (congrArg Prod.snd h)
          · have h : (b, fr') = (_, _ :: fr) := h; exact upd t x false hx hb (congrArg Prod.snd h)
        · have h : (b, fr') = (_, fr) := h; exact same (congrArg Prod.snd h)
        · exact h.elim
      · exact h.elim
    · exact h.elim

theorem guardT_wanted {ops : Array Oper} {fr fr' : Fr} {o : Oper} {b : Bool} {a : Act} {g : G} {w : World} (h : (guardT ops.toList fr o).Path (b, fr'))
    (hs : ∀ t, guardSlot ops.toList o = some t → ∀ d, look fr t = some d → ∃ v, a.tmps[t]? = some v ∧ Rep g w d v) : Region.wanted o (yielded ops a.tmps) = b := by
  unfold guardT at h
  unfold Region.wanted
  split at h
  · rename_i hg
    have h : (b, fr') = (true, fr) := h
    rw [hg]; exact (congrArg Prod.fst h).symm
  · rename_i j want hg
    rw [hg]
    split at h
    · rename_i oj hoj
      split at h
      · rename_i t ht
        have hoj' : ops[j]? = some oj := by rw [← Array.getElem?_toList]; exact hoj
        have hsl : guardSlot ops.toList o = some t := by simp only [guardSlot, hg, hoj, ht]
        have val : ∀ d, look fr t = some d → ∃ v, a.tmps[t]? = some v ∧ Rep g w d v := hs t hsl
        split at h
        · rename_i bb hb
          obtain ⟨v, h1, h2⟩ := val _ hb
          simp only [Rep, DB.v] at h2
          have h : (b, fr') = (bb == want, fr) := h
          have hbw := congrArg Prod.fst h
          simp only at hbw
          subst h2 hbw
          simp only [yielded, hoj', ht, Option.bind_some, h1]
          cases bb <;> cases want <;> rfl
        · rename_i x hx
          obtain ⟨v, h1, h2⟩ := val _ hx
          simp only [Rep, DB.v] at h2
          subst h2
          simp only [yielded, hoj', ht, Option.bind_some, h1]
          rcases h with ⟨hb, h⟩ | ⟨hb, h⟩
          · have hbw := congrArg Prod.fst (show (b, fr') = (want, _) from h); simp only at hbw; subst hb hbw; cases b <;> rfl
          · have hbw := congrArg Prod.fst (show (b, fr') = (!want, _) from h); simp only at hbw; subst hb hbw; cases want <;> rfl
        · rename_i hx
          obtain ⟨v, h1, h2⟩ := val _ hx
          simp only [Rep, RepL] at h2
          obtain ⟨vs, rfl, rfl⟩ := h2
          simp only [yielded, hoj', ht, Option.bind_some, h1]
          exact (congrArg Prod.fst (show (b, fr') = (false, fr) from h)).symm
        · exact h.elim
      · exact h.elim
    · exact h.elim

theorem guardT_ok {ops : Array Oper} {fr fr' : Fr} {o : Oper} {b : Bool} {a : Act} {g : G} {N : Nat} {w : World} (h : (guardT ops.toList fr o).Path (b, fr')) (hF : FrOk g N fr a w) :
    Region.wanted o (yielded ops a.tmps) = b ∧ FrOk g N fr' a w :=
  ⟨guardT_wanted h (fun t _ d hd => hF.frm t d hd), ⟨fun t d' hd' => by
    obtain ⟨d, hd, hi⟩ := guardT_fr h t d' hd'
    obtain ⟨v, h1, h2⟩ := hF.frm t d hd
    exact ⟨v, h1, hi _ _ _ h2⟩, hF.size⟩⟩

theorem setF_some {N : Nat} {fr fr' : Fr} {t : Nat} {d : DV} (h : setF N fr (some t) d = some fr') : t < N ∧ fr' = (t, d) :: fr := by
  simp only [setF] at h
  split at h
  · rename_i hb
    exact ⟨Nat.le_of_ble_eq_true hb, (Option.some.inj h).symm⟩
  · simp at h

theorem FrOk.put {g g' : G} {N : Nat} {fr fr' : Fr} {a : Act} {w w' : World} {dst : Option Nat} {d : DV} {v : Value} (h : FrOk g N fr a w) (e : Ext g w g' w') (hs : setF N fr dst d = some fr')
    (r : Rep g' w' d v) : FrOk g' N fr' (a.put dst v) w' := by
  cases dst with
  | none =>
    simp [setF] at hs
    subst hs
    exact h.ext e
  | some t =>
    obtain ⟨ht, rfl⟩ := setF_some hs
    refine ⟨fun s d' hd' => ?_, by simpa [Act.put] using h.size⟩
    rw [look_cons] at hd'
    split at hd'
    · rename_i hts
      subst hts
      obtain rfl := Option.some.inj hd'
      exact ⟨v, by simp [Act.put, h.size, ht], r⟩
    · rename_i hts
      obtain ⟨u, h1, h2⟩ := h.frm s d' hd'
      refine ⟨u, ?_, Rep.ext e _ _ h2⟩
      simp only [Act.put]
      rw [Array.getElem?_setIfInBounds_ne hts]
      exact h1


omit [Fam] in
theorem put_defers (a : Act) (dst : Option Nat) (v : Value) : (a.put dst v).defers = a.defers := by cases dst <;> rfl

/-- How a state stands to the world and to the beginning of the call. -/
structure Ok (g0 : G) (w0 : World) (M : Nat → Prop) (n0 N : Nat) (g : G) (st : St) (a : Act) (w : World) : Prop where
  rel : Rel g st.hp w
  frm : FrOk g N st.fr a w
  mine : ∀ b, Mine g st.hp b → M b ∨ w0.heap.size ≤ b
  fresh : ∀ i, st.nx ≤ i → g.ρ i = none
  ext : Ext g0 w0 g w
  kept : Kept M w0 w
  prg : ∀ b, g.pr b → g0.pr b ∨ M b ∨ w0.heap.size ≤ b
  same : ∀ i, i < n0 → g.ρ i = g0.ρ i
  lo : n0 ≤ st.nx
  mks : ∀ d ∈ a.defers, ∃ D, d = { target := .collected D, args := #[] } ∧ w.heap[D]? = some (.deferred (some [])) ∧ w0.heap.size ≤ D ∧ ¬ g.pr D
  mkn : a.defers.Pairwise (fun d e => d ≠ e)

section
variable {P : Program} {ct : Cx P} {g0 : G} {w0 : World} {M : Nat → Prop} {n0 N : Nat} {g : G} {a : Act} {w : World} {st : St}

/-- No block that is known is one of deferred calls. -/
theorem ORep.nodef {g : G} {w : World} {i : Nat} {o : DO} {b ba : Nat} (h : ORep g w i o b ba) (x : Option (List Deferred)) : w.heap[b]? ≠ some (.deferred x) := by
  intro he
  cases o with
  | cells t cs => obtain ⟨_, vs, h, _⟩ := h; rw [he] at h; simp at h
  | arr t c l => obtain ⟨vs, h, _⟩ := h; rw [he] at h; simp at h
  | rows t e c ls h' => obtain ⟨_, vs, h, _⟩ := h; rw [he] at h; simp at h
  | map es => obtain ⟨ms, ck, h, _⟩ := h; rw [he] at h; simp at h
  | mp ka k ea e es => obtain ⟨ms, ck, h, _⟩ := h; rw [he] at h; simp at h
  | loop fr N ps as bo s pe => obtain ⟨r, h, _⟩ := h; rw [he] at h; simp at h
theorem Mine.nodef {g : G} {hp : Hp} {w : World} (hR : Rel g hp w) {b : Nat} (hm : Mine g hp b) (x : Option (List Deferred)) : w.heap[b]? ≠ some (.deferred x) := by
  obtain ⟨i, o, h1, h2⟩ := hm
  rcases h2 with h2 | ⟨k, hk, h2⟩
  · exact (hR.at h1 h2).1.nodef x
  · intro he
    cases o with
    | rows t e c ls ho =>
      obtain ⟨hk1, hk2⟩ := hk
      rcases hR.obj i false _ h1 with ⟨b', _, ⟨_, vs, _, _, _, h4⟩, _⟩ | ⟨h, _⟩
      · obtain ⟨v, _, k2, _⟩ := h4 k ls[k] (List.getElem?_eq_getElem hk1)
        rcases k2 (fun j i' n h => hk2 j i' n h) with ⟨_, _, _, h⟩ | ⟨b', o, cap, us, h, _, _, h5, _⟩
        · rw [h2] at h; simp at h
        · rw [h2] at h; obtain rfl := Option.some.inj h
          rw [he] at h5; simp at h5
      · exact h
    | _ => exact hk
theorem Kept.mark {g : G} {hp : Hp} {w w' : World} (hR : Rel g hp w) (h : Kept (Mine g hp) w w') {D : Nat} {x : Option (List Deferred)} (hd : w.heap[D]? = some (.deferred x)) : w'.heap[D]? = some (.deferred x) :=
  (h.kept D (lt_of_heap hd) (fun hm => hm.nodef hR x hd)).trans hd

theorem mark_pr {g g' : G} {hp : Hp} {w : World} (hR : Rel g hp w) {D : Nat} {x : Option (List Deferred)} (hD : w.heap[D]? = some (.deferred x)) (hnp : ¬ g.pr D) (prg : ∀ b, g'.pr b → g.pr b ∨ Mine g hp b ∨ w.heap.size ≤ b) : ¬ g'.pr D := fun h => by
  rcases prg D h with h | h | h
  · exact hnp h
  · exact h.nodef hR x hD
  · have := lt_of_heap hD; omega
/-- What has been run leaves a state as it should be. -/
theorem Ok.run {g' : G} {w' : World} {hp' : Hp} {nx' : Nat} {fr' : Fr} {a' : Act} (h : Ok g0 w0 M n0 N g st a w) (rel : Rel g' hp' w') (ext : Ext g w g' w') (kept : Kept (Mine g st.hp) w w') (mine : ∀ b, Mine g' hp' b → Mine g st.hp b ∨ w.heap.size ≤ b)
    (prg : ∀ b, g'.pr b → g.pr b ∨ Mine g st.hp b ∨ w.heap.size ≤ b) (fresh : ∀ i, nx' ≤ i → g'.ρ i = none) (same : ∀ i, i < st.nx → g'.ρ i = g.ρ i) (le : st.nx ≤ nx') (hf : FrOk g' N fr' a' w')
    (m1 : ∀ d ∈ a'.defers, ∃ D, d = { target := .collected D, args := #[] } ∧ w'.heap[D]? = some (.deferred (some [])) ∧ w0.heap.size ≤ D ∧ ¬ g'.pr D) (m2 : a'.defers.Pairwise (fun d e => d ≠ e)) : Ok g0 w0 M n0 N g' ⟨fr', hp', nx'⟩ a' w' := by
  have hs := h.kept.size
  have hlo := h.lo
  refine ⟨rel, hf, fun b hb => ?_, fresh, h.ext.trans ext, ⟨kept.os.trans h.kept.os, kept.tape.trans h.kept.tape, kept.output.trans h.kept.output, Nat.le_trans hs kept.size, fun b hb hm => ?_⟩, fun b hb => ?_, fun i hi => ?_, Nat.le_trans h.lo le, m1, m2⟩
  · rcases mine b hb with h1 | h1
    · exact h.mine b h1
    · exact .inr (Nat.le_trans hs h1)
  · rw [kept.kept b (Nat.lt_of_lt_of_le hb hs) (fun hmm => ?_)]
    · exact h.kept.kept b hb hm
    · rcases h.mine b hmm with h1 | h1
      · exact hm h1
      · omega
  · rcases prg b hb with h1 | h1 | h1
    · exact h.prg b h1
    · rcases h.mine b h1 with h2 | h2
      · exact .inr (.inl h2)
      · exact .inr (.inr h2)
    · exact .inr (.inr (Nat.le_trans hs h1))
  · rw [same i (by omega)]
    exact h.same i hi
theorem Ok.post {g' : G} {w' : World} {hp' : Hp} {nx' : Nat} {fr' : Fr} {a' : Act} (h : Ok g0 w0 M n0 N g st a w) (hP : Post g w st.hp st.nx g' w' hp' nx') (hf : FrOk g' N fr' a' w') (hdf : a'.defers = a.defers) : Ok g0 w0 M n0 N g' ⟨fr', hp', nx'⟩ a' w' :=
  h.run hP.rel hP.ext hP.kept hP.mine hP.prg (fun i hi => by rw [hP.out i (.inr hi)]; exact h.fresh i (Nat.le_trans hP.le hi)) (fun i hi => hP.out i (.inl hi)) hP.le hf
    (fun d hd => by
      rw [hdf] at hd
      obtain ⟨D, e, hD, hl, hp⟩ := h.mks d hd
      exact ⟨D, e, hP.kept.mark h.rel hD, hl, mark_pr h.rel hD hp hP.prg⟩) (by rw [hdf]; exact h.mkn)

theorem Ok.frame (h : Ok g0 w0 M n0 N g st a w) {fr' : Fr} (hf : FrOk g N fr' a w) : Ok g0 w0 M n0 N g ⟨fr', st.hp, st.nx⟩ a w :=
  h.post (Post.refl h.rel) hf rfl

/-- In the order of the text. -/
theorem run_text {rd : Option Nat} {ops : Array Oper} {Q : Exit → Act → World → Prop} : ∀ (l : List Oper) (st : St) (fs : List (List Nat × Bool)) (st' : St), (runT P ct N false ops.toList l st).Path (fs, st') → ∀ (g : G) (a : Act) (w : World), Ok g0 w0 M n0 N g st a w →
    (∀ g' a' w', Ok g0 w0 M n0 N g' st' a' w' → Q .normal a' w') → wpListIn (fz rd) 0 P ops Q l a w
  | [], st, fs, st', h, g, a, w, hO, hQ => by
    have h : (fs, st') = ([], st) := h
    simp only [Prod.mk.injEq] at h
    obtain ⟨rfl, rfl⟩ := h
    exact wpListIn_nil (hQ g a w hO)
  | o :: l, st, fs, st', h, g, a, w, hO, hQ => by
    unfold runT at h
    obtain ⟨⟨b, fr1⟩, hg, h⟩ := T.path_bind h
    obtain ⟨hw, hF1⟩ := guardT_ok hg hO.frm
    refine wpListIn_step fun K' hK' => ?_
    rw [hw]
    have hO1 := hO.frame hF1
    cases b with
    | true =>
      simp only [if_true]
      (try dsimp only at h)
      obtain ⟨⟨s, d, hp', nx'⟩, hd, h⟩ := T.path_bind h
      (try dsimp only at h)
      obtain ⟨fr2, hs, h⟩ := T.path_bind h
      have hs := T.path_opt hs
      obtain ⟨⟨fs2, st2⟩, hrec, h⟩ := T.path_bind h
      have h : (fs, st') = (([], s) :: fs2, st2) := h
      simp only [Prod.mk.injEq] at h
      obtain ⟨rfl, rfl⟩ := h
      refine (opT_ok (o := o) (ev := a.eval) hO.rel (fun i hi _ => hO.fresh i hi) (fun hh i hi => hO.fresh i ?_) (fun x _ d hx => hF1.lk hx) hd).1 rd a K' Q rfl ?_
      · have := opT_le hd
        omega
      · intro v w' g' hP hr
        exact hK' _ _ (run_text l _ fs2 st' hrec g' _ _ (hO1.post hP (hF1.put hP.ext hs hr) (put_defers _ _ _)) hQ)
    | false =>
      (try dsimp only at h)
      obtain ⟨fr2, hs, h⟩ := T.path_bind h
      have hs := T.path_opt hs
      obtain ⟨⟨fs2, st2⟩, hrec, h⟩ := T.path_bind h
      have h : (fs, st') = (([], true) :: fs2, st2) := h
      simp only [Prod.mk.injEq] at h
      obtain ⟨rfl, rfl⟩ := h
      simp only [Bool.false_eq_true, if_false]
      refine ⟨fun _ _ => trivial, ?_⟩
      exact hK' _ _ (run_text l _ fs2 st' hrec g _ _ (hO1.post (Post.refl hO1.rel) (hF1.put (Ext.refl _ _) hs (rep_undef _ _)) (put_defers _ _ _)) hQ)
end
omit [Fam] in
theorem iteB_v (c : Bool) (x y : DB) : (iteB c x y).v = if c then x.v else y.v := by
  cases c <;> rcases x with (_ | _) | _ <;> rcases y with (_ | _) | _ <;> simp [iteB, DB.v]

end Go.DF
