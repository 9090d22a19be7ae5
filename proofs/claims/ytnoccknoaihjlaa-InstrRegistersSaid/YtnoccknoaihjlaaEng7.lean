import Derived.Test.YtnoccknoaihjlaaEng6
import Derived.Orders
set_option linter.unusedVariables false
set_option linter.unusedSimpArgs false
set_option linter.unnecessarySimpa false
/- The engine, part 7: a region of silent operations, in the order of the text or in any order that its edges allow. -/
namespace Go.DE
universe u v

structure FrOk (g : G) (N : Nat) (fr : Fr) (a : Act) (w : World) : Prop where
  frm : ∀ t d, look fr t = some d → ∃ v, a.tmps[t]? = some v ∧ Rep g w d v
  size : a.tmps.size = N
  dfr : a.defers = []

theorem FrOk.ext {g g' : G} {N : Nat} {fr : Fr} {a : Act} {w w' : World} (h : FrOk g N fr a w) (e : Ext g w g' w') : FrOk g' N fr a w' :=
  ⟨fun t d ht => let ⟨v, h1, h2⟩ := h.frm t d ht; ⟨v, h1, Rep.ext e d v h2⟩, h.size, h.dfr⟩

theorem eval_tmp {a : Act} {t : Nat} {v : Value} (h : a.tmps[t]? = some v) : a.eval (.tmp t) = v := by
  simp [Act.eval, h]

theorem lkF_rep {g : G} {fr : Fr} {a : Act} {w : World} {x : Operand} {d : DV} (hx : ∀ t, x = .tmp t → ∀ d, look fr t = some d → ∃ v, a.tmps[t]? = some v ∧ Rep g w d v)
    (h : lkF fr x = some d) : Rep g w d (a.eval x) := by
  cases x with
  | tmp t =>
    obtain ⟨v, h1, h2⟩ := hx t rfl d h
    rw [eval_tmp h1]; exact h2
  | const v => exact rep_of_value g w h
  | global n => simp [lkF] at h
  | func f =>
    simp [lkF] at h
    subst h
    simp only [Rep, Act.eval]
    exact ⟨[], rfl, RepL.nil⟩

theorem FrOk.lk {g : G} {N : Nat} {fr : Fr} {a : Act} {w : World} (h : FrOk g N fr a w) {x : Operand} {d : DV} (hx : lkF fr x = some d) : Rep g w d (a.eval x) :=
  lkF_rep (fun t _ d hd => h.frm t d hd) hx

/-- What d says, e says. -/
def Imp (d e : DV) : Prop := ∀ g w v, Rep g w d v → Rep g w e v
theorem Imp.refl (d : DV) : Imp d d := fun _ _ _ h => h
theorem Imp.trans {d e f : DV} (h : Imp d e) (k : Imp e f) : Imp d f := fun g w v r => k g w v (h g w v r)

theorem guardT_fr {all : List Oper} {fr fr' : Fr} {o : Oper} {b : Bool} (h : (guardT all fr o).Path (b, fr')) : ∀ t d', look fr' t = some d' → ∃ d, look fr t = some d ∧ Imp d d' := by
  have same : fr' = fr → ∀ t d', look fr' t = some d' → ∃ d, look fr t = some d ∧ Imp d d' := by
    intro e t d' hd; subst e; exact ⟨d', hd, Imp.refl _⟩
  have upd : ∀ s x bb, look fr s = some (.bool (.sym x)) → x = bb → fr' = (s, .bool (.lit bb)) :: fr → ∀ t d', look fr' t = some d' → ∃ d, look fr t = some d ∧ Imp d d' := by
    intro s x bb hs hx e t d' hd
    subst e hx
    rw [look_cons] at hd
    split at hd
    · rename_i he
      subst he
      obtain rfl := Option.some.inj hd
      exact ⟨_, hs, fun g w v r => by simpa [Rep, DB.v] using r⟩
    · exact ⟨d', hd, Imp.refl _⟩
  unfold guardT at h
  split at h
  · have h : (b, fr') = (true, fr) := h; exact same (congrArg Prod.snd h)
  · split at h
    · split at h
      · rename_i t _
        split at h
        · have h : (b, fr') = (_, fr) := h; exact same (congrArg Prod.snd h)
        · rename_i x hx
          rcases h with ⟨hb, h⟩ | ⟨hb, h⟩
          · have h : (b, fr') = (_, _ :: fr) := h; exact upd t x true hx hb (congrArg Prod.snd h)
          · have h : (b, fr') = (_, _ :: fr) := h; exact upd t x false hx hb (congrArg Prod.snd h)
        · have h : (b, fr') = (_, fr) := h; exact same (congrArg Prod.snd h)
        · exact h.elim
      · exact h.elim
    · exact h.elim

theorem guardT_wanted {ops : Array Oper} {fr fr' : Fr} {o : Oper} {b : Bool} {a : Act} {g : G} {w : World} (h : (guardT ops.toList fr o).Path (b, fr'))
    (hs : ∀ t, guardSlot ops.toList o = some t → ∀ d, look fr t = some d → ∃ v, a.tmps[t]? = some v ∧ Rep g w d v) : Region.wanted o (yielded ops a.tmps) = b := by
  unfold guardT at h
  unfold Region.wanted
  split at h
  · rename_i hg
    have h : (b, fr') = (true, fr) := h
    rw [hg]; exact (congrArg Prod.fst h).symm
  · rename_i j want hg
    rw [hg]
    split at h
    · rename_i oj hoj
      split at h
      · rename_i t ht
        have hoj' : ops[j]? = some oj := by rw [← Array.getElem?_toList]; exact hoj
        have hsl : guardSlot ops.toList o = some t := by simp only [guardSlot, hg, hoj, ht]
        have val : ∀ d, look fr t = some d → ∃ v, a.tmps[t]? = some v ∧ Rep g w d v := hs t hsl
        split at h
        · rename_i bb hb
          obtain ⟨v, h1, h2⟩ := val _ hb
          simp only [Rep, DB.v] at h2
          have h : (b, fr') = (bb == want, fr) := h
          have hbw := congrArg Prod.fst h
          simp only at hbw
          subst h2 hbw
          simp only [yielded, hoj', ht, Option.bind_some, h1]
          cases bb <;> cases want <;> rfl
        · rename_i x hx
          obtain ⟨v, h1, h2⟩ := val _ hx
          simp only [Rep, DB.v] at h2
          subst h2
          simp only [yielded, hoj', ht, Option.bind_some, h1]
          rcases h with ⟨hb, h⟩ | ⟨hb, h⟩
          · have hbw := congrArg Prod.fst (show (b, fr') = (want, _) from h); simp only at hbw; subst hb hbw; cases b <;> rfl
          · have hbw := congrArg Prod.fst (show (b, fr') = (!want, _) from h); simp only at hbw; subst hb hbw; cases want <;> rfl
        · rename_i hx
          obtain ⟨v, h1, h2⟩ := val _ hx
          simp only [Rep, RepL] at h2
          obtain ⟨vs, rfl, rfl⟩ := h2
          simp only [yielded, hoj', ht, Option.bind_some, h1]
          exact (congrArg Prod.fst (show (b, fr') = (false, fr) from h)).symm
        · exact h.elim
      · exact h.elim
    · exact h.elim

theorem guardT_ok {ops : Array Oper} {fr fr' : Fr} {o : Oper} {b : Bool} {a : Act} {g : G} {N : Nat} {w : World} (h : (guardT ops.toList fr o).Path (b, fr')) (hF : FrOk g N fr a w) :
    Region.wanted o (yielded ops a.tmps) = b ∧ FrOk g N fr' a w :=
  ⟨guardT_wanted h (fun t _ d hd => hF.frm t d hd), ⟨fun t d' hd' => by
    obtain ⟨d, hd, hi⟩ := guardT_fr h t d' hd'
    obtain ⟨v, h1, h2⟩ := hF.frm t d hd
    exact ⟨v, h1, hi _ _ _ h2⟩, hF.size, hF.dfr⟩⟩

theorem setF_some {N : Nat} {fr fr' : Fr} {t : Nat} {d : DV} (h : setF N fr (some t) d = some fr') : t < N ∧ fr' = (t, d) :: fr := by
  simp only [setF] at h
  split at h
  · rename_i hb
    exact ⟨Nat.le_of_ble_eq_true hb, (Option.some.inj h).symm⟩
  · simp at h

theorem FrOk.put {g g' : G} {N : Nat} {fr fr' : Fr} {a : Act} {w w' : World} {dst : Option Nat} {d : DV} {v : Value} (h : FrOk g N fr a w) (e : Ext g w g' w') (hs : setF N fr dst d = some fr')
    (r : Rep g' w' d v) : FrOk g' N fr' (a.put dst v) w' := by
  cases dst with
  | none =>
    simp [setF] at hs
    subst hs
    exact h.ext e
  | some t =>
    obtain ⟨ht, rfl⟩ := setF_some hs
    refine ⟨fun s d' hd' => ?_, by simpa [Act.put] using h.size, h.dfr⟩
    rw [look_cons] at hd'
    split at hd'
    · rename_i hts
      subst hts
      obtain rfl := Option.some.inj hd'
      exact ⟨v, by simp [Act.put, h.size, ht], r⟩
    · rename_i hts
      obtain ⟨u, h1, h2⟩ := h.frm s d' hd'
      refine ⟨u, ?_, Rep.ext e _ _ h2⟩
      simp only [Act.put]
      rw [Array.getElem?_setIfInBounds_ne hts]
      exact h1

theorem rep_undef (g : G) (w : World) : Rep g w (.tup []) undef := by simp only [Rep]; exact ⟨[], rfl, RepL.nil⟩

/-- In the order of the text. -/
theorem runS_seq {P : Program} {ct : Cx P} {N : Nat} {hp : Hp} {ops : Array Oper} {Q : Exit → Act → World → Prop} {g : G} : ∀ (l : List Oper) (fr fr' : Fr) (a : Act) (w : World),
    (runS P ct N hp ops.toList l fr).Path fr' → Rel g hp w → FrOk g N fr a w → (∀ a' w', Silent w w' → FrOk g N fr' a' w' → Q .normal a' w') → wpList P ops Q l a w
  | [], fr, fr', a, w, h, _, hF, hQ => by
    obtain rfl : fr' = fr := h
    exact wpList_nil (hQ a w (Silent.refl w) hF)
  | o :: l, fr, fr', a, w, h, hR, hF, hQ => by
    obtain ⟨⟨b, fr1⟩, hg, h⟩ := T.path_bind h
    obtain ⟨hw, hF1⟩ := guardT_ok hg hF
    refine wpList_step fun K hK => ?_
    rw [hw]
    cases b with
    | true =>
      obtain ⟨d, hd, h⟩ := T.path_bind h
      obtain ⟨fr2, hs, h⟩ := T.path_bind h
      have hs := T.path_opt hs
      refine evS_ok hR (fun x _ d hx => hF1.lk hx) hd a K Q rfl ?_
      intro v w' hsil hr
      have e := hR.extS hsil
      refine hK _ _ (runS_seq l fr2 fr' _ _ h (hR.silent hsil) (hF1.put e hs hr) ?_)
      intro a' w'' hs' hF'
      exact hQ a' w'' (hsil.trans hs') hF'
    | false =>
      obtain ⟨fr2, hs, h⟩ := T.path_bind h
      have hs := T.path_opt hs
      exact hK _ _ (runS_seq l fr2 fr' _ _ h hR (hF1.put (Ext.refl _ _) hs (rep_undef g w)) hQ)

/-! ### any order -/
theorem drawOk_spec {all : List Oper} (h : drawOk all = true) {j : Nat} {o : Oper} (hj : all[j]? = some o) :
    (∀ e, e ∈ o.after.toList → Region.binds .any e = true → e.on < j) ∧
    (∀ t, t ∈ readsO all o → ∀ i oi, all[i]? = some oi → oi.dst = some t → ∃ e, e ∈ o.after.toList ∧ e.on = i ∧ Region.binds .any e = true) ∧
    (∀ t, o.dst = some t → ∀ i oi, all[i]? = some oi → oi.dst = some t → i = j) := by
  have mem : ∀ {i : Nat} {oi : Oper}, all[i]? = some oi → (oi, i) ∈ all.zipIdx := by
    intro i oi hi
    exact List.mem_zipIdx_iff_getElem?.2 (by simpa using hi)
  have hx := List.all_eq_true.1 h _ (mem hj)
  simp only [Bool.and_eq_true] at hx
  obtain ⟨⟨h1, h2⟩, h3⟩ := hx
  refine ⟨fun e he hb => ?_, fun t ht i oi hi hd => ?_, fun t ht i oi hi hd => ?_⟩
  · have := List.all_eq_true.1 h1 e he
    simp only [hb, Bool.not_true, Bool.false_or] at this
    exact Nat.le_of_ble_eq_true this
  · have := List.all_eq_true.1 (List.all_eq_true.1 h2 t ht) _ (mem hi)
    have hw : writes oi t = true := by simp [writes, hd, Nat.beq_refl]
    simp only [hw, Bool.not_true, Bool.false_or] at this
    obtain ⟨e, he, hb⟩ := List.any_eq_true.1 this
    simp only [Bool.and_eq_true] at hb
    exact ⟨e, he, Nat.eq_of_beq_eq_true hb.1, hb.2⟩
  · rw [ht] at h3
    have := List.all_eq_true.1 h3 _ (mem hi)
    have hw : writes oi t = true := by simp [writes, hd, Nat.beq_refl]
    simp only [hw, Bool.not_true, Bool.or_false] at this
    exact (Nat.eq_of_beq_eq_true this).symm

/-- What the run in the order of the text found at each operation: was it wanted, its value, the frame that it looked at. -/
def Trace (P : Program) (ct : Cx P) (N : Nat) (hp : Hp) (all : List Oper) : List Oper → Fr → List (Bool × DV × Fr) → Fr → Prop
  | [], fr, tr, fr' => tr = [] ∧ fr' = fr
  | o :: r, fr, tr, fr' => ∃ b d fi fr1 tr', tr = (b, d, fi) :: tr' ∧ (guardT all fr o).Path (b, fi) ∧ (b = true → (evS P ct hp (lkF fi) o.op).Path d) ∧ (b = false → d = .tup []) ∧
      setF N fi o.dst d = some fr1 ∧ Trace P ct N hp all r fr1 tr' fr'

theorem trace_of_path {P : Program} {ct : Cx P} {N : Nat} {hp : Hp} {all : List Oper} : ∀ (l : List Oper) (fr fr' : Fr), (runS P ct N hp all l fr).Path fr' → ∃ tr, Trace P ct N hp all l fr tr fr'
  | [], fr, fr', h => ⟨[], rfl, h⟩
  | o :: l, fr, fr', h => by
    obtain ⟨⟨b, fi⟩, hg, h⟩ := T.path_bind h
    cases b with
    | true =>
      obtain ⟨d, hd, h⟩ := T.path_bind h
      obtain ⟨fr1, hs, h⟩ := T.path_bind h
      obtain ⟨tr, ht⟩ := trace_of_path l fr1 fr' h
      exact ⟨_, true, d, fi, fr1, tr, rfl, hg, fun _ => hd, fun e => by simp at e, T.path_opt hs, ht⟩
    | false =>
      obtain ⟨fr1, hs, h⟩ := T.path_bind h
      obtain ⟨tr, ht⟩ := trace_of_path l fr1 fr' h
      exact ⟨_, false, .tup [], fi, fr1, tr, rfl, hg, fun e => by simp at e, fun _ => rfl, T.path_opt hs, ht⟩

/-- Where what a frame holds comes from: from an operation that is done, or from the frame at the start. -/
def Prov (fr0 : Fr) (done : List (Option Nat × DV)) (fr : Fr) : Prop :=
  ∀ t d, look fr t = some d → (∃ e, (some t, e) ∈ done ∧ Imp e d) ∨ ((∀ e, (some t, e) ∉ done) ∧ ∃ d0, look fr0 t = some d0 ∧ Imp d0 d)

theorem Prov.imp {fr0 fr fr' : Fr} {done : List (Option Nat × DV)} (h : Prov fr0 done fr) (k : ∀ t d', look fr' t = some d' → ∃ d, look fr t = some d ∧ Imp d d') : Prov fr0 done fr' := by
  intro t d' hd'
  obtain ⟨d, hd, hi⟩ := k t d' hd'
  rcases h t d hd with ⟨e, he, h1⟩ | ⟨he, d0, h1, h2⟩
  · exact .inl ⟨e, he, h1.trans hi⟩
  · exact .inr ⟨he, d0, h1, h2.trans hi⟩

theorem Prov.set {fr0 fr fr' : Fr} {done : List (Option Nat × DV)} {N : Nat} {dst : Option Nat} {d : DV} (h : Prov fr0 done fr) (hs : setF N fr dst d = some fr') : Prov fr0 (done ++ [(dst, d)]) fr' := by
  cases dst with
  | none =>
    simp [setF] at hs
    subst hs
    intro t e he
    rcases h t e he with ⟨x, hx, h1⟩ | ⟨hx, d0, h1, h2⟩
    · exact .inl ⟨x, by simp [hx], h1⟩
    · exact .inr ⟨by intro e; simpa using hx e, d0, h1, h2⟩
  | some s =>
    obtain ⟨_, rfl⟩ := setF_some hs
    intro t e he
    rw [look_cons] at he
    split at he
    · rename_i hst
      subst hst
      obtain rfl := Option.some.inj he
      exact .inl ⟨d, by simp, Imp.refl _⟩
    · rename_i hst
      rcases h t e he with ⟨x, hx, h1⟩ | ⟨hx, d0, h1, h2⟩
      · exact .inl ⟨x, by simp [hx], h1⟩
      · refine .inr ⟨?_, d0, h1, h2⟩
        intro x hm
        rcases List.mem_append.1 hm with hm | hm
        · exact hx x hm
        · simp at hm; exact hst hm.1.symm

theorem trace_prov {P : Program} {ct : Cx P} {N : Nat} {hp : Hp} {all : List Oper} {fr0 : Fr} : ∀ (l : List Oper) (fr : Fr) (tr : List (Bool × DV × Fr)) (fr' : Fr) (done : List (Option Nat × DV)),
    Trace P ct N hp all l fr tr fr' → Prov fr0 done fr →
    tr.length = l.length ∧ Prov fr0 (done ++ (l.zip tr).map fun x => (x.1.dst, x.2.2.1)) fr' ∧
    ∀ (j : Nat) (o : Oper) (b : Bool) (d : DV) (fi : Fr), l[j]? = some o → tr[j]? = some (b, d, fi) →
      Prov fr0 (done ++ ((l.take j).zip (tr.take j)).map fun x => (x.1.dst, x.2.2.1)) fi ∧ (∃ fg, (guardT all fg o).Path (b, fi) ∧ Prov fr0 (done ++ ((l.take j).zip (tr.take j)).map fun x => (x.1.dst, x.2.2.1)) fg) ∧
      (b = true → (evS P ct hp (lkF fi) o.op).Path d) ∧ (b = false → d = .tup []) ∧ (∀ t, o.dst = some t → t < N)
  | [], fr, tr, fr', done, h, hp0 => by
    obtain ⟨rfl, rfl⟩ := h
    exact ⟨rfl, by simpa using hp0, by intro j o b d fi hj; simp at hj⟩
  | o :: l, fr, tr, fr', done, h, hp0 => by
    obtain ⟨b, d, fi, fr1, tr', rfl, hg, h1, h2, hs, h⟩ := h
    have hpi : Prov fr0 done fi := hp0.imp (guardT_fr hg)
    obtain ⟨hl, hfin, hall⟩ := trace_prov l fr1 tr' fr' (done ++ [(o.dst, d)]) h (hpi.set hs)
    refine ⟨by simp [hl], by simpa using hfin, ?_⟩
    intro j oj bj dj fj hj hjt
    cases j with
    | zero =>
      simp at hj hjt
      obtain ⟨rfl, rfl, rfl⟩ := hjt
      subst hj
      exact ⟨by simpa using hpi, ⟨fr, hg, by simpa using hp0⟩, h1, h2, fun t ht => by rw [ht] at hs; exact (setF_some hs).1⟩
    | succ j =>
      have := hall j oj bj dj fj (by simpa using hj) (by simpa using hjt)
      simpa using this

end Go.DE
