import Derived.Test.YtfacddeaobogjaaF6b
set_option linter.unusedVariables false
set_option linter.unusedSimpArgs false
set_option linter.unnecessarySimpa false
/- The engine, part 7: steps of the memory: what is protected, forgotten, put back; made, written. -/
namespace Go.DF
universe u v
set_option linter.unusedSimpArgs false
set_option linter.unusedVariables false
variable [Fam]

omit [Fam] in
theorem look_cons {α : Type u} {j i : Nat} {x : α} {r : List (Nat × α)} : look ((j, x) :: r) i = if j = i then some x else look r i := by
  simp only [look]
  cases h : Nat.beq j i
  · rw [if_neg (Nat.ne_of_beq_eq_false h)]
  · rw [if_pos (Nat.eq_of_beq_eq_true h)]
omit [Fam] in
theorem look_repl {α : Type u} {l : List (Nat × α)} {i j : Nat} {x : α} : look (repl l i x) j = if i = j then (match look l i with | some _ => some x | none => none) else look l j := by
  induction l with
  | nil => simp [repl, look]
  | cons p l ih =>
    obtain ⟨k, y⟩ := p
    unfold repl
    cases hk : Nat.beq k i with
    | true =>
      have hk := Nat.eq_of_beq_eq_true hk
      subst hk
      simp only [look_cons]
      by_cases hj : k = j
      · simp [hj]
      · simp [hj]
    | false =>
      have hk := Nat.ne_of_beq_eq_false hk
      simp only [look_cons]
      by_cases hkj : k = j
      · subst hkj
        rw [if_pos rfl, if_neg (Ne.symm hk), if_pos rfl]
      · simp only [if_neg hkj, ih]
        by_cases hij : i = j
        · subst hij; rw [if_neg hk]
        · rw [if_neg hij, if_neg hij]
omit [Fam] in
theorem look_repl_some {α : Type u} {l : List (Nat × α)} {i : Nat} {y x : α} (h : look l i = some y) (j : Nat) : look (repl l i x) j = if i = j then some x else look l j := by
  rw [look_repl, h]
theorem look_dropI {i j : Nat} : ∀ {hp : Hp}, look (dropI i hp) j = if j = i then none else look hp j
  | [] => by simp [dropI, look]
  | (k, e) :: r => by
    unfold dropI
    cases hk : Nat.beq k i with
    | true =>
      have hk := Nat.eq_of_beq_eq_true hk
      subst hk
      simp only
      rw [look_dropI, look_cons]
      by_cases hj : j = k
      · simp [hj]
      · rw [if_neg hj, if_neg hj, if_neg (Ne.symm hj)]
    | false =>
      have hk := Nat.ne_of_beq_eq_false hk
      simp only
      rw [look_cons, look_cons, look_dropI]
      by_cases hj : j = i
      · subst hj; rw [if_neg hk, if_pos rfl, if_pos rfl]
      · simp [hj]

omit [Fam] in
theorem Kept.refl (M : Nat → Prop) (w : World) : Kept M w w := ⟨rfl, rfl, rfl, Nat.le_refl _, fun _ _ _ => rfl⟩

/-- From one memory to another. -/
structure Post (g : G) (w : World) (hp : Hp) (nx : Nat) (g' : G) (w' : World) (hp' : Hp) (nx' : Nat) : Prop where
  rel : Rel g' hp' w'
  ext : Ext g w g' w'
  kept : Kept (Mine g hp) w w'
  mine : ∀ b, Mine g' hp' b → Mine g hp b ∨ w.heap.size ≤ b
  prg : ∀ b, g'.pr b → g.pr b ∨ Mine g hp b ∨ w.heap.size ≤ b
  out : ∀ i, i < nx ∨ nx' ≤ i → g'.ρ i = g.ρ i
  ids : ∀ i e, look hp' i = some e → (∃ e', look hp i = some e') ∨ (nx ≤ i ∧ i < nx')
  sub : ∀ i, look hp i = none → (i < nx ∨ nx' ≤ i) → ∀ k, g'.sub i k = g.sub i k
  le : nx ≤ nx'

theorem Post.refl {g : G} {w : World} {hp : Hp} {nx : Nat} (h : Rel g hp w) : Post g w hp nx g w hp nx :=
  ⟨h, Ext.refl _ _, Kept.refl _ _, fun _ h => .inl h, fun _ h => .inl h, fun _ _ => rfl, fun i e h => .inl ⟨e, h⟩, fun _ _ _ _ => rfl, Nat.le_refl _⟩
theorem Post.trans {g g1 g2 : G} {w w1 w2 : World} {hp hp1 hp2 : Hp} {nx nx1 nx2 : Nat} (h : Post g w hp nx g1 w1 hp1 nx1) (k : Post g1 w1 hp1 nx1 g2 w2 hp2 nx2) : Post g w hp nx g2 w2 hp2 nx2 := by
  have hm : ∀ b, Mine g1 hp1 b → Mine g hp b ∨ w.heap.size ≤ b := h.mine
  have hs := h.kept.size
  refine ⟨k.rel, h.ext.trans k.ext, ⟨k.kept.os.trans h.kept.os, k.kept.tape.trans h.kept.tape, k.kept.output.trans h.kept.output, Nat.le_trans hs k.kept.size, fun b hb hnm => ?_⟩, fun b hb => ?_, fun b hb => ?_, fun i hi => ?_, fun i e he => ?_, fun i hn hi q => ?_, Nat.le_trans h.le k.le⟩
  · rw [k.kept.kept b (Nat.lt_of_lt_of_le hb hs) (fun hmm => ?_)]
    · exact h.kept.kept b hb hnm
    · rcases hm b hmm with h' | h'
      · exact hnm h'
      · omega
  · rcases k.mine b hb with h' | h'
    · exact hm b h'
    · exact .inr (Nat.le_trans hs h')
  · rcases k.prg b hb with h' | h' | h'
    · exact h.prg b h'
    · exact .inr (hm b h')
    · exact .inr (.inr (Nat.le_trans hs h'))
  · have h1 := h.le
    have h2 := k.le
    rw [k.out i (by omega), h.out i (by omega)]
  · have h1 := h.le
    have h2 := k.le
    rcases k.ids i e he with ⟨e', h'⟩ | h'
    · rcases h.ids i e' h' with h'' | h''
      · exact .inl h''
      · exact .inr ⟨h''.1, by omega⟩
    · exact .inr ⟨by omega, h'.2⟩
  · have h1 := h.le
    have h2 := k.le
    have hn1 : look hp1 i = none := by
      cases hl : look hp1 i with
      | none => rfl
      | some e =>
        rcases h.ids i e hl with ⟨e', h'⟩ | h'
        · rw [hn] at h'; simp at h'
        · omega
    rw [k.sub i hn1 (by omega) q, h.sub i hn (by omega) q]

section
variable {g : G} {hp : Hp} {w : World} {nx : Nat}

/-- Silent steps. -/
theorem Post.silent {g' : G} {w' : World} (h : Rel g hp w) (s : Silent w w') (x : GX g w g' w') : Post g w hp nx g' w' hp nx :=
  ⟨h.gx s x, x.ext s h.prl, ⟨s.os, s.tape, s.output, s.size, fun b hb _ => s.kept b hb⟩, fun b ⟨i, o, h1, h2⟩ => .inl ⟨i, o, h1, by rw [← x.rho, ← x.sub]; exact h2⟩, fun b hb => (x.new b hb).imp id .inr, fun i _ => by rw [x.rho],
    fun i e h => .inl ⟨e, h⟩, fun i _ _ k => by rw [x.sub], Nat.le_refl _⟩

/-- Less is known. -/
theorem Rel.less {hp' : Hp} (h : Rel g hp w) (hs : ∀ i e, look hp' i = some e → look hp i = some e) : Rel g hp' w :=
  ⟨fun i z o hi => h.obj i z o (hs _ _ hi), fun i z o hi => h.rws i z o (hs _ _ hi), fun i j oi oj b hi hj => h.inj i j oi oj b (hs _ _ hi) (hs _ _ hj),
    fun i z o k b hi hk hb => let ⟨a1, a2, a3, a4⟩ := h.sub i z o k b (hs _ _ hi) hk hb; ⟨a1, a2, fun j oj hj => a3 j oj (hs _ _ hj), fun j z' oj k' hj => a4 j z' oj k' (hs _ _ hj)⟩, h.prl⟩
theorem Post.less {hp' : Hp} (h : Rel g hp w) (hs : ∀ i e, look hp' i = some e → look hp i = some e) : Post g w hp nx g w hp' nx :=
  ⟨h.less hs, Ext.refl _ _, Kept.refl _ _, fun b ⟨i, o, h1, h2⟩ => .inl ⟨i, o, hs _ _ h1, h2⟩, fun b hb => .inl hb, fun _ _ => rfl, fun i e h => .inl ⟨e, hs _ _ h⟩, fun _ _ _ _ => rfl, Nat.le_refl _⟩
theorem dropI_less (i : Nat) : ∀ j e, look (dropI i hp) j = some e → look hp j = some e := by
  intro j e h
  rw [look_dropI] at h
  split at h
  · simp at h
  · exact h

/-- Protected too: the blocks that S names. -/
def G.fz (g : G) (S : Nat → Prop) : G := ⟨g.ρ, fun b => g.pr b ∨ S b, g.base, g.sub⟩
omit [Fam] in
theorem Ext.fzS (g : G) (S : Nat → Prop) (w : World) : Ext g w (g.fz S) w := Ext.fz rfl rfl (fun _ h => .inl h)
/-- A number's thing is protected. -/
theorem Post.fz1 (h : Rel g hp w) {i : Nat} {z : Bool} {o : DO} (hl : look hp i = some (z, o)) (hr : isRows o = false) : Post g w hp nx (g.fz fun b => g.ρ i = some b) w (repl hp i (true, o)) nx := by
  have get : ∀ {j e}, look (repl hp i (true, o)) j = some e → (j = i ∧ e = (true, o)) ∨ (j ≠ i ∧ look hp j = some e) := by
    intro j e hj
    rw [look_repl_some hl] at hj
    split at hj
    · rename_i he; exact .inl ⟨he.symm, (Option.some.inj hj).symm⟩
    · rename_i he; exact .inr ⟨fun e' => he e'.symm, hj⟩
  have e := Ext.fzS g (fun b => g.ρ i = some b) w
  refine ⟨⟨fun j z' o' hj => ?_, fun j z' o' hj hr' => ?_, fun j j' oj oj' b hj hj' hb hb' => ?_, fun j z' o' k b hj hk hb => ?_, fun b hb => ?_⟩, e, Kept.refl _ _, fun b hb => ?_, fun b hb => ?_, fun _ _ => rfl, fun j e hj => ?_, fun _ _ _ _ => rfl, Nat.le_refl _⟩
  · rcases get hj with ⟨rfl, he⟩ | ⟨hne, hj'⟩
    · simp only [Prod.mk.injEq] at he
      obtain ⟨rfl, rfl⟩ := he
      rcases h.obj j z o' hl with ⟨b, k1, k2, k3⟩ | k
      · exact .inl ⟨b, k1, ORep.ext e rfl (fun k _ => ⟨rfl, fun _ _ => rfl⟩) k2, fun _ => rfl, fun _ => .inr k1⟩
      · exact .inr k
    · rcases h.obj j z' o' hj' with ⟨b, k1, k2, k3⟩ | k
      · refine .inl ⟨b, k1, ORep.ext e rfl (fun k _ => ⟨rfl, fun _ _ => rfl⟩) k2, fun hb => ?_, fun hz => .inl (k3.2 hz)⟩
        rcases hb with hb | hb
        · exact k3.1 hb
        · cases z' with
          | true => rfl
          | false =>
            cases z with
            | true => exact k3.1 ((h.at hl hb).2.2 rfl)
            | false => exact absurd (h.inj j i o' o b hj' hl k1 hb) hne
      · exact .inr k
  · rcases get hj with ⟨rfl, he⟩ | ⟨hne, hj'⟩
    · simp only [Prod.mk.injEq] at he
      rw [he.2, hr] at hr'; simp at hr'
    · exact h.rws j z' o' hj' hr'
  · rcases get hj with ⟨rfl, he⟩ | ⟨hne, h1⟩
    · simp at he
    · rcases get hj' with ⟨rfl, he⟩ | ⟨hne', h2⟩
      · simp at he
      · exact h.inj j j' oj oj' b h1 h2 hb hb'
  · rcases get hj with ⟨rfl, he⟩ | ⟨hne, hj'⟩
    · simp only [Prod.mk.injEq] at he
      rw [he.2] at hk
      cases o <;> simp [isRows] at hr <;> simp [subOf] at hk
    · obtain ⟨a1, a2, a3, a4⟩ := h.sub j z' o' k b hj' hk hb
      refine ⟨a1, ?_, fun j2 oj hj2 => ?_, fun j2 z2 oj k' hj2 hk' hb' => ?_⟩
      · rintro (hb' | hb')
        · exact a2 hb'
        · cases z with
          | true => exact a2 ((h.at hl hb').2.2 rfl)
          | false => exact a3 i o hl hb'
      · rcases get hj2 with ⟨rfl, he⟩ | ⟨_, h2⟩
        · simp at he
        · exact a3 j2 oj h2
      · rcases get hj2 with ⟨rfl, he⟩ | ⟨_, h2⟩
        · simp only [Prod.mk.injEq] at he
          rw [he.2] at hk'
          cases o <;> simp [isRows] at hr <;> simp [subOf] at hk'
        · exact a4 j2 z2 oj k' h2 hk' hb'
  · rcases hb with hb | hb
    · exact h.prl b hb
    · exact (h.at hl hb).1.lt
  · obtain ⟨j, o', hj, hb⟩ := hb
    rcases get hj with ⟨_, he⟩ | ⟨_, hj'⟩
    · simp at he
    · exact .inl ⟨j, o', hj', hb⟩
  · rcases hb with hb | hb
    · exact .inl hb
    · cases z with
      | true => exact .inl ((h.at hl hb).2.2 rfl)
      | false => exact .inr (.inl ⟨i, o, hl, .inl hb⟩)
  · rcases get hj with ⟨rfl, _⟩ | ⟨_, hj'⟩
    · exact .inl ⟨_, hl⟩
    · exact .inl ⟨_, hj'⟩

omit [Fam] in
theorem seg1 {α : Type u} {vs : List α} {k : Nat} {v : α} (h : vs[k]? = some v) : (vs.drop k).take 1 = [v] := by
  have hk := lt_get h
  rw [List.drop_eq_getElem_cons hk]
  rw [List.getElem?_eq_getElem hk] at h
  simp only [List.take_succ_cons, List.take_zero]
  rw [Option.some.inj h]

/-- Rows are protected, with all that is in them. -/
theorem Post.fzRows (h : Rel g hp w) {i : Nat} {t e : TypeId} {c : CT} {ls : List (List c.D)} (hl : look hp i = some (false, .rows t e c ls none)) :
    Post g w hp nx (g.fz fun b => g.ρ i = some b ∨ ∃ k, k < ls.length ∧ g.sub i k = some b) w (repl hp i (true, .arr t (.sl c) ls)) nx := by
  have get : ∀ {j x}, look (repl hp i (true, DO.arr t (.sl c) ls)) j = some x → (j = i ∧ x = (true, DO.arr t (.sl c) ls)) ∨ (j ≠ i ∧ look hp j = some x) := by
    intro j x hj
    rw [look_repl_some hl] at hj
    split at hj
    · rename_i he; exact .inl ⟨he.symm, (Option.some.inj hj).symm⟩
    · rename_i he; exact .inr ⟨fun e' => he e'.symm, hj⟩
  have ex := Ext.fzS g (fun b => g.ρ i = some b ∨ ∃ k, k < ls.length ∧ g.sub i k = some b) w
  obtain ⟨b, hb, ⟨hba, vs, q1, q2, q3, q4⟩, hpr⟩ := h.there hl (fun h => h)
  have hsubOf : ∀ k, k < ls.length → subOf (DO.rows t e c ls none) k := fun k hk => ⟨hk, fun _ _ _ h => by simp at h⟩
  have hsub : ∀ k b', k < ls.length → g.sub i k = some b' → _ := fun k b' hk hs => h.sub i false _ k b' hl (hsubOf k hk) hs
  refine ⟨⟨fun j z' o' hj => ?_, fun j z' o' hj hr' => ?_, fun j j' oj oj' b hj hj' hb hb' => ?_, fun j z' o' k b hj hk hb => ?_, fun b' hb' => ?_⟩, ex, Kept.refl _ _, fun b hb => ?_, fun b' hb' => ?_, fun _ _ => rfl, fun j x hj => ?_, fun _ _ _ _ => rfl, Nat.le_refl _⟩
  · rcases get hj with ⟨rfl, he⟩ | ⟨hne, hj'⟩
    · simp only [Prod.mk.injEq] at he
      obtain ⟨rfl, rfl⟩ := he
      refine .inl ⟨b, hb, ⟨vs, q1, q2, by rw [show (G.fz g _).base j = g.base j from rfl, hba]; show 0 + List.length (α := List c.D) ls * 1 ≤ vs.length; omega, fun k l hk => ?_⟩, fun _ => rfl, fun _ => .inr (.inl hb)⟩
      obtain ⟨v, k1, k2, _⟩ := q4 k l hk
      have k2 := k2 (fun _ _ _ h => by simp at h)
      have e1 : (G.fz g fun b => g.ρ j = some b ∨ ∃ k, k < ls.length ∧ g.sub j k = some b).base j + k * (CT.sl c).size = k := by
        rw [show (G.fz g _).base j = g.base j from rfl, hba]; simp [CT.size]
      rw [e1]
      show Rp w _ (.sl c) l ((vs.drop k).take 1)
      rw [seg1 k1]
      refine ⟨v, rfl, ?_⟩
      rcases k2 with ⟨q0, k2, k3, _⟩ | ⟨b', o, cap, us, k2, k3, k4, k5, k6, k7, k8⟩
      · exact .inl ⟨q0, k2, k3⟩
      · exact .inr ⟨b', o, cap, us, e, _, k3, k4, .inr (.inr ⟨k, lt_get hk, k2⟩), k5, k7, k8.mono (fun _ h => .inl h) (fun _ _ => rfl)⟩
    · rcases h.obj j z' o' hj' with ⟨b1, k1, k2, k3⟩ | k
      · refine .inl ⟨b1, k1, ORep.ext ex rfl (fun k _ => ⟨rfl, fun _ _ => rfl⟩) k2, fun hb1 => ?_, fun hz => .inl (k3.2 hz)⟩
        rcases hb1 with hb1 | hb1 | ⟨k, hk, hb1⟩
        · exact k3.1 hb1
        · cases z' with
          | true => rfl
          | false => exact absurd (h.inj j i o' _ b1 hj' hl k1 hb1) hne
        · obtain ⟨a1, a2, a3, a4⟩ := hsub k b1 hk hb1
          cases z' with
          | true => rfl
          | false => exact absurd k1 (a3 j o' hj')
      · exact .inr k
  · rcases get hj with ⟨rfl, he⟩ | ⟨hne, hj'⟩
    · simp only [Prod.mk.injEq] at he
      rw [he.2] at hr'; simp [isRows] at hr'
    · exact h.rws j z' o' hj' hr'
  · rcases get hj with ⟨rfl, he⟩ | ⟨hne, h1⟩
    · simp at he
    · rcases get hj' with ⟨rfl, he⟩ | ⟨hne', h2⟩
      · simp at he
      · exact h.inj j j' oj oj' b h1 h2 hb hb'
  · rcases get hj with ⟨rfl, he⟩ | ⟨hne, hj'⟩
    · simp only [Prod.mk.injEq] at he
      rw [he.2] at hk
      simp [subOf] at hk
    · obtain ⟨a1, a2, a3, a4⟩ := h.sub j z' o' k b hj' hk hb
      refine ⟨a1, ?_, fun j2 oj hj2 => ?_, fun j2 z2 oj k' hj2 hk' hb' => ?_⟩
      · rintro (hb' | hb' | ⟨k', hk', hb'⟩)
        · exact a2 hb'
        · exact a3 i _ hl hb'
        · exact hne (a4 i false _ k' hl (hsubOf k' hk') hb').1
      · rcases get hj2 with ⟨rfl, he⟩ | ⟨_, h2⟩
        · simp at he
        · exact a3 j2 oj h2
      · rcases get hj2 with ⟨rfl, he⟩ | ⟨_, h2⟩
        · simp only [Prod.mk.injEq] at he
          rw [he.2] at hk'
          simp [subOf] at hk'
        · exact a4 j2 z2 oj k' h2 hk' hb'
  · rcases hb' with hb' | hb' | ⟨k, hk, hb'⟩
    · exact h.prl b' hb'
    · exact (h.at hl hb').1.lt
    · exact (hsub k b' hk hb').1
  · obtain ⟨j, o', hj, hb⟩ := hb
    rcases get hj with ⟨_, he⟩ | ⟨_, hj'⟩
    · simp at he
    · exact .inl ⟨j, o', hj', hb⟩
  · rcases hb' with hb' | hb' | ⟨k, hk, hb'⟩
    · exact .inl hb'
    · exact .inr (.inl ⟨i, _, hl, .inl hb'⟩)
    · exact .inr (.inl ⟨i, _, hl, .inr ⟨k, hsubOf k hk, hb'⟩⟩)
  · rcases get hj with ⟨rfl, _⟩ | ⟨_, hj'⟩
    · exact .inl ⟨_, hl⟩
    · exact .inl ⟨_, hj'⟩
end
end Go.DF
