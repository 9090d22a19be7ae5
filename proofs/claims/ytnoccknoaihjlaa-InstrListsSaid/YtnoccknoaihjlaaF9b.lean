import Derived.Test.YtnoccknoaihjlaaF9
set_option linter.unusedVariables false
set_option linter.unusedSimpArgs false
set_option linter.unnecessarySimpa false
/- The engine, part 9b: an operation that looks at some numbers alone leaves the others as they were. -/
namespace Go.DF
universe u v
set_option linter.unusedSimpArgs false
set_option linter.unusedVariables false
variable [Fam]

omit [Fam] in
theorem memN_iff {i : Nat} : ∀ {l : List Nat}, memN i l = true ↔ i ∈ l
  | [] => by simp [memN]
  | j :: r => by
    unfold memN
    cases h : Nat.beq i j with
    | true => have := Nat.eq_of_beq_eq_true h; subst this; simp
    | false =>
      have := Nat.ne_of_beq_eq_false h
      simp only [List.mem_cons, this, false_or]
      exact memN_iff
theorem look_keepF {F : List Nat} : ∀ {hp : Hp} {i : Nat}, look (keepF F hp) i = if i ∈ F then look hp i else none
  | [], i => by simp [keepF, look]
  | (j, e) :: r, i => by
    unfold keepF
    cases h : memN j F with
    | true =>
      have h := memN_iff.1 h
      dsimp only
      rw [look_cons, look_cons, look_keepF]
      by_cases he : j = i
      · subst he; simp [h]
      · simp [he]
    | false =>
      have h : j ∉ F := fun hm => by rw [memN_iff.2 hm] at h; simp at h
      dsimp only
      rw [look_cons, look_keepF]
      by_cases he : j = i
      · subst he; simp [h]
      · simp [he]
theorem look_dropF {F : List Nat} : ∀ {hp : Hp} {i : Nat}, look (dropF F hp) i = if i ∈ F then none else look hp i
  | [], i => by simp [dropF, look]
  | (j, e) :: r, i => by
    unfold dropF
    cases h : memN j F with
    | true =>
      have h := memN_iff.1 h
      dsimp only
      rw [look_cons, look_dropF]
      by_cases he : j = i
      · subst he; simp [h]
      · simp [he]
    | false =>
      have h : j ∉ F := fun hm => by rw [memN_iff.2 hm] at h; simp at h
      dsimp only
      rw [look_cons, look_cons, look_dropF]
      by_cases he : j = i
      · subst he; simp [h]
      · simp [he]
theorem look_cut {F : List Nat} {hx hp : Hp} {i : Nat} : look (keepF F hx ++ dropF F hp) i = if i ∈ F then look hx i else look hp i := by
  rw [look_append, look_keepF, look_dropF]
  by_cases h : i ∈ F
  · simp only [if_pos h]
    cases look hx i <;> rfl
  · simp [h]

variable {g g' : G} {H K K' H' : Hp} {w w' : World} {nx nx' : Nat}

theorem Post.part (F : List Nat) (hR : Rel g H w) (hK : ∀ i e, look K i = some e → look H i = some e) (hF : ∀ i, i ∉ F → look K i = none) (hI : ∀ i, nx ≤ i → i < nx' → i ∈ F)
    (hP : Post g w K nx g' w' K' nx') (hH : ∀ i, look H' i = if i ∈ F then look K' i else look H i) : Post g w H nx g' w' H' nx' := by
  have hR2 := hP.rel
  have hout : ∀ i, i ∉ F → g'.ρ i = g.ρ i := fun i hi => hP.out i (by
    rcases Nat.lt_or_ge i nx with h | h
    · exact .inl h
    · rcases Nat.lt_or_ge i nx' with h' | h'
      · exact (hi (hI i h h')).elim
      · exact .inr h')
  have hsub : ∀ i, i ∉ F → ∀ k, g'.sub i k = g.sub i k := fun i hi => hP.sub i (hF i hi) (by
    rcases Nat.lt_or_ge i nx with h | h
    · exact .inl h
    · rcases Nat.lt_or_ge i nx' with h' | h'
      · exact (hi (hI i h h')).elim
      · exact .inr h')
  have hmK : ∀ b, Mine g K b → Mine g H b := by
    rintro b ⟨i, o, hi, hb⟩
    exact ⟨i, o, hK _ _ hi, hb⟩
  have kin : ∀ i e, look K i = some e → i ∈ F := fun i e h => by
    by_cases hi : i ∈ F
    · exact hi
    · rw [hF i hi] at h; simp at h
  have hold : ∀ j z o b, look H j = some (z, o) → j ∉ F → g.ρ j = some b → b < w.heap.size ∧ ¬ Mine g K b := by
    intro j z o b hj ht hb
    obtain ⟨b', hb', r', hz⟩ : ∃ b, g.ρ j = some b ∧ ORep g w j o b (g.base j) ∧ (g.pr b ↔ z = true) := by
      rcases hR.obj j z o hj with ⟨b, x1, x2, x3⟩ | ⟨_, x2⟩
      · exact ⟨b, x1, x2, x3⟩
      · rw [hb] at x2; simp at x2
    rw [hb] at hb'; obtain rfl := Option.some.inj hb'
    refine ⟨r'.lt, ?_⟩
    rintro ⟨j', o', ho', hb'⟩
    have hjF := kin _ _ ho'
    have ho' := hK _ _ ho'
    rcases hb' with hb' | ⟨k, hk, hb'⟩
    · cases z with
      | false =>
        have := hR.inj j j' o o' b hj ho' hb hb'
        subst this
        exact ht hjF
      | true =>
        rcases hR.obj j' false o' ho' with ⟨b2, x1, _, x3⟩ | ⟨_, x2⟩
        · rw [hb'] at x1; obtain rfl := Option.some.inj x1
          exact absurd (x3.1 (hz.2 rfl)) (by simp)
        · rw [hb'] at x2; simp at x2
    · obtain ⟨_, q2, q3, _⟩ := hR.sub j' false o' k b ho' hk hb'
      cases z with
      | false => exact q3 j o hj hb
      | true => exact q2 (hz.2 rfl)
  have holdS : ∀ j z o k b, look H j = some (z, o) → j ∉ F → subOf o k → g.sub j k = some b → b < w.heap.size ∧ ¬ Mine g K b := by
    intro j z o k b hj ht hk hb
    obtain ⟨q1, q2, q3, q4⟩ := hR.sub j z o k b hj hk hb
    refine ⟨q1, ?_⟩
    rintro ⟨j', o', ho', hb'⟩
    have hjF := kin _ _ ho'
    have ho' := hK _ _ ho'
    rcases hb' with hb' | ⟨k', hk', hb'⟩
    · exact q3 j' o' ho' hb'
    · obtain ⟨e1, _⟩ := q4 j' false o' k' ho' hk' hb'
      subst e1
      exact ht hjF
  have hnew : ∀ i z o, look H' i = some (z, o) → (i ∈ F ∧ look K' i = some (z, o)) ∨ (i ∉ F ∧ look H i = some (z, o)) := by
    intro i z o hi
    rw [hH] at hi
    by_cases h : i ∈ F
    · rw [if_pos h] at hi; exact .inl ⟨h, hi⟩
    · rw [if_neg h] at hi; exact .inr ⟨h, hi⟩
  have hA : ∀ {i0 o0 b}, look K' i0 = some (false, o0) → g'.ρ i0 = some b → ¬ (b < w.heap.size ∧ ¬ Mine g K b) := by
    rintro i0 o0 b h1 h2 ⟨h3, h4⟩
    rcases hP.mine b ⟨i0, o0, h1, .inl h2⟩ with h | h
    · exact h4 h
    · omega
  have hAs : ∀ {i0 z o0 k b}, look K' i0 = some (z, o0) → subOf o0 k → g'.sub i0 k = some b → ¬ (b < w.heap.size ∧ ¬ Mine g K b) := by
    rintro i0 z o0 k b h1 hk h2 ⟨h3, h4⟩
    have hz : z = false := hR2.rws i0 z o0 h1 (by cases o0 <;> simp [subOf] at hk <;> rfl)
    subst hz
    rcases hP.mine b ⟨i0, o0, h1, .inr ⟨k, hk, h2⟩⟩ with h | h
    · exact h4 h
    · omega
  refine ⟨⟨?_, ?_, ?_, ?_, hR2.prl⟩, hP.ext, ⟨hP.kept.os, hP.kept.tape, hP.kept.output, hP.kept.size, fun b hb hm => hP.kept.kept b hb (fun hm' => hm (hmK b hm'))⟩, ?_, ?_, hP.out, ?_, ?_, hP.le⟩
  · intro i z o hi
    rcases hnew i z o hi with ⟨_, k1⟩ | ⟨kt, k1⟩
    · exact hR2.obj i z o k1
    · rcases hR.obj i z o k1 with ⟨b2, hb2, r2, p2⟩ | ⟨hn, hb2⟩
      · obtain ⟨q1, q2⟩ := hold i z o b2 k1 kt hb2
        refine .inl ⟨b2, (hout i kt).trans hb2, ?_, ?_⟩
        · rw [hP.ext.base i b2 hb2]
          refine ORep.ext hP.ext (hP.kept.kept b2 q1 q2) (fun k hk => ⟨hsub i kt k, fun c' hc' => ?_⟩) r2
          obtain ⟨s1, s2⟩ := holdS i z o k c' k1 kt hk hc'
          exact hP.kept.kept c' s1 s2
        · refine ⟨fun hp => ?_, fun hz => hP.ext.pr _ (p2.2 hz)⟩
          rcases hP.prg b2 hp with h | h | h
          · exact p2.1 h
          · exact (q2 h).elim
          · omega
      · exact .inr ⟨hn, (hout i kt).trans hb2⟩
  · intro i z o hi hro
    rcases hnew i z o hi with ⟨_, k1⟩ | ⟨_, k1⟩
    · exact hR2.rws i z o k1 hro
    · exact hR.rws i z o k1 hro
  · intro i j oi oj b hi hj hbi hbj
    rcases hnew i _ oi hi with ⟨ki, k1⟩ | ⟨ki, k1⟩
    · rcases hnew j _ oj hj with ⟨kj, l1⟩ | ⟨kj, l1⟩
      · exact hR2.inj i j oi oj b k1 l1 hbi hbj
      · exact (hA k1 hbi (hold j _ _ b l1 kj ((hout j kj) ▸ hbj))).elim
    · rcases hnew j _ oj hj with ⟨kj, l1⟩ | ⟨kj, l1⟩
      · exact (hA l1 hbj (hold i _ _ b k1 ki ((hout i ki) ▸ hbi))).elim
      · exact hR.inj i j oi oj b k1 l1 ((hout i ki) ▸ hbi) ((hout j kj) ▸ hbj)
  · intro i z o k b hi hk hb
    rcases hnew i z o hi with ⟨ki, k1⟩ | ⟨ki, k1⟩
    · obtain ⟨q1, q2, q3, q4⟩ := hR2.sub i z o k b k1 hk hb
      refine ⟨q1, q2, fun j oj hj hbj => ?_, fun j z' oj k' hj hk' hb' => ?_⟩
      · rcases hnew j _ oj hj with ⟨kj, l1⟩ | ⟨kj, l1⟩
        · exact q3 j oj l1 hbj
        · exact hAs k1 hk hb (hold j _ _ b l1 kj ((hout j kj) ▸ hbj))
      · rcases hnew j _ oj hj with ⟨kj, l1⟩ | ⟨kj, l1⟩
        · exact q4 j z' oj k' l1 hk' hb'
        · rw [hsub j kj] at hb'
          exact (hAs k1 hk hb (holdS j _ _ k' b l1 kj hk' hb')).elim
    · rw [hsub i ki] at hb
      obtain ⟨q1, q2, q3, q4⟩ := hR.sub i z o k b k1 hk hb
      have hh' := holdS i z o k b k1 ki hk hb
      refine ⟨Nat.lt_of_lt_of_le q1 hP.kept.size, fun hp => ?_, fun j oj hj hbj => ?_, fun j z' oj k' hj hk' hb' => ?_⟩
      · rcases hP.prg b hp with h | h | h
        · exact q2 h
        · exact hh'.2 h
        · omega
      · rcases hnew j _ oj hj with ⟨kj, l1⟩ | ⟨kj, l1⟩
        · exact hA l1 hbj hh'
        · exact q3 j oj l1 ((hout j kj) ▸ hbj)
      · rcases hnew j _ oj hj with ⟨kj, l1⟩ | ⟨kj, l1⟩
        · exact (hAs l1 hk' hb' hh').elim
        · rw [hsub j kj] at hb'
          exact q4 j z' oj k' l1 hk' hb'
  · rintro b ⟨i, o, hi, hb⟩
    rcases hnew i _ o hi with ⟨ki, k1⟩ | ⟨ki, k1⟩
    · rcases hP.mine b ⟨i, o, k1, hb⟩ with h | h
      · exact .inl (hmK b h)
      · exact .inr h
    · refine .inl ⟨i, o, k1, ?_⟩
      rcases hb with hb | ⟨k, hk, hb⟩
      · exact .inl ((hout i ki) ▸ hb)
      · exact .inr ⟨k, hk, by rw [← hsub i ki k]; exact hb⟩
  · intro b hb
    rcases hP.prg b hb with h | h | h
    · exact .inl h
    · exact .inr (.inl (hmK b h))
    · exact .inr (.inr h)
  · rintro i ⟨z, o⟩ he
    rcases hnew i z o he with ⟨ki, k1⟩ | ⟨ki, k1⟩
    · rcases hP.ids i _ k1 with ⟨e', h⟩ | h
      · exact .inl ⟨e', hK _ _ h⟩
      · exact .inr h
    · exact .inl ⟨_, k1⟩
  · intro i hi hx k
    refine hP.sub i ?_ hx k
    cases h : look K i with
    | none => rfl
    | some e => rw [hK _ _ h] at hi; simp at hi

/-- Within a wider span of new numbers. -/
theorem Post.span {lo hi : Nat} (hP : Post g w H nx g' w' H' nx') (h1 : lo ≤ nx) (h2 : nx' ≤ hi) : Post g w H lo g' w' H' hi :=
  ⟨hP.rel, hP.ext, hP.kept, hP.mine, hP.prg, fun i hi' => hP.out i (by omega), fun i e he => (hP.ids i e he).imp (fun h => h) (fun h => by omega), fun i hn hi' k => hP.sub i hn (by omega) k, by have := hP.le; omega⟩
/-- One after another, in one span. -/
theorem Post.then {g2 : G} {w2 : World} {H2 : Hp} {lo hi : Nat} (h : Post g w H lo g' w' H' hi) (k : Post g' w' H' lo g2 w2 H2 hi) : Post g w H lo g2 w2 H2 hi := by
  have hm := h.mine
  have hs := h.kept.size
  refine ⟨k.rel, h.ext.trans k.ext, ⟨k.kept.os.trans h.kept.os, k.kept.tape.trans h.kept.tape, k.kept.output.trans h.kept.output, Nat.le_trans hs k.kept.size, fun b hb hnm => ?_⟩, fun b hb => ?_, fun b hb => ?_, fun i hi => ?_, fun i e he => ?_, fun i hn hi q => ?_, h.le⟩
  · rw [k.kept.kept b (Nat.lt_of_lt_of_le hb hs) (fun hmm => ?_)]
    · exact h.kept.kept b hb hnm
    · rcases hm b hmm with h' | h'
      · exact hnm h'
      · omega
  · rcases k.mine b hb with h' | h'
    · exact hm b h'
    · exact .inr (Nat.le_trans hs h')
  · rcases k.prg b hb with h' | h' | h'
    · exact h.prg b h'
    · rcases hm b h' with h2 | h2
      · exact .inr (.inl h2)
      · exact .inr (.inr h2)
    · exact .inr (.inr (Nat.le_trans hs h'))
  · rw [k.out i hi, h.out i hi]
  · rcases k.ids i e he with ⟨e', h'⟩ | h'
    · exact h.ids i e' h'
    · exact .inr h'
  · have : look H' i = none := by
      cases hl : look H' i with
      | none => rfl
      | some e =>
        rcases h.ids i e hl with ⟨e', h'⟩ | h'
        · rw [hn] at h'; simp at h'
        · omega
    rw [k.sub i this hi q, h.sub i hn hi q]
/-- The same memory, written otherwise. -/
theorem Post.as (hP : Post g w H nx g' w' H' nx') {H2 : Hp} (h : ∀ i, look H2 i = look H' i) : Post g w H nx g' w' H2 nx' :=
  hP.to_less fun i e he => by rw [← h]; exact he
end Go.DF
