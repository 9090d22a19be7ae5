import Derived.Test.YtfacddeaobogjaaF9
set_option linter.unusedVariables false
set_option linter.unusedSimpArgs false
set_option linter.unnecessarySimpa false
/- The engine, part 9b: an operation that looks at some numbers alone leaves the others as they were. -/
namespace Go.DF
universe u v
set_option linter.unusedSimpArgs false
set_option linter.unusedVariables false
variable [Fam]

omit [Fam] in
theorem memN_iff {i : Nat} : ∀ {l : List Nat}, memN i l = true ↔ i ∈ l
  | [] => by simp [memN]
  | j :: r => by
    unfold memN
    cases h : Nat.beq i j with
    | true => have := Nat.eq_of_beq_eq_true h; subst this; simp
    | false =>
      have := Nat.ne_of_beq_eq_false h
      simp only [List.mem_cons, this, false_or]
      exact memN_iff
theorem look_keepF {F : List Nat} : ∀ {hp : Hp} {i : Nat}, look (keepF F hp) i = if i ∈ F then look hp i else none
  | [], i => by simp [keepF, look]
  | (j, e) :: r, i => by
    unfold keepF
    cases h : memN j F with
    | true =>
      have h := memN_iff.1 h
      dsimp only
      rw [look_cons, look_cons, look_keepF]
      by_cases he : j = i
      · subst he; simp [h]
      · simp [he]
    | false =>
      have h : j ∉ F := fun hm => by rw [memN_iff.2 hm] at h; simp at h
      dsimp only
      rw [look_cons, look_keepF]
      by_cases he : j = i
      · subst he; simp [h]
      · simp [he]
theorem look_dropF {F : List Nat} : ∀ {hp : Hp} {i : Nat}, look (dropF F hp) i = if i ∈ F then none else look hp i
  | [], i => by simp [dropF, look]
  | (j, e) :: r, i => by
    unfold dropF
    cases h : memN j F with
    | true =>
      have h := memN_iff.1 h
      dsimp only
      rw [look_cons, look_dropF]
      by_cases he : j = i
      · subst he; simp [h]
      · simp [he]
    | false =>
      have h : j ∉ F := fun hm => by rw [memN_iff.2 hm] at h; simp at h
      dsimp only
      rw [look_cons, look_cons, look_dropF]
      by_cases he : j = i
      · subst he; simp [h]
      · simp [he]
theorem look_cut {F : List Nat} {hx hp : Hp} {i : Nat} : look (keepF F hx ++ dropF F hp) i = if i ∈ F then look hx i else look hp i := by
  rw [look_append, look_keepF, look_dropF]
  by_cases h : i ∈ F
  · simp only [if_pos h]
    cases look hx i <;> rfl
  · simp [h]

variable {g g' : G} {H K K' H' : Hp} {w w' : World} {nx nx' : Nat}

theorem Post.part (F : List Nat) (hR : Rel g H w) (hK : ∀ i e, look K i = some e → look H i = some e) (hF : ∀ i, i ∉ F → look K i = none) (hI : ∀ i, nx ≤ i → i < nx' → i ∈ F)
    (hP : Post g w K nx g' w' K' nx') (hH : ∀ i, look H' i = if i ∈ F then look K' i else look H i) : Post g w H nx g' w' H' nx' := by
  have hR2 := hP.rel
  have hout : ∀ i, i ∉ F → g'.ρ i = g.ρ i := fun i hi => hP.out i (by
    rcases Nat.lt_or_ge i nx with h | h
    · exact .inl h
    · rcases Nat.lt_or_ge i nx' with h' | h'
      · exact (hi (hI i h h')).elim
      · exact .inr h')
  have hsub : ∀ i, i ∉ F → ∀ k, g'.sub i k = g.sub i k := fun i hi => hP.sub i (hF i hi) (by
    rcases Nat.lt_or_ge i nx with h | h
    · exact .inl h
    · rcases Nat.lt_or_ge i nx' with h' | h'
      · exact (hi (hI i h h')).elim
      · exact .inr h')
  have hmK : ∀ b, Mine g K b → Mine g H b := by
    rintro b ⟨i, o, hi, hb⟩
    exact ⟨i, o, hK _ _ hi, hb⟩
  have kin : ∀ i e, look K i = some e → i ∈ F := fun i e h => by
    by_cases hi : i ∈ F
    · exact hi
    · rw [hF i hi] at h; simp at h
  have hold : ∀ j z o b, look H j = some (z, o) → j ∉ F → g.ρ j = some b → b < w.heap.size ∧ ¬ Mine g K b := by
    intro j z o b hj ht hb
    obtain ⟨b', hb', r', hz⟩ : ∃ b, g.ρ j = some b ∧ ORep g w j o b (g.base j) ∧ (g.pr b ↔ z = true) := by
      rcases hR.obj j z o hj with ⟨b, x1, x2, x3⟩ | ⟨_, x2⟩
      · exact ⟨b, x1, x2, x3⟩
      · rw [hb] at x2; simp at x2
    rw [hb] at hb'; obtain rfl := Option.some.inj hb'
    refine ⟨r'.lt, ?_⟩
    rintro ⟨j', o', ho', hb'⟩
    have hjF := kin _ _ ho'
    have ho' := hK _ _ ho'
    rcases hb' with hb' | ⟨k, hk, hb'⟩
    · cases z with
      | false =>
        have := hR.inj j j' o o' b hj ho' hb hb'
        subst this
        exact ht hjF
      | true =>
        rcases hR.obj j' false o' ho' with ⟨b2, x1, _, x3⟩ | ⟨_, x2⟩
        · rw [hb'] at x1; obtain rfl := Option.some.inj x1
          exact absurd (x3.1 (hz.2 rfl)) (by simp)
        · rw [hb'] at x2; simp at x2
    · obtain ⟨_, q2, q3, _⟩ := hR.sub j' false o' k b ho' hk hb'
      cases z with
      | false => exact q3 j o hj hb
      | true => exact q2 (hz.2 rfl)
  have holdS : ∀ j z o k b, look H j = some (z, o) → j ∉ F → subOf o k → g.sub j k = some b → b < w.heap.size ∧ ¬ Mine g K b := by
    intro j z o k b hj ht hk hb
    obtain ⟨q1, q2, q3, q4⟩ := hR.sub j z o k b hj hk hb
    refine ⟨q1, ?_⟩
    rintro ⟨j', o', ho', hb'⟩
    have hjF := kin _ _ ho'
    have ho' := hK _ _ ho'
    rcases hb' with hb' | ⟨k', hk', hb'⟩
    · exact q3 j' o' ho' hb'
    · obtain ⟨e1, _⟩ := q4 j' false o' k' ho' hk' hb'
      subst e1
      exact ht hjF
  have hnew : ∀ i z o, look H' i = some (z, o) → (i ∈ F ∧ look K' i = some (z, o)) ∨ (i ∉ F ∧ look H i = some (z, o)) := by
    intro i z o hi
    rw [hH] at hi
    by_cases h : i ∈ F
    · rw [if_pos h] at hi; exact .inl ⟨h, hi⟩
    · rw [if_neg h] at hi; exact .inr ⟨h, hi⟩
  have hA : ∀ {i0 o0 b}, look K' i0 = some (false, o0) → g'.ρ i0 = some b → ¬ (b < w.heap.size ∧ ¬ Mine g K b) := by
    rintro i0 o0 b h1 h2 ⟨h3, h4⟩
    rcases hP.mine b ⟨i0, o0, h1, .inl h2⟩ with h | h
    · exact h4 h
    · omega
  have hAs : ∀ {i0 z o0 k b}, look K' i0 = some (z, o0) → subOf o0 k → g'.sub i0 k = some b → ¬ (b < w.heap.size ∧ ¬ Mine g K b) := by
    rintro i0 z o0 k b h1 hk h2 ⟨h3, h4⟩
    have hz : z = false := hR2.rws i0 z o0 h1 (by cases o0 <;> simp [subOf] at hk <;> rfl)
    subst hz
    rcases hP.mine b ⟨i0, o0, h1, .inr ⟨k, hk, h2⟩⟩ with h | h
    · exact h4 h
    · omega
  refine ⟨⟨?_, ?_, ?_, ?_, hR2.prl⟩, hP.ext, ⟨hP.kept.os, hP.kept.tape, hP.kept.output, hP.kept.size, fun b hb hm => hP.kept.kept b hb (fun hm' => hm (hmK b hm'))⟩, ?_, ?_, hP.out, ?_, ?_, hP.le⟩
  · intro i z o hi
    rcases hnew i z o hi with ⟨_, k1⟩ | ⟨kt, k1⟩
    · exact hR2.obj i z o k1
    · rcases hR.obj i z o k1 with ⟨b2, hb2, r2, p2⟩ | ⟨hn, hb2⟩
      · obtain ⟨q1, q2⟩ := hold i z o b2 k1 kt hb2
        refine .inl ⟨b2, (hout i kt).trans hb2, ?_, ?_⟩
        · rw [hP.ext.base i b2 hb2]
          refine ORep.ext hP.ext (hP.kept.kept b2 q1 q2) (fun k hk => ⟨hsub i kt k, fun c' hc' => ?_⟩) r2
          obtain ⟨s1, s2⟩ := holdS i z o k c' k1 kt hk hc'
          exact hP.kept.kept c' s1 s2
        · refine ⟨fun hp => ?_, fun hz => hP.ext.pr _ (p2.2 hz)⟩
          rcases hP.prg b2 hp with h | h | h
          · exact p2.1 h
          · exact (q2 h).elim
          · omega
      · exact .inr ⟨hn, (hout i kt).trans hb2⟩
  · intro i z o hi hro
    rcases hnew i z o hi with ⟨_, k1⟩ | ⟨_, k1⟩
    · exact hR2.rws i z o k1 hro
    · exact hR.rws i z o k1 hro
  · intro i j oi oj b hi hj hbi hbj
    rcases hnew i _ oi hi with ⟨ki, k1⟩ | ⟨ki, k1⟩
    · rcases hnew j _ oj hj with ⟨kj, l1⟩ | ⟨kj, l1⟩
      · exact hR2.inj i j oi oj b k1 l1 hbi hbj
      · exact (hA k1 hbi (hold j _ _ b l1 kj ((hout j kj) ▸ hbj))).elim
    · rcases hnew j _ oj hj with ⟨kj, l1⟩ | ⟨kj, l1⟩
      · exact (hA l1 hbj (hold i _ _ b k1 ki ((hout i ki) ▸ hbi))).elim
      · exact hR.inj i j oi oj b k1 l1 ((hout i ki) ▸ hbi) ((hout j kj) ▸ hbj)
  · intro i z o k b hi hk hb
    rcases hnew i z o hi with ⟨ki, k1⟩ | ⟨ki, k1⟩
    · obtain ⟨q1, q2, q3, q4⟩ := hR2.sub i z o k b k1 hk hb
      refine ⟨q1, q2, fun j oj hj hbj => ?_, fun j z' oj k' hj hk' hb' => ?_⟩
      · rcases hnew j _ oj hj with ⟨kj, l1⟩ | ⟨kj, l1⟩
        · exact q3 j oj l1 hbj
        · exact hAs k1 hk hb (hold j _ _ b l1 kj ((hout j kj) ▸ hbj))
      · rcases hnew j _ oj hj with ⟨kj, l1⟩ | ⟨kj, l1⟩
        · exact q4 j z' oj k' l1 hk' hb'
        · rw [hsub j kj] at hb'
          exact (hAs k1 hk hb (holdS j _ _ k' b l1 kj hk' hb')).elim
    · rw [hsub i ki] at hb
      obtain ⟨q1, q2, q3, q4⟩ := hR.sub i z o k b k1 hk hb
      have hh' := holdS i z o k b k1 ki hk hb
      refine ⟨Nat.lt_of_lt_of_le q1 hP.kept.size, fun hp => ?_, fun j oj hj hbj => ?_, fun j z' oj k' hj hk' hb' => ?_⟩
      · rcases hP.prg b hp with h | h | h
        · exact q2 h
        · exact hh'.2 h
        · omega
      · rcases hnew j _ oj hj with ⟨kj, l1⟩ | ⟨kj, l1⟩
        · exact hA l1 hbj hh'
        · exact q3 j oj l1 ((hout j kj) ▸ hbj)
      · rcases hnew j _ oj hj with ⟨kj, l1⟩ | ⟨kj, l1⟩
        · exact (hAs l1 hk' hb' hh').elim
        · rw [hsub j kj] at hb'
          exact q4 j z' oj k' l1 hk' hb'
  · rintro b ⟨i, o, hi, hb⟩
    rcases hnew i _ o hi with ⟨ki, k1⟩ | ⟨ki, k1⟩
    · rcases hP.mine b ⟨i, o, k1, hb⟩ with h | h
      · exact .inl (hmK b h)
      · exact .inr h
    · refine .inl ⟨i, o, k1, ?_⟩
      rcases hb with hb | ⟨k, hk, hb⟩
      · exact .inl ((hout i ki) ▸ hb)
      · exact .inr ⟨k, hk, by rw [← hsub i ki k]; exact hb⟩
  · intro b hb
    rcases hP.prg b hb with h | h | h
    · exact .inl h
    · exact .inr (.inl (hmK b h))
    · exact .inr (.inr h)
  · rintro i ⟨z, o⟩ he
    rcases hnew i z o he with ⟨ki, k1⟩ | ⟨ki, k1⟩
    · rcases hP.ids i _ k1 with ⟨e', h⟩ | h
      · exact .inl ⟨e', hK _ _ h⟩
      · exact .inr h
    · exact .inl ⟨_, k1⟩
  · intro i hi hx k
    refine hP.sub i ?_ hx k
    cases h : look K i with
    | none => rfl
    | some e => rw [hK _ _ h] at hi; simp at hi

/-- Within a wider span of new numbers. -/
theorem Post.span {lo hi : Nat} (hP : Post g w H nx g' w' H' nx') (h1 : lo ≤ nx) (h2 : nx' ≤ hi) : Post g w H lo g' w' H' hi :=
  ⟨hP.rel, hP.ext, hP.kept, hP.mine, hP.prg, fun i hi' => hP.out i (by omega), fun i e he => (hP.ids i e he).imp (fun h => h) (fun h => by omega), fun i hn hi' k => hP.sub i hn (by omega) k, by have := hP.le; omega⟩
/-- One after another, in one span. -/
theorem Post.then {g2 : G} {w2 : World} {H2 : Hp} {lo hi : Nat} (h : Post g w H lo g' w' H' hi) (k : Post g' w' H' lo g2 w2 H2 hi) : Post g w H lo g2 w2 H2 hi := by
  have hm := h.mine
  have hs := h.kept.size
  refine ⟨k.rel, h.ext.trans k.ext, ⟨k.kept.os.trans h.kept.os, k.kept.tape.trans h.kept.tape, k.kept.output.trans h.kept.output, Nat.le_trans hs k.kept.size, fun b hb hnm => ?_⟩, fun b hb => ?_, fun b hb => ?_, fun i hi => ?_, fun i e he => ?_, fun i hn hi q => ?_, h.le⟩
  · rw [k.kept.kept b (Nat.lt_of_lt_of_le hb hs) (fun hmm => ?_)]
    · exact h.kept.kept b hb hnm
    · rcases hm b hmm with h' | h'
      · exact hnm h'
      · omega
  · rcases k.mine b hb with h' | h'
    · exact hm b h'
    · exact .inr (Nat.le_trans hs h')
  · rcases k.prg b hb with h' | h' | h'
    · exact h.prg b h'
    · rcases hm b h' with h2 | h2
      · exact .inr (.inl h2)
      · exact .inr (.inr h2)
    · exact .inr (.inr (Nat.le_trans hs h'))
  · rw [k.out i hi, h.out i hi]
  · rcases k.ids i e he with ⟨e', h'⟩ | h'
    · exact h.ids i e' h'
    · exact .inr h'
  · have : look H' i = none := by
      cases hl : look H' i with
      | none => rfl
      | some e =>
        rcases h.ids i e hl with ⟨e', h'⟩ | h'
        · rw [hn] at h'; simp at h'
        · omega
    rw [k.sub i this hi q, h.sub i hn hi q]
/-- The same memory, written otherwise. -/
theorem Post.as (hP : Post g w H nx g' w' H' nx') {H2 : Hp} (h : ∀ i, look H2 i = look H' i) : Post g w H nx g' w' H2 nx' :=
  hP.to_less fun i e he => by rw [← h]; exact he
end Go.DF

/- The engine, part 9c: a region that draws its order: what each operation finds at its turn. -/
namespace Go.DF
universe u v
set_option linter.unusedSimpArgs false
set_option linter.unusedVariables false
variable [Fam]

/-! ### any order -/
omit [Fam] in
theorem drawOk_spec {all : List Oper} (h : drawOk all = true) {j : Nat} {o : Oper} (hj : all[j]? = some o) :
    (∀ e, e ∈ o.after.toList → Region.binds .any e = true → e.on < j) ∧
    (∀ t, t ∈ readsO all o → ∀ i oi, all[i]? = some oi → oi.dst = some t → (∃ e, e ∈ o.after.toList ∧ e.on = i ∧ Region.binds .any e = true) ∨ (j < i ∧ pathTo all all.length i j = true)) ∧
    (∀ t, o.dst = some t → ∀ i oi, all[i]? = some oi → oi.dst = some t → i = j) := by
  have mem : ∀ {i : Nat} {oi : Oper}, all[i]? = some oi → (oi, i) ∈ all.zipIdx := by
    intro i oi hi
    exact List.mem_zipIdx_iff_getElem?.2 (by simpa using hi)
  have hx := List.all_eq_true.1 h _ (mem hj)
  simp only [Bool.and_eq_true] at hx
  obtain ⟨⟨h1, h2⟩, h3⟩ := hx
  refine ⟨fun e he hb => ?_, fun t ht i oi hi hd => ?_, fun t ht i oi hi hd => ?_⟩
  · have := List.all_eq_true.1 h1 e he
    simp only [hb, Bool.not_true, Bool.false_or] at this
    exact Nat.le_of_ble_eq_true this
  · have := List.all_eq_true.1 (List.all_eq_true.1 h2 t ht) _ (mem hi)
    have hw : writes oi t = true := by simp [writes, hd, Nat.beq_refl]
    simp only [hw, Bool.not_true, Bool.false_or] at this
    rcases Bool.or_eq_true _ _ |>.mp this with this | this
    · obtain ⟨e, he, hb⟩ := List.any_eq_true.1 this
      simp only [Bool.and_eq_true] at hb
      exact .inl ⟨e, he, Nat.eq_of_beq_eq_true hb.1, hb.2⟩
    · simp only [Bool.and_eq_true] at this
      exact .inr ⟨Nat.le_of_ble_eq_true this.1, this.2⟩
  · rw [ht] at h3
    have := List.all_eq_true.1 h3 _ (mem hi)
    have hw : writes oi t = true := by simp [writes, hd, Nat.beq_refl]
    simp only [hw, Bool.not_true, Bool.or_false] at this
    exact (Nat.eq_of_beq_eq_true this).symm

/-- Where what a frame holds comes from: from an operation that is done, or from the frame at the start. -/
def Prov (fr0 : Fr) (done : List (Option Nat × DV)) (fr : Fr) : Prop :=
  ∀ t d, look fr t = some d → (∃ e, (some t, e) ∈ done ∧ Imp e d) ∨ ((∀ e, (some t, e) ∉ done) ∧ ∃ d0, look fr0 t = some d0 ∧ Imp d0 d)

theorem Prov.imp {fr0 fr fr' : Fr} {done : List (Option Nat × DV)} (h : Prov fr0 done fr) (k : ∀ t d', look fr' t = some d' → ∃ d, look fr t = some d ∧ Imp d d') : Prov fr0 done fr' := by
  intro t d' hd'
  obtain ⟨d, hd, hi⟩ := k t d' hd'
  rcases h t d hd with ⟨e, he, h1⟩ | ⟨he, d0, h1, h2⟩
  · exact .inl ⟨e, he, h1.trans hi⟩
  · exact .inr ⟨he, d0, h1, h2.trans hi⟩

theorem Prov.set {fr0 fr fr' : Fr} {done : List (Option Nat × DV)} {N : Nat} {dst : Option Nat} {d : DV} (h : Prov fr0 done fr) (hs : setF N fr dst d = some fr') : Prov fr0 (done ++ [(dst, d)]) fr' := by
  cases dst with
  | none =>
    simp [setF] at hs
    subst hs
    intro t e he
    rcases h t e he with ⟨x, hx, h1⟩ | ⟨hx, d0, h1, h2⟩
    · exact .inl ⟨x, by simp [hx], h1⟩
    · exact .inr ⟨by intro e; simpa using hx e, d0, h1, h2⟩
  | some s =>
    obtain ⟨_, rfl⟩ := setF_some hs
    intro t e he
    rw [look_cons] at he
    split at he
    · rename_i hst
      subst hst
      obtain rfl := Option.some.inj he
      exact .inl ⟨d, by simp, Imp.refl _⟩
    · rename_i hst
      rcases h t e he with ⟨x, hx, h1⟩ | ⟨hx, d0, h1, h2⟩
      · exact .inl ⟨x, by simp [hx], h1⟩
      · refine .inr ⟨?_, d0, h1, h2⟩
        intro x hm
        rcases List.mem_append.1 hm with hm | hm
        · exact hx x hm
        · simp at hm; exact hst hm.1.symm


/-- What the run in the order of the text found at an operation: was it wanted, was it silent, its value, the frame that it looked at; its numbers; the memory before it and what it made of its part; the new numbers. -/
structure TE where
  b : Bool
  s : Bool
  d : DV
  fi : Fr
  F : List Nat
  hp : Hp
  nx : Nat
  hx : Hp
  nx' : Nat
def TE.FF (x : TE) : List Nat := x.F ++ fromN x.nx (x.nx' - x.nx)
def TE.out (x : TE) : Hp := aftH x.s x.FF x.hx x.hp
omit [Fam] in
theorem mem_fromN {i : Nat} : ∀ {n a : Nat}, i ∈ fromN a n ↔ a ≤ i ∧ i < a + n
  | 0, a => by simp [fromN]
  | n + 1, a => by
    simp only [fromN, List.mem_cons, mem_fromN]
    omega
theorem look_aft {s : Bool} {F : List Nat} {hx hp : Hp} {i : Nat} : look (aftH s F hx hp) i = if s = false ∧ i ∈ F then look hx i else look hp i := by
  cases s with
  | true => simp [aftH]
  | false => simp only [aftH, look_cut, true_and]

def Trace (P : Program) (ct : Cx P) (N : Nat) (all : List Oper) : List Oper → St → List TE → List (List Nat × Bool) → St → Prop
  | [], st, tr, fs, st' => tr = [] ∧ fs = [] ∧ st' = st
  | o :: r, st, tr, fs, st' => ∃ x fr1 tr' fs', tr = x :: tr' ∧ fs = (x.FF, x.s) :: fs' ∧ x.hp = st.hp ∧ x.nx = st.nx ∧ x.nx ≤ x.nx' ∧ (guardT all st.fr o).Path (x.b, x.fi) ∧
      (x.b = true → (opT P ct (lkF x.fi) o.op (keepF x.F x.hp) x.nx).Path (x.s, x.d, x.hx, x.nx')) ∧ (x.b = false → x.d = .tup [] ∧ x.s = true) ∧
      setF N x.fi o.dst x.d = some fr1 ∧ Trace P ct N all r ⟨fr1, x.out, x.nx'⟩ tr' fs' st'

theorem trace_of_path {P : Program} {ct : Cx P} {N : Nat} {all : List Oper} : ∀ (l : List Oper) (st : St) (fs : List (List Nat × Bool)) (st' : St), (runT P ct N true all l st).Path (fs, st') → ∃ tr, Trace P ct N all l st tr fs st'
  | [], st, fs, st', h => by
    have h : (fs, st') = ([], st) := h
    simp only [Prod.mk.injEq] at h
    exact ⟨[], rfl, h.1, h.2⟩
  | o :: l, st, fs, st', h => by
    unfold runT at h
    obtain ⟨⟨b, fi⟩, hg, h⟩ := T.path_bind h
    cases b with
    | true =>
      (try dsimp only at h)
      obtain ⟨⟨s, d, hx, nx'⟩, hd, h⟩ := T.path_bind h
      (try dsimp only at h)
      split at h
      · obtain ⟨fr1, hs, h⟩ := T.path_bind h
        obtain ⟨⟨fs2, st2⟩, hrec, h⟩ := T.path_bind h
        obtain ⟨tr, ht⟩ := trace_of_path l _ _ _ hrec
        have h : (fs, st') = _ := h
        simp only [Prod.mk.injEq] at h
        obtain ⟨rfl, rfl⟩ := h
        exact ⟨_, ⟨true, s, d, fi, foot st.hp (lkF fi) o.op, st.hp, st.nx, hx, nx'⟩, fr1, tr, fs2, rfl, rfl, rfl, rfl, opT_le hd, hg, fun _ => hd, fun e => by simp at e, T.path_opt hs, ht⟩
      · exact h.elim
    | false =>
      (try dsimp only at h)
      obtain ⟨fr1, hs, h⟩ := T.path_bind h
      obtain ⟨⟨fs2, st2⟩, hrec, h⟩ := T.path_bind h
      obtain ⟨tr, ht⟩ := trace_of_path l _ _ _ hrec
      have h : (fs, st') = _ := h
      simp only [Prod.mk.injEq] at h
      obtain ⟨rfl, rfl⟩ := h
      refine ⟨_, ⟨false, true, .tup [], fi, [], st.hp, st.nx, st.hp, st.nx⟩, fr1, tr, fs2, rfl, ?_, rfl, rfl, Nat.le_refl _, hg, fun e => by simp at e, fun _ => ⟨rfl, rfl⟩, T.path_opt hs, ht⟩
      simp [TE.FF, fromN]

theorem trace_spec {P : Program} {ct : Cx P} {N : Nat} {all : List Oper} {fr0 : Fr} : ∀ (l : List Oper) (st : St) (tr : List TE) (fs : List (List Nat × Bool)) (st' : St) (done : List (Option Nat × DV)),
    Trace P ct N all l st tr fs st' → Prov fr0 done st.fr →
    ∃ (h : Nat → Hp) (n : Nat → Nat), h 0 = st.hp ∧ n 0 = st.nx ∧ h l.length = st'.hp ∧ n l.length = st'.nx ∧ tr.length = l.length ∧ fs = tr.map (fun x => (x.FF, x.s)) ∧ Prov fr0 (done ++ (l.zip tr).map fun x => (x.1.dst, x.2.d)) st'.fr ∧
    ∀ (j : Nat) (o : Oper) (x : TE), l[j]? = some o → tr[j]? = some x → x.hp = h j ∧ x.nx = n j ∧ h (j + 1) = x.out ∧ n (j + 1) = x.nx' ∧ x.nx ≤ x.nx' ∧
      Prov fr0 (done ++ ((l.take j).zip (tr.take j)).map fun x => (x.1.dst, x.2.d)) x.fi ∧ (∃ fg, (guardT all fg o).Path (x.b, x.fi) ∧ Prov fr0 (done ++ ((l.take j).zip (tr.take j)).map fun x => (x.1.dst, x.2.d)) fg) ∧
      (x.b = true → (opT P ct (lkF x.fi) o.op (keepF x.F x.hp) x.nx).Path (x.s, x.d, x.hx, x.nx')) ∧ (x.b = false → x.d = .tup [] ∧ x.s = true) ∧ (∀ t, o.dst = some t → t < N)
  | [], st, tr, fs, st', done, h, hp0 => by
    obtain ⟨rfl, rfl, rfl⟩ := h
    exact ⟨fun _ => st'.hp, fun _ => st'.nx, rfl, rfl, rfl, rfl, rfl, rfl, by simpa using hp0, by intro j o x hj; simp at hj⟩
  | o :: l, st, tr, fs, st', done, h, hp0 => by
    obtain ⟨x, fr1, tr', fs', rfl, rfl, e1, e2, e3, hg, h1, h2, hs, h⟩ := h
    have hpi : Prov fr0 done x.fi := hp0.imp (guardT_fr hg)
    obtain ⟨hh, nn, q1, q2, q3, q4, hl, hfs, hfin, hall⟩ := trace_spec l _ tr' fs' st' (done ++ [(o.dst, x.d)]) h (hpi.set hs)
    refine ⟨fun j => match j with | 0 => st.hp | j + 1 => hh j, fun j => match j with | 0 => st.nx | j + 1 => nn j, rfl, rfl, q3, q4, by simp [hl], by simp [hfs], by simpa using hfin, ?_⟩
    intro j oj xj hj hjt
    cases j with
    | zero =>
      simp at hj hjt
      subst hj hjt
      exact ⟨e1, e2, q1, q2, e3, by simpa using hpi, ⟨st.fr, hg, by simpa using hp0⟩, h1, h2, fun t ht => by rw [ht] at hs; exact (setF_some hs).1⟩
    | succ j =>
      have := hall j oj xj (by simpa using hj) (by simpa using hjt)
      simpa using this

def dvOf (tr : List TE) (i : Nat) : DV := match tr[i]? with | some x => x.d | none => .any
def Touch (tr : List TE) (k i : Nat) : Prop := ∃ x, tr[k]? = some x ∧ x.s = false ∧ i ∈ x.FF

theorem mem_done {ops : List Oper} {tr : List TE} (hl : tr.length = ops.length) {j t : Nat} {e : DV} :
    (some t, e) ∈ (((ops.take j).zip (tr.take j)).map fun x => (x.1.dst, x.2.d)) ↔ ∃ i o, i < j ∧ ops[i]? = some o ∧ o.dst = some t ∧ e = dvOf tr i := by
  constructor
  · intro h
    obtain ⟨x, hx, he⟩ := List.mem_map.1 h
    obtain ⟨i, hi⟩ := List.mem_iff_getElem?.1 hx
    obtain ⟨h1, h2⟩ := List.getElem?_zip_eq_some.1 hi
    rw [List.getElem?_take] at h1 h2
    split at h1
    · rename_i hij
      rw [if_pos hij] at h2
      simp only [Prod.mk.injEq] at he
      exact ⟨i, x.1, hij, h1, he.1, by simp [dvOf, h2, he.2]⟩
    · simp at h1
  · rintro ⟨i, o, hij, ho, hd, rfl⟩
    have hlt : i < ops.length := by
      rcases Nat.lt_or_ge i ops.length with h | h
      · exact h
      · rw [List.getElem?_eq_none h] at ho; simp at ho
    have ht : ∃ x, tr[i]? = some x := ⟨tr[i]'(by omega), List.getElem?_eq_getElem _⟩
    obtain ⟨x, hx⟩ := ht
    refine List.mem_map.2 ⟨(o, x), ?_, by simp [hd, dvOf, hx]⟩
    refine List.mem_iff_getElem?.2 ⟨i, ?_⟩
    exact List.getElem?_zip_eq_some.2 ⟨by rw [List.getElem?_take, if_pos hij]; exact ho, by rw [List.getElem?_take, if_pos hij]; exact hx⟩

structure Inv (g : G) (w : World) (st : St) (nxE N : Nat) (ops : Array Oper) (tr : List TE) (h : Nat → Hp) (a : Act) (listed : Array Bool) (g' : G) (a' : Act) (w' : World) (H : Hp) : Prop where
  post : Post g w st.hp st.nx g' w' H nxE
  size : a'.tmps.size = N
  dfr : a'.defers = a.defers
  lst : ∀ (i : Nat) (o : Oper) (t : Nat), listed[i]? = some true → ops.toList[i]? = some o → o.dst = some t → ∃ v, a'.tmps[t]? = some v ∧ Rep g' w' (dvOf tr i) v
  old : ∀ t, (∀ (i : Nat) (o : Oper), listed[i]? = some true → ops.toList[i]? = some o → o.dst ≠ some t) → a'.tmps[t]? = a.tmps[t]?
  lsz : listed.size = ops.size
  cl : ∀ (k : Nat) (o : Oper) (e : Edge), listed[k]? = some true → ops.toList[k]? = some o → e ∈ o.after.toList → Region.binds .any e = true → listed[e.on]? = some true
  fresh : ∀ (k : Nat) (x : TE) (i : Nat), tr[k]? = some x → listed[k]? ≠ some true → x.nx ≤ i → i < x.nx' → g'.ρ i = none
  cut : ∀ i, ∃ c, c ≤ ops.size ∧ (∀ k, k < c → Touch tr k i → listed[k]? = some true) ∧ (∀ k, c ≤ k → Touch tr k i → listed[k]? ≠ some true) ∧ look H i = look (h c) i

/-- What the run in the order of the text says of each operation. -/
def AllT (P : Program) (ct : Cx P) (N : Nat) (ops : List Oper) (fr0 : Fr) (tr : List TE) (h : Nat → Hp) (n : Nat → Nat) : Prop :=
  ∀ (j : Nat) (o : Oper) (x : TE), ops[j]? = some o → tr[j]? = some x → x.hp = h j ∧ x.nx = n j ∧ h (j + 1) = x.out ∧ n (j + 1) = x.nx' ∧ x.nx ≤ x.nx' ∧
      Prov fr0 (((ops.take j).zip (tr.take j)).map fun x => (x.1.dst, x.2.d)) x.fi ∧ (∃ fg, (guardT ops fg o).Path (x.b, x.fi) ∧ Prov fr0 (((ops.take j).zip (tr.take j)).map fun x => (x.1.dst, x.2.d)) fg) ∧
      (x.b = true → (opT P ct (lkF x.fi) o.op (keepF x.F x.hp) x.nx).Path (x.s, x.d, x.hx, x.nx')) ∧ (x.b = false → x.d = .tup [] ∧ x.s = true) ∧ (∀ t, o.dst = some t → t < N)
/-- Where two meet, the edges lead from the later one to the earlier. -/
def Conf (ops : List Oper) (tr : List TE) : Prop :=
  ∀ (j k : Nat) (x y : TE) (i : Nat), k < j → tr[j]? = some x → tr[k]? = some y → i ∈ x.FF → i ∈ y.FF → (x.s = false ∨ y.s = false) → pathTo ops ops.length j k = true

theorem conf_of {ops : List Oper} {tr : List TE} (h : drawH ops (tr.map fun x => (x.FF, x.s)) = true) : Conf ops tr := by
  intro j k x y i hkj hx hy hix hiy hs
  unfold drawH at h
  have m1 : ((x.FF, x.s), j) ∈ (tr.map fun x => (x.FF, x.s)).zipIdx := List.mem_zipIdx_iff_getElem?.2 (by simp [hx])
  have m2 : ((y.FF, y.s), k) ∈ (tr.map fun x => (x.FF, x.s)).zipIdx := List.mem_zipIdx_iff_getElem?.2 (by simp [hy])
  have := List.all_eq_true.1 (List.all_eq_true.1 h _ m1) _ m2
  simp only [Bool.or_eq_true] at this
  rcases this with (h1 | h1) | h1
  · have : Nat.blt k j = true := Nat.ble_eq_true_of_le hkj
    rw [this] at h1; simp at h1
  · exfalso
    unfold noConf at h1
    simp only [Bool.or_eq_true, Bool.and_eq_true, Bool.not_eq_true'] at h1
    rcases h1 with ⟨h1, h2⟩ | h1
    · rcases hs with hs | hs
      · rw [hs] at h1; simp at h1
      · rw [hs] at h2; simp at h2
    · have : meets x.FF y.FF = true := List.any_eq_true.2 ⟨i, hix, memN_iff.2 hiy⟩
      rw [this] at h1; simp at h1
  · exact h1

omit [Fam] in
theorem path_listed {ops : List Oper} {listed : Array Bool} (hcl : ∀ (k : Nat) (o : Oper) (e : Edge), listed[k]? = some true → ops[k]? = some o → e ∈ o.after.toList → Region.binds .any e = true → listed[e.on]? = some true) :
    ∀ (f j i : Nat), pathTo ops f j i = true → (∀ (o : Oper) (e : Edge), ops[j]? = some o → e ∈ o.after.toList → Region.binds .any e = true → listed[e.on]? = some true) → listed[i]? = some true
  | 0, j, i, h, _ => by simp [pathTo] at h
  | f + 1, j, i, h, hj => by
    unfold pathTo at h
    split at h
    · rename_i o ho
      obtain ⟨e, he, hb⟩ := List.any_eq_true.1 h
      simp only [Bool.and_eq_true, Bool.or_eq_true] at hb
      have hl := hj o e ho he hb.1
      rcases hb.2 with h1 | h1
      · have := Nat.eq_of_beq_eq_true h1; subst this; exact hl
      · exact path_listed hcl f e.on i h1 fun o' e' ho' he' hb' => hcl e.on o' e' hl ho' he' hb'
    · simp at h

section
variable {P : Program} {ct : Cx P} {N : Nat} {ops : Array Oper} {Q : Exit → Act → World → Prop} {g g' : G} {st : St} {nxE : Nat} {a a' : Act} {w w' : World} {tr : List TE} {h : Nat → Hp} {n : Nat → Nat} {H : Hp} {listed : Array Bool}

theorem untouched (hall : AllT P ct N ops.toList st.fr tr h n) (hl : tr.length = ops.toList.length) {i : Nat} : ∀ (m c : Nat), c + m ≤ ops.size → (∀ k, c ≤ k → k < c + m → ¬ Touch tr k i) → look (h (c + m)) i = look (h c) i
  | 0, c, _, _ => rfl
  | m + 1, c, hc, hk => by
    have hlt : c + m < ops.size := by omega
    have ho : ops.toList[c + m]? = some (ops.toList[c + m]'(by simpa using hlt)) := List.getElem?_eq_getElem _
    have ht : tr[c + m]? = some (tr[c + m]'(by rw [hl]; simpa using hlt)) := List.getElem?_eq_getElem _
    obtain ⟨e1, _, e2, _⟩ := hall _ _ _ ho ht
    have hn := hk (c + m) (by omega) (by omega)
    have : c + (m + 1) = c + m + 1 := by omega
    rw [this, e2, TE.out, look_aft, if_neg, e1]
    · exact untouched hall hl m c (by omega) (fun k h1 h2 => hk k h1 (by omega))
    · rintro ⟨h1, h2⟩
      exact hn ⟨_, ht, h1, h2⟩

theorem look_at (hall : AllT P ct N ops.toList st.fr tr h n) (hl : tr.length = ops.toList.length) (hc : Conf ops.toList tr) (hI : Inv g w st nxE N ops tr h a listed g' a' w' H)
    {j : Nat} {o : Oper} {x : TE} (hj : ops.toList[j]? = some o) (hx : tr[j]? = some x) (hu : listed[j]? ≠ some true) (he : ∀ e, e ∈ o.after.toList → Region.binds .any e = true → listed[e.on]? = some true)
    {i : Nat} (hi : i ∈ x.FF) : look H i = look (h j) i := by
  have hjn : j < ops.size := by
    rcases Nat.lt_or_ge j ops.size with h | h
    · exact h
    · rw [List.getElem?_eq_none (by simpa using h)] at hj; simp at hj
  obtain ⟨c, hcn, h1, h2, h3⟩ := hI.cut i
  rw [h3]
  rcases Nat.lt_or_ge j c with hlt | hge
  · have hno : ∀ k, j ≤ k → k < j + (c - j) → ¬ Touch tr k i := by
      intro k hk1 hk2 ht
      have hlk := h1 k (by omega) ht
      by_cases hkj : k = j
      · subst hkj; exact hu hlk
      · obtain ⟨y, hy, hys, hyi⟩ := ht
        have hp := hc k j y x i (by omega) hy hx hyi hi (.inl hys)
        exact hu (path_listed hI.cl _ _ _ hp (fun o' e' ho' => hI.cl k o' e' hlk ho'))
    have := untouched hall hl (c - j) j (by omega) hno
    have e : j + (c - j) = c := by omega
    rw [e] at this
    exact this
  · have hno : ∀ k, c ≤ k → k < c + (j - c) → ¬ Touch tr k i := by
      intro k hk1 hk2 ht
      have hlk := h2 k hk1 ht
      obtain ⟨y, hy, hys, hyi⟩ := ht
      have hp := hc j k x y i (by omega) hx hy hi hyi (.inr hys)
      exact hlk (path_listed hI.cl _ _ _ hp (fun o' e' ho' he' hb' => by
        rw [hj] at ho'; obtain rfl := Option.some.inj ho'
        exact he e' he' hb'))
    have := untouched hall hl (j - c) c (by omega) hno
    have e : c + (j - c) = j := by omega
    rw [e] at this
    exact this.symm

theorem slot_ok (hok : drawOk ops.toList = true) (hF : FrOk g N st.fr a w) (hl : tr.length = ops.toList.length) (hI : Inv g w st nxE N ops tr h a listed g' a' w' H)
    {j : Nat} {o : Oper} (hj : ops.toList[j]? = some o) (hu : listed[j]? ≠ some true) (he : ∀ e, e ∈ o.after.toList → Region.binds .any e = true → listed[e.on]? = some true)
    {f : Fr} (hp : Prov st.fr (((ops.toList.take j).zip (tr.take j)).map fun x => (x.1.dst, x.2.d)) f) {t : Nat} (ht : t ∈ readsO ops.toList o) {d : DV} (hd : look f t = some d) :
    ∃ v, a'.tmps[t]? = some v ∧ Rep g' w' d v := by
  obtain ⟨h1, h2, _⟩ := drawOk_spec hok hj
  rcases hp t d hd with ⟨e, hm, hi⟩ | ⟨hm, d0, h0, hi⟩
  · obtain ⟨i, oi, hij, hoi, hdi, rfl⟩ := (mem_done hl).1 hm
    rcases h2 t ht i oi hoi hdi with ⟨ed, hed, rfl, hb⟩ | ⟨hlt, _⟩
    · obtain ⟨v, hv, hr⟩ := hI.lst _ oi t (he ed hed hb) hoi hdi
      exact ⟨v, hv, hi _ _ _ hr⟩
    · omega
  · have hnone : ∀ (i : Nat) (oi : Oper), listed[i]? = some true → ops.toList[i]? = some oi → oi.dst ≠ some t := by
      intro i oi hli hoi hdi
      rcases h2 t ht i oi hoi hdi with ⟨ed, hed, rfl, hb⟩ | ⟨hlt, hpath⟩
      · exact hm (dvOf tr ed.on) ((mem_done hl).2 ⟨ed.on, oi, h1 ed hed hb, hoi, hdi, rfl⟩)
      · exact hu (path_listed hI.cl _ _ _ hpath (fun o' e' ho' => hI.cl i o' e' hli ho'))
    obtain ⟨v, hv, hr⟩ := hF.frm t d0 h0
    exact ⟨v, (hI.old t hnone).trans hv, Rep.ext hI.post.ext _ _ (hi _ _ _ hr)⟩

theorem nx_mono (hall : AllT P ct N ops.toList st.fr tr h n) (hl : tr.length = ops.toList.length) : ∀ (m c : Nat), c + m ≤ ops.size → n c ≤ n (c + m)
  | 0, c, _ => Nat.le_refl _
  | m + 1, c, hc => by
    have hlt : c + m < ops.size := by omega
    have ho : ops.toList[c + m]? = some (ops.toList[c + m]'(by simpa using hlt)) := List.getElem?_eq_getElem _
    have ht : tr[c + m]? = some (tr[c + m]'(by rw [hl]; simpa using hlt)) := List.getElem?_eq_getElem _
    obtain ⟨_, e1, _, e2, e3, _⟩ := hall _ _ _ ho ht
    have := nx_mono hall hl m c (by omega)
    have e : c + (m + 1) = c + m + 1 := by omega
    rw [e, e2]; omega

theorem inv_put (hok : drawOk ops.toList = true) (hall : AllT P ct N ops.toList st.fr tr h n) (hl : tr.length = ops.toList.length) (hc : Conf ops.toList tr) (hn0 : n 0 = st.nx) (hnE : n ops.size = nxE) (hI : Inv g w st nxE N ops tr h a listed g' a' w' H)
    {j : Nat} {o : Oper} {x : TE} (hj : ops.toList[j]? = some o) (hx : tr[j]? = some x) (hu : listed[j]? ≠ some true) (he : ∀ e, e ∈ o.after.toList → Region.binds .any e = true → listed[e.on]? = some true)
    {g2 : G} {w2 : World} (hP : Post g' w' H x.nx g2 w2 (aftH x.s x.FF x.hx H) x.nx') {v : Value} (hr : Rep g2 w2 (dvOf tr j) v) (hN : ∀ t, o.dst = some t → t < N) :
    Inv g w st nxE N ops tr h a (listed.setIfInBounds j true) g2 (a'.put o.dst v) w2 (aftH x.s x.FF x.hx H) := by
  obtain ⟨_, _, h3⟩ := drawOk_spec hok hj
  have hjn : j < ops.size := by
    rcases Nat.lt_or_ge j ops.size with h | h
    · exact h
    · rw [List.getElem?_eq_none (by simpa using h)] at hj; simp at hj
  have hjl : j < listed.size := by rw [hI.lsz]; exact hjn
  obtain ⟨e1, e2, e3, e4, e5, _⟩ := hall j o x hj hx
  have hset : ∀ k : Nat, (listed.setIfInBounds j true)[k]? = some true ↔ k = j ∨ listed[k]? = some true := by
    intro k
    by_cases hkj : k = j
    · subst hkj; simp [hjl]
    · rw [Array.getElem?_setIfInBounds_ne (fun e => hkj e.symm)]; simp [hkj]
  have hlo : st.nx ≤ x.nx := by rw [← hn0, e2]; have := nx_mono hall hl j 0 (by omega); simpa using this
  have hhi : x.nx' ≤ nxE := by rw [← hnE, ← e4]; have := nx_mono hall hl (ops.size - (j + 1)) (j + 1) (by omega); have e : j + 1 + (ops.size - (j + 1)) = ops.size := by omega
                               rw [e] at this; exact this
  refine ⟨hI.post.then (hP.span hlo hhi), ?_, ?_, ?_, ?_, by simp [hI.lsz], ?_, ?_, ?_⟩
  · cases o.dst <;> simp [Act.put, hI.size]
  · rw [put_defers]; exact hI.dfr
  · intro i oi t hi hoi hdi
    by_cases hij : i = j
    · subst hij
      obtain rfl : oi = o := by rw [hj] at hoi; exact (Option.some.inj hoi).symm
      rw [hdi]
      exact ⟨v, by simp [Act.put, hI.size, hN t hdi], hr⟩
    · have hi' : listed[i]? = some true := ((hset i).1 hi).resolve_left hij
      obtain ⟨u, hu', hur⟩ := hI.lst i oi t hi' hoi hdi
      refine ⟨u, ?_, Rep.ext hP.ext _ _ hur⟩
      cases hdj : o.dst with
      | none => simpa [Act.put] using hu'
      | some s =>
        have hst : s ≠ t := by
          intro e; subst e
          exact hij (h3 s hdj i oi hoi hdi)
        simp only [Act.put]
        rw [Array.getElem?_setIfInBounds_ne hst]
        exact hu'
  · intro t ht
    rw [← hI.old t (fun i oi hli => ht i oi ((hset i).2 (.inr hli)))]
    cases hdj : o.dst with
    | none => rfl
    | some s =>
      have hst : s ≠ t := by intro e; subst e; exact ht j o ((hset j).2 (.inl rfl)) hj hdj
      simp only [Act.put]
      rw [Array.getElem?_setIfInBounds_ne hst]
  · intro k ok e hk hok' he' hb
    rw [hset] at hk ⊢
    rcases hk with rfl | hk
    · rw [hj] at hok'; obtain rfl := Option.some.inj hok'
      exact .inr (he e he' hb)
    · exact .inr (hI.cl k ok e hk hok' he' hb)
  · intro k y i hy hk h1 h2
    have hkj : k ≠ j := fun e => hk ((hset k).2 (.inl e))
    have hk' : listed[k]? ≠ some true := fun e => hk ((hset k).2 (.inr e))
    have hkn : k < ops.size := by
      rcases Nat.lt_or_ge k tr.length with h | h
      · rw [hl] at h; simpa using h
      · rw [List.getElem?_eq_none h] at hy; simp at hy
    have hok' : ops.toList[k]? = some (ops.toList[k]'(by simpa using hkn)) := List.getElem?_eq_getElem _
    obtain ⟨_, f2, _, f4, _⟩ := hall k _ y hok' hy
    rw [hP.out i ?_]
    · exact hI.fresh k y i hy hk' h1 h2
    · rcases Nat.lt_or_ge k j with hlt | hge
      · left
        have := nx_mono hall hl (j - (k + 1)) (k + 1) (by omega)
        have e : k + 1 + (j - (k + 1)) = j := by omega
        rw [e] at this
        omega
      · right
        have := nx_mono hall hl (k - (j + 1)) (j + 1) (by omega)
        have e : j + 1 + (k - (j + 1)) = k := by omega
        rw [e] at this
        omega
  · intro i
    by_cases ht : x.s = false ∧ i ∈ x.FF
    · refine ⟨j + 1, by omega, fun k hk hT => ?_, fun k hk hT hlk => ?_, ?_⟩
      · rw [hset]
        by_cases hkj : k = j
        · exact .inl hkj
        · obtain ⟨y, hy, hys, hyi⟩ := hT
          have hp := hc j k x y i (by omega) hx hy ht.2 hyi (.inr hys)
          exact .inr (path_listed hI.cl _ _ _ hp (fun o' e' ho' he' hb' => by
            rw [hj] at ho'; obtain rfl := Option.some.inj ho'
            exact he e' he' hb'))
      · have hlk := ((hset k).1 hlk).resolve_left (by omega)
        obtain ⟨y, hy, hys, hyi⟩ := hT
        have hp := hc k j y x i (by omega) hy hx hyi ht.2 (.inl hys)
        exact hu (path_listed hI.cl _ _ _ hp (fun o' e' ho' => hI.cl k o' e' hlk ho'))
      · rw [look_aft, if_pos ht, e3, TE.out, look_aft, if_pos ht]
    · obtain ⟨c, hcn, h1, h2, h3'⟩ := hI.cut i
      refine ⟨c, hcn, fun k hk hT => (hset k).2 (.inr (h1 k hk hT)), fun k hk hT hlk => ?_, ?_⟩
      · rcases (hset k).1 hlk with rfl | hlk
        · obtain ⟨y, hy, hys, hyi⟩ := hT
          rw [hx] at hy; obtain rfl := Option.some.inj hy
          exact ht ⟨hys, hyi⟩
        · exact h2 k hk hT hlk
      · rw [look_aft, if_neg ht]; exact h3'

/-- One operation, at its turn. -/
theorem op_step {o : Oper} {x : TE} {ev : Operand → Value} (hR : Rel g' H w') (hat : ∀ i, i ∈ x.F → look H i = look x.hp i) (hfr : ∀ i, x.nx ≤ i → i < x.nx' → g'.ρ i = none) (hnb : ∀ i, noBlock ≤ i → g'.ρ i = none)
    (hlk : ∀ y, y ∈ o.op.operands.toList → ∀ d, lkF x.fi y = some d → Rep g' w' d (ev y)) (hop : (opT P ct (lkF x.fi) o.op (keepF x.F x.hp) x.nx).Path (x.s, x.d, x.hx, x.nx')) :
    EOk P o ev g' w' H x.nx x.d (aftH x.s x.FF x.hx H) x.nx' := by
  have hK : ∀ i e, look (keepF x.F x.hp) i = some e → look H i = some e := by
    intro i e h
    rw [look_keepF] at h
    split at h
    · rename_i hi; rw [hat i hi]; exact h
    · simp at h
  have hRK := hR.less hK
  cases hs : x.s with
  | true =>
    rw [hs] at hop
    obtain ⟨e1, e2, hev⟩ := opT_sil hop
    rw [e2]
    exact (evS_ok hRK hlk hev).eok hR
  | false =>
    rw [hs] at hop
    intro rd a next Q ha hn
    refine opT_ok hRK hfr (fun _ => hnb) hlk hop |>.1 rd a next Q ha fun v w2 g2 hP hr => hn v w2 g2 ?_ hr
    refine Post.part x.FF hR hK (fun i hi => ?_) (fun i h1 h2 => ?_) hP (fun i => by rw [look_aft]; simp)
    · rw [look_keepF, if_neg (fun h => hi (by simp [TE.FF, h]))]
    · simp only [TE.FF, List.mem_append, mem_fromN]
      right; omega
end
end Go.DF
