import Derived.Test.YtfacddeaobogjaaF12
import Derived.Test.YtfacddeaobogjaaG4
set_option linter.unusedVariables false
set_option linter.unusedSimpArgs false
set_option linter.unnecessarySimpa false
set_option linter.unusedVariables false
set_option linter.unusedSimpArgs false
/- The law on New. -/
namespace Go.Proofs.Ytfacddeaobogjaa.N
open Go.DF
set_option maxRecDepth 100000
def edgesOf (g : Option (Rows × Rows)) : Es := match g with | none => [] | some (A, B) => edgesTo A A.length
def okG (g : Option (Rows × Rows)) : Prop := match g with | none => False | some (A, B) => A.length ≤ 4096 ∧ (edgesTo A A.length).length ≤ 1000000000
def c25 : PureC Try.prog where
  f := 25
  sig := [.dat false gC]
  per := true
  spec := fun x => .ob (okG x.1) none (.leaf (.per (.sl eC) (edgesOf x.1)))
  body := hasBody_of Try.func25 (by kernel_rfl) (by kernel_rfl)
  ok := fun x d h => by
    obtain ⟨h1, h⟩ := h
    obtain rfl : d = _ := h
    obtain ⟨g, u⟩ := x
    match g, h1 with
    | some (A, B), h1 => exact p25 A B h1.1 h1.2
def c11 : PureC Try.prog where
  f := 11
  sig := []
  per := false
  spec := fun _ => .leaf (.bool (.lit true))
  body := hasBody_of Try.func11 (by kernel_rfl) (by kernel_rfl)
  ok := fun x d h => by obtain rfl : d = _ := h; exact p11
theorem rise_extR {α : Type} {R : α → α → Prop} (hA : ∀ a b, R a b → R b a → False) : ∀ {l m : List α}, l.Pairwise R → m.Pairwise R → (∀ x, x ∈ l ↔ x ∈ m) → l = m
  | [], [], _, _, _ => rfl
  | [], b :: m, _, _, h => absurd ((h b).2 (List.mem_cons_self ..)) (by simp)
  | a :: l, [], _, _, h => absurd ((h a).1 (List.mem_cons_self ..)) (by simp)
  | a :: l, b :: m, hl, hm, h => by
    rw [List.pairwise_cons] at hl hm
    have hab : a = b := by
      have h1 : a ∈ b :: m := (h a).1 (List.mem_cons_self ..)
      have h2 : b ∈ a :: l := (h b).2 (List.mem_cons_self ..)
      rcases List.mem_cons.1 h1 with h1 | h1
      · exact h1
      · rcases List.mem_cons.1 h2 with h2 | h2
        · exact h2.symm
        · exact (hA _ _ (hl.1 b h2) (hm.1 a h1)).elim
    subst hab
    rw [rise_extR hA hl.2 hm.2 fun x => ⟨fun hx => ?_, fun hx => ?_⟩]
    · rcases List.mem_cons.1 ((h x).1 (List.mem_cons_of_mem _ hx)) with h' | h'
      · subst h'; have := hl.1 x hx; exact (hA _ _ this this).elim
      · exact h'
    · rcases List.mem_cons.1 ((h x).2 (List.mem_cons_of_mem _ hx)) with h' | h'
      · subst h'; have := hm.1 x hx; exact (hA _ _ this this).elim
      · exact h'
def Bef (a b : Int × Int) : Prop := a.1 < b.1 ∨ a.1 = b.1 ∧ a.2 < b.2
instance (a b : Int × Int) : Decidable (Bef a b) := inferInstanceAs (Decidable (_ ∨ _))
theorem bef_iff (a b : Int × Int) : bef a b = true ↔ Bef a b := by
  unfold bef Bef
  simp
theorem bef_no (a b : Int × Int) : bef a b = false ↔ ¬ Bef a b := by
  rw [← bef_iff]; simp
theorem Bef.asym (a b : Int × Int) (h : Bef a b) (k : Bef b a) : False := by unfold Bef at *; omega
theorem Bef.tr {a b c : Int × Int} (h : Bef a b) (k : Bef b c) : Bef a c := by unfold Bef at *; omega
theorem Bef.tri (a b : Int × Int) : Bef a b ∨ a = b ∨ Bef b a := by
  unfold Bef
  rcases Int.lt_trichotomy a.1 b.1 with h | h | h
  · exact .inl (.inl h)
  · rcases Int.lt_trichotomy a.2 b.2 with k | k | k
    · exact .inl (.inr ⟨h, k⟩)
    · exact .inr (.inl (Prod.ext h k))
    · exact .inr (.inr (.inr ⟨h.symm, k⟩))
  · exact .inr (.inr (.inl h))
theorem putE_cons (a : Int × Int) (l : Es) (x : Int × Int) : putE (a :: l) x = if Bef a x then a :: putE l x else if a = x then a :: l else x :: a :: l := by
  by_cases h : Bef a x
  · rw [if_pos h]
    have hb := (bef_iff _ _).2 h
    unfold putE
    simp only [List.takeWhile_cons, hb, if_true, List.length_cons, List.getD_cons_succ, List.take_succ_cons, List.drop_succ_cons]
    cases l.getD (l.takeWhile (bef · x)).length (-1, 0) == x <;> simp
  · rw [if_neg h]
    have hb := (bef_no _ _).2 h
    unfold putE
    simp only [List.takeWhile_cons, hb, List.getD_cons_zero, Bool.false_eq_true, if_false, List.length_nil, List.take_zero, List.drop_zero]
    by_cases e : a = x
    · simp [e]
    · have : (a == x) = false := beq_eq_false_iff_ne.2 e
      simp [this, e]
theorem putE_mem (x : Int × Int) (hx : x ≠ (-1, 0)) : ∀ (l : Es) (y : Int × Int), y ∈ putE l x ↔ y = x ∨ y ∈ l
  | [], y => by
    have : (((-1, 0) : Int × Int) == x) = false := beq_eq_false_iff_ne.2 (Ne.symm hx)
    simp [putE, this]
  | a :: l, y => by
    rw [putE_cons]
    split
    · rw [List.mem_cons, putE_mem x hx l y, List.mem_cons]
      constructor
      · rintro (h | h | h) <;> simp [h]
      · rintro (h | h | h) <;> simp [h]
    · split
      · rename_i e; subst e; simp
      · simp
theorem putE_rise (x : Int × Int) (hx : x ≠ (-1, 0)) : ∀ l : Es, l.Pairwise Bef → (putE l x).Pairwise Bef
  | [], _ => by
    have : (((-1, 0) : Int × Int) == x) = false := beq_eq_false_iff_ne.2 (Ne.symm hx)
    simp [putE, this]
  | a :: l, h => by
    rw [putE_cons]
    have h' := List.pairwise_cons.1 h
    split
    · rename_i hb
      refine List.pairwise_cons.2 ⟨fun y hy => ?_, putE_rise x hx l h'.2⟩
      rcases (putE_mem x hx l y).1 hy with e | e
      · rw [e]; exact hb
      · exact h'.1 y e
    · split
      · exact h
      · rename_i hb he
        have hxa : Bef x a := by
          rcases Bef.tri a x with k | k | k
          · exact absurd k hb
          · exact absurd k he
          · exact k
        refine List.pairwise_cons.2 ⟨fun y hy => ?_, h⟩
        rcases List.mem_cons.1 hy with e | e
        · rw [e]; exact hxa
        · exact hxa.tr (h'.1 y e)
theorem putAll_facts : ∀ (es l : Es), (∀ x ∈ es, x ≠ (-1, 0)) → l.Pairwise Bef → (es.foldl putE l).Pairwise Bef ∧ ∀ y, y ∈ es.foldl putE l ↔ y ∈ l ∨ y ∈ es
  | [], l, _, h => ⟨h, fun y => by simp⟩
  | a :: es, l, hx, h => by
    have h1 := putE_rise a (hx a (List.mem_cons_self ..)) l h
    obtain ⟨k1, k2⟩ := putAll_facts es (putE l a) (fun x hm => hx x (List.mem_cons_of_mem _ hm)) h1
    refine ⟨k1, fun y => ?_⟩
    rw [List.foldl_cons, k2, putE_mem a (hx a (List.mem_cons_self ..)), List.mem_cons]
    constructor
    · rintro ((h | h) | h) <;> simp [h]
    · rintro (h | h | h) <;> simp [h]
theorem edgesTo_mem (A : Rows) (k : Nat) (y : Int × Int) : y ∈ edgesTo A k ↔ ∃ i, i < k ∧ y.1 = (i : Int) ∧ y.2 ∈ A.getD i [] := by
  unfold edgesTo rowE
  rw [List.mem_flatMap]
  constructor
  · rintro ⟨i, hi, h⟩
    obtain ⟨j, hj, rfl⟩ := List.mem_map.1 h
    exact ⟨i, List.mem_range.1 hi, rfl, hj⟩
  · rintro ⟨i, hi, h1, h2⟩
    exact ⟨i, List.mem_range.2 hi, List.mem_map.2 ⟨y.2, h2, Prod.ext h1.symm rfl⟩⟩
theorem edgesTo_rise (A : Rows) (hA : ∀ i, (A.getD i []).Pairwise (· < ·)) : ∀ k, (edgesTo A k).Pairwise Bef
  | 0 => by simp [edgesTo]
  | k + 1 => by
    rw [edgesTo_succ, List.pairwise_append]
    refine ⟨edgesTo_rise A hA k, ?_, fun a ha b hb => ?_⟩
    · unfold rowE
      rw [List.pairwise_map]
      exact (hA k).imp fun h => .inr ⟨rfl, h⟩
    · obtain ⟨i, hi, h1, _⟩ := (edgesTo_mem A k a).1 ha
      obtain ⟨j, hj, rfl⟩ := List.mem_map.1 hb
      exact .inl (by rw [h1]; simp only; omega)
theorem gErr_zero {n : Int} {es : Es} (h : gErr n es = 0) : 0 ≤ n ∧ n ≤ 4096 ∧ es.length ≤ 65536 ∧ ∀ x ∈ es, 0 ≤ x.1 ∧ x.1 < n ∧ 0 ≤ x.2 ∧ x.2 < n := by
  unfold gErr at h
  split at h
  · exact absurd h (by decide)
  · split at h
    · exact absurd h (by decide)
    · split at h
      · exact absurd h (by decide)
      · rename_i h1 h2 h3
        refine ⟨by omega, by omega, by omega, fun x hx => ?_⟩
        have := h3
        rw [List.any_eq_true] at this
        have hb : badE n x = false := by
          cases hb : badE n x
          · rfl
          · exact absurd ⟨x, hx, hb⟩ this
        unfold badE at hb
        simp only [Bool.or_eq_false_iff, Bool.not_eq_false', Bool.and_eq_true, decide_eq_true_eq] at hb
        omega
theorem setTo_all (ls : Rows) (k : Nat) (h : ls.length ≤ k) : setTo ls k = ls.map uniq := by
  unfold setTo
  rw [List.take_of_length_le h, List.drop_eq_nil_of_le h, List.append_nil]
abbrev gA (n : Int) (es : Es) : Rows := setTo (rowsA n es es.length) n.toNat
abbrev gB (n : Int) (es : Es) : Rows := setTo (rowsB n es es.length) n.toNat
theorem gA_len (n : Int) (es : Es) : (gA n es).length = n.toNat := by rw [setTo_len, rowsA_len]
theorem gB_len (n : Int) (es : Es) : (gB n es).length = n.toNat := by rw [setTo_len, rowsB_len]
theorem uniq_nil : uniq [] = [] := by simp [uniq, srt, Lib.compact, Lib.compactUpTo]
theorem gA_get (n : Int) (es : Es) (i : Nat) : (gA n es).getD i [] = if i < n.toNat then uniq (outs es es.length i) else [] := by
  unfold gA
  rw [setTo_all _ _ (by rw [rowsA_len]; omega), List.getD_eq_getElem?_getD, List.getElem?_map]
  unfold rowsA
  rw [List.getElem?_map]
  by_cases h : i < n.toNat
  · simp [h]
  · simp [h]
theorem gB_get (n : Int) (es : Es) (i : Nat) : (gB n es).getD i [] = if i < n.toNat then uniq (ins es es.length i) else [] := by
  unfold gB
  rw [setTo_all _ _ (by rw [rowsB_len]; omega), List.getD_eq_getElem?_getD, List.getElem?_map]
  unfold rowsB
  rw [List.getElem?_map]
  by_cases h : i < n.toNat
  · simp [h]
  · simp [h]
theorem outs_mem (es : Es) (i : Nat) (x : Int) : x ∈ outs es es.length i ↔ ((i : Int), x) ∈ es := by
  unfold outs
  rw [List.take_length, List.mem_map]
  constructor
  · rintro ⟨y, hy, rfl⟩
    obtain ⟨h1, h2⟩ := List.mem_filter.1 hy
    have : y.1 = (i : Int) := by simpa using h2
    rw [← this]; exact h1
  · intro h
    exact ⟨((i : Int), x), List.mem_filter.2 ⟨h, by simp⟩, rfl⟩
theorem ins_mem (es : Es) (i : Nat) (x : Int) : x ∈ ins es es.length i ↔ (x, (i : Int)) ∈ es := by
  unfold ins
  rw [List.take_length, List.mem_map]
  constructor
  · rintro ⟨y, hy, rfl⟩
    obtain ⟨h1, h2⟩ := List.mem_filter.1 hy
    have : y.2 = (i : Int) := by simpa using h2
    rw [← this]; exact h1
  · intro h
    exact ⟨(x, (i : Int)), List.mem_filter.2 ⟨h, by simp⟩, rfl⟩
theorem gA_rise (n : Int) (es : Es) (i : Nat) : ((gA n es).getD i []).Pairwise (· < ·) := by
  rw [gA_get]; split
  · exact uniq_rise _
  · exact List.Pairwise.nil
theorem gB_rise (n : Int) (es : Es) (i : Nat) : ((gB n es).getD i []).Pairwise (· < ·) := by
  rw [gB_get]; split
  · exact uniq_rise _
  · exact List.Pairwise.nil
theorem gA_mem {n : Int} {es : Es} (h : gErr n es = 0) (i : Nat) (x : Int) : x ∈ (gA n es).getD i [] ↔ ((i : Int), x) ∈ es := by
  rw [gA_get]
  obtain ⟨h1, h2, h3, h4⟩ := gErr_zero h
  split
  · rw [uniq_mem, outs_mem]
  · refine ⟨fun h => absurd h (by simp), fun h => ?_⟩
    have := h4 _ h
    simp only at this
    omega
theorem gB_mem {n : Int} {es : Es} (h : gErr n es = 0) (i : Nat) (x : Int) : x ∈ (gB n es).getD i [] ↔ (x, (i : Int)) ∈ es := by
  rw [gB_get]
  obtain ⟨h1, h2, h3, h4⟩ := gErr_zero h
  split
  · rw [uniq_mem, ins_mem]
  · refine ⟨fun h => absurd h (by simp), fun h => ?_⟩
    have := h4 _ h
    simp only at this
    omega
theorem putAll_rise {n : Int} {es : Es} (h : gErr n es = 0) : (putAll es).Pairwise Bef ∧ ∀ y, y ∈ putAll es ↔ y ∈ es := by
  obtain ⟨h1, h2, h3, h4⟩ := gErr_zero h
  obtain ⟨k1, k2⟩ := putAll_facts es [] (fun x hx e => by have := h4 x hx; rw [e] at this; simp at this) List.Pairwise.nil
  exact ⟨k1, fun y => by unfold putAll; rw [k2]; simp⟩
theorem edges_eq {n : Int} {es : Es} (h : gErr n es = 0) : edgesTo (gA n es) (gA n es).length = putAll es := by
  obtain ⟨k1, k2⟩ := putAll_rise h
  obtain ⟨h1, h2, h3, h4⟩ := gErr_zero h
  refine rise_extR Bef.asym (edgesTo_rise _ (gA_rise n es) _) k1 fun y => ?_
  rw [k2, edgesTo_mem, gA_len]
  constructor
  · rintro ⟨i, hi, e, hm⟩
    have := (gA_mem h i y.2).1 hm
    rw [← e] at this; exact this
  · intro hy
    have := h4 y hy
    refine ⟨y.1.toNat, by omega, by omega, (gA_mem h _ _).2 ?_⟩
    rw [show ((y.1.toNat : Nat) : Int) = y.1 from by omega]; exact hy
theorem putAll_le (es : Es) : (putAll es).length ≤ es.length := by
  have := putAll_len es []
  unfold putAll; simpa using this
theorem p5 (n : Int) (es : Es) : Pure1 Try.prog 5 [.int .i64 (.sym n), .per (.sl eC) es] (.bool (.sym true)) := by
  refine pure1_of_exec (ct := (cx0 [c11, c20, c21, c22, c24, c25] [] []).deep body48 100 20) [] Try.func5 rfl rfl ?_
  refine cast_goal (p := (Decidable.decide ((100 : Int) < (↑(List.length es) : Int)) = Bool.true → Bool.true = Bool.true ∧ True) ∧ (Decidable.decide ((100 : Int) < (↑(List.length es) : Int)) = Bool.false → List.length es ≤ (1000000 : Nat) ∧ List.length es ≤ (1000000 : Nat) ∧ ((Go.Proofs.Ytfacddeaobogjaa.N.gErr n es != Go.Proofs.Ytfacddeaobogjaa.N.gErr n es || !Option.isNone (Go.Proofs.Ytfacddeaobogjaa.N.gDat n es) == (Go.Proofs.Ytfacddeaobogjaa.N.gErr n es != (0 : Int))) = Bool.true → Bool.false = Bool.true ∧ True) ∧ ((Go.Proofs.Ytfacddeaobogjaa.N.gErr n es != Go.Proofs.Ytfacddeaobogjaa.N.gErr n es || !Option.isNone (Go.Proofs.Ytfacddeaobogjaa.N.gDat n es) == (Go.Proofs.Ytfacddeaobogjaa.N.gErr n es != (0 : Int))) = Bool.false → (Option.isNone (Go.Proofs.Ytfacddeaobogjaa.N.gDat n es) = Bool.true → Bool.true = Bool.true ∧ True) ∧ (Option.isNone (Go.Proofs.Ytfacddeaobogjaa.N.gDat n es) = Bool.false → (Option.isNone (Go.Proofs.Ytfacddeaobogjaa.N.gDat n es) = Bool.true → (((0 : Int) == n) = Bool.true → Go.Proofs.Ytfacddeaobogjaa.N.okG (Go.Proofs.Ytfacddeaobogjaa.N.gDat n es) ∧ List.length (Go.Proofs.Ytfacddeaobogjaa.N.edgesOf (Go.Proofs.Ytfacddeaobogjaa.N.gDat n es)) ≤ (1000000000 : Nat) ∧ Go.Proofs.Ytfacddeaobogjaa.N.eqE (Go.Proofs.Ytfacddeaobogjaa.N.edgesOf (Go.Proofs.Ytfacddeaobogjaa.N.gDat n es)) (Go.Proofs.Ytfacddeaobogjaa.N.rE n es) = Bool.true ∧ True) ∧ (((0 : Int) == n) = Bool.false → Bool.false = Bool.true ∧ True)) ∧ (Option.isNone (Go.Proofs.Ytfacddeaobogjaa.N.gDat n es) = Bool.false → Option.isSome (Go.Proofs.Ytfacddeaobogjaa.N.gDat n es) = Bool.true ∧ (((↑(List.length (Prod.fst (Option.getD (Go.Proofs.Ytfacddeaobogjaa.N.gDat n es) ([], [])))) : Int) == n) = Bool.true → Go.Proofs.Ytfacddeaobogjaa.N.okG (Go.Proofs.Ytfacddeaobogjaa.N.gDat n es) ∧ List.length (Go.Proofs.Ytfacddeaobogjaa.N.edgesOf (Go.Proofs.Ytfacddeaobogjaa.N.gDat n es)) ≤ (1000000000 : Nat) ∧ Go.Proofs.Ytfacddeaobogjaa.N.eqE (Go.Proofs.Ytfacddeaobogjaa.N.edgesOf (Go.Proofs.Ytfacddeaobogjaa.N.gDat n es)) (Go.Proofs.Ytfacddeaobogjaa.N.rE n es) = Bool.true ∧ True) ∧ (((↑(List.length (Prod.fst (Option.getD (Go.Proofs.Ytfacddeaobogjaa.N.gDat n es) ([], [])))) : Int) == n) = Bool.false → Bool.false = Bool.true ∧ True)))))) (by kernel_rfl) ?_
  refine ⟨fun _ => ⟨rfl, trivial⟩, fun h100 => ?_⟩
  have h100 : es.length ≤ 100 := by have := of_decide_eq_false h100; omega
  have hD : Option.isNone (gDat n es) = (gErr n es != 0) := by
    unfold gDat
    by_cases h : gErr n es = 0
    · rw [if_pos h, h]; rfl
    · rw [if_neg h]; simp [h]
  have hbad : (gErr n es != gErr n es || !Option.isNone (gDat n es) == (gErr n es != (0 : Int))) = false := by
    rw [hD]; cases gErr n es != 0 <;> simp
  have main : gErr n es = 0 → okG (gDat n es) ∧ List.length (edgesOf (gDat n es)) ≤ 1000000000 ∧ eqE (edgesOf (gDat n es)) (rE n es) = true ∧ True := fun h => by
    have e : gDat n es = some (gA n es, gB n es) := by unfold gDat; rw [if_pos h]
    obtain ⟨h1, h2, h3, h4⟩ := gErr_zero h
    have he := edges_eq h
    have hl := putAll_le es
    rw [e]
    refine ⟨⟨by rw [gA_len]; omega, by rw [he]; omega⟩, by show (edgesTo (gA n es) (gA n es).length).length ≤ _; rw [he]; omega, ?_, trivial⟩
    unfold eqE rE
    rw [if_pos h, decide_eq_true_iff]; exact he
  refine ⟨by omega, by omega, fun h => absurd h (by rw [hbad]; simp), fun _ => ⟨fun _ => ⟨rfl, trivial⟩, fun hn => ?_⟩⟩
  have h0 : gErr n es = 0 := by rw [hD] at hn; simpa using hn
  have e : gDat n es = some (gA n es, gB n es) := by unfold gDat; rw [if_pos h0]
  obtain ⟨h1, h2, h3, h4⟩ := gErr_zero h0
  have hlen : (((List.length (Prod.fst (Option.getD (gDat n es) ([], []))) : Nat) : Int) == n) = true := by
    rw [e]; simp only [Option.getD_some, beq_iff_eq]; rw [gA_len]; omega
  refine ⟨fun h => absurd h (by rw [hn]; simp), fun _ => ⟨by rw [e]; rfl, fun _ => main h0, fun h => absurd hlen (by rw [h]; simp)⟩⟩
end Go.Proofs.Ytfacddeaobogjaa.N
