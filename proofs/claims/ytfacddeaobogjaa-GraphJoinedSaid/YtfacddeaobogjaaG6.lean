import Derived.Test.YtfacddeaobogjaaF12
import Derived.Test.YtfacddeaobogjaaG5
set_option linter.unusedVariables false
set_option linter.unusedSimpArgs false
set_option linter.unnecessarySimpa false
set_option linter.unusedVariables false
set_option linter.unusedSimpArgs false
/- BinarySearch, Has, and the law on many edges. -/
namespace Go.Proofs.Ytfacddeaobogjaa.N
open Go.DF
set_option maxRecDepth 100000
noncomputable def body57 : List (Body Try.prog) := [⟨71, Try.f71, Try.func71, by kernel_rfl, by kernel_rfl, false⟩, ⟨72, Try.f72, Try.func72, by kernel_rfl, by kernel_rfl, false⟩]
noncomputable def body28 : List (Body Try.prog) := [⟨37, Try.f37, Try.func37, by kernel_rfl, by kernel_rfl, false⟩, ⟨23, Try.f23, Try.func23, by kernel_rfl, by kernel_rfl, false⟩]
theorem p70 (x : Int) : Pure1 Try.prog 70 [.int .i64 (.sym x)] (.bool (.lit false)) := by
  apply @pure1_of_exec _ Try.prog (cx0 [] [] []) 70 Try.f70 [.int .i64 (.sym x)] (.bool (.lit false)) [] Try.func70 rfl rfl
  apply @cast_goal ((x != x) = Bool.false ∧ True) _ (by kernel_rfl)
  simp
theorem p72 (x : Int) : Pure1 Try.prog 72 [.int .i64 (.sym x)] (.bool (.lit false)) := by
  apply @pure1_of_exec _ Try.prog (cx0 [] [] []) 72 Try.f72 [.int .i64 (.sym x)] (.bool (.lit false)) [] Try.func72 rfl rfl
  apply @cast_goal ((x != x) = Bool.false ∧ True) _ (by kernel_rfl)
  simp
def c70 : PureC Try.prog where
  f := 70
  sig := [.dat false (.int .i64)]
  per := false
  spec := fun x => .leaf (.bool (.lit false))
  body := hasBody_of Try.func70 (by kernel_rfl) (by kernel_rfl)
  ok := fun x d h => by obtain rfl : d = _ := h; exact p70 x.1
def c72 : PureC Try.prog where
  f := 72
  sig := [.dat false (.int .i64)]
  per := false
  spec := fun x => .leaf (.bool (.lit false))
  body := hasBody_of Try.func72 (by kernel_rfl) (by kernel_rfl)
  ok := fun x d h => by obtain rfl : d = _ := h; exact p72 x.1
theorem i64_id (x : Int) (h : -9223372036854775808 ≤ x ∧ x ≤ 9223372036854775807) : IntKind.i64.wrap x = x := by rw [IntKind.wrap_i64]; omega
theorem u64_id (x : Int) (h : 0 ≤ x ∧ x ≤ 18446744073709551615) : IntKind.u64.wrap x = x := by rw [IntKind.wrap_u64]; omega
theorem half_id (x : Int) (h : 0 ≤ x ∧ x ≤ 9223372036854775807) : IntKind.i64.wrap (shrI IntKind.u64 (IntKind.u64.wrap x) 1) = x / 2 := by
  rw [u64_id x (by omega)]
  have e : shrI IntKind.u64 x 1 = x / 2 := by
    show x.fdiv (2 ^ (min (1 : Int).toNat 64)) = x / 2
    rw [show (2 : Int) ^ (min (1 : Int).toNat 64) = 2 from rfl, Int.fdiv_eq_ediv_of_nonneg _ (by omega)]
  rw [e, i64_id _ (by omega)]
def inv57 (l : List Int) (x : Int) : LInv where
  α := Nat × Nat
  S := fun k => ⟨[(0, .per (.sl (.int .i64)) l), (1, .int .i64 (.sym x)), (6, .int .i64 (.sym l.length)), (7, .int .i64 (.sym k.1)), (8, .int .i64 (.sym k.2))], [], 0⟩
  p := fun k => k.1 ≤ k.2 ∧ k.2 ≤ l.length ∧ (∀ i, i < k.1 → l.getD i 0 < x) ∧ ∀ i, k.2 ≤ i → i < l.length → x ≤ l.getD i 0
  m := fun k => k.2 - k.1
def below (l : List Int) (x : Int) : Nat := (l.takeWhile fun y => decide (y < x)).length
def isIn (l : List Int) (x : Int) : Bool := decide (x ∈ l)
theorem below_at {l : List Int} {x : Int} : ∀ {l : List Int} {j : Nat}, j ≤ l.length → (∀ i, i < j → l.getD i 0 < x) → (∀ h : j < l.length, x ≤ l[j]) → below l x = j
  | [], j, h, _, _ => by simp at h; subst h; rfl
  | a :: l, 0, _, _, h2 => by
    have := h2 (by simp)
    simp at this
    unfold below
    rw [List.takeWhile_cons, if_neg (by simp; omega)]; rfl
  | a :: l, j + 1, h, h1, h2 => by
    have h0 := h1 0 (by omega)
    simp at h0
    unfold below
    rw [List.takeWhile_cons, if_pos (by simpa using h0), List.length_cons]
    have := below_at (x := x) (l := l) (j := j) (by simpa using h) (fun i hi => by have := h1 (i + 1) (by omega); simpa using this) (fun hj => by have := h2 (by simpa using hj); simpa using this)
    unfold below at this; rw [this]
theorem p57 (l : List Int) (x : Int) (hl : l.length < 4611686018427387904) (hs : l.Pairwise (· < ·)) : Pure1 Try.prog 57 [.per (.sl (.int .i64)) l, .int .i64 (.sym x)] (.tup [.int .i64 (.sym (below l x)), .bool (.sym (isIn l x))]) := by
  refine pure1_of_exec (ct := (cx0 [c70] [] []).deep body57 100 20) [(3, inv57 l x)] Try.func57 rfl rfl ?_
  apply @cast_goal ((∃ (a : Nat × Nat), (l = l ∧ x = x ∧ (↑(List.length l) : Int) = (↑(List.length l) : Int) ∧ (0 : Int) = (↑(Prod.fst a) : Int) ∧ (↑(List.length l) : Int) = (↑(Prod.snd a) : Int)) ∧ Prod.fst a ≤ Prod.snd a ∧ Prod.snd a ≤ List.length l ∧ (∀ (i : Nat), i < Prod.fst a → List.getD l i (0 : Int) < x) ∧ ∀ (i : Nat), Prod.snd a ≤ i → i < List.length l → x ≤ List.getD l i (0 : Int)) ∧ ∀ (a : Nat × Nat), (Prod.fst a ≤ Prod.snd a ∧ Prod.snd a ≤ List.length l ∧ (∀ (i : Nat), i < Prod.fst a → List.getD l i (0 : Int) < x) ∧ ∀ (i : Nat), Prod.snd a ≤ i → i < List.length l → x ≤ List.getD l i (0 : Int)) → (Decidable.decide ((↑(Prod.fst a) : Int) < (↑(Prod.snd a) : Int)) = Bool.true → Go.DF.okI64 ((↑(Prod.fst a) : Int) + (↑(Prod.snd a) : Int)) ∧ ((0 : Int) ≤ Go.IntKind.wrap Go.IntKind.i64 (Go.DF.shrI Go.IntKind.u64 (Go.IntKind.wrap Go.IntKind.u64 ((↑(Prod.fst a) : Int) + (↑(Prod.snd a) : Int))) (1 : Int)) ∧ Go.IntKind.wrap Go.IntKind.i64 (Go.DF.shrI Go.IntKind.u64 (Go.IntKind.wrap Go.IntKind.u64 ((↑(Prod.fst a) : Int) + (↑(Prod.snd a) : Int))) (1 : Int)) < (↑(List.length l) : Int)) ∧ (Decidable.decide (List.getD l (Int.toNat (Go.IntKind.wrap Go.IntKind.i64 (Go.DF.shrI Go.IntKind.u64 (Go.IntKind.wrap Go.IntKind.u64 ((↑(Prod.fst a) : Int) + (↑(Prod.snd a) : Int))) (1 : Int)))) (0 : Int) < x) = Bool.true → Go.DF.okI64 (Go.IntKind.wrap Go.IntKind.i64 (Go.DF.shrI Go.IntKind.u64 (Go.IntKind.wrap Go.IntKind.u64 ((↑(Prod.fst a) : Int) + (↑(Prod.snd a) : Int))) (1 : Int)) + (1 : Int)) ∧ ∃ (a' : Nat × Nat), (l = l ∧ x = x ∧ (↑(List.length l) : Int) = (↑(List.length l) : Int) ∧ Go.IntKind.wrap Go.IntKind.i64 (Go.DF.shrI Go.IntKind.u64 (Go.IntKind.wrap Go.IntKind.u64 ((↑(Prod.fst a) : Int) + (↑(Prod.snd a) : Int))) (1 : Int)) + (1 : Int) = (↑(Prod.fst a') : Int) ∧ (↑(Prod.snd a) : Int) = (↑(Prod.snd a') : Int)) ∧ (Prod.fst a' ≤ Prod.snd a' ∧ Prod.snd a' ≤ List.length l ∧ (∀ (i : Nat), i < Prod.fst a' → List.getD l i (0 : Int) < x) ∧ ∀ (i : Nat), Prod.snd a' ≤ i → i < List.length l → x ≤ List.getD l i (0 : Int)) ∧ Prod.snd a' - Prod.fst a' < Prod.snd a - Prod.fst a) ∧ (Decidable.decide (List.getD l (Int.toNat (Go.IntKind.wrap Go.IntKind.i64 (Go.DF.shrI Go.IntKind.u64 (Go.IntKind.wrap Go.IntKind.u64 ((↑(Prod.fst a) : Int) + (↑(Prod.snd a) : Int))) (1 : Int)))) (0 : Int) < x) = Bool.false → ∃ (a' : Nat × Nat), (l = l ∧ x = x ∧ (↑(List.length l) : Int) = (↑(List.length l) : Int) ∧ (↑(Prod.fst a) : Int) = (↑(Prod.fst a') : Int) ∧ Go.IntKind.wrap Go.IntKind.i64 (Go.DF.shrI Go.IntKind.u64 (Go.IntKind.wrap Go.IntKind.u64 ((↑(Prod.fst a) : Int) + (↑(Prod.snd a) : Int))) (1 : Int)) = (↑(Prod.snd a') : Int)) ∧ (Prod.fst a' ≤ Prod.snd a' ∧ Prod.snd a' ≤ List.length l ∧ (∀ (i : Nat), i < Prod.fst a' → List.getD l i (0 : Int) < x) ∧ ∀ (i : Nat), Prod.snd a' ≤ i → i < List.length l → x ≤ List.getD l i (0 : Int)) ∧ Prod.snd a' - Prod.fst a' < Prod.snd a - Prod.fst a)) ∧ (Decidable.decide ((↑(Prod.fst a) : Int) < (↑(Prod.snd a) : Int)) = Bool.false → (Decidable.decide ((↑(Prod.fst a) : Int) < (↑(List.length l) : Int)) = Bool.true → ((0 : Int) ≤ (↑(Prod.fst a) : Int) ∧ (↑(Prod.fst a) : Int) < (↑(List.length l) : Int)) ∧ ((List.getD l (Int.toNat (↑(Prod.fst a) : Int)) (0 : Int) == x) = Bool.true → ((↑(Prod.fst a) : Int) = (↑(Go.Proofs.Ytfacddeaobogjaa.N.below l x) : Int) ∧ Bool.true = Go.Proofs.Ytfacddeaobogjaa.N.isIn l x) ∧ True) ∧ ((List.getD l (Int.toNat (↑(Prod.fst a) : Int)) (0 : Int) == x) = Bool.false → ((0 : Int) ≤ (↑(Prod.fst a) : Int) ∧ (↑(Prod.fst a) : Int) < (↑(List.length l) : Int)) ∧ ((List.getD l (Int.toNat (↑(Prod.fst a) : Int)) (0 : Int) != List.getD l (Int.toNat (↑(Prod.fst a) : Int)) (0 : Int)) = Bool.true → ((↑(Prod.fst a) : Int) = (↑(Go.Proofs.Ytfacddeaobogjaa.N.below l x) : Int) ∧ (x != x) = Go.Proofs.Ytfacddeaobogjaa.N.isIn l x) ∧ True) ∧ ((List.getD l (Int.toNat (↑(Prod.fst a) : Int)) (0 : Int) != List.getD l (Int.toNat (↑(Prod.fst a) : Int)) (0 : Int)) = Bool.false → ((↑(Prod.fst a) : Int) = (↑(Go.Proofs.Ytfacddeaobogjaa.N.below l x) : Int) ∧ Bool.false = Go.Proofs.Ytfacddeaobogjaa.N.isIn l x) ∧ True))) ∧ (Decidable.decide ((↑(Prod.fst a) : Int) < (↑(List.length l) : Int)) = Bool.false → ((↑(Prod.fst a) : Int) = (↑(Go.Proofs.Ytfacddeaobogjaa.N.below l x) : Int) ∧ Bool.false = Go.Proofs.Ytfacddeaobogjaa.N.isIn l x) ∧ True))) _ (by kernel_rfl)
  have hmax : maxLen = 9223372036854775807 := rfl
  refine ⟨⟨(0, l.length), ⟨rfl, rfl, rfl, rfl, rfl⟩, Nat.zero_le _, Nat.le_refl _, fun i hi => absurd hi (Nat.not_lt_zero i), fun i h1 h2 => by simp only at h1; omega⟩, ?_⟩
  rintro ⟨i, j⟩ ⟨h1, h2, h3, h4⟩
  simp only at h1 h2 h3 h4 ⊢
  rw [half_id ((i : Int) + j) (by omega)]
  have eh : ((i : Int) + j) / 2 = (((i + j) / 2 : Nat) : Int) := by omega
  rw [eh]
  generalize hh : (i + j) / 2 = h
  have e1 : Int.toNat (h : Int) = h := by omega
  rw [e1]
  rw [List.pairwise_iff_getElem] at hs
  have hg : ∀ k, (hk : k < l.length) → l.getD k 0 = l[k] := fun k hk => by rw [List.getD_eq_getElem?_getD, List.getElem?_eq_getElem hk]; rfl
  refine ⟨fun hlt => ?_, fun hge => ?_⟩
  · have hlt : i < j := by have := of_decide_eq_true hlt; omega
    have hhl : h < l.length := by omega
    refine ⟨by unfold okI64; omega, ⟨by omega, by omega⟩, fun hb => ?_, fun hb => ?_⟩
    · have hb := of_decide_eq_true hb
      refine ⟨by unfold okI64; omega, (h + 1, j), ⟨trivial, trivial, trivial, by simp, rfl⟩, ⟨by simp only; omega, h2, fun k hk => ?_, h4⟩, by simp only; omega⟩
      simp only at hk
      rcases Nat.lt_or_ge k h with hk' | hk'
      · rw [hg k (by omega)]; rw [hg h hhl] at hb; have := hs k h (by omega) hhl hk'; omega
      · have : k = h := by omega
        rw [this]; exact hb
    · have hb := of_decide_eq_false hb
      refine ⟨(i, h), ⟨trivial, trivial, trivial, rfl, rfl⟩, ⟨by simp only; omega, by simp only; omega, h3, fun k hk hkl => ?_⟩, by simp only; omega⟩
      simp only at hk
      rcases Nat.lt_or_ge h k with hk' | hk'
      · rw [hg k hkl]; rw [hg h hhl] at hb; have := hs h k hhl hkl hk'; omega
      · have : k = h := by omega
        rw [this]; omega
  · have hge : i = j := by have := of_decide_eq_false hge; omega
    subst hge
    have hbe : below l x = i := below_at (l := l) (by omega) h3 (fun hi => by rw [← hg i hi]; exact h4 i (Nat.le_refl _) hi)
    have e2 : Int.toNat (i : Int) = i := by omega
    rw [hbe]
    simp only [e2]
    have hin : x ∈ l → i < l.length ∧ l.getD i 0 = x := fun hx => by
      obtain ⟨k, hk, rfl⟩ := List.mem_iff_getElem.1 hx
      have hki : i ≤ k := by
        rcases Nat.lt_or_ge k i with h | h
        · have := h3 k h; rw [hg k hk] at this; omega
        · exact h
      have hil : i < l.length := by omega
      refine ⟨hil, ?_⟩
      have := h4 i (Nat.le_refl _) hil
      rw [hg i hil] at this ⊢
      rcases Nat.lt_or_ge i k with h | h
      · have := hs i k hil hk h; omega
      · have : k = i := by omega
        subst this; rfl
    have hno : (i < l.length → l.getD i 0 ≠ x) → false = isIn l x := fun h => by
      unfold isIn
      rw [eq_comm, decide_eq_false_iff_not]
      intro hx
      exact h (hin hx).1 (hin hx).2
    refine ⟨fun hil => ?_, fun hil => ⟨⟨trivial, hno fun h => by have := of_decide_eq_false hil; omega⟩, trivial⟩⟩
    have hil : i < l.length := by have := of_decide_eq_true hil; omega
    refine ⟨⟨by omega, by omega⟩, fun he => ⟨⟨trivial, ?_⟩, trivial⟩, fun he => ⟨⟨by omega, by omega⟩, fun hb => ?_, fun hb => ⟨⟨trivial, hno fun _ => beq_eq_false_iff_ne.1 he⟩, trivial⟩⟩⟩
    · unfold isIn
      rw [eq_comm, decide_eq_true_iff, ← beq_iff_eq.1 he, hg i hil]
      exact List.getElem_mem hil
    · simp at hb
def c57 : PureC Try.prog where
  f := 57
  sig := [.dat false (.sl (.int .i64)), .dat false (.int .i64)]
  per := false
  spec := fun x => .ob (List.length x.1 < 4611686018427387904 ∧ List.Pairwise (fun (a b : Int) => a < b) x.1) none (.leaf (.tup [.int .i64 (.sym (below x.1 x.2.1)), .bool (.sym (isIn x.1 x.2.1))]))
  body := hasBody_of Try.func57 (by kernel_rfl) (by kernel_rfl)
  ok := fun x d h => by
    obtain ⟨h1, h⟩ := h
    obtain rfl : d = _ := h
    exact p57 x.1 x.2.1 h1.1 h1.2
def hasG (g : Option (Rows × Rows)) (a b : Int) : Bool := match g with | none => false | some (A, B) => decide (0 ≤ a ∧ a < A.length) && isIn (A.getD a.toNat []) b
/-- Rows that rise. -/
def okR (A : Rows) : Prop := ∀ i, (A.getD i []).Pairwise (· < ·) ∧ (A.getD i []).length < 1000000
def okH (g : Option (Rows × Rows)) : Prop := match g with | none => True | some (A, B) => okR A
theorem p28 (g : Option (Rows × Rows)) (a b : Int) (h : okH g) : Pure1 Try.prog 28 [.per gC g, .int .i64 (.sym a), .int .i64 (.sym b)] (.bool (.sym (hasG g a b))) := by
  refine pure1_of_exec (ct := (cx0 [c57] [] []).deep body28 100 20) [] Try.func28 rfl rfl ?_
  apply @cast_goal ((Decidable.decide ((0 : Int) ≤ a) = Bool.true → (Option.isNone g = Bool.true → ((!Decidable.decide (a < (0 : Int))) = Bool.true → Bool.false = Go.Proofs.Ytfacddeaobogjaa.N.hasG g a b ∧ True) ∧ ((!Decidable.decide (a < (0 : Int))) = Bool.false → Option.isSome g = Bool.true ∧ ((0 : Int) ≤ a ∧ a < (↑(List.length (Prod.fst (Option.getD g ([], [])))) : Int)) ∧ (List.length (List.getD (Prod.fst (Option.getD g ([], []))) (Int.toNat a) []) < (4611686018427387904 : Nat) ∧ List.Pairwise (fun (a b : Int) => a < b) (List.getD (Prod.fst (Option.getD g ([], []))) (Int.toNat a) [])) ∧ Go.Proofs.Ytfacddeaobogjaa.N.isIn (List.getD (Prod.fst (Option.getD g ([], []))) (Int.toNat a) []) b = Go.Proofs.Ytfacddeaobogjaa.N.hasG g a b ∧ True)) ∧ (Option.isNone g = Bool.false → Option.isSome g = Bool.true ∧ ((!Decidable.decide (a < (↑(List.length (Prod.fst (Option.getD g ([], [])))) : Int))) = Bool.true → Bool.false = Go.Proofs.Ytfacddeaobogjaa.N.hasG g a b ∧ True) ∧ ((!Decidable.decide (a < (↑(List.length (Prod.fst (Option.getD g ([], [])))) : Int))) = Bool.false → Option.isSome g = Bool.true ∧ ((0 : Int) ≤ a ∧ a < (↑(List.length (Prod.fst (Option.getD g ([], [])))) : Int)) ∧ (List.length (List.getD (Prod.fst (Option.getD g ([], []))) (Int.toNat a) []) < (4611686018427387904 : Nat) ∧ List.Pairwise (fun (a b : Int) => a < b) (List.getD (Prod.fst (Option.getD g ([], []))) (Int.toNat a) [])) ∧ Go.Proofs.Ytfacddeaobogjaa.N.isIn (List.getD (Prod.fst (Option.getD g ([], []))) (Int.toNat a) []) b = Go.Proofs.Ytfacddeaobogjaa.N.hasG g a b ∧ True))) ∧ (Decidable.decide ((0 : Int) ≤ a) = Bool.false → Bool.false = Go.Proofs.Ytfacddeaobogjaa.N.hasG g a b ∧ True)) _ (by kernel_rfl)
  match g, h with
  | none, _ =>
    refine ⟨fun ha => ⟨fun _ => ⟨fun _ => ⟨rfl, trivial⟩, fun hb => ?_⟩, fun h => absurd h (by simp)⟩, fun _ => ⟨rfl, trivial⟩⟩
    have ha := of_decide_eq_true ha
    simp at hb
    omega
  | some (A, B), h =>
    have hh : hasG (some (A, B)) a b = (decide (0 ≤ a ∧ a < A.length) && isIn (A.getD a.toNat []) b) := rfl
    rw [hh]
    refine ⟨fun ha => ⟨fun h => absurd h (by simp), fun _ => ⟨rfl, fun hb => ⟨?_, trivial⟩, fun hb => ?_⟩⟩, fun ha => ⟨?_, trivial⟩⟩
    · simp only [Option.getD_some, Bool.not_eq_true', decide_eq_false_iff_not] at hb
      have : ¬ (0 ≤ a ∧ a < A.length) := by omega
      simp [this]
    · simp only [Option.getD_some, Bool.not_eq_false', decide_eq_true_eq] at hb
      have ha := of_decide_eq_true ha
      have hr := h a.toNat
      simp only [Option.getD_some]
      refine ⟨rfl, ⟨ha, hb⟩, ⟨by omega, hr.1⟩, by simp [ha, hb], trivial⟩
    · have ha := of_decide_eq_false ha
      have : ¬ (0 ≤ a ∧ a < A.length) := by omega
      simp [this]
def c28 : PureC Try.prog where
  f := 28
  sig := [.dat false gC, .dat false (.int .i64), .dat false (.int .i64)]
  per := false
  spec := fun x => .ob (okH x.1) none (.leaf (.bool (.sym (hasG x.1 x.2.1 x.2.2.1))))
  body := hasBody_of Try.func28 (by kernel_rfl) (by kernel_rfl)
  ok := fun x d h => by
    obtain ⟨h1, h⟩ := h
    obtain rfl : d = _ := h
    exact p28 x.1 x.2.1 x.2.2.1 h1
theorem uniq_len (l : List Int) : (uniq l).length ≤ l.length := by
  have h1 := compact_len (srt l)
  have h2 := srt_len l
  unfold uniq; omega
theorem okR_gA {n : Int} {es : Es} (h : gErr n es = 0) : okR (gA n es) := fun i => by
  obtain ⟨h1, h2, h3, h4⟩ := gErr_zero h
  refine ⟨gA_rise n es i, ?_⟩
  rw [gA_get]
  split
  · have k1 := uniq_len (outs es es.length i)
    have k2 := outs_len es es.length i
    omega
  · simp
theorem okR_gB {n : Int} {es : Es} (h : gErr n es = 0) : okR (gB n es) := fun i => by
  obtain ⟨h1, h2, h3, h4⟩ := gErr_zero h
  refine ⟨gB_rise n es i, ?_⟩
  rw [gB_get]
  split
  · have k1 := uniq_len (ins es es.length i)
    have k2 := ins_len es es.length i
    omega
  · simp
def fillN (N : Nat) (x : Int × Int) (k : Nat) : Es := List.replicate k x ++ List.replicate (N - k) (0, 0)
theorem fillN_zero (N : Nat) (x : Int × Int) : List.replicate N (0, 0) = fillN N x 0 := by simp [fillN]
theorem fillN_len {N k : Nat} (x : Int × Int) (h : k ≤ N) : (fillN N x k).length = N := by simp [fillN]; omega
theorem fillN_set {N k : Nat} (x : Int × Int) (h : k < N) : (fillN N x k).set k x = fillN N x (k + 1) := by
  unfold fillN
  obtain ⟨m, hm⟩ : ∃ m, N - k = m + 1 := ⟨N - k - 1, by omega⟩
  have hm' : N - (k + 1) = m := by omega
  rw [hm, hm', List.set_append_right _ _ (by simp), List.length_replicate, Nat.sub_self, List.replicate_succ, List.set_cons_zero, List.replicate_succ', List.append_assoc]; rfl
theorem fillN_all {N : Nat} (x : Int × Int) (h : 0 < N) : (∀ y ∈ fillN N x N, y = x) ∧ (fillN N x N).getD 0 (0, 0) = x ∧ x ∈ fillN N x N := by
  unfold fillN
  rw [Nat.sub_self, List.replicate_zero, List.append_nil]
  refine ⟨fun y hy => List.eq_of_mem_replicate hy, ?_, List.mem_replicate.2 ⟨by omega, rfl⟩⟩
  obtain ⟨m, rfl⟩ : ∃ m, N = m + 1 := ⟨N - 1, by omega⟩
  rw [List.replicate_succ]; rfl
def inv8 (a b : Int) (m : Bool) : LInv where
  α := Nat
  S := fun k => ⟨[(0, .int .u8 (.sym a)), (1, .int .u8 (.sym b)), (2, .bool (.sym m)), (7, .slice ⟨0, .lit 0, 2, 0⟩ (.lit 65536)), (8, .int .i64 (.sym k))], [(0, (false, .arr 63 eC (fillN 65536 (a, b) k)))], 1⟩
  p := fun k => k ≤ 65536
  m := fun k => 65536 - k
/-- Edges that are all the same. -/
theorem one_edge {x : Int × Int} {es : Es} (h : gErr 256 es = 0) (h1 : ∀ y ∈ es, y = x) (h2 : x ∈ es) : putAll es = [x] := by
  obtain ⟨k1, k2⟩ := putAll_rise h
  refine rise_extR Bef.asym k1 (by simp) fun y => ?_
  rw [k2, List.mem_singleton]
  exact ⟨h1 y, fun e => e ▸ h2⟩
set_option maxHeartbeats 4000000 in
theorem p8 (a b : Int) (m : Bool) (ha : 0 ≤ a ∧ a < 256) (hb : 0 ≤ b ∧ b < 256) : Pure1 Try.prog 8 [.int .u8 (.sym a), .int .u8 (.sym b), .bool (.sym m)] (.bool (.sym true)) := by
  refine pure1_of_exec (ct := (cx0 [c11, c20, c25, c28] [] []).deep body28 100 20) [(5, inv8 a b m)] Try.func8 rfl rfl ?_
  apply @cast_goal (((0 : Int) ≤ (65536 : Int) ∧ (65536 : Int) ≤ (65536 : Int) ∧ (65536 : Int) * (↑(16 : Nat) : Int) ≤ (140737488355328 : Int) ∧ (65536 : Int) ≤ (9223372036854775807 : Int)) ∧ (∃ (a_1 : Nat), (a = a ∧ b = b ∧ m = m ∧ (0 : Int) = (↑a_1 : Int) ∧ List.replicate (Int.toNat (65536 : Int)) ((0 : Int), (0 : Int)) = Go.Proofs.Ytfacddeaobogjaa.N.fillN (65536 : Nat) (a, b) a_1) ∧ a_1 ≤ (65536 : Nat)) ∧ ∀ (a_1 : Nat), a_1 ≤ (65536 : Nat) → (Decidable.decide ((↑a_1 : Int) < (↑(65536 : Nat) : Int)) = Bool.true → ((0 : Int) ≤ (↑a_1 : Int) ∧ (↑a_1 : Int) < (↑(65536 : Nat) : Int)) ∧ Int.toNat (↑a_1 : Int) < List.length (Go.Proofs.Ytfacddeaobogjaa.N.fillN (65536 : Nat) (a, b) a_1) ∧ Go.DF.okI64 ((↑a_1 : Int) + (1 : Int)) ∧ ∃ (a' : Nat), (a = a ∧ b = b ∧ m = m ∧ (↑a_1 : Int) + (1 : Int) = (↑a' : Int) ∧ List.set (Go.Proofs.Ytfacddeaobogjaa.N.fillN (65536 : Nat) (a, b) a_1) (Int.toNat (↑a_1 : Int)) (Go.IntKind.wrap Go.IntKind.i64 a, Go.IntKind.wrap Go.IntKind.i64 b) = Go.Proofs.Ytfacddeaobogjaa.N.fillN (65536 : Nat) (a, b) a') ∧ a' ≤ (65536 : Nat) ∧ (65536 : Nat) - a' < (65536 : Nat) - a_1) ∧ (Decidable.decide ((↑a_1 : Int) < (↑(65536 : Nat) : Int)) = Bool.false → (m = Bool.true → (0 : Nat) < List.length (Go.Proofs.Ytfacddeaobogjaa.N.fillN (65536 : Nat) (a, b) a_1) ∧ (65536 : Nat) ≤ List.length (Go.Proofs.Ytfacddeaobogjaa.N.fillN (65536 : Nat) (a, b) a_1) ∧ (((65536 : Nat) + List.length [List.getD (Go.Proofs.Ytfacddeaobogjaa.N.fillN (65536 : Nat) (a, b) a_1) (0 : Nat) ((0 : Int), (0 : Int))]) * (16 : Nat) ≤ (140737488355328 : Nat) ∧ (65536 : Nat) + List.length [List.getD (Go.Proofs.Ytfacddeaobogjaa.N.fillN (65536 : Nat) (a, b) a_1) (0 : Nat) ((0 : Int), (0 : Int))] ≤ Go.maxLen) ∧ Nat.le ((0 : Nat) + (65537 : Nat)) (List.length (List.take (65536 : Nat) (Go.Proofs.Ytfacddeaobogjaa.N.fillN (65536 : Nat) (a, b) a_1) ++ [List.getD (Go.Proofs.Ytfacddeaobogjaa.N.fillN (65536 : Nat) (a, b) a_1) (0 : Nat) ((0 : Int), (0 : Int))])) ∧ (Option.isNone (Go.Proofs.Ytfacddeaobogjaa.N.gDat (256 : Int) (List.take (65537 : Nat) (List.take (65536 : Nat) (Go.Proofs.Ytfacddeaobogjaa.N.fillN (65536 : Nat) (a, b) a_1) ++ [List.getD (Go.Proofs.Ytfacddeaobogjaa.N.fillN (65536 : Nat) (a, b) a_1) (0 : Nat) ((0 : Int), (0 : Int))]))) && Go.Proofs.Ytfacddeaobogjaa.N.gErr (256 : Int) (List.take (65537 : Nat) (List.take (65536 : Nat) (Go.Proofs.Ytfacddeaobogjaa.N.fillN (65536 : Nat) (a, b) a_1) ++ [List.getD (Go.Proofs.Ytfacddeaobogjaa.N.fillN (65536 : Nat) (a, b) a_1) (0 : Nat) ((0 : Int), (0 : Int))])) == (9 : Int)) = Bool.true ∧ True) ∧ (m = Bool.false → Nat.le (65536 : Nat) (List.length (Go.Proofs.Ytfacddeaobogjaa.N.fillN (65536 : Nat) (a, b) a_1)) ∧ (((Go.Proofs.Ytfacddeaobogjaa.N.gErr (256 : Int) (List.take (65536 : Nat) (Go.Proofs.Ytfacddeaobogjaa.N.fillN (65536 : Nat) (a, b) a_1)) == (0 : Int)) = Bool.true → ((!Option.isNone (Go.Proofs.Ytfacddeaobogjaa.N.gDat (256 : Int) (List.take (65536 : Nat) (Go.Proofs.Ytfacddeaobogjaa.N.fillN (65536 : Nat) (a, b) a_1)))) = Bool.true → Go.Proofs.Ytfacddeaobogjaa.N.okG (Go.Proofs.Ytfacddeaobogjaa.N.gDat (256 : Int) (List.take (65536 : Nat) (Go.Proofs.Ytfacddeaobogjaa.N.fillN (65536 : Nat) (a, b) a_1))) ∧ (((↑(List.length (Go.Proofs.Ytfacddeaobogjaa.N.edgesOf (Go.Proofs.Ytfacddeaobogjaa.N.gDat (256 : Int) (List.take (65536 : Nat) (Go.Proofs.Ytfacddeaobogjaa.N.fillN (65536 : Nat) (a, b) a_1))))) : Int) == (1 : Int)) = Bool.true → Go.Proofs.Ytfacddeaobogjaa.N.okH (Go.Proofs.Ytfacddeaobogjaa.N.gDat (256 : Int) (List.take (65536 : Nat) (Go.Proofs.Ytfacddeaobogjaa.N.fillN (65536 : Nat) (a, b) a_1))) ∧ True) ∧ (((↑(List.length (Go.Proofs.Ytfacddeaobogjaa.N.edgesOf (Go.Proofs.Ytfacddeaobogjaa.N.gDat (256 : Int) (List.take (65536 : Nat) (Go.Proofs.Ytfacddeaobogjaa.N.fillN (65536 : Nat) (a, b) a_1))))) : Int) == (1 : Int)) = Bool.false → True)) ∧ ((!Option.isNone (Go.Proofs.Ytfacddeaobogjaa.N.gDat (256 : Int) (List.take (65536 : Nat) (Go.Proofs.Ytfacddeaobogjaa.N.fillN (65536 : Nat) (a, b) a_1)))) = Bool.false → True)) ∧ ((Go.Proofs.Ytfacddeaobogjaa.N.gErr (256 : Int) (List.take (65536 : Nat) (Go.Proofs.Ytfacddeaobogjaa.N.fillN (65536 : Nat) (a, b) a_1)) == (0 : Int)) = Bool.false → True)) ∧ (Go.Proofs.Ytfacddeaobogjaa.N.gErr (256 : Int) (List.take (65536 : Nat) (Go.Proofs.Ytfacddeaobogjaa.N.fillN (65536 : Nat) (a, b) a_1)) == (0 : Int) && (!Option.isNone (Go.Proofs.Ytfacddeaobogjaa.N.gDat (256 : Int) (List.take (65536 : Nat) (Go.Proofs.Ytfacddeaobogjaa.N.fillN (65536 : Nat) (a, b) a_1))) && ((↑(List.length (Go.Proofs.Ytfacddeaobogjaa.N.edgesOf (Go.Proofs.Ytfacddeaobogjaa.N.gDat (256 : Int) (List.take (65536 : Nat) (Go.Proofs.Ytfacddeaobogjaa.N.fillN (65536 : Nat) (a, b) a_1))))) : Int) == (1 : Int) && Go.Proofs.Ytfacddeaobogjaa.N.hasG (Go.Proofs.Ytfacddeaobogjaa.N.gDat (256 : Int) (List.take (65536 : Nat) (Go.Proofs.Ytfacddeaobogjaa.N.fillN (65536 : Nat) (a, b) a_1))) (Go.IntKind.wrap Go.IntKind.i64 a) (Go.IntKind.wrap Go.IntKind.i64 b)))) = Bool.true ∧ True))) _ (by kernel_rfl)
  rw [i64_id a (by omega), i64_id b (by omega)]
  have hmax : maxLen = 9223372036854775807 := rfl
  refine ⟨by omega, ⟨0, ⟨rfl, rfl, rfl, rfl, fillN_zero _ _⟩, by omega⟩, fun k hk => ?_⟩
  have ek : Int.toNat (k : Int) = k := by omega
  have hl := fillN_len (a, b) hk
  simp only [ek]
  refine ⟨fun hlt => ?_, fun hge => ?_⟩
  · have hlt : k < 65536 := by have := of_decide_eq_true hlt; omega
    exact ⟨⟨by omega, by omega⟩, by rw [hl]; omega, by unfold okI64; omega, k + 1, ⟨trivial, trivial, trivial, rfl, fillN_set _ hlt⟩, by omega, by omega⟩
  · have hge : k = 65536 := by have := of_decide_eq_false hge; omega
    obtain ⟨N, hN⟩ : ∃ N, N = 65536 := ⟨_, rfl⟩
    rw [← hN] at hge
    subst hge
    obtain ⟨f1, f2, f3⟩ := fillN_all (a, b) (show 0 < k by omega)
    have hl' : (fillN k (a, b) k).length = k := fillN_len _ (Nat.le_refl _)
    rw [show fillN 65536 (a, b) k = fillN k (a, b) k from by rw [hN]]
    generalize fillN k (a, b) k = es at *
    have ht : List.take 65536 es = es := List.take_of_length_le (by omega)
    simp only [ht, f2, List.length_singleton]
    refine ⟨fun _ => ?_, fun _ => ?_⟩
    · have hes : List.take 65537 (es ++ [(a, b)]) = es ++ [(a, b)] := List.take_of_length_le (by simp only [List.length_append, List.length_singleton]; omega)
      have hlen : (es ++ [(a, b)]).length = 65537 := by simp only [List.length_append, List.length_singleton]; omega
      have hg : gErr 256 (es ++ [(a, b)]) = 9 := by unfold gErr; rw [if_neg (by omega), if_pos (by omega)]
      rw [hes]
      refine ⟨by omega, by omega, ⟨by omega, by omega⟩, by rw [hlen]; exact Nat.le_of_eq rfl, ?_, trivial⟩
      unfold gDat
      rw [hg]; rfl
    · have hg : gErr 256 es = 0 := by
        unfold gErr
        rw [if_neg (by omega), if_neg (by omega), if_neg]
        rw [Bool.not_eq_true, List.any_eq_false]
        intro y hy
        rw [f1 y hy]
        unfold badE
        simp only [Bool.or_eq_true, Bool.not_eq_true', Bool.and_eq_false_iff, decide_eq_false_iff_not]
        omega
      have e : gDat 256 es = some (gA 256 es, gB 256 es) := by unfold gDat; rw [if_pos hg]
      have he := edges_eq hg
      have ho := one_edge hg f1 f3
      rw [e]
      have hok : okG (some (gA 256 es, gB 256 es)) := ⟨by rw [gA_len]; decide, by rw [he, ho]; exact Nat.le_of_ble_eq_true rfl⟩
      have hlen1 : (edgesOf (some (gA 256 es, gB 256 es))).length = 1 := by
        show (edgesTo (gA 256 es) (gA 256 es).length).length = 1
        rw [he, ho]; rfl
      have hh : hasG (some (gA 256 es, gB 256 es)) a b = true := by
        have hm := (gA_mem hg a.toNat b).2 (by rw [show ((a.toNat : Nat) : Int) = a from by omega]; exact f3)
        show (decide (0 ≤ a ∧ a < ((gA 256 es).length : Int)) && isIn ((gA 256 es).getD a.toNat []) b) = true
        rw [gA_len, Bool.and_eq_true, decide_eq_true_iff]
        exact ⟨⟨by omega, by omega⟩, decide_eq_true hm⟩
      refine ⟨by show 65536 ≤ es.length; omega, ⟨⟨fun _ => ⟨fun _ => ⟨hok, fun _ => ⟨okR_gA hg, trivial⟩, fun _ => trivial⟩, fun _ => trivial⟩, fun _ => trivial⟩, ?_, trivial⟩⟩
      rw [hg, hlen1, hh]; rfl
end Go.Proofs.Ytfacddeaobogjaa.N
