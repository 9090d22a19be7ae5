import Derived.Test.YtfacddeaobogjaaF12
import Derived.Test.YtfacddeaobogjaaC
import Derived.Test.YtfacddeaobogjaaG6
set_option linter.unusedVariables false
set_option linter.unusedSimpArgs false
set_option linter.unnecessarySimpa false
set_option linter.unusedVariables false
set_option linter.unusedSimpArgs false
/- Clone, After, Before, and those of the reference; Make. -/
namespace Go.Proofs.Ytfacddeaobogjaa.N
open Go.DF
set_option maxRecDepth 100000
abbrev iC : CT := .sl (.int .i64)
def ownI (l : List Int) (d : DV) (st : St) : Prop := subS 0 ⟨[(0, d)], st.hp, st.nx⟩ ⟨[(0, .slice ⟨0, .lit 0, 1, 0⟩ (.sym l.length))], [(0, (false, .arr 3 (.int .i64) l))], 1⟩ True
theorem q59 (l : List Int) (hl : l.length ≤ 1000000) : DCall Try.prog 59 [.per iC l] [] 0 (ownI l) := by
  have hmax : maxLen = 9223372036854775807 := rfl
  refine nil_split (fun he => ?_) ?_
  · apply @calls_of_exec _ Try.prog (cx0 [] [] []) [] 59 Try.f59 [.nilslice] [] 0 (ownI l) Try.func59 _ (by decide)
    apply @cast_goal ((List.length l = (0 : Nat) ∧ l = []) ∧ True) _ (by kernel_rfl)
    subst he; exact ⟨⟨rfl, rfl⟩, trivial⟩
  · apply @calls_of_exec _ Try.prog (cx0 [] [] []) [] 59 Try.f59 [.nn (.int .i64) l] [] 0 (ownI l) Try.func59 _ (of_decide_eq_true rfl)
    apply @cast_goal ((((0 : Nat) + List.length l) * (8 : Nat) ≤ (140737488355328 : Nat) ∧ (0 : Nat) + List.length l ≤ Go.maxLen) ∧ (List.length l = List.length l ∧ [] ++ l = l) ∧ True) _ (by kernel_rfl)
    exact ⟨⟨by omega, by omega⟩, ⟨⟨rfl, by simp⟩, trivial⟩⟩
def inferI : List DV → Hp → Option (List Int)
  | [d], hp => match cod hp fuelC iC [d] with | some (l, _) => some l | none => none
  | _, _ => none
def c59 : CanC Try.prog where
  f := 59
  α := List Int
  args := fun x => [.per iC x]
  hp := fun _ => []
  n := 0
  infer := inferI
  pre := fun x => x.length ≤ 1000000
  out := fun x => .leaf (.slice ⟨0, .lit 0, 1, 0⟩ (.sym x.length), [(0, (false, .arr 3 (.int .i64) x))], 1)
  body := hasBody_of Try.func59 (by kernel_rfl) (by kernel_rfl)
  ok := fun x hx => q59 x hx
/-- Nodes behind a node. -/
def inR (A : Rows) (n : Int) : List Int := if 0 ≤ n ∧ n < A.length then A.getD n.toNat [] else []
def afterG (g : Option (Rows × Rows)) (n : Int) : List Int := match g with | none => [] | some (A, B) => inR A n
def beforeG (g : Option (Rows × Rows)) (n : Int) : List Int := match g with | none => [] | some (A, B) => inR B n
def okA (g : Option (Rows × Rows)) : Prop := match g with | none => True | some (A, B) => B.length = A.length ∧ A.length ≤ 4096 ∧ (∀ i, (A.getD i []).length ≤ 1000000) ∧ ∀ i, (B.getD i []).length ≤ 1000000
theorem inR_no {A : Rows} {n : Int} (h : ¬ (0 ≤ n ∧ n < A.length)) : [] = inR A n := by unfold inR; rw [if_neg h]
theorem inR_yes {A : Rows} {n : Int} (h : 0 ≤ n ∧ n < A.length) : A.getD n.toNat [] = inR A n := by unfold inR; rw [if_pos h]
theorem p30 (g : Option (Rows × Rows)) (n : Int) (h : okA g) : Pure1 Try.prog 30 [.per gC g, .int .i64 (.sym n)] (.per iC (afterG g n)) := by
  refine pure1_of_exec (ct := (cx0 [] [c59] []).deep body28 100 20) [] Try.func30 rfl rfl ?_
  apply @cast_goal ((Decidable.decide ((0 : Int) ≤ n) = Bool.true → (Option.isNone g = Bool.true → ((!Decidable.decide (n < (0 : Int))) = Bool.true → [] = Go.Proofs.Ytfacddeaobogjaa.N.afterG g n ∧ True) ∧ ((!Decidable.decide (n < (0 : Int))) = Bool.false → Option.isSome g = Bool.true ∧ ((0 : Int) ≤ n ∧ n < (↑(List.length (Prod.fst (Option.getD g ([], [])))) : Int)) ∧ (List.getD (Prod.fst (Option.getD g ([], []))) (Int.toNat n) [] = List.getD (Prod.fst (Option.getD g ([], []))) (Int.toNat n) [] ∧ Nat.le (List.length (List.getD (Prod.fst (Option.getD g ([], []))) (Int.toNat n) [])) (1000000 : Nat)) ∧ ((0 : Nat) + List.length (List.getD (Prod.fst (Option.getD g ([], []))) (Int.toNat n) []) ≤ List.length (List.getD (Prod.fst (Option.getD g ([], []))) (Int.toNat n) []) ∧ List.take (List.length (List.getD (Prod.fst (Option.getD g ([], []))) (Int.toNat n) [])) (List.getD (Prod.fst (Option.getD g ([], []))) (Int.toNat n) []) = Go.Proofs.Ytfacddeaobogjaa.N.afterG g n) ∧ True)) ∧ (Option.isNone g = Bool.false → Option.isSome g = Bool.true ∧ ((!Decidable.decide (n < (↑(List.length (Prod.fst (Option.getD g ([], [])))) : Int))) = Bool.true → [] = Go.Proofs.Ytfacddeaobogjaa.N.afterG g n ∧ True) ∧ ((!Decidable.decide (n < (↑(List.length (Prod.fst (Option.getD g ([], [])))) : Int))) = Bool.false → Option.isSome g = Bool.true ∧ ((0 : Int) ≤ n ∧ n < (↑(List.length (Prod.fst (Option.getD g ([], [])))) : Int)) ∧ (List.getD (Prod.fst (Option.getD g ([], []))) (Int.toNat n) [] = List.getD (Prod.fst (Option.getD g ([], []))) (Int.toNat n) [] ∧ Nat.le (List.length (List.getD (Prod.fst (Option.getD g ([], []))) (Int.toNat n) [])) (1000000 : Nat)) ∧ ((0 : Nat) + List.length (List.getD (Prod.fst (Option.getD g ([], []))) (Int.toNat n) []) ≤ List.length (List.getD (Prod.fst (Option.getD g ([], []))) (Int.toNat n) []) ∧ List.take (List.length (List.getD (Prod.fst (Option.getD g ([], []))) (Int.toNat n) [])) (List.getD (Prod.fst (Option.getD g ([], []))) (Int.toNat n) []) = Go.Proofs.Ytfacddeaobogjaa.N.afterG g n) ∧ True))) ∧ (Decidable.decide ((0 : Int) ≤ n) = Bool.false → [] = Go.Proofs.Ytfacddeaobogjaa.N.afterG g n ∧ True)) _ (by kernel_rfl)
  match g, h with
  | none, _ =>
    refine ⟨fun ha => ⟨fun _ => ⟨fun _ => ⟨rfl, trivial⟩, fun hb => ?_⟩, fun h => absurd h (by simp)⟩, fun _ => ⟨rfl, trivial⟩⟩
    have ha := of_decide_eq_true ha
    simp at hb
    omega
  | some (A, B), ⟨h1, h2, h3, h4⟩ =>
    have hh : afterG (some (A, B)) n = inR A n := rfl
    rw [hh]
    simp only [Option.getD_some, Option.isSome_some, Option.isNone_some]
    refine ⟨fun ha => ⟨fun h => absurd h (by simp), fun _ => ⟨trivial, fun hb => ⟨inR_no ?_, trivial⟩, fun hb => ?_⟩⟩, fun ha => ⟨inR_no ?_, trivial⟩⟩
    · simp only [Bool.not_eq_true', decide_eq_false_iff_not] at hb
      omega
    · simp only [Bool.not_eq_false', decide_eq_true_eq] at hb
      have ha := of_decide_eq_true ha
      have hr : 0 ≤ n ∧ n < (A.length : Int) := by omega
      exact ⟨trivial, hr, ⟨trivial, h3 _⟩, ⟨by omega, by rw [List.take_length]; exact inR_yes hr⟩, trivial⟩
    · have ha := of_decide_eq_false ha
      omega
theorem p32 (g : Option (Rows × Rows)) (n : Int) (h : okA g) : Pure1 Try.prog 32 [.per gC g, .int .i64 (.sym n)] (.per iC (beforeG g n)) := by
  refine pure1_of_exec (ct := (cx0 [] [c59] []).deep body28 100 20) [] Try.func32 rfl rfl ?_
  apply @cast_goal ((Decidable.decide ((0 : Int) ≤ n) = Bool.true → (Option.isNone g = Bool.true → ((!Decidable.decide (n < (0 : Int))) = Bool.true → [] = Go.Proofs.Ytfacddeaobogjaa.N.beforeG g n ∧ True) ∧ ((!Decidable.decide (n < (0 : Int))) = Bool.false → Option.isSome g = Bool.true ∧ ((0 : Int) ≤ n ∧ n < (↑(List.length (Prod.snd (Option.getD g ([], [])))) : Int)) ∧ (List.getD (Prod.snd (Option.getD g ([], []))) (Int.toNat n) [] = List.getD (Prod.snd (Option.getD g ([], []))) (Int.toNat n) [] ∧ Nat.le (List.length (List.getD (Prod.snd (Option.getD g ([], []))) (Int.toNat n) [])) (1000000 : Nat)) ∧ ((0 : Nat) + List.length (List.getD (Prod.snd (Option.getD g ([], []))) (Int.toNat n) []) ≤ List.length (List.getD (Prod.snd (Option.getD g ([], []))) (Int.toNat n) []) ∧ List.take (List.length (List.getD (Prod.snd (Option.getD g ([], []))) (Int.toNat n) [])) (List.getD (Prod.snd (Option.getD g ([], []))) (Int.toNat n) []) = Go.Proofs.Ytfacddeaobogjaa.N.beforeG g n) ∧ True)) ∧ (Option.isNone g = Bool.false → Option.isSome g = Bool.true ∧ ((!Decidable.decide (n < (↑(List.length (Prod.fst (Option.getD g ([], [])))) : Int))) = Bool.true → [] = Go.Proofs.Ytfacddeaobogjaa.N.beforeG g n ∧ True) ∧ ((!Decidable.decide (n < (↑(List.length (Prod.fst (Option.getD g ([], [])))) : Int))) = Bool.false → Option.isSome g = Bool.true ∧ ((0 : Int) ≤ n ∧ n < (↑(List.length (Prod.snd (Option.getD g ([], [])))) : Int)) ∧ (List.getD (Prod.snd (Option.getD g ([], []))) (Int.toNat n) [] = List.getD (Prod.snd (Option.getD g ([], []))) (Int.toNat n) [] ∧ Nat.le (List.length (List.getD (Prod.snd (Option.getD g ([], []))) (Int.toNat n) [])) (1000000 : Nat)) ∧ ((0 : Nat) + List.length (List.getD (Prod.snd (Option.getD g ([], []))) (Int.toNat n) []) ≤ List.length (List.getD (Prod.snd (Option.getD g ([], []))) (Int.toNat n) []) ∧ List.take (List.length (List.getD (Prod.snd (Option.getD g ([], []))) (Int.toNat n) [])) (List.getD (Prod.snd (Option.getD g ([], []))) (Int.toNat n) []) = Go.Proofs.Ytfacddeaobogjaa.N.beforeG g n) ∧ True))) ∧ (Decidable.decide ((0 : Int) ≤ n) = Bool.false → [] = Go.Proofs.Ytfacddeaobogjaa.N.beforeG g n ∧ True)) _ (by kernel_rfl)
  match g, h with
  | none, _ =>
    refine ⟨fun ha => ⟨fun _ => ⟨fun _ => ⟨rfl, trivial⟩, fun hb => ?_⟩, fun h => absurd h (by simp)⟩, fun _ => ⟨rfl, trivial⟩⟩
    have ha := of_decide_eq_true ha
    simp at hb
    omega
  | some (A, B), ⟨h1, h2, h3, h4⟩ =>
    have hh : beforeG (some (A, B)) n = inR B n := rfl
    rw [hh]
    simp only [Option.getD_some, Option.isSome_some, Option.isNone_some]
    refine ⟨fun ha => ⟨fun h => absurd h (by simp), fun _ => ⟨trivial, fun hb => ⟨inR_no ?_, trivial⟩, fun hb => ?_⟩⟩, fun ha => ⟨inR_no ?_, trivial⟩⟩
    · simp only [Bool.not_eq_true', decide_eq_false_iff_not] at hb
      omega
    · simp only [Bool.not_eq_false', decide_eq_true_eq] at hb
      have ha := of_decide_eq_true ha
      have hr : 0 ≤ n ∧ n < (B.length : Int) := by omega
      exact ⟨trivial, hr, ⟨trivial, h4 _⟩, ⟨by omega, by rw [List.take_length]; exact inR_yes hr⟩, trivial⟩
    · have ha := of_decide_eq_false ha
      omega
def refA (W : Es) (n : Int) : List Int := (W.filter fun x => x.1 == n).map (·.2)
def refB (W : Es) (n : Int) : List Int := (W.filter fun x => x.2 == n).map (·.1)
def inv31 (N n : Int) (W : Es) : LInv where
  α := Nat
  S := fun k => ⟨[(1, .int .i64 (.sym n)), (2, .ptr ⟨0, .lit 0, 0, 0⟩), (5, .slice ⟨1, .lit 0, 1, 0⟩ (.sym (refA (W.take k) n).length)), (6, .int .i64 (.sym k))],
    [(0, (false, .cells 27 [.int .i64 (.sym N), .per (.sl eC) W])), (1, (false, .arr 3 (.int .i64) (refA (W.take k) n)))], 2⟩
  p := fun k => k ≤ W.length
  m := fun k => W.length - k
theorem refA_succ (W : Es) (n : Int) (k : Nat) (h : k < W.length) : refA (W.take (k + 1)) n = bif (W.getD k (0, 0)).1 == n then refA (W.take k) n ++ [(W.getD k (0, 0)).2] else refA (W.take k) n := by
  have e : W.getD k (0, 0) = W[k] := by rw [List.getD_eq_getElem?_getD, List.getElem?_eq_getElem h]; rfl
  rw [e]
  unfold refA
  rw [List.take_add_one, List.getElem?_eq_getElem h, List.filter_append, List.map_append]
  cases hx : W[k].1 == n
  · simp [hx]
  · simp [hx]
theorem refA_len (W : Es) (n : Int) (k : Nat) : (refA (W.take k) n).length ≤ W.length := by
  unfold refA
  rw [List.length_map]
  exact Nat.le_trans (List.length_filter_le _ _) (by rw [List.length_take]; omega)
theorem p31 (N n : Int) (W : Es) (h : W.length ≤ 1000000) : Pure1 Try.prog 31 [.agg [.int .i64 (.sym N), .per (.sl eC) W], .int .i64 (.sym n)] (.per iC (refA W n)) := by
  refine pure1_of_exec (ct := cx0 [] [] []) [(3, inv31 N n W)] Try.func31 rfl rfl ?_
  apply @cast_goal ((∃ (a : Nat), (n = n ∧ List.length (Go.Proofs.Ytfacddeaobogjaa.N.refA (List.take a W) n) = (0 : Nat) ∧ (0 : Int) = (↑a : Int) ∧ N = N ∧ W = W ∧ Go.Proofs.Ytfacddeaobogjaa.N.refA (List.take a W) n = []) ∧ a ≤ List.length W) ∧ ∀ (a : Nat), a ≤ List.length W → (Decidable.decide ((↑a : Int) < (↑(List.length W) : Int)) = Bool.true → ((0 : Int) ≤ (↑a : Int) ∧ (↑a : Int) < (↑(List.length W) : Int)) ∧ ((Prod.fst (List.getD W (Int.toNat (↑a : Int)) ((0 : Int), (0 : Int))) == n) = Bool.true → ((0 : Int) ≤ (↑a : Int) ∧ (↑a : Int) < (↑(List.length W) : Int)) ∧ (0 : Nat) + List.length (Go.Proofs.Ytfacddeaobogjaa.N.refA (List.take a W) n) ≤ List.length (Go.Proofs.Ytfacddeaobogjaa.N.refA (List.take a W) n) ∧ ((List.length (Go.Proofs.Ytfacddeaobogjaa.N.refA (List.take a W) n) + List.length [Prod.snd (List.getD W (Int.toNat (↑a : Int)) ((0 : Int), (0 : Int)))]) * (8 : Nat) ≤ (140737488355328 : Nat) ∧ List.length (Go.Proofs.Ytfacddeaobogjaa.N.refA (List.take a W) n) + List.length [Prod.snd (List.getD W (Int.toNat (↑a : Int)) ((0 : Int), (0 : Int)))] ≤ Go.maxLen) ∧ Go.DF.okI64 ((↑a : Int) + (1 : Int)) ∧ ∃ (a' : Nat), (n = n ∧ List.length (Go.Proofs.Ytfacddeaobogjaa.N.refA (List.take a W) n) + (1 : Nat) = List.length (Go.Proofs.Ytfacddeaobogjaa.N.refA (List.take a' W) n) ∧ (↑a : Int) + (1 : Int) = (↑a' : Int) ∧ N = N ∧ W = W ∧ List.take (List.length (Go.Proofs.Ytfacddeaobogjaa.N.refA (List.take a W) n)) (Go.Proofs.Ytfacddeaobogjaa.N.refA (List.take a W) n) ++ [Prod.snd (List.getD W (Int.toNat (↑a : Int)) ((0 : Int), (0 : Int)))] = Go.Proofs.Ytfacddeaobogjaa.N.refA (List.take a' W) n) ∧ a' ≤ List.length W ∧ List.length W - a' < List.length W - a) ∧ ((Prod.fst (List.getD W (Int.toNat (↑a : Int)) ((0 : Int), (0 : Int))) == n) = Bool.false → Go.DF.okI64 ((↑a : Int) + (1 : Int)) ∧ ∃ (a' : Nat), (n = n ∧ List.length (Go.Proofs.Ytfacddeaobogjaa.N.refA (List.take a W) n) = List.length (Go.Proofs.Ytfacddeaobogjaa.N.refA (List.take a' W) n) ∧ (↑a : Int) + (1 : Int) = (↑a' : Int) ∧ N = N ∧ W = W ∧ Go.Proofs.Ytfacddeaobogjaa.N.refA (List.take a W) n = Go.Proofs.Ytfacddeaobogjaa.N.refA (List.take a' W) n) ∧ a' ≤ List.length W ∧ List.length W - a' < List.length W - a)) ∧ (Decidable.decide ((↑a : Int) < (↑(List.length W) : Int)) = Bool.false → ((0 : Nat) + List.length (Go.Proofs.Ytfacddeaobogjaa.N.refA (List.take a W) n) ≤ List.length (Go.Proofs.Ytfacddeaobogjaa.N.refA (List.take a W) n) ∧ List.take (List.length (Go.Proofs.Ytfacddeaobogjaa.N.refA (List.take a W) n)) (Go.Proofs.Ytfacddeaobogjaa.N.refA (List.take a W) n) = Go.Proofs.Ytfacddeaobogjaa.N.refA W n) ∧ True)) _ (by kernel_rfl)
  have hmax : maxLen = 9223372036854775807 := rfl
  refine ⟨⟨0, ⟨rfl, rfl, rfl, rfl, rfl, rfl⟩, Nat.zero_le _⟩, fun k hk => ⟨fun hlt => ?_, fun hge => ?_⟩⟩
  · have hlt : k < W.length := by have := of_decide_eq_true hlt; omega
    have e : Int.toNat (k : Int) = k := by omega
    have hs := refA_succ W n k hlt
    have hl := refA_len W n k
    simp only [e, List.length_singleton, List.take_length]
    refine ⟨⟨by omega, by omega⟩, fun hb => ?_, fun hb => ?_⟩
    · rw [hb] at hs
      exact ⟨⟨by omega, by omega⟩, by omega, ⟨by omega, by omega⟩, by unfold okI64; omega, k + 1, ⟨trivial, by rw [hs]; simp, by omega, trivial, trivial, by rw [hs]; rfl⟩, by omega, by omega⟩
    · rw [hb] at hs
      exact ⟨by unfold okI64; omega, k + 1, ⟨trivial, by rw [hs]; rfl, by omega, trivial, trivial, by rw [hs]; rfl⟩, by omega, by omega⟩
  · have : k = W.length := by have := of_decide_eq_false hge; omega
    subst this
    rw [List.take_length, List.take_length]
    exact ⟨⟨by omega, rfl⟩, trivial⟩
def inv33 (N n : Int) (W : Es) : LInv where
  α := Nat
  S := fun k => ⟨[(1, .int .i64 (.sym n)), (2, .ptr ⟨0, .lit 0, 0, 0⟩), (5, .slice ⟨1, .lit 0, 1, 0⟩ (.sym (refB (W.take k) n).length)), (6, .int .i64 (.sym k))],
    [(0, (false, .cells 27 [.int .i64 (.sym N), .per (.sl eC) W])), (1, (false, .arr 3 (.int .i64) (refB (W.take k) n)))], 2⟩
  p := fun k => k ≤ W.length
  m := fun k => W.length - k
theorem refB_succ (W : Es) (n : Int) (k : Nat) (h : k < W.length) : refB (W.take (k + 1)) n = bif (W.getD k (0, 0)).2 == n then refB (W.take k) n ++ [(W.getD k (0, 0)).1] else refB (W.take k) n := by
  have e : W.getD k (0, 0) = W[k] := by rw [List.getD_eq_getElem?_getD, List.getElem?_eq_getElem h]; rfl
  rw [e]
  unfold refB
  rw [List.take_add_one, List.getElem?_eq_getElem h, List.filter_append, List.map_append]
  cases hx : W[k].2 == n
  · simp [hx]
  · simp [hx]
theorem refB_len (W : Es) (n : Int) (k : Nat) : (refB (W.take k) n).length ≤ W.length := by
  unfold refB
  rw [List.length_map]
  exact Nat.le_trans (List.length_filter_le _ _) (by rw [List.length_take]; omega)
theorem p33 (N n : Int) (W : Es) (h : W.length ≤ 1000000) : Pure1 Try.prog 33 [.agg [.int .i64 (.sym N), .per (.sl eC) W], .int .i64 (.sym n)] (.per iC (refB W n)) := by
  refine pure1_of_exec (ct := cx0 [] [] []) [(3, inv33 N n W)] Try.func33 rfl rfl ?_
  apply @cast_goal ((∃ (a : Nat), (n = n ∧ List.length (Go.Proofs.Ytfacddeaobogjaa.N.refB (List.take a W) n) = (0 : Nat) ∧ (0 : Int) = (↑a : Int) ∧ N = N ∧ W = W ∧ Go.Proofs.Ytfacddeaobogjaa.N.refB (List.take a W) n = []) ∧ a ≤ List.length W) ∧ ∀ (a : Nat), a ≤ List.length W → (Decidable.decide ((↑a : Int) < (↑(List.length W) : Int)) = Bool.true → ((0 : Int) ≤ (↑a : Int) ∧ (↑a : Int) < (↑(List.length W) : Int)) ∧ ((Prod.snd (List.getD W (Int.toNat (↑a : Int)) ((0 : Int), (0 : Int))) == n) = Bool.true → ((0 : Int) ≤ (↑a : Int) ∧ (↑a : Int) < (↑(List.length W) : Int)) ∧ (0 : Nat) + List.length (Go.Proofs.Ytfacddeaobogjaa.N.refB (List.take a W) n) ≤ List.length (Go.Proofs.Ytfacddeaobogjaa.N.refB (List.take a W) n) ∧ ((List.length (Go.Proofs.Ytfacddeaobogjaa.N.refB (List.take a W) n) + List.length [Prod.fst (List.getD W (Int.toNat (↑a : Int)) ((0 : Int), (0 : Int)))]) * (8 : Nat) ≤ (140737488355328 : Nat) ∧ List.length (Go.Proofs.Ytfacddeaobogjaa.N.refB (List.take a W) n) + List.length [Prod.fst (List.getD W (Int.toNat (↑a : Int)) ((0 : Int), (0 : Int)))] ≤ Go.maxLen) ∧ Go.DF.okI64 ((↑a : Int) + (1 : Int)) ∧ ∃ (a' : Nat), (n = n ∧ List.length (Go.Proofs.Ytfacddeaobogjaa.N.refB (List.take a W) n) + (1 : Nat) = List.length (Go.Proofs.Ytfacddeaobogjaa.N.refB (List.take a' W) n) ∧ (↑a : Int) + (1 : Int) = (↑a' : Int) ∧ N = N ∧ W = W ∧ List.take (List.length (Go.Proofs.Ytfacddeaobogjaa.N.refB (List.take a W) n)) (Go.Proofs.Ytfacddeaobogjaa.N.refB (List.take a W) n) ++ [Prod.fst (List.getD W (Int.toNat (↑a : Int)) ((0 : Int), (0 : Int)))] = Go.Proofs.Ytfacddeaobogjaa.N.refB (List.take a' W) n) ∧ a' ≤ List.length W ∧ List.length W - a' < List.length W - a) ∧ ((Prod.snd (List.getD W (Int.toNat (↑a : Int)) ((0 : Int), (0 : Int))) == n) = Bool.false → Go.DF.okI64 ((↑a : Int) + (1 : Int)) ∧ ∃ (a' : Nat), (n = n ∧ List.length (Go.Proofs.Ytfacddeaobogjaa.N.refB (List.take a W) n) = List.length (Go.Proofs.Ytfacddeaobogjaa.N.refB (List.take a' W) n) ∧ (↑a : Int) + (1 : Int) = (↑a' : Int) ∧ N = N ∧ W = W ∧ Go.Proofs.Ytfacddeaobogjaa.N.refB (List.take a W) n = Go.Proofs.Ytfacddeaobogjaa.N.refB (List.take a' W) n) ∧ a' ≤ List.length W ∧ List.length W - a' < List.length W - a)) ∧ (Decidable.decide ((↑a : Int) < (↑(List.length W) : Int)) = Bool.false → ((0 : Nat) + List.length (Go.Proofs.Ytfacddeaobogjaa.N.refB (List.take a W) n) ≤ List.length (Go.Proofs.Ytfacddeaobogjaa.N.refB (List.take a W) n) ∧ List.take (List.length (Go.Proofs.Ytfacddeaobogjaa.N.refB (List.take a W) n)) (Go.Proofs.Ytfacddeaobogjaa.N.refB (List.take a W) n) = Go.Proofs.Ytfacddeaobogjaa.N.refB W n) ∧ True)) _ (by kernel_rfl)
  have hmax : maxLen = 9223372036854775807 := rfl
  refine ⟨⟨0, ⟨rfl, rfl, rfl, rfl, rfl, rfl⟩, Nat.zero_le _⟩, fun k hk => ⟨fun hlt => ?_, fun hge => ?_⟩⟩
  · have hlt : k < W.length := by have := of_decide_eq_true hlt; omega
    have e : Int.toNat (k : Int) = k := by omega
    have hs := refB_succ W n k hlt
    have hl := refB_len W n k
    simp only [e, List.length_singleton, List.take_length]
    refine ⟨⟨by omega, by omega⟩, fun hb => ?_, fun hb => ?_⟩
    · rw [hb] at hs
      exact ⟨⟨by omega, by omega⟩, by omega, ⟨by omega, by omega⟩, by unfold okI64; omega, k + 1, ⟨trivial, by rw [hs]; simp, by omega, trivial, trivial, by rw [hs]; rfl⟩, by omega, by omega⟩
    · rw [hb] at hs
      exact ⟨by unfold okI64; omega, k + 1, ⟨trivial, by rw [hs]; rfl, by omega, trivial, trivial, by rw [hs]; rfl⟩, by omega, by omega⟩
  · have : k = W.length := by have := of_decide_eq_false hge; omega
    subst this
    rw [List.take_length, List.take_length]
    exact ⟨⟨by omega, rfl⟩, trivial⟩
def eqL (a b : List Int) : Bool := decide (a = b)
def inv15' (a b : List Int) : LInv where
  α := Nat
  S := fun k => ⟨[(0, .per iC a), (1, .per iC b), (5, .int .i64 (.sym k))], [], 0⟩
  p := fun k => k ≤ a.length ∧ b.length = a.length ∧ ∀ j, j < k → a.getD j 0 = b.getD j 0
  m := fun k => a.length - k
theorem list_ext {α : Type} {d : α} {a b : List α} (h : b.length = a.length) (h3 : ∀ j, j < a.length → a.getD j d = b.getD j d) : a = b := by
  apply List.ext_getElem?
  intro j
  by_cases hj : j < a.length
  · have := h3 j hj
    rw [List.getD_eq_getElem?_getD, List.getD_eq_getElem?_getD, List.getElem?_eq_getElem hj, List.getElem?_eq_getElem (by omega)] at this
    rw [List.getElem?_eq_getElem hj, List.getElem?_eq_getElem (by omega)]
    exact congrArg some this
  · rw [List.getElem?_eq_none (by omega), List.getElem?_eq_none (by omega)]
theorem p15 (a b : List Int) (hn : a.length ≤ 1000000000) : Pure1 Try.prog 15 [.per iC a, .per iC b] (.bool (.sym (eqL a b))) := by
  refine pure1_of_exec (ct := cx0 [] [] []) [(4, inv15' a b)] Try.func15 rfl rfl ?_
  apply @cast_goal ((((↑(List.length a) : Int) != (↑(List.length b) : Int)) = Bool.true → Bool.false = Go.Proofs.Ytfacddeaobogjaa.N.eqL a b ∧ True) ∧ (((↑(List.length a) : Int) != (↑(List.length b) : Int)) = Bool.false → (∃ (a_2 : Nat), (a = a ∧ b = b ∧ (0 : Int) = (↑a_2 : Int)) ∧ a_2 ≤ List.length a ∧ List.length b = List.length a ∧ ∀ (j : Nat), j < a_2 → List.getD a j (0 : Int) = List.getD b j (0 : Int)) ∧ ∀ (a_2 : Nat), (a_2 ≤ List.length a ∧ List.length b = List.length a ∧ ∀ (j : Nat), j < a_2 → List.getD a j (0 : Int) = List.getD b j (0 : Int)) → (Decidable.decide ((↑a_2 : Int) < (↑(List.length a) : Int)) = Bool.true → ((0 : Int) ≤ (↑a_2 : Int) ∧ (↑a_2 : Int) < (↑(List.length a) : Int)) ∧ ((0 : Int) ≤ (↑a_2 : Int) ∧ (↑a_2 : Int) < (↑(List.length b) : Int)) ∧ ((List.getD a (Int.toNat (↑a_2 : Int)) (0 : Int) != List.getD b (Int.toNat (↑a_2 : Int)) (0 : Int)) = Bool.true → Bool.false = Go.Proofs.Ytfacddeaobogjaa.N.eqL a b ∧ True) ∧ ((List.getD a (Int.toNat (↑a_2 : Int)) (0 : Int) != List.getD b (Int.toNat (↑a_2 : Int)) (0 : Int)) = Bool.false → Go.DF.okI64 ((↑a_2 : Int) + (1 : Int)) ∧ ∃ (a' : Nat), (a = a ∧ b = b ∧ (↑a_2 : Int) + (1 : Int) = (↑a' : Int)) ∧ (a' ≤ List.length a ∧ List.length b = List.length a ∧ ∀ (j : Nat), j < a' → List.getD a j (0 : Int) = List.getD b j (0 : Int)) ∧ List.length a - a' < List.length a - a_2)) ∧ (Decidable.decide ((↑a_2 : Int) < (↑(List.length a) : Int)) = Bool.false → Bool.true = Go.Proofs.Ytfacddeaobogjaa.N.eqL a b ∧ True))) _ (by kernel_rfl)
  have ne : a.length ≠ b.length → false = eqL a b := fun h => by
    unfold eqL
    rw [eq_comm, decide_eq_false_iff_not]; intro e; rw [e] at h; exact h rfl
  refine ⟨fun h => ⟨ne (by have := bne_iff_ne.1 h; omega), trivial⟩, fun h => ?_⟩
  have hl : b.length = a.length := by have := bne_eq_false_iff_eq.1 h; omega
  refine ⟨⟨0, ⟨rfl, rfl, rfl⟩, Nat.zero_le _, hl, fun j hj => absurd hj (Nat.not_lt_zero j)⟩, fun k ⟨h1, h2, h3⟩ => ⟨fun hlt => ?_, fun hge => ⟨?_, trivial⟩⟩⟩
  · have hlt : k < a.length := by have := of_decide_eq_true hlt; omega
    have e : Int.toNat (k : Int) = k := by omega
    simp only [e]
    refine ⟨⟨by omega, by omega⟩, ⟨by omega, by omega⟩, fun hb => ⟨?_, trivial⟩, fun hb => ⟨by unfold okI64; omega, k + 1, ⟨trivial, trivial, by omega⟩, ⟨by omega, h2, fun j hj => ?_⟩, by omega⟩⟩
    · unfold eqL
      rw [eq_comm, decide_eq_false_iff_not]; intro e; rw [e] at hb; simp at hb
    · rcases Nat.lt_or_ge j k with h | h
      · exact h3 j h
      · have : j = k := by omega
        subst this
        exact bne_eq_false_iff_eq.1 hb
  · have hge : a.length ≤ k := by have := of_decide_eq_false hge; omega
    unfold eqL
    rw [eq_comm, decide_eq_true_iff]
    exact list_ext h2 fun j hj => h3 j (by omega)
def swp (x : Int × Int) : Int × Int := (x.2, x.1)
def inv35 (N : Int) (W : Es) : LInv where
  α := Nat
  S := fun k => ⟨[(1, .ptr ⟨0, .lit 0, 0, 0⟩), (2, .ptr ⟨1, .lit 0, 0, 0⟩), (3, .slice ⟨2, .lit 0, 2, 0⟩ (.sym k)), (4, .int .i64 (.sym k))],
    [(0, (false, .cells 27 [.int .i64 (.sym N), .per (.sl eC) W])), (1, (false, .cells 27 [.int .i64 (.lit 0), .nilslice])), (2, (false, .arr 71 eC ((W.take k).map swp)))], 3⟩
  p := fun k => k ≤ W.length
  m := fun k => W.length - k
theorem p35 (N : Int) (W : Es) (h : W.length ≤ 1000000) : Pure1 Try.prog 35 [.agg [.int .i64 (.sym N), .per (.sl eC) W]] (.agg [.int .i64 (.sym (rN N (W.map swp))), .per (.sl eC) (rE N (W.map swp))]) := by
  refine pure1_of_exec (ct := cx0 [c22] [] []) [(3, inv35 N W)] Try.func35 rfl rfl ?_
  apply @cast_goal ((∃ (a : Nat), (a = (0 : Nat) ∧ (0 : Int) = (↑a : Int) ∧ N = N ∧ W = W ∧ List.map Go.Proofs.Ytfacddeaobogjaa.N.swp (List.take a W) = []) ∧ a ≤ List.length W) ∧ ∀ (a : Nat), a ≤ List.length W → (Decidable.decide ((↑a : Int) < (↑(List.length W) : Int)) = Bool.true → ((0 : Int) ≤ (↑a : Int) ∧ (↑a : Int) < (↑(List.length W) : Int)) ∧ ((0 : Int) ≤ (↑a : Int) ∧ (↑a : Int) < (↑(List.length W) : Int)) ∧ (0 : Nat) + a ≤ List.length (List.map Go.Proofs.Ytfacddeaobogjaa.N.swp (List.take a W)) ∧ ((a + List.length [(Prod.snd (List.getD W (Int.toNat (↑a : Int)) ((0 : Int), (0 : Int))), Prod.fst (List.getD W (Int.toNat (↑a : Int)) ((0 : Int), (0 : Int))))]) * (16 : Nat) ≤ (140737488355328 : Nat) ∧ a + List.length [(Prod.snd (List.getD W (Int.toNat (↑a : Int)) ((0 : Int), (0 : Int))), Prod.fst (List.getD W (Int.toNat (↑a : Int)) ((0 : Int), (0 : Int))))] ≤ Go.maxLen) ∧ Go.DF.okI64 ((↑a : Int) + (1 : Int)) ∧ ∃ (a' : Nat), (a + (1 : Nat) = a' ∧ (↑a : Int) + (1 : Int) = (↑a' : Int) ∧ N = N ∧ W = W ∧ List.take a (List.map Go.Proofs.Ytfacddeaobogjaa.N.swp (List.take a W)) ++ [(Prod.snd (List.getD W (Int.toNat (↑a : Int)) ((0 : Int), (0 : Int))), Prod.fst (List.getD W (Int.toNat (↑a : Int)) ((0 : Int), (0 : Int))))] = List.map Go.Proofs.Ytfacddeaobogjaa.N.swp (List.take a' W)) ∧ a' ≤ List.length W ∧ List.length W - a' < List.length W - a) ∧ (Decidable.decide ((↑a : Int) < (↑(List.length W) : Int)) = Bool.false → Nat.le ((0 : Nat) + a) (List.length (List.map Go.Proofs.Ytfacddeaobogjaa.N.swp (List.take a W))) ∧ List.length (List.take a (List.map Go.Proofs.Ytfacddeaobogjaa.N.swp (List.take a W))) ≤ (1000000 : Nat) ∧ (Go.Proofs.Ytfacddeaobogjaa.N.rN N (List.take a (List.map Go.Proofs.Ytfacddeaobogjaa.N.swp (List.take a W))) = Go.Proofs.Ytfacddeaobogjaa.N.rN N (List.map Go.Proofs.Ytfacddeaobogjaa.N.swp W) ∧ Go.Proofs.Ytfacddeaobogjaa.N.rE N (List.take a (List.map Go.Proofs.Ytfacddeaobogjaa.N.swp (List.take a W))) = Go.Proofs.Ytfacddeaobogjaa.N.rE N (List.map Go.Proofs.Ytfacddeaobogjaa.N.swp W)) ∧ True)) _ (by kernel_rfl)
  have hmax : maxLen = 9223372036854775807 := rfl
  refine ⟨⟨0, ⟨rfl, rfl, rfl, rfl, rfl⟩, Nat.zero_le _⟩, fun k hk => ⟨fun hlt => ?_, fun hge => ?_⟩⟩
  · have hlt : k < W.length := by have := of_decide_eq_true hlt; omega
    have e : Int.toNat (k : Int) = k := by omega
    have hl : ((W.take k).map swp).length = k := by rw [List.length_map, List.length_take]; omega
    simp only [e, List.length_singleton, hl]
    refine ⟨⟨by omega, by omega⟩, ⟨by omega, by omega⟩, by omega, ⟨by omega, by omega⟩, by unfold okI64; omega, k + 1, ⟨rfl, by omega, trivial, trivial, ?_⟩, by omega, by omega⟩
    rw [List.take_of_length_le (by rw [hl]; omega), List.take_add_one, List.map_append, List.getElem?_eq_getElem hlt, List.getD_eq_getElem?_getD, List.getElem?_eq_getElem hlt]
    rfl
  · have : k = W.length := by have := of_decide_eq_false hge; omega
    subst this
    have hl : (W.map swp).length = W.length := by rw [List.length_map]
    rw [List.take_length, List.take_of_length_le (by omega)]
    exact ⟨by show 0 + W.length ≤ _; omega, by omega, ⟨rfl, rfl⟩, trivial⟩
def c30 : PureC Try.prog where
  f := 30
  sig := [.dat false gC, .dat false (.int .i64)]
  per := true
  spec := fun x => .ob (okA x.1) none (.leaf (.per iC (afterG x.1 x.2.1)))
  body := hasBody_of Try.func30 (by kernel_rfl) (by kernel_rfl)
  ok := fun x d h => by
    obtain ⟨h1, h⟩ := h
    obtain rfl : d = _ := h
    exact p30 x.1 x.2.1 h1
def c32 : PureC Try.prog where
  f := 32
  sig := [.dat false gC, .dat false (.int .i64)]
  per := true
  spec := fun x => .ob (okA x.1) none (.leaf (.per iC (beforeG x.1 x.2.1)))
  body := hasBody_of Try.func32 (by kernel_rfl) (by kernel_rfl)
  ok := fun x d h => by
    obtain ⟨h1, h⟩ := h
    obtain rfl : d = _ := h
    exact p32 x.1 x.2.1 h1
def c31 : PureC Try.prog where
  f := 31
  sig := [.dat true (.pair (.int .i64) (.sl eC)), .dat false (.int .i64)]
  per := true
  spec := fun x => .ob (List.length x.1.2 ≤ 1000000) none (.leaf (.per iC (refA x.1.2 x.2.1)))
  body := hasBody_of Try.func31 (by kernel_rfl) (by kernel_rfl)
  ok := fun x d h => by
    obtain ⟨h1, h⟩ := h
    obtain rfl : d = _ := h
    exact p31 x.1.1 x.2.1 x.1.2 h1
def c33 : PureC Try.prog where
  f := 33
  sig := [.dat true (.pair (.int .i64) (.sl eC)), .dat false (.int .i64)]
  per := true
  spec := fun x => .ob (List.length x.1.2 ≤ 1000000) none (.leaf (.per iC (refB x.1.2 x.2.1)))
  body := hasBody_of Try.func33 (by kernel_rfl) (by kernel_rfl)
  ok := fun x d h => by
    obtain ⟨h1, h⟩ := h
    obtain rfl : d = _ := h
    exact p33 x.1.1 x.2.1 x.1.2 h1
def c15 : PureC Try.prog where
  f := 15
  sig := [.dat false iC, .dat false iC]
  per := false
  spec := fun x => .ob (List.length x.1 ≤ 1000000000) none (.leaf (.bool (.sym (eqL x.1 x.2.1))))
  body := hasBody_of Try.func15 (by kernel_rfl) (by kernel_rfl)
  ok := fun x d h => by
    obtain ⟨h1, h⟩ := h
    obtain rfl : d = _ := h
    exact p15 x.1 x.2.1 h1
def c35 : PureC Try.prog where
  f := 35
  sig := [.dat true (.pair (.int .i64) (.sl eC))]
  per := true
  spec := fun x => .ob (List.length x.1.2 ≤ 1000000) none (.leaf (.agg [.int .i64 (.sym (rN x.1.1 (List.map swp x.1.2))), .per (.sl eC) (rE x.1.1 (List.map swp x.1.2))]))
  body := hasBody_of Try.func35 (by kernel_rfl) (by kernel_rfl)
  ok := fun x d h => by
    obtain ⟨h1, h⟩ := h
    obtain rfl : d = _ := h
    exact p35 x.1.1 x.1.2 h1
end Go.Proofs.Ytfacddeaobogjaa.N
