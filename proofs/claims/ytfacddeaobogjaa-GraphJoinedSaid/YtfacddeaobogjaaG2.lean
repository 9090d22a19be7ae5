import Derived.Test.YtfacddeaobogjaaF12
import Derived.Test.YtfacddeaobogjaaG1
set_option linter.unusedVariables false
set_option linter.unusedSimpArgs false
set_option linter.unnecessarySimpa false
set_option linter.unusedVariables false
set_option linter.unusedSimpArgs false
/- To, the reference's New, Edges, sameEdges. -/
namespace Go.Proofs.Ytfacddeaobogjaa.N
open Go.DF
set_option maxRecDepth 100000
def c20 : PureC Try.prog where
  f := 20
  sig := [.dat false (.int .i64), .dat false (.sl eC)]
  per := true
  spec := fun x => .leaf (.tup [.per gC (gDat x.1 x.2.1), .int .i64 (.sym (gErr x.1 x.2.1))])
  body := hasBody_of Try.func20 (by kernel_rfl) (by kernel_rfl)
  ok := fun x d h => by obtain rfl : d = _ := h; exact p20 x.1 x.2.1
def inv21 (es : Es) : LInv where
  α := Nat
  S := fun k => ⟨[(0, .per (.sl eC) es), (3, .slice ⟨0, .lit 0, 2, 0⟩ (.sym k)), (4, .int .i64 (.sym k))], [(0, (false, .arr 63 eC (es.take k)))], 1⟩
  p := fun k => k ≤ es.length
  m := fun k => es.length - k
theorem p21 (es : Es) (hn : es.length ≤ 1000000) : Pure1 Try.prog 21 [.per (.sl eC) es] (.per (.sl eC) es) := by
  refine pure1_of_exec (ct := cx0 [] [] []) [(3, inv21 es)] Try.func21 rfl rfl ?_
  refine cast_goal (p := (∃ (a : Nat), (es = es ∧ a = (0 : Nat) ∧ (0 : Int) = (↑a : Int) ∧ List.take a es = []) ∧ a ≤ List.length es) ∧ ∀ (a : Nat), a ≤ List.length es → (Decidable.decide ((↑a : Int) < (↑(List.length es) : Int)) = Bool.true → ((0 : Int) ≤ (↑a : Int) ∧ (↑a : Int) < (↑(List.length es) : Int)) ∧ ((0 : Int) ≤ (↑a : Int) ∧ (↑a : Int) < (↑(List.length es) : Int)) ∧ (0 : Nat) + a ≤ List.length (List.take a es) ∧ ((a + List.length [List.getD es (Int.toNat (↑a : Int)) ((0 : Int), (0 : Int))]) * (16 : Nat) ≤ (140737488355328 : Nat) ∧ a + List.length [List.getD es (Int.toNat (↑a : Int)) ((0 : Int), (0 : Int))] ≤ Go.maxLen) ∧ Go.DF.okI64 ((↑a : Int) + (1 : Int)) ∧ ∃ (a' : Nat), (es = es ∧ a + (1 : Nat) = a' ∧ (↑a : Int) + (1 : Int) = (↑a' : Int) ∧ List.take a (List.take a es) ++ [List.getD es (Int.toNat (↑a : Int)) ((0 : Int), (0 : Int))] = List.take a' es) ∧ a' ≤ List.length es ∧ List.length es - a' < List.length es - a) ∧ (Decidable.decide ((↑a : Int) < (↑(List.length es) : Int)) = Bool.false → ((0 : Nat) + a ≤ List.length (List.take a es) ∧ List.take a (List.take a es) = es) ∧ True)) (by kernel_rfl) ?_
  have hmax : maxLen = 9223372036854775807 := rfl
  refine ⟨⟨0, ⟨rfl, rfl, rfl, rfl⟩, Nat.zero_le _⟩, fun a ha => ⟨fun hlt => ?_, fun hge => ?_⟩⟩
  · have hlt : a < es.length := by have := of_decide_eq_true hlt; omega
    have e : Int.toNat (a : Int) = a := by omega
    simp only [e, List.length_singleton, List.length_take, List.take_take, Nat.min_self]
    refine ⟨⟨by omega, by omega⟩, ⟨by omega, by omega⟩, by omega, ⟨by omega, by omega⟩, by unfold okI64; omega, a + 1, ⟨trivial, rfl, by omega, ?_⟩, by omega, by omega⟩
    rw [List.take_add_one, List.getD_eq_getElem?_getD, List.getElem?_eq_getElem hlt]; rfl
  · have : a = es.length := by have := of_decide_eq_false hge; omega
    subst this
    rw [List.take_length, List.take_length]
    exact ⟨⟨by omega, rfl⟩, trivial⟩
def c21 : PureC Try.prog where
  f := 21
  sig := [.dat false (.sl eC)]
  per := true
  spec := fun x => .ob (x.1.length ≤ 1000000) none (.leaf (.per (.sl eC) x.1))
  body := hasBody_of Try.func21 (by kernel_rfl) (by kernel_rfl)
  ok := fun x d h => by
    obtain ⟨h1, h⟩ := h
    obtain rfl : d = _ := h
    exact p21 x.1 h1
def inv24 (a b : Es) : LInv where
  α := Nat
  S := fun k => ⟨[(0, .per (.sl eC) a), (1, .per (.sl eC) b), (5, .int .i64 (.sym k))], [], 0⟩
  p := fun k => k ≤ a.length ∧ b.length = a.length ∧ ∀ j, j < k → a.getD j (0, 0) = b.getD j (0, 0)
  m := fun k => a.length - k
def eqE (a b : Es) : Bool := decide (a = b)
theorem p24 (a b : Es) (hn : a.length ≤ 1000000000) : Pure1 Try.prog 24 [.per (.sl eC) a, .per (.sl eC) b] (.bool (.sym (eqE a b))) := by
  refine pure1_of_exec (ct := cx0 [] [] []) [(4, inv24 a b)] Try.func24 rfl rfl ?_
  refine cast_goal (p := (((↑(List.length a) : Int) != (↑(List.length b) : Int)) = Bool.true → Bool.false = Go.Proofs.Ytfacddeaobogjaa.N.eqE a b ∧ True) ∧ (((↑(List.length a) : Int) != (↑(List.length b) : Int)) = Bool.false → (∃ (a_2 : Nat), (a = a ∧ b = b ∧ (0 : Int) = (↑a_2 : Int)) ∧ a_2 ≤ List.length a ∧ List.length b = List.length a ∧ ∀ (j : Nat), j < a_2 → List.getD a j ((0 : Int), (0 : Int)) = List.getD b j ((0 : Int), (0 : Int))) ∧ ∀ (a_2 : Nat), (a_2 ≤ List.length a ∧ List.length b = List.length a ∧ ∀ (j : Nat), j < a_2 → List.getD a j ((0 : Int), (0 : Int)) = List.getD b j ((0 : Int), (0 : Int))) → (Decidable.decide ((↑a_2 : Int) < (↑(List.length a) : Int)) = Bool.true → (((0 : Int) ≤ (↑a_2 : Int) ∧ (↑a_2 : Int) < (↑(List.length a) : Int)) ∧ ((0 : Int) ≤ (↑a_2 : Int) ∧ (↑a_2 : Int) < (↑(List.length b) : Int)) ∧ ((Prod.fst (List.getD a (Int.toNat (↑a_2 : Int)) ((0 : Int), (0 : Int))) != Prod.fst (List.getD b (Int.toNat (↑a_2 : Int)) ((0 : Int), (0 : Int)))) = Bool.true → True) ∧ ((Prod.fst (List.getD a (Int.toNat (↑a_2 : Int)) ((0 : Int), (0 : Int))) != Prod.fst (List.getD b (Int.toNat (↑a_2 : Int)) ((0 : Int), (0 : Int)))) = Bool.false → ((0 : Int) ≤ (↑a_2 : Int) ∧ (↑a_2 : Int) < (↑(List.length a) : Int)) ∧ ((0 : Int) ≤ (↑a_2 : Int) ∧ (↑a_2 : Int) < (↑(List.length b) : Int)) ∧ True)) ∧ ((Prod.fst (List.getD a (Int.toNat (↑a_2 : Int)) ((0 : Int), (0 : Int))) != Prod.fst (List.getD b (Int.toNat (↑a_2 : Int)) ((0 : Int), (0 : Int))) || Prod.snd (List.getD a (Int.toNat (↑a_2 : Int)) ((0 : Int), (0 : Int))) != Prod.snd (List.getD b (Int.toNat (↑a_2 : Int)) ((0 : Int), (0 : Int)))) = Bool.true → Bool.false = Go.Proofs.Ytfacddeaobogjaa.N.eqE a b ∧ True) ∧ ((Prod.fst (List.getD a (Int.toNat (↑a_2 : Int)) ((0 : Int), (0 : Int))) != Prod.fst (List.getD b (Int.toNat (↑a_2 : Int)) ((0 : Int), (0 : Int))) || Prod.snd (List.getD a (Int.toNat (↑a_2 : Int)) ((0 : Int), (0 : Int))) != Prod.snd (List.getD b (Int.toNat (↑a_2 : Int)) ((0 : Int), (0 : Int)))) = Bool.false → Go.DF.okI64 ((↑a_2 : Int) + (1 : Int)) ∧ ∃ (a' : Nat), (a = a ∧ b = b ∧ (↑a_2 : Int) + (1 : Int) = (↑a' : Int)) ∧ (a' ≤ List.length a ∧ List.length b = List.length a ∧ ∀ (j : Nat), j < a' → List.getD a j ((0 : Int), (0 : Int)) = List.getD b j ((0 : Int), (0 : Int))) ∧ List.length a - a' < List.length a - a_2)) ∧ (Decidable.decide ((↑a_2 : Int) < (↑(List.length a) : Int)) = Bool.false → Bool.true = Go.Proofs.Ytfacddeaobogjaa.N.eqE a b ∧ True))) (by kernel_rfl) ?_
  have ne : a.length ≠ b.length → false = eqE a b := fun h => by
    unfold eqE
    rw [eq_comm, decide_eq_false_iff_not]; intro e; rw [e] at h; exact h rfl
  refine ⟨fun h => ⟨ne (by have := bne_iff_ne.1 h; omega), trivial⟩, fun h => ?_⟩
  have hl : b.length = a.length := by have := bne_eq_false_iff_eq.1 h; omega
  refine ⟨⟨0, ⟨rfl, rfl, rfl⟩, Nat.zero_le _, hl, fun j hj => absurd hj (Nat.not_lt_zero j)⟩, fun k ⟨h1, h2, h3⟩ => ⟨fun hlt => ?_, fun hge => ⟨?_, trivial⟩⟩⟩
  · have hlt : k < a.length := by have := of_decide_eq_true hlt; omega
    have e : Int.toNat (k : Int) = k := by omega
    simp only [e]
    refine ⟨⟨⟨by omega, by omega⟩, ⟨by omega, by omega⟩, fun _ => trivial, fun _ => ⟨⟨by omega, by omega⟩, ⟨by omega, by omega⟩, trivial⟩⟩, fun hb => ⟨?_, trivial⟩, fun hb => ⟨by unfold okI64; omega, k + 1, ⟨trivial, trivial, by omega⟩, ⟨by omega, h2, fun j hj => ?_⟩, by omega⟩⟩
    · unfold eqE
      rw [eq_comm, decide_eq_false_iff_not]; intro e; rw [e] at hb; simp at hb
    · rcases Nat.lt_or_ge j k with h | h
      · exact h3 j h
      · have : j = k := by omega
        subst this
        simp only [Bool.or_eq_false_iff, bne_eq_false_iff_eq] at hb
        exact Prod.ext hb.1 hb.2
  · have hge : a.length ≤ k := by have := of_decide_eq_false hge; omega
    unfold eqE
    rw [eq_comm, decide_eq_true_iff]
    apply List.ext_getElem?
    intro j
    by_cases hj : j < a.length
    · have := h3 j (by omega)
      rw [List.getD_eq_getElem?_getD, List.getD_eq_getElem?_getD, List.getElem?_eq_getElem hj, List.getElem?_eq_getElem (by omega)] at this
      rw [List.getElem?_eq_getElem hj, List.getElem?_eq_getElem (by omega)]
      exact congrArg some this
    · rw [List.getElem?_eq_none (by omega), List.getElem?_eq_none (by omega)]
def c24 : PureC Try.prog where
  f := 24
  sig := [.dat false (.sl eC), .dat false (.sl eC)]
  per := false
  spec := fun x => .ob (x.1.length ≤ 1000000000) none (.leaf (.bool (.sym (eqE x.1 x.2.1))))
  body := hasBody_of Try.func24 (by kernel_rfl) (by kernel_rfl)
  ok := fun x d h => by
    obtain ⟨h1, h⟩ := h
    obtain rfl : d = _ := h
    exact p24 x.1 x.2.1 h1
end Go.Proofs.Ytfacddeaobogjaa.N
