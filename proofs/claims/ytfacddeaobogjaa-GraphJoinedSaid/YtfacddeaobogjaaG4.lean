import Derived.Test.YtfacddeaobogjaaF12
import Derived.Test.YtfacddeaobogjaaG2
import Derived.Test.YtfacddeaobogjaaG3
set_option linter.unusedVariables false
set_option linter.unusedSimpArgs false
set_option linter.unnecessarySimpa false
set_option linter.unusedVariables false
set_option linter.unusedSimpArgs false
/- Edges. -/
namespace Go.Proofs.Ytfacddeaobogjaa.N
open Go.DF
set_option maxRecDepth 100000
def c22 : PureC Try.prog where
  f := 22
  sig := [.dat false (.int .i64), .dat false (.sl eC)]
  per := true
  spec := fun x => .ob (x.2.1.length ≤ 1000000) none (.leaf (.tup [.agg [.int .i64 (.sym (rN x.1 x.2.1)), .per (.sl eC) (rE x.1 x.2.1)], .int .i64 (.sym (gErr x.1 x.2.1))]))
  body := hasBody_of Try.func22 (by kernel_rfl) (by kernel_rfl)
  ok := fun x d h => by
    obtain ⟨h1, h⟩ := h
    obtain rfl : d = _ := h
    exact p22 x.1 x.2.1 h1
def rowE (A : Rows) (i : Nat) : Es := (A.getD i []).map fun j => ((i : Int), j)
def edgesTo (A : Rows) (k : Nat) : Es := (List.range k).flatMap (rowE A)
theorem edgesTo_succ (A : Rows) (k : Nat) : edgesTo A (k + 1) = edgesTo A k ++ rowE A k := by
  unfold edgesTo
  rw [List.range_succ, List.flatMap_append]; simp
theorem rowE_len (A : Rows) (k : Nat) : (rowE A k).length = (A.getD k []).length := by simp [rowE]
theorem rowE_get (A : Rows) (k j : Nat) (h : j < (A.getD k []).length) : (rowE A k)[j]? = some ((k : Int), (A.getD k []).getD j 0) := by
  unfold rowE
  rw [List.getElem?_map, List.getD_eq_getElem?_getD (l := A.getD k []), List.getElem?_eq_getElem h]; rfl
theorem edgesTo_le (A : Rows) : ∀ (n k : Nat), k ≤ n → (edgesTo A k).length ≤ (edgesTo A n).length
  | 0, k, h => by have : k = 0 := by omega
                  subst this; exact Nat.le_refl _
  | n + 1, k, h => by
    rcases Nat.lt_or_ge k (n + 1) with hl | hl
    · rw [edgesTo_succ, List.length_append]
      have := edgesTo_le A n k (by omega); omega
    · have : k = n + 1 := by omega
      subst this; exact Nat.le_refl _
def inv25 (A B : Rows) : LInv where
  α := Nat
  S := fun k => ⟨[(0, .per gC (some (A, B))), (3, .slice ⟨0, .lit 0, 2, 0⟩ (.sym (edgesTo A k).length)), (8, .int .i64 (.sym A.length)), (9, .int .i64 (.sym k))], [(0, (false, .arr 63 eC (edgesTo A k)))], 1⟩
  p := fun k => k ≤ A.length
  m := fun k => A.length - k
def inv25b (A B : Rows) : LInv where
  α := Nat × Nat
  S := fun k => ⟨[(0, .per gC (some (A, B))), (3, .slice ⟨0, .lit 0, 2, 0⟩ (.sym ((edgesTo A k.1).length + k.2))), (4, .int .i64 (.sym k.1)), (8, .int .i64 (.sym A.length)), (9, .int .i64 (.sym k.1)), (18, .per (.sl (.int .i64)) (A.getD k.1 [])), (19, .int .i64 (.sym (A.getD k.1 []).length)), (20, .int .i64 (.sym k.2))],
    [(0, (false, .arr 63 eC (edgesTo A k.1 ++ (rowE A k.1).take k.2)))], 1⟩
  p := fun k => k.1 < A.length ∧ k.2 ≤ (A.getD k.1 []).length
  m := fun k => (A.getD k.1 []).length - k.2
  lk := [(9, fun k => (k.1 : Int))]
set_option maxHeartbeats 1000000 in
theorem p25 (A B : Rows) (hn : A.length ≤ 4096) (ht : (edgesTo A A.length).length ≤ 1000000000) : Pure1 Try.prog 25 [.per gC (some (A, B))] (.per (.sl eC) (edgesTo A A.length)) := by
  refine pure1_of_exec (ct := (cx0 [] [] []).deep body48 100 20) [(3, inv25 A B), (6, inv25b A B)] Try.func25 rfl rfl ?_
  refine cast_goal (p := (Option.isNone (Option.some (A, B)) = Bool.true → (∃ (a : Nat), (Option.some (A, B) = Option.some (A, B) ∧ List.length (Go.Proofs.Ytfacddeaobogjaa.N.edgesTo A a) = (0 : Nat) ∧ (0 : Int) = (↑(List.length A) : Int) ∧ (0 : Int) = (↑a : Int) ∧ Go.Proofs.Ytfacddeaobogjaa.N.edgesTo A a = []) ∧ a ≤ List.length A) ∧ ∀ (a : Nat), a ≤ List.length A → (Decidable.decide ((↑a : Int) < (↑(List.length A) : Int)) = Bool.true → Option.isSome (Option.some (A, B)) = Bool.true ∧ ((0 : Int) ≤ (↑a : Int) ∧ (↑a : Int) < (↑(List.length (Prod.fst (Option.getD (Option.some (A, B)) ([], [])))) : Int)) ∧ (∃ (a_3 : Nat × Nat), (Option.some (A, B) = Option.some (A, B) ∧ List.length (Go.Proofs.Ytfacddeaobogjaa.N.edgesTo A a) = List.length (Go.Proofs.Ytfacddeaobogjaa.N.edgesTo A (Prod.fst a_3)) + Prod.snd a_3 ∧ (↑a : Int) = (↑(Prod.fst a_3) : Int) ∧ (↑(List.length A) : Int) = (↑(List.length A) : Int) ∧ (↑a : Int) = (↑(Prod.fst a_3) : Int) ∧ List.getD (Prod.fst (Option.getD (Option.some (A, B)) ([], []))) (Int.toNat (↑a : Int)) [] = List.getD A (Prod.fst a_3) [] ∧ (↑(List.length (List.getD (Prod.fst (Option.getD (Option.some (A, B)) ([], []))) (Int.toNat (↑a : Int)) [])) : Int) = (↑(List.length (List.getD A (Prod.fst a_3) [])) : Int) ∧ (0 : Int) = (↑(Prod.snd a_3) : Int) ∧ Go.Proofs.Ytfacddeaobogjaa.N.edgesTo A a = Go.Proofs.Ytfacddeaobogjaa.N.edgesTo A (Prod.fst a_3) ++ List.take (Prod.snd a_3) (Go.Proofs.Ytfacddeaobogjaa.N.rowE A (Prod.fst a_3))) ∧ (Prod.fst a_3 < List.length A ∧ Prod.snd a_3 ≤ List.length (List.getD A (Prod.fst a_3) [])) ∧ (↑(Prod.fst a_3) : Int) = (↑a : Int) ∧ True) ∧ ∀ (a_3 : Nat × Nat), (Prod.fst a_3 < List.length A ∧ Prod.snd a_3 ≤ List.length (List.getD A (Prod.fst a_3) [])) ∧ (↑(Prod.fst a_3) : Int) = (↑a : Int) ∧ True → (Decidable.decide ((↑(Prod.snd a_3) : Int) < (↑(List.length (List.getD A (Prod.fst a_3) [])) : Int)) = Bool.true → ((0 : Int) ≤ (↑(Prod.snd a_3) : Int) ∧ (↑(Prod.snd a_3) : Int) < (↑(List.length (List.getD A (Prod.fst a_3) [])) : Int)) ∧ (0 : Nat) + (List.length (Go.Proofs.Ytfacddeaobogjaa.N.edgesTo A (Prod.fst a_3)) + Prod.snd a_3) ≤ List.length (Go.Proofs.Ytfacddeaobogjaa.N.edgesTo A (Prod.fst a_3) ++ List.take (Prod.snd a_3) (Go.Proofs.Ytfacddeaobogjaa.N.rowE A (Prod.fst a_3))) ∧ ((List.length (Go.Proofs.Ytfacddeaobogjaa.N.edgesTo A (Prod.fst a_3)) + Prod.snd a_3 + List.length [((↑(Prod.fst a_3) : Int), List.getD (List.getD A (Prod.fst a_3) []) (Int.toNat (↑(Prod.snd a_3) : Int)) (0 : Int))]) * (16 : Nat) ≤ (140737488355328 : Nat) ∧ List.length (Go.Proofs.Ytfacddeaobogjaa.N.edgesTo A (Prod.fst a_3)) + Prod.snd a_3 + List.length [((↑(Prod.fst a_3) : Int), List.getD (List.getD A (Prod.fst a_3) []) (Int.toNat (↑(Prod.snd a_3) : Int)) (0 : Int))] ≤ Go.maxLen) ∧ Go.DF.okI64 ((↑(Prod.snd a_3) : Int) + (1 : Int)) ∧ ∃ (a' : Nat × Nat), (Option.some (A, B) = Option.some (A, B) ∧ List.length (Go.Proofs.Ytfacddeaobogjaa.N.edgesTo A (Prod.fst a_3)) + Prod.snd a_3 + (1 : Nat) = List.length (Go.Proofs.Ytfacddeaobogjaa.N.edgesTo A (Prod.fst a')) + Prod.snd a' ∧ (↑(Prod.fst a_3) : Int) = (↑(Prod.fst a') : Int) ∧ (↑(List.length A) : Int) = (↑(List.length A) : Int) ∧ (↑(Prod.fst a_3) : Int) = (↑(Prod.fst a') : Int) ∧ List.getD A (Prod.fst a_3) [] = List.getD A (Prod.fst a') [] ∧ (↑(List.length (List.getD A (Prod.fst a_3) [])) : Int) = (↑(List.length (List.getD A (Prod.fst a') [])) : Int) ∧ (↑(Prod.snd a_3) : Int) + (1 : Int) = (↑(Prod.snd a') : Int) ∧ List.take (List.length (Go.Proofs.Ytfacddeaobogjaa.N.edgesTo A (Prod.fst a_3)) + Prod.snd a_3) (Go.Proofs.Ytfacddeaobogjaa.N.edgesTo A (Prod.fst a_3) ++ List.take (Prod.snd a_3) (Go.Proofs.Ytfacddeaobogjaa.N.rowE A (Prod.fst a_3))) ++ [((↑(Prod.fst a_3) : Int), List.getD (List.getD A (Prod.fst a_3) []) (Int.toNat (↑(Prod.snd a_3) : Int)) (0 : Int))] = Go.Proofs.Ytfacddeaobogjaa.N.edgesTo A (Prod.fst a') ++ List.take (Prod.snd a') (Go.Proofs.Ytfacddeaobogjaa.N.rowE A (Prod.fst a'))) ∧ ((Prod.fst a' < List.length A ∧ Prod.snd a' ≤ List.length (List.getD A (Prod.fst a') [])) ∧ (↑(Prod.fst a') : Int) = (↑a : Int) ∧ True) ∧ List.length (List.getD A (Prod.fst a') []) - Prod.snd a' < List.length (List.getD A (Prod.fst a_3) []) - Prod.snd a_3) ∧ (Decidable.decide ((↑(Prod.snd a_3) : Int) < (↑(List.length (List.getD A (Prod.fst a_3) [])) : Int)) = Bool.false → Go.DF.okI64 ((↑(Prod.fst a_3) : Int) + (1 : Int)) ∧ ∃ (a' : Nat), (Option.some (A, B) = Option.some (A, B) ∧ List.length (Go.Proofs.Ytfacddeaobogjaa.N.edgesTo A (Prod.fst a_3)) + Prod.snd a_3 = List.length (Go.Proofs.Ytfacddeaobogjaa.N.edgesTo A a') ∧ (↑(List.length A) : Int) = (↑(List.length A) : Int) ∧ (↑(Prod.fst a_3) : Int) + (1 : Int) = (↑a' : Int) ∧ Go.Proofs.Ytfacddeaobogjaa.N.edgesTo A (Prod.fst a_3) ++ List.take (Prod.snd a_3) (Go.Proofs.Ytfacddeaobogjaa.N.rowE A (Prod.fst a_3)) = Go.Proofs.Ytfacddeaobogjaa.N.edgesTo A a') ∧ a' ≤ List.length A ∧ List.length A - a' < List.length A - a)) ∧ (Decidable.decide ((↑a : Int) < (↑(List.length A) : Int)) = Bool.false → ((0 : Nat) + List.length (Go.Proofs.Ytfacddeaobogjaa.N.edgesTo A a) ≤ List.length (Go.Proofs.Ytfacddeaobogjaa.N.edgesTo A a) ∧ List.take (List.length (Go.Proofs.Ytfacddeaobogjaa.N.edgesTo A a)) (Go.Proofs.Ytfacddeaobogjaa.N.edgesTo A a) = Go.Proofs.Ytfacddeaobogjaa.N.edgesTo A (List.length A)) ∧ True)) ∧ (Option.isNone (Option.some (A, B)) = Bool.false → Option.isSome (Option.some (A, B)) = Bool.true ∧ (∃ (a : Nat), (Option.some (A, B) = Option.some (A, B) ∧ List.length (Go.Proofs.Ytfacddeaobogjaa.N.edgesTo A a) = (0 : Nat) ∧ (↑(List.length (Prod.fst (Option.getD (Option.some (A, B)) ([], [])))) : Int) = (↑(List.length A) : Int) ∧ (0 : Int) = (↑a : Int) ∧ Go.Proofs.Ytfacddeaobogjaa.N.edgesTo A a = []) ∧ a ≤ List.length A) ∧ ∀ (a : Nat), a ≤ List.length A → (Decidable.decide ((↑a : Int) < (↑(List.length A) : Int)) = Bool.true → Option.isSome (Option.some (A, B)) = Bool.true ∧ ((0 : Int) ≤ (↑a : Int) ∧ (↑a : Int) < (↑(List.length (Prod.fst (Option.getD (Option.some (A, B)) ([], [])))) : Int)) ∧ (∃ (a_3 : Nat × Nat), (Option.some (A, B) = Option.some (A, B) ∧ List.length (Go.Proofs.Ytfacddeaobogjaa.N.edgesTo A a) = List.length (Go.Proofs.Ytfacddeaobogjaa.N.edgesTo A (Prod.fst a_3)) + Prod.snd a_3 ∧ (↑a : Int) = (↑(Prod.fst a_3) : Int) ∧ (↑(List.length A) : Int) = (↑(List.length A) : Int) ∧ (↑a : Int) = (↑(Prod.fst a_3) : Int) ∧ List.getD (Prod.fst (Option.getD (Option.some (A, B)) ([], []))) (Int.toNat (↑a : Int)) [] = List.getD A (Prod.fst a_3) [] ∧ (↑(List.length (List.getD (Prod.fst (Option.getD (Option.some (A, B)) ([], []))) (Int.toNat (↑a : Int)) [])) : Int) = (↑(List.length (List.getD A (Prod.fst a_3) [])) : Int) ∧ (0 : Int) = (↑(Prod.snd a_3) : Int) ∧ Go.Proofs.Ytfacddeaobogjaa.N.edgesTo A a = Go.Proofs.Ytfacddeaobogjaa.N.edgesTo A (Prod.fst a_3) ++ List.take (Prod.snd a_3) (Go.Proofs.Ytfacddeaobogjaa.N.rowE A (Prod.fst a_3))) ∧ (Prod.fst a_3 < List.length A ∧ Prod.snd a_3 ≤ List.length (List.getD A (Prod.fst a_3) [])) ∧ (↑(Prod.fst a_3) : Int) = (↑a : Int) ∧ True) ∧ ∀ (a_3 : Nat × Nat), (Prod.fst a_3 < List.length A ∧ Prod.snd a_3 ≤ List.length (List.getD A (Prod.fst a_3) [])) ∧ (↑(Prod.fst a_3) : Int) = (↑a : Int) ∧ True → (Decidable.decide ((↑(Prod.snd a_3) : Int) < (↑(List.length (List.getD A (Prod.fst a_3) [])) : Int)) = Bool.true → ((0 : Int) ≤ (↑(Prod.snd a_3) : Int) ∧ (↑(Prod.snd a_3) : Int) < (↑(List.length (List.getD A (Prod.fst a_3) [])) : Int)) ∧ (0 : Nat) + (List.length (Go.Proofs.Ytfacddeaobogjaa.N.edgesTo A (Prod.fst a_3)) + Prod.snd a_3) ≤ List.length (Go.Proofs.Ytfacddeaobogjaa.N.edgesTo A (Prod.fst a_3) ++ List.take (Prod.snd a_3) (Go.Proofs.Ytfacddeaobogjaa.N.rowE A (Prod.fst a_3))) ∧ ((List.length (Go.Proofs.Ytfacddeaobogjaa.N.edgesTo A (Prod.fst a_3)) + Prod.snd a_3 + List.length [((↑(Prod.fst a_3) : Int), List.getD (List.getD A (Prod.fst a_3) []) (Int.toNat (↑(Prod.snd a_3) : Int)) (0 : Int))]) * (16 : Nat) ≤ (140737488355328 : Nat) ∧ List.length (Go.Proofs.Ytfacddeaobogjaa.N.edgesTo A (Prod.fst a_3)) + Prod.snd a_3 + List.length [((↑(Prod.fst a_3) : Int), List.getD (List.getD A (Prod.fst a_3) []) (Int.toNat (↑(Prod.snd a_3) : Int)) (0 : Int))] ≤ Go.maxLen) ∧ Go.DF.okI64 ((↑(Prod.snd a_3) : Int) + (1 : Int)) ∧ ∃ (a' : Nat × Nat), (Option.some (A, B) = Option.some (A, B) ∧ List.length (Go.Proofs.Ytfacddeaobogjaa.N.edgesTo A (Prod.fst a_3)) + Prod.snd a_3 + (1 : Nat) = List.length (Go.Proofs.Ytfacddeaobogjaa.N.edgesTo A (Prod.fst a')) + Prod.snd a' ∧ (↑(Prod.fst a_3) : Int) = (↑(Prod.fst a') : Int) ∧ (↑(List.length A) : Int) = (↑(List.length A) : Int) ∧ (↑(Prod.fst a_3) : Int) = (↑(Prod.fst a') : Int) ∧ List.getD A (Prod.fst a_3) [] = List.getD A (Prod.fst a') [] ∧ (↑(List.length (List.getD A (Prod.fst a_3) [])) : Int) = (↑(List.length (List.getD A (Prod.fst a') [])) : Int) ∧ (↑(Prod.snd a_3) : Int) + (1 : Int) = (↑(Prod.snd a') : Int) ∧ List.take (List.length (Go.Proofs.Ytfacddeaobogjaa.N.edgesTo A (Prod.fst a_3)) + Prod.snd a_3) (Go.Proofs.Ytfacddeaobogjaa.N.edgesTo A (Prod.fst a_3) ++ List.take (Prod.snd a_3) (Go.Proofs.Ytfacddeaobogjaa.N.rowE A (Prod.fst a_3))) ++ [((↑(Prod.fst a_3) : Int), List.getD (List.getD A (Prod.fst a_3) []) (Int.toNat (↑(Prod.snd a_3) : Int)) (0 : Int))] = Go.Proofs.Ytfacddeaobogjaa.N.edgesTo A (Prod.fst a') ++ List.take (Prod.snd a') (Go.Proofs.Ytfacddeaobogjaa.N.rowE A (Prod.fst a'))) ∧ ((Prod.fst a' < List.length A ∧ Prod.snd a' ≤ List.length (List.getD A (Prod.fst a') [])) ∧ (↑(Prod.fst a') : Int) = (↑a : Int) ∧ True) ∧ List.length (List.getD A (Prod.fst a') []) - Prod.snd a' < List.length (List.getD A (Prod.fst a_3) []) - Prod.snd a_3) ∧ (Decidable.decide ((↑(Prod.snd a_3) : Int) < (↑(List.length (List.getD A (Prod.fst a_3) [])) : Int)) = Bool.false → Go.DF.okI64 ((↑(Prod.fst a_3) : Int) + (1 : Int)) ∧ ∃ (a' : Nat), (Option.some (A, B) = Option.some (A, B) ∧ List.length (Go.Proofs.Ytfacddeaobogjaa.N.edgesTo A (Prod.fst a_3)) + Prod.snd a_3 = List.length (Go.Proofs.Ytfacddeaobogjaa.N.edgesTo A a') ∧ (↑(List.length A) : Int) = (↑(List.length A) : Int) ∧ (↑(Prod.fst a_3) : Int) + (1 : Int) = (↑a' : Int) ∧ Go.Proofs.Ytfacddeaobogjaa.N.edgesTo A (Prod.fst a_3) ++ List.take (Prod.snd a_3) (Go.Proofs.Ytfacddeaobogjaa.N.rowE A (Prod.fst a_3)) = Go.Proofs.Ytfacddeaobogjaa.N.edgesTo A a') ∧ a' ≤ List.length A ∧ List.length A - a' < List.length A - a)) ∧ (Decidable.decide ((↑a : Int) < (↑(List.length A) : Int)) = Bool.false → ((0 : Nat) + List.length (Go.Proofs.Ytfacddeaobogjaa.N.edgesTo A a) ≤ List.length (Go.Proofs.Ytfacddeaobogjaa.N.edgesTo A a) ∧ List.take (List.length (Go.Proofs.Ytfacddeaobogjaa.N.edgesTo A a)) (Go.Proofs.Ytfacddeaobogjaa.N.edgesTo A a) = Go.Proofs.Ytfacddeaobogjaa.N.edgesTo A (List.length A)) ∧ True))) (by kernel_rfl) ?_
  have hmax : maxLen = 9223372036854775807 := rfl
  refine ⟨fun h => absurd h (by simp), fun _ => ⟨rfl, ⟨0, ⟨rfl, rfl, rfl, rfl, rfl⟩, Nat.zero_le _⟩, fun a ha => ⟨fun hlt => ?_, fun hge => ?_⟩⟩⟩
  · have hlt : a < A.length := by have := of_decide_eq_true hlt; omega
    have e : Int.toNat (a : Int) = a := by omega
    simp only [e, Option.getD_some]
    refine ⟨rfl, ⟨by omega, by omega⟩, ⟨(a, 0), ⟨trivial, rfl, rfl, trivial, rfl, rfl, rfl, rfl, by simp⟩, ⟨hlt, Nat.zero_le _⟩, rfl, trivial⟩, ?_⟩
    rintro ⟨k, j⟩ ⟨⟨p1, p2⟩, hk, _⟩
    have hk : k = a := by have : (k : Int) = a := hk; omega
    subst hk
    simp only at p1 p2 ⊢
    have hs := edgesTo_succ A k
    have hle := edgesTo_le A A.length (k + 1) (by omega)
    have hrl := rowE_len A k
    rw [hs, List.length_append] at hle
    refine ⟨fun hj => ?_, fun hj => ?_⟩
    · have hj : j < (A.getD k []).length := by have := of_decide_eq_true hj; omega
      have ej : Int.toNat (j : Int) = j := by omega
      have htk : ((rowE A k).take j).length = j := by rw [List.length_take]; omega
      simp only [ej, List.length_append, List.length_singleton, htk]
      refine ⟨⟨by omega, by omega⟩, by omega, ⟨by omega, by omega⟩, by unfold okI64; omega, (k, j + 1), ⟨trivial, rfl, rfl, trivial, rfl, rfl, rfl, rfl, ?_⟩, ⟨⟨p1, by simp only; omega⟩, rfl, trivial⟩, by simp only; omega⟩
      rw [List.take_of_length_le (by simp only [List.length_append, htk]; omega), List.append_assoc]
      simp only [List.take_add_one, rowE_get A k j hj]
      rfl
    · have hj : j = (A.getD k []).length := by have := of_decide_eq_false hj; omega
      refine ⟨by unfold okI64; omega, k + 1, ⟨trivial, by rw [hs, List.length_append]; omega, trivial, by omega, ?_⟩, by omega, by omega⟩
      rw [hs, List.take_of_length_le (by omega)]
  · have : a = A.length := by have := of_decide_eq_false hge; omega
    subst this
    rw [List.take_length]
    exact ⟨⟨by omega, rfl⟩, trivial⟩
end Go.Proofs.Ytfacddeaobogjaa.N
