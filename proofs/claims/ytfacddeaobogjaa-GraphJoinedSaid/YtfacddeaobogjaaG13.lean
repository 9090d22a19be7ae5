import Derived.Test.YtfacddeaobogjaaF12
import Derived.Test.YtfacddeaobogjaaG12
set_option linter.unusedVariables false
set_option linter.unusedSimpArgs false
set_option linter.unnecessarySimpa false
set_option linter.unusedVariables false
set_option linter.unusedSimpArgs false
/- The reference's marks, Reach, Between; the law. -/
namespace Go.Proofs.Ytfacddeaobogjaa.N
open Go.DF
set_option maxRecDepth 100000
def okW (N : Int) (W : Es) (fr : List Int) : Prop := (0 ≤ N ∧ N ≤ 4096) ∧ (∀ x ∈ W, 0 ≤ x.1 ∧ x.1 < N ∧ 0 ≤ x.2 ∧ x.2 < N) ∧ W.length ≤ 1000000 ∧ fr.length ≤ 1000000
def hp45 (N : Int) (W : Es) (l : Bs) : Hp := [(0, (false, .cells 27 [.int .i64 (.sym N), .per (.sl eC) W])), (1, (false, .arr 4 .bool l))]
def inv45a (N : Int) (W : Es) (fr : List Int) : LInv where
  α := Nat × Bs
  S := fun x => ⟨[(1, .per iC fr), (2, .ptr ⟨0, .lit 0, 0, 0⟩), (5, .slice ⟨1, .lit 0, 1, 0⟩ (.sym N.toNat)), (6, .int .i64 (.sym x.1))], hp45 N W x.2, 2⟩
  p := fun x => x.1 ≤ fr.length ∧ x.2.length = N.toNat ∧ ∀ v : Nat, x.2.getD v false = true ↔ v < N.toNat ∧ (v : Int) ∈ fr.take x.1
  m := fun x => fr.length - x.1
def base45 (N : Int) (W : Es) (fr : List Int) (l : Bs) : Prop := l.length = N.toNat ∧ (∀ u ∈ fr, 0 ≤ u → u < N → l.getD u.toNat false = true) ∧ ∀ v : Nat, l.getD v false = true → Hit W N fr (v : Int)
def clos45 (W : Es) (l : Bs) (k : Nat) : Prop := ∀ j, j < k → l.getD (W.getD j (0, 0)).1.toNat false = true → l.getD (W.getD j (0, 0)).2.toNat false = true
def inv45b (N : Int) (W : Es) (fr : List Int) : LInv where
  α := Bool × Bs
  S := fun x => ⟨[(2, .ptr ⟨0, .lit 0, 0, 0⟩), (5, .slice ⟨1, .lit 0, 1, 0⟩ (.sym N.toNat)), (7, .bool (.sym x.1))], hp45 N W x.2, 2⟩
  p := fun x => base45 N W fr x.2 ∧ (x.1 = false → clos45 W x.2 W.length)
  m := fun x => 2 * x.2.count false + (bif x.1 then 1 else 0)
def inv45c (N : Int) (W : Es) (fr : List Int) : LInv where
  α := Nat × Bool × Bs × Bs
  S := fun x => ⟨[(2, .ptr ⟨0, .lit 0, 0, 0⟩), (5, .slice ⟨1, .lit 0, 1, 0⟩ (.sym N.toNat)), (7, .bool (.sym x.2.1)), (8, .int .i64 (.sym x.1))], hp45 N W x.2.2.1, 2⟩
  p := fun x => x.1 ≤ W.length ∧ base45 N W fr x.2.2.1 ∧ (x.2.1 = false → x.2.2.1 = x.2.2.2 ∧ clos45 W x.2.2.1 x.1) ∧ (x.2.1 = true → x.2.2.1.count false < x.2.2.2.count false) ∧ x.2.2.1.count false ≤ x.2.2.2.count false
  m := fun x => W.length - x.1
  lq := some fun st x => match DF.look st.hp 1 with | some (_, .arr _ .bool l) => x.2.2.2 = l | _ => False
set_option maxHeartbeats 4000000 in
theorem p45 (N : Int) (W : Es) (fr : List Int) (h : okW N W fr) : Pure1 Try.prog 45 [.agg [.int .i64 (.sym N), .per (.sl eC) W], .per iC fr] (.per (.sl .bool) (marksL W N fr)) := by
  refine pure1_of_exec (ct := cx0 [] [] []) [(3, inv45a N W fr), (8, inv45b N W fr), (11, inv45c N W fr)] Try.func45 rfl rfl ?_
  apply @cast_goal (((0 : Int) ≤ N ∧ N ≤ N ∧ N * (↑(1 : Nat) : Int) ≤ (140737488355328 : Int) ∧ N ≤ (9223372036854775807 : Int)) ∧ (∃ (a : Nat × Go.Proofs.Ytfacddeaobogjaa.N.Bs), (fr = fr ∧ Int.toNat N = Int.toNat N ∧ (0 : Int) = (↑(Prod.fst a) : Int) ∧ N = N ∧ W = W ∧ List.replicate (Int.toNat N) Bool.false = Prod.snd a) ∧ Prod.fst a ≤ List.length fr ∧ List.length (Prod.snd a) = Int.toNat N ∧ ∀ (v : Nat), List.getD (Prod.snd a) v Bool.false = Bool.true ↔ v < Int.toNat N ∧ (↑v : Int) ∈ List.take (Prod.fst a) fr) ∧ ∀ (a : Nat × Go.Proofs.Ytfacddeaobogjaa.N.Bs), (Prod.fst a ≤ List.length fr ∧ List.length (Prod.snd a) = Int.toNat N ∧ ∀ (v : Nat), List.getD (Prod.snd a) v Bool.false = Bool.true ↔ v < Int.toNat N ∧ (↑v : Int) ∈ List.take (Prod.fst a) fr) → (Decidable.decide ((↑(Prod.fst a) : Int) < (↑(List.length fr) : Int)) = Bool.true → (((0 : Int) ≤ (↑(Prod.fst a) : Int) ∧ (↑(Prod.fst a) : Int) < (↑(List.length fr) : Int)) ∧ (Decidable.decide ((0 : Int) ≤ List.getD fr (Int.toNat (↑(Prod.fst a) : Int)) (0 : Int)) = Bool.true → ((0 : Int) ≤ (↑(Prod.fst a) : Int) ∧ (↑(Prod.fst a) : Int) < (↑(List.length fr) : Int)) ∧ True) ∧ (Decidable.decide ((0 : Int) ≤ List.getD fr (Int.toNat (↑(Prod.fst a) : Int)) (0 : Int)) = Bool.false → True)) ∧ ((Decidable.decide ((0 : Int) ≤ List.getD fr (Int.toNat (↑(Prod.fst a) : Int)) (0 : Int)) && Decidable.decide (List.getD fr (Int.toNat (↑(Prod.fst a) : Int)) (0 : Int) < N)) = Bool.true → ((0 : Int) ≤ (↑(Prod.fst a) : Int) ∧ (↑(Prod.fst a) : Int) < (↑(List.length fr) : Int)) ∧ ((0 : Int) ≤ List.getD fr (Int.toNat (↑(Prod.fst a) : Int)) (0 : Int) ∧ List.getD fr (Int.toNat (↑(Prod.fst a) : Int)) (0 : Int) < (↑(Int.toNat N) : Int)) ∧ Int.toNat (List.getD fr (Int.toNat (↑(Prod.fst a) : Int)) (0 : Int)) < List.length (Prod.snd a) ∧ Go.DF.okI64 ((↑(Prod.fst a) : Int) + (1 : Int)) ∧ ∃ (a' : Nat × Go.Proofs.Ytfacddeaobogjaa.N.Bs), (fr = fr ∧ Int.toNat N = Int.toNat N ∧ (↑(Prod.fst a) : Int) + (1 : Int) = (↑(Prod.fst a') : Int) ∧ N = N ∧ W = W ∧ List.set (Prod.snd a) (Int.toNat (List.getD fr (Int.toNat (↑(Prod.fst a) : Int)) (0 : Int))) Bool.true = Prod.snd a') ∧ (Prod.fst a' ≤ List.length fr ∧ List.length (Prod.snd a') = Int.toNat N ∧ ∀ (v : Nat), List.getD (Prod.snd a') v Bool.false = Bool.true ↔ v < Int.toNat N ∧ (↑v : Int) ∈ List.take (Prod.fst a') fr) ∧ List.length fr - Prod.fst a' < List.length fr - Prod.fst a) ∧ ((Decidable.decide ((0 : Int) ≤ List.getD fr (Int.toNat (↑(Prod.fst a) : Int)) (0 : Int)) && Decidable.decide (List.getD fr (Int.toNat (↑(Prod.fst a) : Int)) (0 : Int) < N)) = Bool.false → Go.DF.okI64 ((↑(Prod.fst a) : Int) + (1 : Int)) ∧ ∃ (a' : Nat × Go.Proofs.Ytfacddeaobogjaa.N.Bs), (fr = fr ∧ Int.toNat N = Int.toNat N ∧ (↑(Prod.fst a) : Int) + (1 : Int) = (↑(Prod.fst a') : Int) ∧ N = N ∧ W = W ∧ Prod.snd a = Prod.snd a') ∧ (Prod.fst a' ≤ List.length fr ∧ List.length (Prod.snd a') = Int.toNat N ∧ ∀ (v : Nat), List.getD (Prod.snd a') v Bool.false = Bool.true ↔ v < Int.toNat N ∧ (↑v : Int) ∈ List.take (Prod.fst a') fr) ∧ List.length fr - Prod.fst a' < List.length fr - Prod.fst a)) ∧ (Decidable.decide ((↑(Prod.fst a) : Int) < (↑(List.length fr) : Int)) = Bool.false → (∃ (a_3 : Bool × Go.Proofs.Ytfacddeaobogjaa.N.Bs), (Int.toNat N = Int.toNat N ∧ Bool.true = Prod.fst a_3 ∧ N = N ∧ W = W ∧ Prod.snd a = Prod.snd a_3) ∧ Go.Proofs.Ytfacddeaobogjaa.N.base45 N W fr (Prod.snd a_3) ∧ (Prod.fst a_3 = Bool.false → Go.Proofs.Ytfacddeaobogjaa.N.clos45 W (Prod.snd a_3) (List.length W))) ∧ ∀ (a : Bool × Go.Proofs.Ytfacddeaobogjaa.N.Bs), Go.Proofs.Ytfacddeaobogjaa.N.base45 N W fr (Prod.snd a) ∧ (Prod.fst a = Bool.false → Go.Proofs.Ytfacddeaobogjaa.N.clos45 W (Prod.snd a) (List.length W)) → (Prod.fst a = Bool.true → (∃ (a_5 : Nat × Bool × Go.Proofs.Ytfacddeaobogjaa.N.Bs × Go.Proofs.Ytfacddeaobogjaa.N.Bs), (Int.toNat N = Int.toNat N ∧ Bool.false = Prod.fst (Prod.snd a_5) ∧ (0 : Int) = (↑(Prod.fst a_5) : Int) ∧ N = N ∧ W = W ∧ Prod.snd a = Prod.fst (Prod.snd (Prod.snd a_5))) ∧ (Prod.fst a_5 ≤ List.length W ∧ Go.Proofs.Ytfacddeaobogjaa.N.base45 N W fr (Prod.fst (Prod.snd (Prod.snd a_5))) ∧ (Prod.fst (Prod.snd a_5) = Bool.false → Prod.fst (Prod.snd (Prod.snd a_5)) = Prod.snd (Prod.snd (Prod.snd a_5)) ∧ Go.Proofs.Ytfacddeaobogjaa.N.clos45 W (Prod.fst (Prod.snd (Prod.snd a_5))) (Prod.fst a_5)) ∧ (Prod.fst (Prod.snd a_5) = Bool.true → List.count Bool.false (Prod.fst (Prod.snd (Prod.snd a_5))) < List.count Bool.false (Prod.snd (Prod.snd (Prod.snd a_5)))) ∧ List.count Bool.false (Prod.fst (Prod.snd (Prod.snd a_5))) ≤ List.count Bool.false (Prod.snd (Prod.snd (Prod.snd a_5)))) ∧ True ∧ Prod.snd (Prod.snd (Prod.snd a_5)) = Prod.snd a) ∧ ∀ (a_5 : Nat × Bool × Go.Proofs.Ytfacddeaobogjaa.N.Bs × Go.Proofs.Ytfacddeaobogjaa.N.Bs), (Prod.fst a_5 ≤ List.length W ∧ Go.Proofs.Ytfacddeaobogjaa.N.base45 N W fr (Prod.fst (Prod.snd (Prod.snd a_5))) ∧ (Prod.fst (Prod.snd a_5) = Bool.false → Prod.fst (Prod.snd (Prod.snd a_5)) = Prod.snd (Prod.snd (Prod.snd a_5)) ∧ Go.Proofs.Ytfacddeaobogjaa.N.clos45 W (Prod.fst (Prod.snd (Prod.snd a_5))) (Prod.fst a_5)) ∧ (Prod.fst (Prod.snd a_5) = Bool.true → List.count Bool.false (Prod.fst (Prod.snd (Prod.snd a_5))) < List.count Bool.false (Prod.snd (Prod.snd (Prod.snd a_5)))) ∧ List.count Bool.false (Prod.fst (Prod.snd (Prod.snd a_5))) ≤ List.count Bool.false (Prod.snd (Prod.snd (Prod.snd a_5)))) ∧ True ∧ Prod.snd (Prod.snd (Prod.snd a_5)) = Prod.snd a → (Decidable.decide ((↑(Prod.fst a_5) : Int) < (↑(List.length W) : Int)) = Bool.true → (((0 : Int) ≤ (↑(Prod.fst a_5) : Int) ∧ (↑(Prod.fst a_5) : Int) < (↑(List.length W) : Int)) ∧ ((0 : Int) ≤ Prod.fst (List.getD W (Int.toNat (↑(Prod.fst a_5) : Int)) ((0 : Int), (0 : Int))) ∧ Prod.fst (List.getD W (Int.toNat (↑(Prod.fst a_5) : Int)) ((0 : Int), (0 : Int))) < (↑(Int.toNat N) : Int)) ∧ Int.toNat (Prod.fst (List.getD W (Int.toNat (↑(Prod.fst a_5) : Int)) ((0 : Int), (0 : Int)))) < List.length (Prod.fst (Prod.snd (Prod.snd a_5))) ∧ (List.getD (Prod.fst (Prod.snd (Prod.snd a_5))) (Int.toNat (Prod.fst (List.getD W (Int.toNat (↑(Prod.fst a_5) : Int)) ((0 : Int), (0 : Int))))) Bool.false = Bool.true → ((0 : Int) ≤ (↑(Prod.fst a_5) : Int) ∧ (↑(Prod.fst a_5) : Int) < (↑(List.length W) : Int)) ∧ ((0 : Int) ≤ Prod.snd (List.getD W (Int.toNat (↑(Prod.fst a_5) : Int)) ((0 : Int), (0 : Int))) ∧ Prod.snd (List.getD W (Int.toNat (↑(Prod.fst a_5) : Int)) ((0 : Int), (0 : Int))) < (↑(Int.toNat N) : Int)) ∧ Int.toNat (Prod.snd (List.getD W (Int.toNat (↑(Prod.fst a_5) : Int)) ((0 : Int), (0 : Int)))) < List.length (Prod.fst (Prod.snd (Prod.snd a_5))) ∧ True) ∧ (List.getD (Prod.fst (Prod.snd (Prod.snd a_5))) (Int.toNat (Prod.fst (List.getD W (Int.toNat (↑(Prod.fst a_5) : Int)) ((0 : Int), (0 : Int))))) Bool.false = Bool.false → True)) ∧ ((List.getD (Prod.fst (Prod.snd (Prod.snd a_5))) (Int.toNat (Prod.fst (List.getD W (Int.toNat (↑(Prod.fst a_5) : Int)) ((0 : Int), (0 : Int))))) Bool.false && !List.getD (Prod.fst (Prod.snd (Prod.snd a_5))) (Int.toNat (Prod.snd (List.getD W (Int.toNat (↑(Prod.fst a_5) : Int)) ((0 : Int), (0 : Int))))) Bool.false) = Bool.true → ((0 : Int) ≤ (↑(Prod.fst a_5) : Int) ∧ (↑(Prod.fst a_5) : Int) < (↑(List.length W) : Int)) ∧ ((0 : Int) ≤ Prod.snd (List.getD W (Int.toNat (↑(Prod.fst a_5) : Int)) ((0 : Int), (0 : Int))) ∧ Prod.snd (List.getD W (Int.toNat (↑(Prod.fst a_5) : Int)) ((0 : Int), (0 : Int))) < (↑(Int.toNat N) : Int)) ∧ Int.toNat (Prod.snd (List.getD W (Int.toNat (↑(Prod.fst a_5) : Int)) ((0 : Int), (0 : Int)))) < List.length (Prod.fst (Prod.snd (Prod.snd a_5))) ∧ Go.DF.okI64 ((↑(Prod.fst a_5) : Int) + (1 : Int)) ∧ ∃ (a' : Nat × Bool × Go.Proofs.Ytfacddeaobogjaa.N.Bs × Go.Proofs.Ytfacddeaobogjaa.N.Bs), (Int.toNat N = Int.toNat N ∧ Bool.true = Prod.fst (Prod.snd a') ∧ (↑(Prod.fst a_5) : Int) + (1 : Int) = (↑(Prod.fst a') : Int) ∧ N = N ∧ W = W ∧ List.set (Prod.fst (Prod.snd (Prod.snd a_5))) (Int.toNat (Prod.snd (List.getD W (Int.toNat (↑(Prod.fst a_5) : Int)) ((0 : Int), (0 : Int))))) Bool.true = Prod.fst (Prod.snd (Prod.snd a'))) ∧ ((Prod.fst a' ≤ List.length W ∧ Go.Proofs.Ytfacddeaobogjaa.N.base45 N W fr (Prod.fst (Prod.snd (Prod.snd a'))) ∧ (Prod.fst (Prod.snd a') = Bool.false → Prod.fst (Prod.snd (Prod.snd a')) = Prod.snd (Prod.snd (Prod.snd a')) ∧ Go.Proofs.Ytfacddeaobogjaa.N.clos45 W (Prod.fst (Prod.snd (Prod.snd a'))) (Prod.fst a')) ∧ (Prod.fst (Prod.snd a') = Bool.true → List.count Bool.false (Prod.fst (Prod.snd (Prod.snd a'))) < List.count Bool.false (Prod.snd (Prod.snd (Prod.snd a')))) ∧ List.count Bool.false (Prod.fst (Prod.snd (Prod.snd a'))) ≤ List.count Bool.false (Prod.snd (Prod.snd (Prod.snd a')))) ∧ True ∧ Prod.snd (Prod.snd (Prod.snd a')) = Prod.snd a) ∧ List.length W - Prod.fst a' < List.length W - Prod.fst a_5) ∧ ((List.getD (Prod.fst (Prod.snd (Prod.snd a_5))) (Int.toNat (Prod.fst (List.getD W (Int.toNat (↑(Prod.fst a_5) : Int)) ((0 : Int), (0 : Int))))) Bool.false && !List.getD (Prod.fst (Prod.snd (Prod.snd a_5))) (Int.toNat (Prod.snd (List.getD W (Int.toNat (↑(Prod.fst a_5) : Int)) ((0 : Int), (0 : Int))))) Bool.false) = Bool.false → Go.DF.okI64 ((↑(Prod.fst a_5) : Int) + (1 : Int)) ∧ ∃ (a' : Nat × Bool × Go.Proofs.Ytfacddeaobogjaa.N.Bs × Go.Proofs.Ytfacddeaobogjaa.N.Bs), (Int.toNat N = Int.toNat N ∧ Prod.fst (Prod.snd a_5) = Prod.fst (Prod.snd a') ∧ (↑(Prod.fst a_5) : Int) + (1 : Int) = (↑(Prod.fst a') : Int) ∧ N = N ∧ W = W ∧ Prod.fst (Prod.snd (Prod.snd a_5)) = Prod.fst (Prod.snd (Prod.snd a'))) ∧ ((Prod.fst a' ≤ List.length W ∧ Go.Proofs.Ytfacddeaobogjaa.N.base45 N W fr (Prod.fst (Prod.snd (Prod.snd a'))) ∧ (Prod.fst (Prod.snd a') = Bool.false → Prod.fst (Prod.snd (Prod.snd a')) = Prod.snd (Prod.snd (Prod.snd a')) ∧ Go.Proofs.Ytfacddeaobogjaa.N.clos45 W (Prod.fst (Prod.snd (Prod.snd a'))) (Prod.fst a')) ∧ (Prod.fst (Prod.snd a') = Bool.true → List.count Bool.false (Prod.fst (Prod.snd (Prod.snd a'))) < List.count Bool.false (Prod.snd (Prod.snd (Prod.snd a')))) ∧ List.count Bool.false (Prod.fst (Prod.snd (Prod.snd a'))) ≤ List.count Bool.false (Prod.snd (Prod.snd (Prod.snd a')))) ∧ True ∧ Prod.snd (Prod.snd (Prod.snd a')) = Prod.snd a) ∧ List.length W - Prod.fst a' < List.length W - Prod.fst a_5)) ∧ (Decidable.decide ((↑(Prod.fst a_5) : Int) < (↑(List.length W) : Int)) = Bool.false → ∃ (a' : Bool × Go.Proofs.Ytfacddeaobogjaa.N.Bs), (Int.toNat N = Int.toNat N ∧ Prod.fst (Prod.snd a_5) = Prod.fst a' ∧ N = N ∧ W = W ∧ Prod.fst (Prod.snd (Prod.snd a_5)) = Prod.snd a') ∧ (Go.Proofs.Ytfacddeaobogjaa.N.base45 N W fr (Prod.snd a') ∧ (Prod.fst a' = Bool.false → Go.Proofs.Ytfacddeaobogjaa.N.clos45 W (Prod.snd a') (List.length W))) ∧ ((2 : Nat) * List.count Bool.false (Prod.snd a') + bif Prod.fst a' then (1 : Nat) else (0 : Nat)) < (2 : Nat) * List.count Bool.false (Prod.snd a) + bif Prod.fst a then (1 : Nat) else (0 : Nat))) ∧ (Prod.fst a = Bool.false → ((0 : Nat) + Int.toNat N ≤ List.length (Prod.snd a) ∧ List.take (Int.toNat N) (Prod.snd a) = Go.Proofs.Ytfacddeaobogjaa.N.marksL W N fr) ∧ True))) _ (by kernel_rfl)
  have hmax : maxLen = 9223372036854775807 := rfl
  obtain ⟨⟨hN0, hN1⟩, hE, hWl, hfl⟩ := h
  have hNt : (N.toNat : Int) = N := by omega
  refine ⟨by omega, ⟨(0, List.replicate N.toNat false), ⟨rfl, rfl, rfl, rfl, rfl, rfl⟩, Nat.zero_le _, List.length_replicate, fun v => ?_⟩, ?_⟩
  · simp only [List.take_zero]
    refine ⟨fun h => ?_, fun h => absurd h.2 (by simp)⟩
    rw [List.getD_eq_getElem?_getD, List.getElem?_replicate] at h
    split at h <;> simp at h
  rintro ⟨k, l⟩ ⟨p1, p2, p3⟩
  simp only at p1 p2 p3 ⊢
  have ek : Int.toNat (k : Int) = k := by omega
  rw [ek]
  refine ⟨fun hlt => ?_, fun hge => ?_⟩
  · have hlt : k < fr.length := by have := of_decide_eq_true hlt; omega
    have htk : fr.take (k + 1) = fr.take k ++ [fr.getD k 0] := by
      rw [List.take_add_one, List.getElem?_eq_getElem hlt, List.getD_eq_getElem?_getD, List.getElem?_eq_getElem hlt]; rfl
    generalize fr.getD k 0 = u at htk ⊢
    refine ⟨⟨⟨by omega, by omega⟩, fun _ => ⟨⟨by omega, by omega⟩, trivial⟩, fun _ => trivial⟩, fun hc => ?_, fun hc => ?_⟩
    · rw [Bool.and_eq_true, decide_eq_true_iff, decide_eq_true_iff] at hc
      refine ⟨⟨by omega, by omega⟩, ⟨hc.1, by omega⟩, by omega, by unfold okI64; omega, (k + 1, l.set u.toNat true), ⟨by trivial, by trivial, by simp, by trivial, by trivial, rfl⟩, ⟨by simp only; omega, by simp only [List.length_set]; exact p2, fun v => ?_⟩, by simp only; omega⟩
      simp only
      rw [getD_set (by omega), p3, htk, List.mem_append, List.mem_singleton]
      constructor
      · rintro (h | ⟨h1, h2⟩)
        · exact ⟨by omega, .inr (by omega)⟩
        · exact ⟨h1, .inl h2⟩
      · rintro ⟨h1, h2 | h2⟩
        · exact .inr ⟨h1, h2⟩
        · exact .inl (by omega)
    · have hc : ¬ (0 ≤ u ∧ u < N) := by
        rw [Bool.and_eq_false_iff, decide_eq_false_iff_not, decide_eq_false_iff_not] at hc; omega
      refine ⟨by unfold okI64; omega, (k + 1, l), ⟨by trivial, by trivial, by simp, by trivial, by trivial, rfl⟩, ⟨by simp only; omega, p2, fun v => ?_⟩, by simp only; omega⟩
      simp only
      rw [p3, htk, List.mem_append, List.mem_singleton]
      constructor
      · rintro ⟨h1, h2⟩
        exact ⟨h1, .inl h2⟩
      · rintro ⟨h1, h2 | h2⟩
        · exact ⟨h1, h2⟩
        · omega
  · have hge : k = fr.length := by have := of_decide_eq_false hge; omega
    rw [hge, List.take_length] at p3
    have base : base45 N W fr l := ⟨p2, fun u hu h0 h1 => (p3 _).2 ⟨by omega, by rw [show ((u.toNat : Nat) : Int) = u from by omega]; exact hu⟩, fun v hv => ⟨v, ((p3 v).1 hv).2, ⟨by omega, by have := ((p3 v).1 hv).1; omega⟩, .refl⟩⟩
    refine ⟨⟨(true, l), ⟨by trivial, rfl, by trivial, by trivial, rfl⟩, base, fun h => absurd h (by simp)⟩, ?_⟩
    rintro ⟨b, l1⟩ ⟨hb1, hb2⟩
    simp only at hb1 hb2 ⊢
    refine ⟨fun hb => ?_, fun hb => ?_⟩
    · subst hb
      refine ⟨⟨(0, false, l1, l1), ⟨by trivial, rfl, rfl, by trivial, by trivial, rfl⟩, ⟨Nat.zero_le _, hb1, fun _ => ⟨rfl, fun j hj => absurd hj (Nat.not_lt_zero j)⟩, fun h => absurd h (by simp), Nat.le_refl _⟩, trivial, rfl⟩, ?_⟩
      rintro ⟨i, c, l2, l0⟩ ⟨⟨q1, q2, q3, q4, q5⟩, _, q6⟩
      simp only at q1 q2 q3 q4 q5 q6 ⊢
      subst q6
      have ei : Int.toNat (i : Int) = i := by omega
      rw [ei]
      refine ⟨fun hlt => ?_, fun hge => ?_⟩
      · have hlt : i < W.length := by have := of_decide_eq_true hlt; omega
        have hxm : W.getD i (0, 0) ∈ W := by rw [List.getD_eq_getElem?_getD, List.getElem?_eq_getElem hlt]; exact List.getElem_mem hlt
        have q3' := fun h => (q3 h).2
        generalize hx : W.getD i (0, 0) = x at hxm ⊢
        have hEx := hE x hxm
        obtain ⟨b1, b2, b3⟩ := q2
        have hlt2 : x.2.toNat < l2.length := by omega
        refine ⟨⟨⟨by omega, by omega⟩, ⟨hEx.1, by omega⟩, by omega, fun _ => ⟨⟨by omega, by omega⟩, ⟨hEx.2.2.1, by omega⟩, hlt2, trivial⟩, fun _ => trivial⟩, fun hc => ?_, fun hc => ?_⟩
        · rw [Bool.and_eq_true, Bool.not_eq_true'] at hc
          obtain ⟨c1, c2⟩ := hc
          have hcs := cnt_set hlt2 c2
          refine ⟨⟨by omega, by omega⟩, ⟨hEx.2.2.1, by omega⟩, hlt2, by unfold okI64; omega, (i + 1, true, l2.set x.2.toNat true, l0), ⟨by trivial, rfl, by simp, by trivial, by trivial, rfl⟩,
            ⟨⟨by simp only; omega, ⟨by simp only [List.length_set]; exact b1, fun u hu h0 h1 => (getD_set hlt2).2 (.inr (b2 u hu h0 h1)), fun v hv => ?_⟩, fun h => absurd h (by simp), fun _ => by simp only; omega, by simp only; omega⟩, trivial, rfl⟩, by simp only; omega⟩
          rcases (getD_set hlt2).1 hv with e | h
          · obtain ⟨u, hu, hv', hr⟩ := b3 _ c1
            refine ⟨u, hu, hv', ?_⟩
            rw [e, show ((x.2.toNat : Nat) : Int) = x.2 from by omega]
            rw [show ((x.1.toNat : Nat) : Int) = x.1 from by omega] at hr
            exact .step hr hxm
          · exact b3 v h
        · refine ⟨by unfold okI64; omega, (i + 1, c, l2, l0), ⟨by trivial, rfl, by simp, by trivial, by trivial, rfl⟩, ⟨⟨by simp only; omega, ⟨b1, b2, b3⟩, fun h => ⟨(q3 h).1, fun j hj h1 => ?_⟩, q4, q5⟩, trivial, rfl⟩, by simp only; omega⟩
          simp only at hj h1 ⊢
          rcases Nat.lt_or_ge j i with hj' | hj'
          · exact q3' h j hj' h1
          · have : j = i := by omega
            subst this
            rw [hx] at h1 ⊢
            rw [h1, Bool.true_and, Bool.not_eq_false'] at hc
            exact hc
      · have hge : i = W.length := by have := of_decide_eq_false hge; omega
        subst hge
        refine ⟨(c, l2), ⟨by trivial, rfl, by trivial, by trivial, rfl⟩, ⟨q2, fun h => (q3 h).2⟩, ?_⟩
        simp only
        cases c with
        | true => have := q4 rfl; simp only [cond_true]; omega
        | false => rw [(q3 rfl).1]; simp only [cond_false, cond_true]; omega
    · obtain ⟨b1, b2, b3⟩ := hb1
      have hcl := hb2 hb
      refine ⟨⟨by omega, ?_⟩, trivial⟩
      rw [List.take_of_length_le (by omega)]
      refine marks_of hE b1 b2 b3 fun x hx h1 => ?_
      obtain ⟨j, hj, rfl⟩ := List.mem_iff_getElem.1 hx
      have e : W.getD j (0, 0) = W[j] := by rw [List.getD_eq_getElem?_getD, List.getElem?_eq_getElem hj]; rfl
      have := hcl j hj
      rw [e] at this
      exact this h1
noncomputable def c45 : PureC Try.prog where
  f := 45
  sig := [.dat true (.pair (.int .i64) (.sl eC)), .dat false iC]
  per := true
  spec := fun x => .ob (okW x.1.1 x.1.2 x.2.1) none (.leaf (.per (.sl .bool) (marksL x.1.2 x.1.1 x.2.1)))
  body := hasBody_of Try.func45 (by kernel_rfl) (by kernel_rfl)
  ok := fun x d h => by
    obtain ⟨h1, h⟩ := h
    obtain rfl : d = _ := h
    exact p45 x.1.1 x.1.2 x.2.1 h1
def inv17 (N : Int) (l : Bs) : LInv where
  α := Nat
  S := fun k => ⟨[(5, .slice ⟨0, .lit 0, 1, 0⟩ (.sym (idxL k (at1 l)).length)), (6, .per (.sl .bool) l), (7, .int .i64 (.sym k))], [(0, (false, .arr 3 (.int .i64) (idxL k (at1 l))))], 1⟩
  p := fun k => k ≤ N.toNat
  m := fun k => N.toNat - k
set_option maxHeartbeats 4000000 in
theorem p17 (N : Int) (W : Es) (fr : List Int) (h : okW N W fr) : Pure1 Try.prog 17 [.agg [.int .i64 (.sym N), .per (.sl eC) W], .per iC fr] (.per iC (idxL N.toNat (at1 (marksL W N fr)))) := by
  refine pure1_of_exec (ct := cx0 [c45] [] []) [(4, inv17 N (marksL W N fr))] Try.func17 rfl rfl ?_
  apply @cast_goal (Go.Proofs.Ytfacddeaobogjaa.N.okW N W fr ∧ (∃ (a : Nat), (List.length (Go.Proofs.Ytfacddeaobogjaa.N.idxL a (Go.Proofs.Ytfacddeaobogjaa.N.at1 (Go.Proofs.Ytfacddeaobogjaa.N.marksL W N fr))) = (0 : Nat) ∧ Go.Proofs.Ytfacddeaobogjaa.N.marksL W N fr = Go.Proofs.Ytfacddeaobogjaa.N.marksL W N fr ∧ (0 : Int) = (↑a : Int) ∧ Go.Proofs.Ytfacddeaobogjaa.N.idxL a (Go.Proofs.Ytfacddeaobogjaa.N.at1 (Go.Proofs.Ytfacddeaobogjaa.N.marksL W N fr)) = []) ∧ a ≤ Int.toNat N) ∧ ∀ (a : Nat), a ≤ Int.toNat N → (Decidable.decide ((↑a : Int) < (↑(List.length (Go.Proofs.Ytfacddeaobogjaa.N.marksL W N fr)) : Int)) = Bool.true → ((0 : Int) ≤ (↑a : Int) ∧ (↑a : Int) < (↑(List.length (Go.Proofs.Ytfacddeaobogjaa.N.marksL W N fr)) : Int)) ∧ (List.getD (Go.Proofs.Ytfacddeaobogjaa.N.marksL W N fr) (Int.toNat (↑a : Int)) Bool.false = Bool.true → (0 : Nat) + List.length (Go.Proofs.Ytfacddeaobogjaa.N.idxL a (Go.Proofs.Ytfacddeaobogjaa.N.at1 (Go.Proofs.Ytfacddeaobogjaa.N.marksL W N fr))) ≤ List.length (Go.Proofs.Ytfacddeaobogjaa.N.idxL a (Go.Proofs.Ytfacddeaobogjaa.N.at1 (Go.Proofs.Ytfacddeaobogjaa.N.marksL W N fr))) ∧ ((List.length (Go.Proofs.Ytfacddeaobogjaa.N.idxL a (Go.Proofs.Ytfacddeaobogjaa.N.at1 (Go.Proofs.Ytfacddeaobogjaa.N.marksL W N fr))) + List.length [(↑a : Int)]) * (8 : Nat) ≤ (140737488355328 : Nat) ∧ List.length (Go.Proofs.Ytfacddeaobogjaa.N.idxL a (Go.Proofs.Ytfacddeaobogjaa.N.at1 (Go.Proofs.Ytfacddeaobogjaa.N.marksL W N fr))) + List.length [(↑a : Int)] ≤ Go.maxLen) ∧ Go.DF.okI64 ((↑a : Int) + (1 : Int)) ∧ ∃ (a' : Nat), (List.length (Go.Proofs.Ytfacddeaobogjaa.N.idxL a (Go.Proofs.Ytfacddeaobogjaa.N.at1 (Go.Proofs.Ytfacddeaobogjaa.N.marksL W N fr))) + (1 : Nat) = List.length (Go.Proofs.Ytfacddeaobogjaa.N.idxL a' (Go.Proofs.Ytfacddeaobogjaa.N.at1 (Go.Proofs.Ytfacddeaobogjaa.N.marksL W N fr))) ∧ Go.Proofs.Ytfacddeaobogjaa.N.marksL W N fr = Go.Proofs.Ytfacddeaobogjaa.N.marksL W N fr ∧ (↑a : Int) + (1 : Int) = (↑a' : Int) ∧ List.take (List.length (Go.Proofs.Ytfacddeaobogjaa.N.idxL a (Go.Proofs.Ytfacddeaobogjaa.N.at1 (Go.Proofs.Ytfacddeaobogjaa.N.marksL W N fr)))) (Go.Proofs.Ytfacddeaobogjaa.N.idxL a (Go.Proofs.Ytfacddeaobogjaa.N.at1 (Go.Proofs.Ytfacddeaobogjaa.N.marksL W N fr))) ++ [(↑a : Int)] = Go.Proofs.Ytfacddeaobogjaa.N.idxL a' (Go.Proofs.Ytfacddeaobogjaa.N.at1 (Go.Proofs.Ytfacddeaobogjaa.N.marksL W N fr))) ∧ a' ≤ Int.toNat N ∧ Int.toNat N - a' < Int.toNat N - a) ∧ (List.getD (Go.Proofs.Ytfacddeaobogjaa.N.marksL W N fr) (Int.toNat (↑a : Int)) Bool.false = Bool.false → Go.DF.okI64 ((↑a : Int) + (1 : Int)) ∧ ∃ (a' : Nat), (List.length (Go.Proofs.Ytfacddeaobogjaa.N.idxL a (Go.Proofs.Ytfacddeaobogjaa.N.at1 (Go.Proofs.Ytfacddeaobogjaa.N.marksL W N fr))) = List.length (Go.Proofs.Ytfacddeaobogjaa.N.idxL a' (Go.Proofs.Ytfacddeaobogjaa.N.at1 (Go.Proofs.Ytfacddeaobogjaa.N.marksL W N fr))) ∧ Go.Proofs.Ytfacddeaobogjaa.N.marksL W N fr = Go.Proofs.Ytfacddeaobogjaa.N.marksL W N fr ∧ (↑a : Int) + (1 : Int) = (↑a' : Int) ∧ Go.Proofs.Ytfacddeaobogjaa.N.idxL a (Go.Proofs.Ytfacddeaobogjaa.N.at1 (Go.Proofs.Ytfacddeaobogjaa.N.marksL W N fr)) = Go.Proofs.Ytfacddeaobogjaa.N.idxL a' (Go.Proofs.Ytfacddeaobogjaa.N.at1 (Go.Proofs.Ytfacddeaobogjaa.N.marksL W N fr))) ∧ a' ≤ Int.toNat N ∧ Int.toNat N - a' < Int.toNat N - a)) ∧ (Decidable.decide ((↑a : Int) < (↑(List.length (Go.Proofs.Ytfacddeaobogjaa.N.marksL W N fr)) : Int)) = Bool.false → ((0 : Nat) + List.length (Go.Proofs.Ytfacddeaobogjaa.N.idxL a (Go.Proofs.Ytfacddeaobogjaa.N.at1 (Go.Proofs.Ytfacddeaobogjaa.N.marksL W N fr))) ≤ List.length (Go.Proofs.Ytfacddeaobogjaa.N.idxL a (Go.Proofs.Ytfacddeaobogjaa.N.at1 (Go.Proofs.Ytfacddeaobogjaa.N.marksL W N fr))) ∧ List.take (List.length (Go.Proofs.Ytfacddeaobogjaa.N.idxL a (Go.Proofs.Ytfacddeaobogjaa.N.at1 (Go.Proofs.Ytfacddeaobogjaa.N.marksL W N fr)))) (Go.Proofs.Ytfacddeaobogjaa.N.idxL a (Go.Proofs.Ytfacddeaobogjaa.N.at1 (Go.Proofs.Ytfacddeaobogjaa.N.marksL W N fr))) = Go.Proofs.Ytfacddeaobogjaa.N.idxL (Int.toNat N) (Go.Proofs.Ytfacddeaobogjaa.N.at1 (Go.Proofs.Ytfacddeaobogjaa.N.marksL W N fr))) ∧ True)) _ (by kernel_rfl)
  have hmax : maxLen = 9223372036854775807 := rfl
  have hN := h.1
  have hM := marksL_len W N fr
  generalize marksL W N fr = M at hM ⊢
  refine ⟨h, ⟨0, ⟨rfl, rfl, rfl, rfl⟩, Nat.zero_le _⟩, fun a ha => ⟨fun hlt => ?_, fun hge => ?_⟩⟩
  · have hlt : a < N.toNat := by have := of_decide_eq_true hlt; omega
    have ea : Int.toNat (a : Int) = a := by omega
    have hi := idxL_len a (at1 M)
    have hsx : idxL (a + 1) (at1 M) = bif M.getD a false then idxL a (at1 M) ++ [(a : Int)] else idxL a (at1 M) := idxL_succ a (at1 M)
    rw [ea]
    simp only [List.length_singleton, List.take_length]
    refine ⟨⟨by omega, by omega⟩, fun hb => ⟨by omega, ⟨by omega, by omega⟩, by unfold okI64; omega, a + 1, ⟨?_, by trivial, by omega, ?_⟩, by omega, by omega⟩, fun hb => ⟨by unfold okI64; omega, a + 1, ⟨?_, by trivial, by omega, ?_⟩, by omega, by omega⟩⟩
    all_goals rw [hsx, hb]
    all_goals simp
  · have hge : a = N.toNat := by have := of_decide_eq_false hge; omega
    rw [hge, List.take_length]
    exact ⟨⟨by omega, rfl⟩, trivial⟩
noncomputable def c17 : PureC Try.prog where
  f := 17
  sig := [.dat true (.pair (.int .i64) (.sl eC)), .dat false iC]
  per := true
  spec := fun x => .ob (okW x.1.1 x.1.2 x.2.1) none (.leaf (.per iC (idxL (Int.toNat x.1.1) (at1 (marksL x.1.2 x.1.1 x.2.1)))))
  body := hasBody_of Try.func17 (by kernel_rfl) (by kernel_rfl)
  ok := fun x d h => by
    obtain ⟨h1, h⟩ := h
    obtain rfl : d = _ := h
    exact p17 x.1.1 x.1.2 x.2.1 h1
def inv19 (N : Int) (W : Es) (a b : Bs) : LInv where
  α := Nat
  S := fun k => ⟨[(3, .ptr ⟨0, .lit 0, 0, 0⟩), (7, .slice ⟨1, .lit 0, 1, 0⟩ (.sym (idxL k (at2 a b)).length)), (8, .per (.sl .bool) a), (9, .per (.sl .bool) b), (10, .int .i64 (.sym k))],
    [(0, (false, .cells 27 [.int .i64 (.sym N), .per (.sl eC) W])), (1, (false, .arr 3 (.int .i64) (idxL k (at2 a b))))], 2⟩
  p := fun k => k ≤ N.toNat
  m := fun k => N.toNat - k
set_option maxHeartbeats 4000000 in
theorem p19 (N : Int) (W : Es) (fr to : List Int) (h : okW N W fr) (h' : okW (rN N (List.map swp W)) (rE N (List.map swp W)) to) (hN : rN N (List.map swp W) = N) :
    Pure1 Try.prog 19 [.agg [.int .i64 (.sym N), .per (.sl eC) W], .per iC fr, .per iC to] (.per iC (idxL N.toNat (at2 (marksL W N fr) (marksL (rE N (List.map swp W)) (rN N (List.map swp W)) to)))) := by
  refine pure1_of_exec (ct := cx0 [c45, c35] [] []) [(4, inv19 N W (marksL W N fr) (marksL (rE N (List.map swp W)) (rN N (List.map swp W)) to))] Try.func19 rfl rfl ?_
  apply @cast_goal (Go.Proofs.Ytfacddeaobogjaa.N.okW N W fr ∧ List.length W ≤ (1000000 : Nat) ∧ Go.Proofs.Ytfacddeaobogjaa.N.okW (Go.Proofs.Ytfacddeaobogjaa.N.rN N (List.map Go.Proofs.Ytfacddeaobogjaa.N.swp W)) (Go.Proofs.Ytfacddeaobogjaa.N.rE N (List.map Go.Proofs.Ytfacddeaobogjaa.N.swp W)) to ∧ (∃ (a : Nat), (List.length (Go.Proofs.Ytfacddeaobogjaa.N.idxL a (Go.Proofs.Ytfacddeaobogjaa.N.at2 (Go.Proofs.Ytfacddeaobogjaa.N.marksL W N fr) (Go.Proofs.Ytfacddeaobogjaa.N.marksL (Go.Proofs.Ytfacddeaobogjaa.N.rE N (List.map Go.Proofs.Ytfacddeaobogjaa.N.swp W)) (Go.Proofs.Ytfacddeaobogjaa.N.rN N (List.map Go.Proofs.Ytfacddeaobogjaa.N.swp W)) to))) = (0 : Nat) ∧ Go.Proofs.Ytfacddeaobogjaa.N.marksL W N fr = Go.Proofs.Ytfacddeaobogjaa.N.marksL W N fr ∧ Go.Proofs.Ytfacddeaobogjaa.N.marksL (Go.Proofs.Ytfacddeaobogjaa.N.rE N (List.map Go.Proofs.Ytfacddeaobogjaa.N.swp W)) (Go.Proofs.Ytfacddeaobogjaa.N.rN N (List.map Go.Proofs.Ytfacddeaobogjaa.N.swp W)) to = Go.Proofs.Ytfacddeaobogjaa.N.marksL (Go.Proofs.Ytfacddeaobogjaa.N.rE N (List.map Go.Proofs.Ytfacddeaobogjaa.N.swp W)) (Go.Proofs.Ytfacddeaobogjaa.N.rN N (List.map Go.Proofs.Ytfacddeaobogjaa.N.swp W)) to ∧ (0 : Int) = (↑a : Int) ∧ N = N ∧ W = W ∧ Go.Proofs.Ytfacddeaobogjaa.N.idxL a (Go.Proofs.Ytfacddeaobogjaa.N.at2 (Go.Proofs.Ytfacddeaobogjaa.N.marksL W N fr) (Go.Proofs.Ytfacddeaobogjaa.N.marksL (Go.Proofs.Ytfacddeaobogjaa.N.rE N (List.map Go.Proofs.Ytfacddeaobogjaa.N.swp W)) (Go.Proofs.Ytfacddeaobogjaa.N.rN N (List.map Go.Proofs.Ytfacddeaobogjaa.N.swp W)) to)) = []) ∧ a ≤ Int.toNat N) ∧ ∀ (a : Nat), a ≤ Int.toNat N → (Decidable.decide ((↑a : Int) < N) = Bool.true → (((0 : Int) ≤ (↑a : Int) ∧ (↑a : Int) < (↑(List.length (Go.Proofs.Ytfacddeaobogjaa.N.marksL W N fr)) : Int)) ∧ (List.getD (Go.Proofs.Ytfacddeaobogjaa.N.marksL W N fr) (Int.toNat (↑a : Int)) Bool.false = Bool.true → ((0 : Int) ≤ (↑a : Int) ∧ (↑a : Int) < (↑(List.length (Go.Proofs.Ytfacddeaobogjaa.N.marksL (Go.Proofs.Ytfacddeaobogjaa.N.rE N (List.map Go.Proofs.Ytfacddeaobogjaa.N.swp W)) (Go.Proofs.Ytfacddeaobogjaa.N.rN N (List.map Go.Proofs.Ytfacddeaobogjaa.N.swp W)) to)) : Int)) ∧ True) ∧ (List.getD (Go.Proofs.Ytfacddeaobogjaa.N.marksL W N fr) (Int.toNat (↑a : Int)) Bool.false = Bool.false → True)) ∧ ((List.getD (Go.Proofs.Ytfacddeaobogjaa.N.marksL W N fr) (Int.toNat (↑a : Int)) Bool.false && List.getD (Go.Proofs.Ytfacddeaobogjaa.N.marksL (Go.Proofs.Ytfacddeaobogjaa.N.rE N (List.map Go.Proofs.Ytfacddeaobogjaa.N.swp W)) (Go.Proofs.Ytfacddeaobogjaa.N.rN N (List.map Go.Proofs.Ytfacddeaobogjaa.N.swp W)) to) (Int.toNat (↑a : Int)) Bool.false) = Bool.true → (0 : Nat) + List.length (Go.Proofs.Ytfacddeaobogjaa.N.idxL a (Go.Proofs.Ytfacddeaobogjaa.N.at2 (Go.Proofs.Ytfacddeaobogjaa.N.marksL W N fr) (Go.Proofs.Ytfacddeaobogjaa.N.marksL (Go.Proofs.Ytfacddeaobogjaa.N.rE N (List.map Go.Proofs.Ytfacddeaobogjaa.N.swp W)) (Go.Proofs.Ytfacddeaobogjaa.N.rN N (List.map Go.Proofs.Ytfacddeaobogjaa.N.swp W)) to))) ≤ List.length (Go.Proofs.Ytfacddeaobogjaa.N.idxL a (Go.Proofs.Ytfacddeaobogjaa.N.at2 (Go.Proofs.Ytfacddeaobogjaa.N.marksL W N fr) (Go.Proofs.Ytfacddeaobogjaa.N.marksL (Go.Proofs.Ytfacddeaobogjaa.N.rE N (List.map Go.Proofs.Ytfacddeaobogjaa.N.swp W)) (Go.Proofs.Ytfacddeaobogjaa.N.rN N (List.map Go.Proofs.Ytfacddeaobogjaa.N.swp W)) to))) ∧ ((List.length (Go.Proofs.Ytfacddeaobogjaa.N.idxL a (Go.Proofs.Ytfacddeaobogjaa.N.at2 (Go.Proofs.Ytfacddeaobogjaa.N.marksL W N fr) (Go.Proofs.Ytfacddeaobogjaa.N.marksL (Go.Proofs.Ytfacddeaobogjaa.N.rE N (List.map Go.Proofs.Ytfacddeaobogjaa.N.swp W)) (Go.Proofs.Ytfacddeaobogjaa.N.rN N (List.map Go.Proofs.Ytfacddeaobogjaa.N.swp W)) to))) + List.length [(↑a : Int)]) * (8 : Nat) ≤ (140737488355328 : Nat) ∧ List.length (Go.Proofs.Ytfacddeaobogjaa.N.idxL a (Go.Proofs.Ytfacddeaobogjaa.N.at2 (Go.Proofs.Ytfacddeaobogjaa.N.marksL W N fr) (Go.Proofs.Ytfacddeaobogjaa.N.marksL (Go.Proofs.Ytfacddeaobogjaa.N.rE N (List.map Go.Proofs.Ytfacddeaobogjaa.N.swp W)) (Go.Proofs.Ytfacddeaobogjaa.N.rN N (List.map Go.Proofs.Ytfacddeaobogjaa.N.swp W)) to))) + List.length [(↑a : Int)] ≤ Go.maxLen) ∧ Go.DF.okI64 ((↑a : Int) + (1 : Int)) ∧ ∃ (a' : Nat), (List.length (Go.Proofs.Ytfacddeaobogjaa.N.idxL a (Go.Proofs.Ytfacddeaobogjaa.N.at2 (Go.Proofs.Ytfacddeaobogjaa.N.marksL W N fr) (Go.Proofs.Ytfacddeaobogjaa.N.marksL (Go.Proofs.Ytfacddeaobogjaa.N.rE N (List.map Go.Proofs.Ytfacddeaobogjaa.N.swp W)) (Go.Proofs.Ytfacddeaobogjaa.N.rN N (List.map Go.Proofs.Ytfacddeaobogjaa.N.swp W)) to))) + (1 : Nat) = List.length (Go.Proofs.Ytfacddeaobogjaa.N.idxL a' (Go.Proofs.Ytfacddeaobogjaa.N.at2 (Go.Proofs.Ytfacddeaobogjaa.N.marksL W N fr) (Go.Proofs.Ytfacddeaobogjaa.N.marksL (Go.Proofs.Ytfacddeaobogjaa.N.rE N (List.map Go.Proofs.Ytfacddeaobogjaa.N.swp W)) (Go.Proofs.Ytfacddeaobogjaa.N.rN N (List.map Go.Proofs.Ytfacddeaobogjaa.N.swp W)) to))) ∧ Go.Proofs.Ytfacddeaobogjaa.N.marksL W N fr = Go.Proofs.Ytfacddeaobogjaa.N.marksL W N fr ∧ Go.Proofs.Ytfacddeaobogjaa.N.marksL (Go.Proofs.Ytfacddeaobogjaa.N.rE N (List.map Go.Proofs.Ytfacddeaobogjaa.N.swp W)) (Go.Proofs.Ytfacddeaobogjaa.N.rN N (List.map Go.Proofs.Ytfacddeaobogjaa.N.swp W)) to = Go.Proofs.Ytfacddeaobogjaa.N.marksL (Go.Proofs.Ytfacddeaobogjaa.N.rE N (List.map Go.Proofs.Ytfacddeaobogjaa.N.swp W)) (Go.Proofs.Ytfacddeaobogjaa.N.rN N (List.map Go.Proofs.Ytfacddeaobogjaa.N.swp W)) to ∧ (↑a : Int) + (1 : Int) = (↑a' : Int) ∧ N = N ∧ W = W ∧ List.take (List.length (Go.Proofs.Ytfacddeaobogjaa.N.idxL a (Go.Proofs.Ytfacddeaobogjaa.N.at2 (Go.Proofs.Ytfacddeaobogjaa.N.marksL W N fr) (Go.Proofs.Ytfacddeaobogjaa.N.marksL (Go.Proofs.Ytfacddeaobogjaa.N.rE N (List.map Go.Proofs.Ytfacddeaobogjaa.N.swp W)) (Go.Proofs.Ytfacddeaobogjaa.N.rN N (List.map Go.Proofs.Ytfacddeaobogjaa.N.swp W)) to)))) (Go.Proofs.Ytfacddeaobogjaa.N.idxL a (Go.Proofs.Ytfacddeaobogjaa.N.at2 (Go.Proofs.Ytfacddeaobogjaa.N.marksL W N fr) (Go.Proofs.Ytfacddeaobogjaa.N.marksL (Go.Proofs.Ytfacddeaobogjaa.N.rE N (List.map Go.Proofs.Ytfacddeaobogjaa.N.swp W)) (Go.Proofs.Ytfacddeaobogjaa.N.rN N (List.map Go.Proofs.Ytfacddeaobogjaa.N.swp W)) to))) ++ [(↑a : Int)] = Go.Proofs.Ytfacddeaobogjaa.N.idxL a' (Go.Proofs.Ytfacddeaobogjaa.N.at2 (Go.Proofs.Ytfacddeaobogjaa.N.marksL W N fr) (Go.Proofs.Ytfacddeaobogjaa.N.marksL (Go.Proofs.Ytfacddeaobogjaa.N.rE N (List.map Go.Proofs.Ytfacddeaobogjaa.N.swp W)) (Go.Proofs.Ytfacddeaobogjaa.N.rN N (List.map Go.Proofs.Ytfacddeaobogjaa.N.swp W)) to))) ∧ a' ≤ Int.toNat N ∧ Int.toNat N - a' < Int.toNat N - a) ∧ ((List.getD (Go.Proofs.Ytfacddeaobogjaa.N.marksL W N fr) (Int.toNat (↑a : Int)) Bool.false && List.getD (Go.Proofs.Ytfacddeaobogjaa.N.marksL (Go.Proofs.Ytfacddeaobogjaa.N.rE N (List.map Go.Proofs.Ytfacddeaobogjaa.N.swp W)) (Go.Proofs.Ytfacddeaobogjaa.N.rN N (List.map Go.Proofs.Ytfacddeaobogjaa.N.swp W)) to) (Int.toNat (↑a : Int)) Bool.false) = Bool.false → Go.DF.okI64 ((↑a : Int) + (1 : Int)) ∧ ∃ (a' : Nat), (List.length (Go.Proofs.Ytfacddeaobogjaa.N.idxL a (Go.Proofs.Ytfacddeaobogjaa.N.at2 (Go.Proofs.Ytfacddeaobogjaa.N.marksL W N fr) (Go.Proofs.Ytfacddeaobogjaa.N.marksL (Go.Proofs.Ytfacddeaobogjaa.N.rE N (List.map Go.Proofs.Ytfacddeaobogjaa.N.swp W)) (Go.Proofs.Ytfacddeaobogjaa.N.rN N (List.map Go.Proofs.Ytfacddeaobogjaa.N.swp W)) to))) = List.length (Go.Proofs.Ytfacddeaobogjaa.N.idxL a' (Go.Proofs.Ytfacddeaobogjaa.N.at2 (Go.Proofs.Ytfacddeaobogjaa.N.marksL W N fr) (Go.Proofs.Ytfacddeaobogjaa.N.marksL (Go.Proofs.Ytfacddeaobogjaa.N.rE N (List.map Go.Proofs.Ytfacddeaobogjaa.N.swp W)) (Go.Proofs.Ytfacddeaobogjaa.N.rN N (List.map Go.Proofs.Ytfacddeaobogjaa.N.swp W)) to))) ∧ Go.Proofs.Ytfacddeaobogjaa.N.marksL W N fr = Go.Proofs.Ytfacddeaobogjaa.N.marksL W N fr ∧ Go.Proofs.Ytfacddeaobogjaa.N.marksL (Go.Proofs.Ytfacddeaobogjaa.N.rE N (List.map Go.Proofs.Ytfacddeaobogjaa.N.swp W)) (Go.Proofs.Ytfacddeaobogjaa.N.rN N (List.map Go.Proofs.Ytfacddeaobogjaa.N.swp W)) to = Go.Proofs.Ytfacddeaobogjaa.N.marksL (Go.Proofs.Ytfacddeaobogjaa.N.rE N (List.map Go.Proofs.Ytfacddeaobogjaa.N.swp W)) (Go.Proofs.Ytfacddeaobogjaa.N.rN N (List.map Go.Proofs.Ytfacddeaobogjaa.N.swp W)) to ∧ (↑a : Int) + (1 : Int) = (↑a' : Int) ∧ N = N ∧ W = W ∧ Go.Proofs.Ytfacddeaobogjaa.N.idxL a (Go.Proofs.Ytfacddeaobogjaa.N.at2 (Go.Proofs.Ytfacddeaobogjaa.N.marksL W N fr) (Go.Proofs.Ytfacddeaobogjaa.N.marksL (Go.Proofs.Ytfacddeaobogjaa.N.rE N (List.map Go.Proofs.Ytfacddeaobogjaa.N.swp W)) (Go.Proofs.Ytfacddeaobogjaa.N.rN N (List.map Go.Proofs.Ytfacddeaobogjaa.N.swp W)) to)) = Go.Proofs.Ytfacddeaobogjaa.N.idxL a' (Go.Proofs.Ytfacddeaobogjaa.N.at2 (Go.Proofs.Ytfacddeaobogjaa.N.marksL W N fr) (Go.Proofs.Ytfacddeaobogjaa.N.marksL (Go.Proofs.Ytfacddeaobogjaa.N.rE N (List.map Go.Proofs.Ytfacddeaobogjaa.N.swp W)) (Go.Proofs.Ytfacddeaobogjaa.N.rN N (List.map Go.Proofs.Ytfacddeaobogjaa.N.swp W)) to))) ∧ a' ≤ Int.toNat N ∧ Int.toNat N - a' < Int.toNat N - a)) ∧ (Decidable.decide ((↑a : Int) < N) = Bool.false → ((0 : Nat) + List.length (Go.Proofs.Ytfacddeaobogjaa.N.idxL a (Go.Proofs.Ytfacddeaobogjaa.N.at2 (Go.Proofs.Ytfacddeaobogjaa.N.marksL W N fr) (Go.Proofs.Ytfacddeaobogjaa.N.marksL (Go.Proofs.Ytfacddeaobogjaa.N.rE N (List.map Go.Proofs.Ytfacddeaobogjaa.N.swp W)) (Go.Proofs.Ytfacddeaobogjaa.N.rN N (List.map Go.Proofs.Ytfacddeaobogjaa.N.swp W)) to))) ≤ List.length (Go.Proofs.Ytfacddeaobogjaa.N.idxL a (Go.Proofs.Ytfacddeaobogjaa.N.at2 (Go.Proofs.Ytfacddeaobogjaa.N.marksL W N fr) (Go.Proofs.Ytfacddeaobogjaa.N.marksL (Go.Proofs.Ytfacddeaobogjaa.N.rE N (List.map Go.Proofs.Ytfacddeaobogjaa.N.swp W)) (Go.Proofs.Ytfacddeaobogjaa.N.rN N (List.map Go.Proofs.Ytfacddeaobogjaa.N.swp W)) to))) ∧ List.take (List.length (Go.Proofs.Ytfacddeaobogjaa.N.idxL a (Go.Proofs.Ytfacddeaobogjaa.N.at2 (Go.Proofs.Ytfacddeaobogjaa.N.marksL W N fr) (Go.Proofs.Ytfacddeaobogjaa.N.marksL (Go.Proofs.Ytfacddeaobogjaa.N.rE N (List.map Go.Proofs.Ytfacddeaobogjaa.N.swp W)) (Go.Proofs.Ytfacddeaobogjaa.N.rN N (List.map Go.Proofs.Ytfacddeaobogjaa.N.swp W)) to)))) (Go.Proofs.Ytfacddeaobogjaa.N.idxL a (Go.Proofs.Ytfacddeaobogjaa.N.at2 (Go.Proofs.Ytfacddeaobogjaa.N.marksL W N fr) (Go.Proofs.Ytfacddeaobogjaa.N.marksL (Go.Proofs.Ytfacddeaobogjaa.N.rE N (List.map Go.Proofs.Ytfacddeaobogjaa.N.swp W)) (Go.Proofs.Ytfacddeaobogjaa.N.rN N (List.map Go.Proofs.Ytfacddeaobogjaa.N.swp W)) to))) = Go.Proofs.Ytfacddeaobogjaa.N.idxL (Int.toNat N) (Go.Proofs.Ytfacddeaobogjaa.N.at2 (Go.Proofs.Ytfacddeaobogjaa.N.marksL W N fr) (Go.Proofs.Ytfacddeaobogjaa.N.marksL (Go.Proofs.Ytfacddeaobogjaa.N.rE N (List.map Go.Proofs.Ytfacddeaobogjaa.N.swp W)) (Go.Proofs.Ytfacddeaobogjaa.N.rN N (List.map Go.Proofs.Ytfacddeaobogjaa.N.swp W)) to))) ∧ True)) _ (by kernel_rfl)
  have hmax : maxLen = 9223372036854775807 := rfl
  have hN0 := h.1
  have hM := marksL_len W N fr
  have hM' := marksL_len (rE N (List.map swp W)) (rN N (List.map swp W)) to
  rw [hN] at hM'
  have hWl := h.2.2.1
  generalize marksL W N fr = a at hM ⊢
  generalize hgb : marksL (rE N (List.map swp W)) (rN N (List.map swp W)) to = b at *
  have hb' : b.length = N.toNat := by rw [← hgb, marksL_len, hN]
  clear hM'
  refine ⟨h, hWl, h', ⟨0, ⟨rfl, rfl, rfl, rfl, rfl, rfl, rfl⟩, Nat.zero_le _⟩, fun i hi => ⟨fun hlt => ?_, fun hge => ?_⟩⟩
  · have hlt : i < N.toNat := by have := of_decide_eq_true hlt; omega
    have ei : Int.toNat (i : Int) = i := by omega
    have hil := idxL_len i (at2 a b)
    have hsx : idxL (i + 1) (at2 a b) = bif (a.getD i false && b.getD i false) then idxL i (at2 a b) ++ [(i : Int)] else idxL i (at2 a b) := idxL_succ i (at2 a b)
    rw [ei]
    simp only [List.length_singleton, List.take_length]
    refine ⟨⟨⟨by omega, by omega⟩, fun _ => ⟨⟨by omega, by omega⟩, trivial⟩, fun _ => trivial⟩, fun hb => ⟨by omega, ⟨by omega, by omega⟩, by unfold okI64; omega, i + 1, ⟨?_, by trivial, by trivial, by omega, by trivial, by trivial, ?_⟩, by omega, by omega⟩, fun hb => ⟨by unfold okI64; omega, i + 1, ⟨?_, by trivial, by trivial, by omega, by trivial, by trivial, ?_⟩, by omega, by omega⟩⟩
    all_goals rw [hsx, hb]
    all_goals simp
  · have hge : i = N.toNat := by have := of_decide_eq_false hge; omega
    rw [hge, List.take_length]
    exact ⟨⟨by omega, rfl⟩, trivial⟩
def ok19 (N : Int) (W : Es) (fr to : List Int) : Prop := okW N W fr ∧ okW (rN N (List.map swp W)) (rE N (List.map swp W)) to ∧ rN N (List.map swp W) = N
noncomputable def c19 : PureC Try.prog where
  f := 19
  sig := [.dat true (.pair (.int .i64) (.sl eC)), .dat false iC, .dat false iC]
  per := true
  spec := fun x => .ob (ok19 x.1.1 x.1.2 x.2.1 x.2.2.1) none (.leaf (.per iC (idxL (Int.toNat x.1.1) (at2 (marksL x.1.2 x.1.1 x.2.1) (marksL (rE x.1.1 (List.map swp x.1.2)) (rN x.1.1 (List.map swp x.1.2)) x.2.2.1)))))
  body := hasBody_of Try.func19 (by kernel_rfl) (by kernel_rfl)
  ok := fun x d h => by
    obtain ⟨h1, h⟩ := h
    obtain rfl : d = _ := h
    exact p19 x.1.1 x.1.2 x.2.1 x.2.2.1 h1.1 h1.2.1 h1.2.2
theorem okV_gA {n : Int} {es : Es} (h : gErr n es = 0) : okV (gA n es) := by
  obtain ⟨h1, h2, h3, h4⟩ := gErr_zero h
  refine ⟨by rw [gA_len]; omega, fun i => ⟨by have := (okR_gA h i).2; omega, fun y hy => ?_⟩⟩
  have := h4 _ ((gA_mem h i y).1 hy)
  simp only at this
  rw [gA_len]; omega
theorem okV_gB {n : Int} {es : Es} (h : gErr n es = 0) : okV (gB n es) := by
  obtain ⟨h1, h2, h3, h4⟩ := gErr_zero h
  refine ⟨by rw [gB_len]; omega, fun i => ⟨by have := (okR_gB h i).2; omega, fun y hy => ?_⟩⟩
  have := h4 _ ((gB_mem h i y).1 hy)
  simp only at this
  rw [gB_len]; omega
theorem p4 (k : Int) (l : Es) (fr to : List Int) (hk : 0 ≤ k ∧ k < 256) : Pure1 Try.prog 4 [.int .u8 (.sym k), .per (.sl eC) l, .agg [.per iC fr, .per iC to]] (.bool (.sym true)) := by
  refine pure1_of_exec (ct := cx0 [c11, c12, c16, c17, c15, c18, c19] [] []) [] Try.func4 rfl rfl ?_
  apply @cast_goal (((Decidable.decide ((20 : Int) < (↑(List.length fr) : Int)) || Decidable.decide ((20 : Int) < (↑(List.length to) : Int))) = Bool.true → Bool.true = Bool.true ∧ True) ∧ ((Decidable.decide ((20 : Int) < (↑(List.length fr) : Int)) || Decidable.decide ((20 : Int) < (↑(List.length to) : Int))) = Bool.false → Go.Proofs.Ytfacddeaobogjaa.N.isU8 k ∧ (((!Option.isNone (Go.Proofs.Ytfacddeaobogjaa.N.gDat (Go.Proofs.Ytfacddeaobogjaa.N.mkN k) (Go.Proofs.Ytfacddeaobogjaa.N.mkE (Go.Proofs.Ytfacddeaobogjaa.N.mkN k) l))) = Bool.true → Go.Proofs.Ytfacddeaobogjaa.N.ok42 (Go.Proofs.Ytfacddeaobogjaa.N.gDat (Go.Proofs.Ytfacddeaobogjaa.N.mkN k) (Go.Proofs.Ytfacddeaobogjaa.N.mkE (Go.Proofs.Ytfacddeaobogjaa.N.mkN k) l)) fr ∧ Go.Proofs.Ytfacddeaobogjaa.N.okW (Go.Proofs.Ytfacddeaobogjaa.N.mkN k) (Go.Proofs.Ytfacddeaobogjaa.N.putAll (Go.Proofs.Ytfacddeaobogjaa.N.mkE (Go.Proofs.Ytfacddeaobogjaa.N.mkN k) l)) fr ∧ List.length (Go.Proofs.Ytfacddeaobogjaa.N.idxL (List.length (Go.Proofs.Ytfacddeaobogjaa.N.rowsOf (Go.Proofs.Ytfacddeaobogjaa.N.gDat (Go.Proofs.Ytfacddeaobogjaa.N.mkN k) (Go.Proofs.Ytfacddeaobogjaa.N.mkE (Go.Proofs.Ytfacddeaobogjaa.N.mkN k) l)))) (Go.Proofs.Ytfacddeaobogjaa.N.at1 (Go.Proofs.Ytfacddeaobogjaa.N.marksG (Go.Proofs.Ytfacddeaobogjaa.N.gDat (Go.Proofs.Ytfacddeaobogjaa.N.mkN k) (Go.Proofs.Ytfacddeaobogjaa.N.mkE (Go.Proofs.Ytfacddeaobogjaa.N.mkN k) l)) fr))) ≤ (1000000000 : Nat) ∧ (Go.Proofs.Ytfacddeaobogjaa.N.eqL (Go.Proofs.Ytfacddeaobogjaa.N.idxL (List.length (Go.Proofs.Ytfacddeaobogjaa.N.rowsOf (Go.Proofs.Ytfacddeaobogjaa.N.gDat (Go.Proofs.Ytfacddeaobogjaa.N.mkN k) (Go.Proofs.Ytfacddeaobogjaa.N.mkE (Go.Proofs.Ytfacddeaobogjaa.N.mkN k) l)))) (Go.Proofs.Ytfacddeaobogjaa.N.at1 (Go.Proofs.Ytfacddeaobogjaa.N.marksG (Go.Proofs.Ytfacddeaobogjaa.N.gDat (Go.Proofs.Ytfacddeaobogjaa.N.mkN k) (Go.Proofs.Ytfacddeaobogjaa.N.mkE (Go.Proofs.Ytfacddeaobogjaa.N.mkN k) l)) fr))) (Go.Proofs.Ytfacddeaobogjaa.N.idxL (Int.toNat (Go.Proofs.Ytfacddeaobogjaa.N.mkN k)) (Go.Proofs.Ytfacddeaobogjaa.N.at1 (Go.Proofs.Ytfacddeaobogjaa.N.marksL (Go.Proofs.Ytfacddeaobogjaa.N.putAll (Go.Proofs.Ytfacddeaobogjaa.N.mkE (Go.Proofs.Ytfacddeaobogjaa.N.mkN k) l)) (Go.Proofs.Ytfacddeaobogjaa.N.mkN k) fr))) = Bool.true → Go.Proofs.Ytfacddeaobogjaa.N.ok18 (Go.Proofs.Ytfacddeaobogjaa.N.gDat (Go.Proofs.Ytfacddeaobogjaa.N.mkN k) (Go.Proofs.Ytfacddeaobogjaa.N.mkE (Go.Proofs.Ytfacddeaobogjaa.N.mkN k) l)) fr to ∧ Go.Proofs.Ytfacddeaobogjaa.N.ok19 (Go.Proofs.Ytfacddeaobogjaa.N.mkN k) (Go.Proofs.Ytfacddeaobogjaa.N.putAll (Go.Proofs.Ytfacddeaobogjaa.N.mkE (Go.Proofs.Ytfacddeaobogjaa.N.mkN k) l)) fr to ∧ List.length (Go.Proofs.Ytfacddeaobogjaa.N.idxL (List.length (Go.Proofs.Ytfacddeaobogjaa.N.rowsOf (Go.Proofs.Ytfacddeaobogjaa.N.gDat (Go.Proofs.Ytfacddeaobogjaa.N.mkN k) (Go.Proofs.Ytfacddeaobogjaa.N.mkE (Go.Proofs.Ytfacddeaobogjaa.N.mkN k) l)))) (Go.Proofs.Ytfacddeaobogjaa.N.at2 (Go.Proofs.Ytfacddeaobogjaa.N.marksG (Go.Proofs.Ytfacddeaobogjaa.N.gDat (Go.Proofs.Ytfacddeaobogjaa.N.mkN k) (Go.Proofs.Ytfacddeaobogjaa.N.mkE (Go.Proofs.Ytfacddeaobogjaa.N.mkN k) l)) fr) (Go.Proofs.Ytfacddeaobogjaa.N.marksG (Go.Proofs.Ytfacddeaobogjaa.N.revG (Go.Proofs.Ytfacddeaobogjaa.N.gDat (Go.Proofs.Ytfacddeaobogjaa.N.mkN k) (Go.Proofs.Ytfacddeaobogjaa.N.mkE (Go.Proofs.Ytfacddeaobogjaa.N.mkN k) l))) to))) ≤ (1000000000 : Nat) ∧ True) ∧ (Go.Proofs.Ytfacddeaobogjaa.N.eqL (Go.Proofs.Ytfacddeaobogjaa.N.idxL (List.length (Go.Proofs.Ytfacddeaobogjaa.N.rowsOf (Go.Proofs.Ytfacddeaobogjaa.N.gDat (Go.Proofs.Ytfacddeaobogjaa.N.mkN k) (Go.Proofs.Ytfacddeaobogjaa.N.mkE (Go.Proofs.Ytfacddeaobogjaa.N.mkN k) l)))) (Go.Proofs.Ytfacddeaobogjaa.N.at1 (Go.Proofs.Ytfacddeaobogjaa.N.marksG (Go.Proofs.Ytfacddeaobogjaa.N.gDat (Go.Proofs.Ytfacddeaobogjaa.N.mkN k) (Go.Proofs.Ytfacddeaobogjaa.N.mkE (Go.Proofs.Ytfacddeaobogjaa.N.mkN k) l)) fr))) (Go.Proofs.Ytfacddeaobogjaa.N.idxL (Int.toNat (Go.Proofs.Ytfacddeaobogjaa.N.mkN k)) (Go.Proofs.Ytfacddeaobogjaa.N.at1 (Go.Proofs.Ytfacddeaobogjaa.N.marksL (Go.Proofs.Ytfacddeaobogjaa.N.putAll (Go.Proofs.Ytfacddeaobogjaa.N.mkE (Go.Proofs.Ytfacddeaobogjaa.N.mkN k) l)) (Go.Proofs.Ytfacddeaobogjaa.N.mkN k) fr))) = Bool.false → True)) ∧ ((!Option.isNone (Go.Proofs.Ytfacddeaobogjaa.N.gDat (Go.Proofs.Ytfacddeaobogjaa.N.mkN k) (Go.Proofs.Ytfacddeaobogjaa.N.mkE (Go.Proofs.Ytfacddeaobogjaa.N.mkN k) l))) = Bool.false → True)) ∧ (!Option.isNone (Go.Proofs.Ytfacddeaobogjaa.N.gDat (Go.Proofs.Ytfacddeaobogjaa.N.mkN k) (Go.Proofs.Ytfacddeaobogjaa.N.mkE (Go.Proofs.Ytfacddeaobogjaa.N.mkN k) l)) && (Go.Proofs.Ytfacddeaobogjaa.N.eqL (Go.Proofs.Ytfacddeaobogjaa.N.idxL (List.length (Go.Proofs.Ytfacddeaobogjaa.N.rowsOf (Go.Proofs.Ytfacddeaobogjaa.N.gDat (Go.Proofs.Ytfacddeaobogjaa.N.mkN k) (Go.Proofs.Ytfacddeaobogjaa.N.mkE (Go.Proofs.Ytfacddeaobogjaa.N.mkN k) l)))) (Go.Proofs.Ytfacddeaobogjaa.N.at1 (Go.Proofs.Ytfacddeaobogjaa.N.marksG (Go.Proofs.Ytfacddeaobogjaa.N.gDat (Go.Proofs.Ytfacddeaobogjaa.N.mkN k) (Go.Proofs.Ytfacddeaobogjaa.N.mkE (Go.Proofs.Ytfacddeaobogjaa.N.mkN k) l)) fr))) (Go.Proofs.Ytfacddeaobogjaa.N.idxL (Int.toNat (Go.Proofs.Ytfacddeaobogjaa.N.mkN k)) (Go.Proofs.Ytfacddeaobogjaa.N.at1 (Go.Proofs.Ytfacddeaobogjaa.N.marksL (Go.Proofs.Ytfacddeaobogjaa.N.putAll (Go.Proofs.Ytfacddeaobogjaa.N.mkE (Go.Proofs.Ytfacddeaobogjaa.N.mkN k) l)) (Go.Proofs.Ytfacddeaobogjaa.N.mkN k) fr))) && Go.Proofs.Ytfacddeaobogjaa.N.eqL (Go.Proofs.Ytfacddeaobogjaa.N.idxL (List.length (Go.Proofs.Ytfacddeaobogjaa.N.rowsOf (Go.Proofs.Ytfacddeaobogjaa.N.gDat (Go.Proofs.Ytfacddeaobogjaa.N.mkN k) (Go.Proofs.Ytfacddeaobogjaa.N.mkE (Go.Proofs.Ytfacddeaobogjaa.N.mkN k) l)))) (Go.Proofs.Ytfacddeaobogjaa.N.at2 (Go.Proofs.Ytfacddeaobogjaa.N.marksG (Go.Proofs.Ytfacddeaobogjaa.N.gDat (Go.Proofs.Ytfacddeaobogjaa.N.mkN k) (Go.Proofs.Ytfacddeaobogjaa.N.mkE (Go.Proofs.Ytfacddeaobogjaa.N.mkN k) l)) fr) (Go.Proofs.Ytfacddeaobogjaa.N.marksG (Go.Proofs.Ytfacddeaobogjaa.N.revG (Go.Proofs.Ytfacddeaobogjaa.N.gDat (Go.Proofs.Ytfacddeaobogjaa.N.mkN k) (Go.Proofs.Ytfacddeaobogjaa.N.mkE (Go.Proofs.Ytfacddeaobogjaa.N.mkN k) l))) to))) (Go.Proofs.Ytfacddeaobogjaa.N.idxL (Int.toNat (Go.Proofs.Ytfacddeaobogjaa.N.mkN k)) (Go.Proofs.Ytfacddeaobogjaa.N.at2 (Go.Proofs.Ytfacddeaobogjaa.N.marksL (Go.Proofs.Ytfacddeaobogjaa.N.putAll (Go.Proofs.Ytfacddeaobogjaa.N.mkE (Go.Proofs.Ytfacddeaobogjaa.N.mkN k) l)) (Go.Proofs.Ytfacddeaobogjaa.N.mkN k) fr) (Go.Proofs.Ytfacddeaobogjaa.N.marksL (Go.Proofs.Ytfacddeaobogjaa.N.rE (Go.Proofs.Ytfacddeaobogjaa.N.mkN k) (List.map Go.Proofs.Ytfacddeaobogjaa.N.swp (Go.Proofs.Ytfacddeaobogjaa.N.putAll (Go.Proofs.Ytfacddeaobogjaa.N.mkE (Go.Proofs.Ytfacddeaobogjaa.N.mkN k) l)))) (Go.Proofs.Ytfacddeaobogjaa.N.rN (Go.Proofs.Ytfacddeaobogjaa.N.mkN k) (List.map Go.Proofs.Ytfacddeaobogjaa.N.swp (Go.Proofs.Ytfacddeaobogjaa.N.putAll (Go.Proofs.Ytfacddeaobogjaa.N.mkE (Go.Proofs.Ytfacddeaobogjaa.N.mkN k) l)))) to))))) = Bool.true ∧ True)) _ (by kernel_rfl)
  have hNN := mkN_le k hk
  have h0 := mk_err k l hk
  have hml : (mkE (mkN k) l).length ≤ 120 := by unfold mkE; rw [List.length_map, List.length_take]; omega
  generalize mkE (mkN k) l = es at h0 hml ⊢
  generalize mkN k = N at hNN h0 ⊢
  have e : gDat N es = some (gA N es, gB N es) := by unfold gDat; rw [if_pos h0]
  rw [e]
  have hW := putAll_le es
  refine ⟨fun _ => ⟨rfl, trivial⟩, fun h20 => ?_⟩
  rw [Bool.or_eq_false_iff, decide_eq_false_iff_not, decide_eq_false_iff_not] at h20
  have fs := swp_err h0
  have hrN : rN N (List.map swp (putAll es)) = N := by unfold rN; rw [if_pos fs]
  have hrE : rE N (List.map swp (putAll es)) = putAll (List.map swp (putAll es)) := by unfold rE; rw [if_pos fs]
  have vA := okV_gA h0
  have vB := okV_gB h0
  have hr1 : rowsOf (some (gA N es, gB N es)) = gA N es := rfl
  have hr2 : rowsOf (revG (some (gA N es, gB N es))) = gB N es := rfl
  have w1 : ∀ fr : List Int, fr.length ≤ 20 → okW N (putAll es) fr := fun fr hf => ⟨by omega, fun x hx => by
    have := (gErr_zero h0).2.2.2 x (((putAll_rise h0).2 x).1 hx); omega, by omega, by omega⟩
  have w2 : ∀ fr : List Int, fr.length ≤ 20 → okW (rN N (List.map swp (putAll es))) (rE N (List.map swp (putAll es))) fr := fun fr hf => by
    rw [hrN, hrE]
    refine ⟨by omega, fun x hx => ?_, ?_, by omega⟩
    · have := (gErr_zero fs).2.2.2 x (((putAll_rise fs).2 x).1 hx); omega
    · have := putAll_le (List.map swp (putAll es)); rw [List.length_map] at this; omega
  have o42 : ∀ fr : List Int, fr.length ≤ 20 → ok42 (some (gA N es, gB N es)) fr := fun fr hf => ⟨vA, by omega, _, _, rfl⟩
  have o42' : ∀ fr : List Int, fr.length ≤ 20 → ok42 (revG (some (gA N es, gB N es))) fr := fun fr hf => ⟨vB, by omega, _, _, rfl⟩
  have o18 : ok18 (some (gA N es, gB N es)) fr to := ⟨o42 fr (by omega), o42' to (by omega), by rw [hr1, hr2, gA_len, gB_len]⟩
  have o19 : ok19 N (putAll es) fr to := ⟨w1 fr (by omega), w2 to (by omega), hrN⟩
  have hcast : ((N.toNat : Nat) : Int) = N := by omega
  have m1 : marksG (some (gA N es, gB N es)) fr = marksL (putAll es) N fr := by
    unfold marksG
    rw [hr1, edges_eq h0, gA_len, hcast]
  have m2 : marksG (revG (some (gA N es, gB N es))) to = marksL (putAll (List.map swp (putAll es))) N to := by
    unfold marksG
    rw [hr2, rev_edges h0, gB_len, hcast]
  rw [m1, m2, hr1, gA_len, hrN, hrE]
  have i1 := idxL_len N.toNat (at1 (marksL (putAll es) N fr))
  have i2 := idxL_len N.toNat (at2 (marksL (putAll es) N fr) (marksL (putAll (List.map swp (putAll es))) N to))
  rw [eqL_true rfl, eqL_true rfl]
  exact ⟨hk, ⟨fun _ => ⟨o42 fr (by omega), w1 fr (by omega), by omega, fun _ => ⟨o18, o19, by omega, trivial⟩, fun _ => trivial⟩, fun _ => trivial⟩, rfl, trivial⟩
end Go.Proofs.Ytfacddeaobogjaa.N
