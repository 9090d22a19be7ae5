import Derived.Test.YtnoccknoaihjlaaF11
import Derived.Test.YtnoccknoaihjlaaC
set_option linter.unusedVariables false
set_option linter.unusedSimpArgs false
set_option linter.unnecessarySimpa false
set_option linter.unusedVariables false
set_option linter.unusedSimpArgs false
/- DecodeAll, the two of them. -/
namespace Go.Proofs.Ytnoccknoaihjlaa.N
open Go.DF
set_option maxRecDepth 100000

def chunk (l : List Int) (k : Nat) : Ins := (l.getD (4 * k) 0, l.getD (4 * k + 1) 0, l.getD (4 * k + 2) 0, l.getD (4 * k + 3) 0)
def outs (l : List Int) (k : Nat) : List Ins := (List.range k).map fun j => decI (chunk l j)
def badAt (l : List Int) : Option Nat := (List.range (l.length / 4)).find? fun k => decE (chunk l k) != 0
def daL (l : List Int) : List Ins := match badAt l with
  | some _ => []
  | none => if l.length % 4 = 0 then outs l (l.length / 4) else []
def daA (l : List Int) : Int := match badAt l with
  | some k => 4 * (k : Int)
  | none => if l.length % 4 = 0 then 0 else ((l.length / 4 * 4 : Nat) : Int)
def daE (l : List Int) : Int := match badAt l with
  | some k => decE (chunk l k)
  | none => if l.length % 4 = 0 then 0 else 28
def daV (l : List Int) : DV := .tup [.per (.sl iC) (daL l), .int .i64 (.sym (daA l)), .int .i64 (.sym (daE l))]

theorem outs_len (l : List Int) (k : Nat) : (outs l k).length = k := by simp [outs]
theorem outs_succ (l : List Int) (k : Nat) : outs l (k + 1) = outs l k ++ [decI (chunk l k)] := by simp [outs, List.range_succ]
theorem bad_some (l : List Int) (k : Nat) (h1 : 4 * k + 4 ≤ l.length) (h2 : ∀ j, j < k → decE (chunk l j) = 0) (h3 : decE (chunk l k) ≠ 0) : badAt l = some k := by
  unfold badAt
  rw [List.find?_range_eq_some]
  refine ⟨by simpa using h3, by simp; omega, fun j hj => ?_⟩
  simp [h2 j hj]
theorem bad_none (l : List Int) (k : Nat) (h1 : l.length < 4 * k + 4) (h2 : ∀ j, j < k → decE (chunk l j) = 0) : badAt l = none := by
  unfold badAt
  rw [List.find?_eq_none]
  intro j hj
  rw [List.mem_range] at hj
  simp [h2 j (by omega)]
/-- the four bytes from 4 a on -/
theorem part4 (l : List Int) (a : Nat) (h : 4 * a + 4 ≤ l.length) (i : Nat) (hi : i < 4) : List.getD (List.take (Int.toNat (4 * (a : Int) + 4) - Int.toNat (4 * (a : Int))) (List.drop (Int.toNat (4 * (a : Int))) l)) i (0 : Int) = l.getD (4 * a + i) 0 := by
  have e1 : Int.toNat (4 * (a : Int) + 4) = 4 * a + 4 := by omega
  have e2 : Int.toNat (4 * (a : Int)) = 4 * a := by omega
  rw [e1, e2, List.getD_eq_getElem?_getD, List.getD_eq_getElem?_getD, List.getElem?_take, if_pos (by omega), List.getElem?_drop]
theorem w8_at (l : List Int) (hl : ∀ x ∈ l, W8 x) (i : Nat) (h : i < l.length) : W8 (l.getD i 0) := by
  rw [List.getD_eq_getElem?_getD, List.getElem?_eq_getElem h]
  exact hl _ (List.getElem_mem h)

def inv28 (l : List Int) : LInv where
  α := Nat
  S := fun k => ⟨[(0, .per (.sl (.int .u8)) l), (5, .slice ⟨0, .lit 0, 4, 0⟩ (.sym k)), (6, .int .i64 (.sym (4 * (k : Int))))], [(0, (false, .arr 26 iC (outs l k)))], 1⟩
  p := fun k => 4 * k ≤ l.length ∧ ∀ j, j < k → decE (chunk l j) = 0
  m := fun k => l.length - 4 * k
theorem p28 (l : List Int) (hl : ∀ x ∈ l, W8 x) (hn : l.length ≤ 1000000) : Pure1 Try.prog 28 [.per (.sl (.int .u8)) l] (daV l) := by
  refine pure1_of_exec (ct := ⟨[c25], [], []⟩) [(3, inv28 l)] Try.func28 rfl rfl ?_
  refine cast_goal (p := (∃ (a : Nat), (l = l ∧ a = (0 : Nat) ∧ (0 : Int) = (4 : Int) * (↑a : Int) ∧ Go.Proofs.Ytnoccknoaihjlaa.N.outs l a = []) ∧ (4 : Nat) * a ≤ List.length l ∧ ∀ (j : Nat), j < a → Go.Proofs.Ytnoccknoaihjlaa.N.decE (Go.Proofs.Ytnoccknoaihjlaa.N.chunk l j) = (0 : Int)) ∧ ∀ (a : Nat), ((4 : Nat) * a ≤ List.length l ∧ ∀ (j : Nat), j < a → Go.Proofs.Ytnoccknoaihjlaa.N.decE (Go.Proofs.Ytnoccknoaihjlaa.N.chunk l j) = (0 : Int)) → Go.DF.okI64 ((4 : Int) * (↑a : Int) + (4 : Int)) ∧ (Decidable.decide ((4 : Int) * (↑a : Int) + (4 : Int) ≤ (↑(List.length l) : Int)) = Bool.true → Go.DF.okI64 ((4 : Int) * (↑a : Int) + (4 : Int)) ∧ ((0 : Int) ≤ (4 : Int) * (↑a : Int) ∧ (4 : Int) * (↑a : Int) ≤ (4 : Int) * (↑a : Int) + (4 : Int) ∧ (4 : Int) * (↑a : Int) + (4 : Int) ≤ (↑(List.length l) : Int)) ∧ (4 : Nat) ≤ List.length (List.take (Int.toNat ((4 : Int) * (↑a : Int) + (4 : Int)) - Int.toNat ((4 : Int) * (↑a : Int))) (List.drop (Int.toNat ((4 : Int) * (↑a : Int))) l)) ∧ Go.Proofs.Ytnoccknoaihjlaa.N.W8s (List.getD (List.take (Int.toNat ((4 : Int) * (↑a : Int) + (4 : Int)) - Int.toNat ((4 : Int) * (↑a : Int))) (List.drop (Int.toNat ((4 : Int) * (↑a : Int))) l)) (0 : Nat) (0 : Int), List.getD (List.take (Int.toNat ((4 : Int) * (↑a : Int) + (4 : Int)) - Int.toNat ((4 : Int) * (↑a : Int))) (List.drop (Int.toNat ((4 : Int) * (↑a : Int))) l)) (1 : Nat) (0 : Int), List.getD (List.take (Int.toNat ((4 : Int) * (↑a : Int) + (4 : Int)) - Int.toNat ((4 : Int) * (↑a : Int))) (List.drop (Int.toNat ((4 : Int) * (↑a : Int))) l)) (2 : Nat) (0 : Int), List.getD (List.take (Int.toNat ((4 : Int) * (↑a : Int) + (4 : Int)) - Int.toNat ((4 : Int) * (↑a : Int))) (List.drop (Int.toNat ((4 : Int) * (↑a : Int))) l)) (3 : Nat) (0 : Int)) ∧ ((Go.Proofs.Ytnoccknoaihjlaa.N.decE (List.getD (List.take (Int.toNat ((4 : Int) * (↑a : Int) + (4 : Int)) - Int.toNat ((4 : Int) * (↑a : Int))) (List.drop (Int.toNat ((4 : Int) * (↑a : Int))) l)) (0 : Nat) (0 : Int), List.getD (List.take (Int.toNat ((4 : Int) * (↑a : Int) + (4 : Int)) - Int.toNat ((4 : Int) * (↑a : Int))) (List.drop (Int.toNat ((4 : Int) * (↑a : Int))) l)) (1 : Nat) (0 : Int), List.getD (List.take (Int.toNat ((4 : Int) * (↑a : Int) + (4 : Int)) - Int.toNat ((4 : Int) * (↑a : Int))) (List.drop (Int.toNat ((4 : Int) * (↑a : Int))) l)) (2 : Nat) (0 : Int), List.getD (List.take (Int.toNat ((4 : Int) * (↑a : Int) + (4 : Int)) - Int.toNat ((4 : Int) * (↑a : Int))) (List.drop (Int.toNat ((4 : Int) * (↑a : Int))) l)) (3 : Nat) (0 : Int)) != (0 : Int)) = Bool.true → ([] = Go.Proofs.Ytnoccknoaihjlaa.N.daL l ∧ (4 : Int) * (↑a : Int) = Go.Proofs.Ytnoccknoaihjlaa.N.daA l ∧ Go.Proofs.Ytnoccknoaihjlaa.N.decE (List.getD (List.take (Int.toNat ((4 : Int) * (↑a : Int) + (4 : Int)) - Int.toNat ((4 : Int) * (↑a : Int))) (List.drop (Int.toNat ((4 : Int) * (↑a : Int))) l)) (0 : Nat) (0 : Int), List.getD (List.take (Int.toNat ((4 : Int) * (↑a : Int) + (4 : Int)) - Int.toNat ((4 : Int) * (↑a : Int))) (List.drop (Int.toNat ((4 : Int) * (↑a : Int))) l)) (1 : Nat) (0 : Int), List.getD (List.take (Int.toNat ((4 : Int) * (↑a : Int) + (4 : Int)) - Int.toNat ((4 : Int) * (↑a : Int))) (List.drop (Int.toNat ((4 : Int) * (↑a : Int))) l)) (2 : Nat) (0 : Int), List.getD (List.take (Int.toNat ((4 : Int) * (↑a : Int) + (4 : Int)) - Int.toNat ((4 : Int) * (↑a : Int))) (List.drop (Int.toNat ((4 : Int) * (↑a : Int))) l)) (3 : Nat) (0 : Int)) = Go.Proofs.Ytnoccknoaihjlaa.N.daE l) ∧ True) ∧ ((Go.Proofs.Ytnoccknoaihjlaa.N.decE (List.getD (List.take (Int.toNat ((4 : Int) * (↑a : Int) + (4 : Int)) - Int.toNat ((4 : Int) * (↑a : Int))) (List.drop (Int.toNat ((4 : Int) * (↑a : Int))) l)) (0 : Nat) (0 : Int), List.getD (List.take (Int.toNat ((4 : Int) * (↑a : Int) + (4 : Int)) - Int.toNat ((4 : Int) * (↑a : Int))) (List.drop (Int.toNat ((4 : Int) * (↑a : Int))) l)) (1 : Nat) (0 : Int), List.getD (List.take (Int.toNat ((4 : Int) * (↑a : Int) + (4 : Int)) - Int.toNat ((4 : Int) * (↑a : Int))) (List.drop (Int.toNat ((4 : Int) * (↑a : Int))) l)) (2 : Nat) (0 : Int), List.getD (List.take (Int.toNat ((4 : Int) * (↑a : Int) + (4 : Int)) - Int.toNat ((4 : Int) * (↑a : Int))) (List.drop (Int.toNat ((4 : Int) * (↑a : Int))) l)) (3 : Nat) (0 : Int)) != (0 : Int)) = Bool.false → (0 : Nat) + a ≤ List.length (Go.Proofs.Ytnoccknoaihjlaa.N.outs l a) ∧ ((a + List.length [Go.Proofs.Ytnoccknoaihjlaa.N.decI (List.getD (List.take (Int.toNat ((4 : Int) * (↑a : Int) + (4 : Int)) - Int.toNat ((4 : Int) * (↑a : Int))) (List.drop (Int.toNat ((4 : Int) * (↑a : Int))) l)) (0 : Nat) (0 : Int), List.getD (List.take (Int.toNat ((4 : Int) * (↑a : Int) + (4 : Int)) - Int.toNat ((4 : Int) * (↑a : Int))) (List.drop (Int.toNat ((4 : Int) * (↑a : Int))) l)) (1 : Nat) (0 : Int), List.getD (List.take (Int.toNat ((4 : Int) * (↑a : Int) + (4 : Int)) - Int.toNat ((4 : Int) * (↑a : Int))) (List.drop (Int.toNat ((4 : Int) * (↑a : Int))) l)) (2 : Nat) (0 : Int), List.getD (List.take (Int.toNat ((4 : Int) * (↑a : Int) + (4 : Int)) - Int.toNat ((4 : Int) * (↑a : Int))) (List.drop (Int.toNat ((4 : Int) * (↑a : Int))) l)) (3 : Nat) (0 : Int))]) * (32 : Nat) ≤ (140737488355328 : Nat) ∧ a + List.length [Go.Proofs.Ytnoccknoaihjlaa.N.decI (List.getD (List.take (Int.toNat ((4 : Int) * (↑a : Int) + (4 : Int)) - Int.toNat ((4 : Int) * (↑a : Int))) (List.drop (Int.toNat ((4 : Int) * (↑a : Int))) l)) (0 : Nat) (0 : Int), List.getD (List.take (Int.toNat ((4 : Int) * (↑a : Int) + (4 : Int)) - Int.toNat ((4 : Int) * (↑a : Int))) (List.drop (Int.toNat ((4 : Int) * (↑a : Int))) l)) (1 : Nat) (0 : Int), List.getD (List.take (Int.toNat ((4 : Int) * (↑a : Int) + (4 : Int)) - Int.toNat ((4 : Int) * (↑a : Int))) (List.drop (Int.toNat ((4 : Int) * (↑a : Int))) l)) (2 : Nat) (0 : Int), List.getD (List.take (Int.toNat ((4 : Int) * (↑a : Int) + (4 : Int)) - Int.toNat ((4 : Int) * (↑a : Int))) (List.drop (Int.toNat ((4 : Int) * (↑a : Int))) l)) (3 : Nat) (0 : Int))] ≤ Go.maxLen) ∧ Go.DF.okI64 ((4 : Int) * (↑a : Int) + (4 : Int)) ∧ ∃ (a' : Nat), (l = l ∧ a + (1 : Nat) = a' ∧ (4 : Int) * (↑a : Int) + (4 : Int) = (4 : Int) * (↑a' : Int) ∧ List.take a (Go.Proofs.Ytnoccknoaihjlaa.N.outs l a) ++ [Go.Proofs.Ytnoccknoaihjlaa.N.decI (List.getD (List.take (Int.toNat ((4 : Int) * (↑a : Int) + (4 : Int)) - Int.toNat ((4 : Int) * (↑a : Int))) (List.drop (Int.toNat ((4 : Int) * (↑a : Int))) l)) (0 : Nat) (0 : Int), List.getD (List.take (Int.toNat ((4 : Int) * (↑a : Int) + (4 : Int)) - Int.toNat ((4 : Int) * (↑a : Int))) (List.drop (Int.toNat ((4 : Int) * (↑a : Int))) l)) (1 : Nat) (0 : Int), List.getD (List.take (Int.toNat ((4 : Int) * (↑a : Int) + (4 : Int)) - Int.toNat ((4 : Int) * (↑a : Int))) (List.drop (Int.toNat ((4 : Int) * (↑a : Int))) l)) (2 : Nat) (0 : Int), List.getD (List.take (Int.toNat ((4 : Int) * (↑a : Int) + (4 : Int)) - Int.toNat ((4 : Int) * (↑a : Int))) (List.drop (Int.toNat ((4 : Int) * (↑a : Int))) l)) (3 : Nat) (0 : Int))] = Go.Proofs.Ytnoccknoaihjlaa.N.outs l a') ∧ ((4 : Nat) * a' ≤ List.length l ∧ ∀ (j : Nat), j < a' → Go.Proofs.Ytnoccknoaihjlaa.N.decE (Go.Proofs.Ytnoccknoaihjlaa.N.chunk l j) = (0 : Int)) ∧ List.length l - (4 : Nat) * a' < List.length l - (4 : Nat) * a)) ∧ (Decidable.decide ((4 : Int) * (↑a : Int) + (4 : Int) ≤ (↑(List.length l) : Int)) = Bool.false → (Decidable.decide ((0 : Int) < Int.tmod (↑(List.length l) : Int) (4 : Int)) = Bool.true → Go.DF.okI64 ((↑(List.length l) : Int) - Int.tmod (↑(List.length l) : Int) (4 : Int)) ∧ ([] = Go.Proofs.Ytnoccknoaihjlaa.N.daL l ∧ (↑(List.length l) : Int) - Int.tmod (↑(List.length l) : Int) (4 : Int) = Go.Proofs.Ytnoccknoaihjlaa.N.daA l ∧ (28 : Int) = Go.Proofs.Ytnoccknoaihjlaa.N.daE l) ∧ True) ∧ (Decidable.decide ((0 : Int) < Int.tmod (↑(List.length l) : Int) (4 : Int)) = Bool.false → ((0 : Nat) + a ≤ List.length (Go.Proofs.Ytnoccknoaihjlaa.N.outs l a) ∧ List.take a (Go.Proofs.Ytnoccknoaihjlaa.N.outs l a) = Go.Proofs.Ytnoccknoaihjlaa.N.daL l ∧ (0 : Int) = Go.Proofs.Ytnoccknoaihjlaa.N.daA l ∧ (0 : Int) = Go.Proofs.Ytnoccknoaihjlaa.N.daE l) ∧ True))) (by kernel_rfl) ?_
  refine ⟨⟨0, ⟨rfl, rfl, rfl, rfl⟩, Nat.zero_le _, fun j hj => absurd hj (Nat.not_lt_zero j)⟩, fun a ⟨h1, h2⟩ => ⟨by unfold okI64; omega, fun hle => ?_, fun hgt => ?_⟩⟩
  · have hle : 4 * a + 4 ≤ l.length := by have := of_decide_eq_true hle; omega
    have e0 := part4 l a hle 0 (by omega)
    have e1 := part4 l a hle 1 (by omega)
    have e2 := part4 l a hle 2 (by omega)
    have e3 := part4 l a hle 3 (by omega)
    simp only [e0, e1, e2, e3, Nat.add_zero]
    have hch : (l.getD (4 * a) 0, l.getD (4 * a + 1) 0, l.getD (4 * a + 2) 0, l.getD (4 * a + 3) 0) = chunk l a := rfl
    simp only [hch, List.length_take, List.length_drop, outs_len, List.length_singleton]
    refine ⟨by unfold okI64; omega, ⟨by omega, by omega, by omega⟩, by omega, ⟨w8_at l hl _ (by omega), w8_at l hl _ (by omega), w8_at l hl _ (by omega), w8_at l hl _ (by omega)⟩, fun hb => ?_, fun hb => ?_⟩
    · have hb : decE (chunk l a) ≠ 0 := by simpa using hb
      have hs := bad_some l a hle h2 hb
      exact ⟨⟨by simp [daL, hs], by simp [daA, hs], by simp [daE, hs]⟩, trivial⟩
    · have hb : decE (chunk l a) = 0 := by simpa using hb
      refine ⟨by omega, ⟨by omega, by unfold maxLen; omega⟩, by unfold okI64; omega, a + 1, ⟨trivial, rfl, by omega, ?_⟩, ⟨by omega, fun j hj => ?_⟩, by omega⟩
      · rw [outs_succ, List.take_of_length_le (by rw [outs_len]; exact Nat.le_refl _)]
      · rcases Nat.lt_or_ge j a with h | h
        · exact h2 j h
        · have : j = a := by omega
          rw [this]; exact hb
  · have hgt : l.length < 4 * a + 4 := by have := of_decide_eq_false hgt; omega
    have hs := bad_none l a hgt h2
    have ht : Int.tmod (l.length : Int) 4 = ((l.length % 4 : Nat) : Int) := by
      rw [Int.tmod_eq_emod_of_nonneg (by omega)]; omega
    rw [ht]
    refine ⟨fun h => ?_, fun h => ?_⟩
    · have h : l.length % 4 ≠ 0 := by have := of_decide_eq_true h; omega
      exact ⟨by unfold okI64; omega, ⟨by simp [daL, hs, h], by simp [daA, hs, h]; omega, by simp [daE, hs, h]⟩, trivial⟩
    · have h : l.length % 4 = 0 := by have := of_decide_eq_false h; omega
      have ha : a = l.length / 4 := by omega
      refine ⟨⟨by rw [outs_len]; omega, ?_, by simp [daA, hs, h], by simp [daE, hs, h]⟩, trivial⟩
      rw [List.take_of_length_le (by rw [outs_len]; exact Nat.le_refl _), ha]
      simp [daL, hs, h]
def inv29 (l : List Int) : LInv where
  α := Nat
  S := fun k => ⟨[(0, .per (.sl (.int .u8)) l), (5, .slice ⟨0, .lit 0, 4, 0⟩ (.sym k)), (6, .int .i64 (.sym (4 * (k : Int))))], [(0, (false, .arr 23 iC (outs l k)))], 1⟩
  p := fun k => 4 * k ≤ l.length ∧ ∀ j, j < k → decE (chunk l j) = 0
  m := fun k => l.length - 4 * k
theorem p29 (l : List Int) (hl : ∀ x ∈ l, W8 x) (hn : l.length ≤ 1000000) : Pure1 Try.prog 29 [.per (.sl (.int .u8)) l] (daV l) := by
  refine pure1_of_exec (ct := ⟨[c27], [], []⟩) [(3, inv29 l)] Try.func29 rfl rfl ?_
  refine cast_goal (p := (∃ (a : Nat), (l = l ∧ a = (0 : Nat) ∧ (0 : Int) = (4 : Int) * (↑a : Int) ∧ Go.Proofs.Ytnoccknoaihjlaa.N.outs l a = []) ∧ (4 : Nat) * a ≤ List.length l ∧ ∀ (j : Nat), j < a → Go.Proofs.Ytnoccknoaihjlaa.N.decE (Go.Proofs.Ytnoccknoaihjlaa.N.chunk l j) = (0 : Int)) ∧ ∀ (a : Nat), ((4 : Nat) * a ≤ List.length l ∧ ∀ (j : Nat), j < a → Go.Proofs.Ytnoccknoaihjlaa.N.decE (Go.Proofs.Ytnoccknoaihjlaa.N.chunk l j) = (0 : Int)) → Go.DF.okI64 ((4 : Int) * (↑a : Int) + (4 : Int)) ∧ (Decidable.decide ((4 : Int) * (↑a : Int) + (4 : Int) ≤ (↑(List.length l) : Int)) = Bool.true → ((0 : Int) ≤ (4 : Int) * (↑a : Int) ∧ (4 : Int) * (↑a : Int) < (↑(List.length l) : Int)) ∧ Go.DF.okI64 ((4 : Int) * (↑a : Int) + (1 : Int)) ∧ ((0 : Int) ≤ (4 : Int) * (↑a : Int) + (1 : Int) ∧ (4 : Int) * (↑a : Int) + (1 : Int) < (↑(List.length l) : Int)) ∧ Go.DF.okI64 ((4 : Int) * (↑a : Int) + (2 : Int)) ∧ ((0 : Int) ≤ (4 : Int) * (↑a : Int) + (2 : Int) ∧ (4 : Int) * (↑a : Int) + (2 : Int) < (↑(List.length l) : Int)) ∧ Go.DF.okI64 ((4 : Int) * (↑a : Int) + (3 : Int)) ∧ ((0 : Int) ≤ (4 : Int) * (↑a : Int) + (3 : Int) ∧ (4 : Int) * (↑a : Int) + (3 : Int) < (↑(List.length l) : Int)) ∧ Go.Proofs.Ytnoccknoaihjlaa.N.W8s (List.getD l (Int.toNat ((4 : Int) * (↑a : Int))) (0 : Int), List.getD l (Int.toNat ((4 : Int) * (↑a : Int) + (1 : Int))) (0 : Int), List.getD l (Int.toNat ((4 : Int) * (↑a : Int) + (2 : Int))) (0 : Int), List.getD l (Int.toNat ((4 : Int) * (↑a : Int) + (3 : Int))) (0 : Int)) ∧ ((Go.Proofs.Ytnoccknoaihjlaa.N.decE (List.getD l (Int.toNat ((4 : Int) * (↑a : Int))) (0 : Int), List.getD l (Int.toNat ((4 : Int) * (↑a : Int) + (1 : Int))) (0 : Int), List.getD l (Int.toNat ((4 : Int) * (↑a : Int) + (2 : Int))) (0 : Int), List.getD l (Int.toNat ((4 : Int) * (↑a : Int) + (3 : Int))) (0 : Int)) != (0 : Int)) = Bool.true → ([] = Go.Proofs.Ytnoccknoaihjlaa.N.daL l ∧ (4 : Int) * (↑a : Int) = Go.Proofs.Ytnoccknoaihjlaa.N.daA l ∧ Go.Proofs.Ytnoccknoaihjlaa.N.decE (List.getD l (Int.toNat ((4 : Int) * (↑a : Int))) (0 : Int), List.getD l (Int.toNat ((4 : Int) * (↑a : Int) + (1 : Int))) (0 : Int), List.getD l (Int.toNat ((4 : Int) * (↑a : Int) + (2 : Int))) (0 : Int), List.getD l (Int.toNat ((4 : Int) * (↑a : Int) + (3 : Int))) (0 : Int)) = Go.Proofs.Ytnoccknoaihjlaa.N.daE l) ∧ True) ∧ ((Go.Proofs.Ytnoccknoaihjlaa.N.decE (List.getD l (Int.toNat ((4 : Int) * (↑a : Int))) (0 : Int), List.getD l (Int.toNat ((4 : Int) * (↑a : Int) + (1 : Int))) (0 : Int), List.getD l (Int.toNat ((4 : Int) * (↑a : Int) + (2 : Int))) (0 : Int), List.getD l (Int.toNat ((4 : Int) * (↑a : Int) + (3 : Int))) (0 : Int)) != (0 : Int)) = Bool.false → (0 : Nat) + a ≤ List.length (Go.Proofs.Ytnoccknoaihjlaa.N.outs l a) ∧ ((a + List.length [Go.Proofs.Ytnoccknoaihjlaa.N.decI (List.getD l (Int.toNat ((4 : Int) * (↑a : Int))) (0 : Int), List.getD l (Int.toNat ((4 : Int) * (↑a : Int) + (1 : Int))) (0 : Int), List.getD l (Int.toNat ((4 : Int) * (↑a : Int) + (2 : Int))) (0 : Int), List.getD l (Int.toNat ((4 : Int) * (↑a : Int) + (3 : Int))) (0 : Int))]) * (32 : Nat) ≤ (140737488355328 : Nat) ∧ a + List.length [Go.Proofs.Ytnoccknoaihjlaa.N.decI (List.getD l (Int.toNat ((4 : Int) * (↑a : Int))) (0 : Int), List.getD l (Int.toNat ((4 : Int) * (↑a : Int) + (1 : Int))) (0 : Int), List.getD l (Int.toNat ((4 : Int) * (↑a : Int) + (2 : Int))) (0 : Int), List.getD l (Int.toNat ((4 : Int) * (↑a : Int) + (3 : Int))) (0 : Int))] ≤ Go.maxLen) ∧ Go.DF.okI64 ((4 : Int) * (↑a : Int) + (4 : Int)) ∧ ∃ (a' : Nat), (l = l ∧ a + (1 : Nat) = a' ∧ (4 : Int) * (↑a : Int) + (4 : Int) = (4 : Int) * (↑a' : Int) ∧ List.take a (Go.Proofs.Ytnoccknoaihjlaa.N.outs l a) ++ [Go.Proofs.Ytnoccknoaihjlaa.N.decI (List.getD l (Int.toNat ((4 : Int) * (↑a : Int))) (0 : Int), List.getD l (Int.toNat ((4 : Int) * (↑a : Int) + (1 : Int))) (0 : Int), List.getD l (Int.toNat ((4 : Int) * (↑a : Int) + (2 : Int))) (0 : Int), List.getD l (Int.toNat ((4 : Int) * (↑a : Int) + (3 : Int))) (0 : Int))] = Go.Proofs.Ytnoccknoaihjlaa.N.outs l a') ∧ ((4 : Nat) * a' ≤ List.length l ∧ ∀ (j : Nat), j < a' → Go.Proofs.Ytnoccknoaihjlaa.N.decE (Go.Proofs.Ytnoccknoaihjlaa.N.chunk l j) = (0 : Int)) ∧ List.length l - (4 : Nat) * a' < List.length l - (4 : Nat) * a)) ∧ (Decidable.decide ((4 : Int) * (↑a : Int) + (4 : Int) ≤ (↑(List.length l) : Int)) = Bool.false → ((Int.tmod (↑(List.length l) : Int) (4 : Int) != (0 : Int)) = Bool.true → Go.DF.okI64 (Int.tdiv (↑(List.length l) : Int) (4 : Int)) ∧ Go.DF.okI64 (Int.tdiv (↑(List.length l) : Int) (4 : Int) * (4 : Int)) ∧ ([] = Go.Proofs.Ytnoccknoaihjlaa.N.daL l ∧ Int.tdiv (↑(List.length l) : Int) (4 : Int) * (4 : Int) = Go.Proofs.Ytnoccknoaihjlaa.N.daA l ∧ (28 : Int) = Go.Proofs.Ytnoccknoaihjlaa.N.daE l) ∧ True) ∧ ((Int.tmod (↑(List.length l) : Int) (4 : Int) != (0 : Int)) = Bool.false → ((0 : Nat) + a ≤ List.length (Go.Proofs.Ytnoccknoaihjlaa.N.outs l a) ∧ List.take a (Go.Proofs.Ytnoccknoaihjlaa.N.outs l a) = Go.Proofs.Ytnoccknoaihjlaa.N.daL l ∧ (0 : Int) = Go.Proofs.Ytnoccknoaihjlaa.N.daA l ∧ (0 : Int) = Go.Proofs.Ytnoccknoaihjlaa.N.daE l) ∧ True))) (by kernel_rfl) ?_
  refine ⟨⟨0, ⟨rfl, rfl, rfl, rfl⟩, Nat.zero_le _, fun j hj => absurd hj (Nat.not_lt_zero j)⟩, fun a ⟨h1, h2⟩ => ⟨by unfold okI64; omega, fun hle => ?_, fun hgt => ?_⟩⟩
  · have hle : 4 * a + 4 ≤ l.length := by have := of_decide_eq_true hle; omega
    have e0 : Int.toNat (4 * (a : Int)) = 4 * a := by omega
    have e1 : Int.toNat (4 * (a : Int) + 1) = 4 * a + 1 := by omega
    have e2 : Int.toNat (4 * (a : Int) + 2) = 4 * a + 2 := by omega
    have e3 : Int.toNat (4 * (a : Int) + 3) = 4 * a + 3 := by omega
    simp only [e0, e1, e2, e3]
    have hch : (l.getD (4 * a) 0, l.getD (4 * a + 1) 0, l.getD (4 * a + 2) 0, l.getD (4 * a + 3) 0) = chunk l a := rfl
    simp only [hch, outs_len, List.length_singleton]
    refine ⟨⟨by omega, by omega⟩, by unfold okI64; omega, ⟨by omega, by omega⟩, by unfold okI64; omega, ⟨by omega, by omega⟩, by unfold okI64; omega, ⟨by omega, by omega⟩, ⟨w8_at l hl _ (by omega), w8_at l hl _ (by omega), w8_at l hl _ (by omega), w8_at l hl _ (by omega)⟩, fun hb => ?_, fun hb => ?_⟩
    · have hb : decE (chunk l a) ≠ 0 := by simpa using hb
      have hs := bad_some l a hle h2 hb
      exact ⟨⟨by simp [daL, hs], by simp [daA, hs], by simp [daE, hs]⟩, trivial⟩
    · have hb : decE (chunk l a) = 0 := by simpa using hb
      refine ⟨by omega, ⟨by omega, by unfold maxLen; omega⟩, by unfold okI64; omega, a + 1, ⟨trivial, rfl, by omega, ?_⟩, ⟨by omega, fun j hj => ?_⟩, by omega⟩
      · rw [outs_succ, List.take_of_length_le (by rw [outs_len]; exact Nat.le_refl _)]
      · rcases Nat.lt_or_ge j a with h | h
        · exact h2 j h
        · have : j = a := by omega
          rw [this]; exact hb
  · have hgt : l.length < 4 * a + 4 := by have := of_decide_eq_false hgt; omega
    have hs := bad_none l a hgt h2
    have ht : Int.tmod (l.length : Int) 4 = ((l.length % 4 : Nat) : Int) := by
      rw [Int.tmod_eq_emod_of_nonneg (by omega)]; omega
    have hq : Int.tdiv (l.length : Int) 4 = ((l.length / 4 : Nat) : Int) := by
      rw [Int.tdiv_eq_ediv_of_nonneg (by omega)]; omega
    rw [ht, hq]
    refine ⟨fun h => ?_, fun h => ?_⟩
    · have h : l.length % 4 ≠ 0 := by have := bne_iff_ne.1 h; omega
      exact ⟨by unfold okI64; omega, by unfold okI64; omega, ⟨by simp [daL, hs, h], by simp [daA, hs, h], by simp [daE, hs, h]⟩, trivial⟩
    · have h : l.length % 4 = 0 := by have := bne_eq_false_iff_eq.1 h; omega
      have ha : a = l.length / 4 := by omega
      refine ⟨⟨by rw [outs_len]; omega, ?_, by simp [daA, hs, h], by simp [daE, hs, h]⟩, trivial⟩
      rw [List.take_of_length_le (by rw [outs_len]; exact Nat.le_refl _), ha]
      simp [daL, hs, h]
def okB (l : List Int) : Prop := (∀ x ∈ l, W8 x) ∧ l.length ≤ 1000000
def c28 : PureC Try.prog where
  f := 28
  sig := [.dat false (.sl (.int .u8))]
  per := true
  spec := fun x => .ob (okB x.1) (.leaf (daV x.1))
  body := hasBody_of Try.func28 (by kernel_rfl) (by kernel_rfl)
  ok := fun x d h => by obtain ⟨⟨h1, h2⟩, h⟩ := h; obtain rfl : d = _ := h; exact p28 x.1 h1 h2
def c29 : PureC Try.prog where
  f := 29
  sig := [.dat false (.sl (.int .u8))]
  per := true
  spec := fun x => .ob (okB x.1) (.leaf (daV x.1))
  body := hasBody_of Try.func29 (by kernel_rfl) (by kernel_rfl)
  ok := fun x d h => by obtain ⟨⟨h1, h2⟩, h⟩ := h; obtain rfl : d = _ := h; exact p29 x.1 h1 h2
def inv9 (l : List Int) : LInv where
  α := Nat
  S := fun k => ⟨[(4, .per (.sl iC) (daL l)), (7, .per (.sl iC) (daL l)), (10, .int .i64 (.sym k))], [], 0⟩
  p := fun k => k ≤ (daL l).length
  m := fun k => (daL l).length - k
theorem daL_len (l : List Int) : (daL l).length ≤ l.length := by
  unfold daL
  split
  · simp
  · split
    · rw [outs_len]; omega
    · simp
theorem p9 (l : List Int) (hl : ∀ x ∈ l, W8 x) : Pure1 Try.prog 9 [.per (.sl (.int .u8)) l] (.bool (.sym true)) := by
  refine pure1_of_exec (ct := ⟨[c13, c26, c28, c29], [], []⟩) [(9, inv9 l)] Try.func9 rfl rfl ?_
  refine cast_goal (p := (Decidable.decide ((200 : Int) < (↑(List.length l) : Int)) = Bool.true → Bool.true = Bool.true ∧ True) ∧ (Decidable.decide ((200 : Int) < (↑(List.length l) : Int)) = Bool.false → Go.Proofs.Ytnoccknoaihjlaa.N.okB l ∧ Go.Proofs.Ytnoccknoaihjlaa.N.okB l ∧ (((↑(List.length (Go.Proofs.Ytnoccknoaihjlaa.N.daL l)) : Int) != (↑(List.length (Go.Proofs.Ytnoccknoaihjlaa.N.daL l)) : Int) || (Go.Proofs.Ytnoccknoaihjlaa.N.daA l != Go.Proofs.Ytnoccknoaihjlaa.N.daA l || (Go.Proofs.Ytnoccknoaihjlaa.N.daE l != Go.Proofs.Ytnoccknoaihjlaa.N.daE l || !ByteArray.toList (Go.DF.bytesS l) == ByteArray.toList (Go.DF.bytesS l)))) = Bool.true → Bool.false = Bool.true ∧ True) ∧ (((↑(List.length (Go.Proofs.Ytnoccknoaihjlaa.N.daL l)) : Int) != (↑(List.length (Go.Proofs.Ytnoccknoaihjlaa.N.daL l)) : Int) || (Go.Proofs.Ytnoccknoaihjlaa.N.daA l != Go.Proofs.Ytnoccknoaihjlaa.N.daA l || (Go.Proofs.Ytnoccknoaihjlaa.N.daE l != Go.Proofs.Ytnoccknoaihjlaa.N.daE l || !ByteArray.toList (Go.DF.bytesS l) == ByteArray.toList (Go.DF.bytesS l)))) = Bool.false → (∃ (a : Nat), (Go.Proofs.Ytnoccknoaihjlaa.N.daL l = Go.Proofs.Ytnoccknoaihjlaa.N.daL l ∧ Go.Proofs.Ytnoccknoaihjlaa.N.daL l = Go.Proofs.Ytnoccknoaihjlaa.N.daL l ∧ (0 : Int) = (↑a : Int)) ∧ a ≤ List.length (Go.Proofs.Ytnoccknoaihjlaa.N.daL l)) ∧ ∀ (a : Nat), a ≤ List.length (Go.Proofs.Ytnoccknoaihjlaa.N.daL l) → (Decidable.decide ((↑a : Int) < (↑(List.length (Go.Proofs.Ytnoccknoaihjlaa.N.daL l)) : Int)) = Bool.true → ((0 : Int) ≤ (↑a : Int) ∧ (↑a : Int) < (↑(List.length (Go.Proofs.Ytnoccknoaihjlaa.N.daL l)) : Int)) ∧ ((0 : Int) ≤ (↑a : Int) ∧ (↑a : Int) < (↑(List.length (Go.Proofs.Ytnoccknoaihjlaa.N.daL l)) : Int)) ∧ ((!(Prod.fst (List.getD (Go.Proofs.Ytnoccknoaihjlaa.N.daL l) (Int.toNat (↑a : Int)) ((0 : Int), (0 : Int), (0 : Int), (0 : Int))) == Prod.fst (List.getD (Go.Proofs.Ytnoccknoaihjlaa.N.daL l) (Int.toNat (↑a : Int)) ((0 : Int), (0 : Int), (0 : Int), (0 : Int))) && (Prod.fst (Prod.snd (List.getD (Go.Proofs.Ytnoccknoaihjlaa.N.daL l) (Int.toNat (↑a : Int)) ((0 : Int), (0 : Int), (0 : Int), (0 : Int)))) == Prod.fst (Prod.snd (List.getD (Go.Proofs.Ytnoccknoaihjlaa.N.daL l) (Int.toNat (↑a : Int)) ((0 : Int), (0 : Int), (0 : Int), (0 : Int)))) && (Prod.fst (Prod.snd (Prod.snd (List.getD (Go.Proofs.Ytnoccknoaihjlaa.N.daL l) (Int.toNat (↑a : Int)) ((0 : Int), (0 : Int), (0 : Int), (0 : Int))))) == Prod.fst (Prod.snd (Prod.snd (List.getD (Go.Proofs.Ytnoccknoaihjlaa.N.daL l) (Int.toNat (↑a : Int)) ((0 : Int), (0 : Int), (0 : Int), (0 : Int))))) && Prod.snd (Prod.snd (Prod.snd (List.getD (Go.Proofs.Ytnoccknoaihjlaa.N.daL l) (Int.toNat (↑a : Int)) ((0 : Int), (0 : Int), (0 : Int), (0 : Int))))) == Prod.snd (Prod.snd (Prod.snd (List.getD (Go.Proofs.Ytnoccknoaihjlaa.N.daL l) (Int.toNat (↑a : Int)) ((0 : Int), (0 : Int), (0 : Int), (0 : Int))))))))) = Bool.true → Bool.false = Bool.true ∧ True) ∧ ((!(Prod.fst (List.getD (Go.Proofs.Ytnoccknoaihjlaa.N.daL l) (Int.toNat (↑a : Int)) ((0 : Int), (0 : Int), (0 : Int), (0 : Int))) == Prod.fst (List.getD (Go.Proofs.Ytnoccknoaihjlaa.N.daL l) (Int.toNat (↑a : Int)) ((0 : Int), (0 : Int), (0 : Int), (0 : Int))) && (Prod.fst (Prod.snd (List.getD (Go.Proofs.Ytnoccknoaihjlaa.N.daL l) (Int.toNat (↑a : Int)) ((0 : Int), (0 : Int), (0 : Int), (0 : Int)))) == Prod.fst (Prod.snd (List.getD (Go.Proofs.Ytnoccknoaihjlaa.N.daL l) (Int.toNat (↑a : Int)) ((0 : Int), (0 : Int), (0 : Int), (0 : Int)))) && (Prod.fst (Prod.snd (Prod.snd (List.getD (Go.Proofs.Ytnoccknoaihjlaa.N.daL l) (Int.toNat (↑a : Int)) ((0 : Int), (0 : Int), (0 : Int), (0 : Int))))) == Prod.fst (Prod.snd (Prod.snd (List.getD (Go.Proofs.Ytnoccknoaihjlaa.N.daL l) (Int.toNat (↑a : Int)) ((0 : Int), (0 : Int), (0 : Int), (0 : Int))))) && Prod.snd (Prod.snd (Prod.snd (List.getD (Go.Proofs.Ytnoccknoaihjlaa.N.daL l) (Int.toNat (↑a : Int)) ((0 : Int), (0 : Int), (0 : Int), (0 : Int))))) == Prod.snd (Prod.snd (Prod.snd (List.getD (Go.Proofs.Ytnoccknoaihjlaa.N.daL l) (Int.toNat (↑a : Int)) ((0 : Int), (0 : Int), (0 : Int), (0 : Int))))))))) = Bool.false → Go.DF.okI64 ((↑a : Int) + (1 : Int)) ∧ ∃ (a' : Nat), (Go.Proofs.Ytnoccknoaihjlaa.N.daL l = Go.Proofs.Ytnoccknoaihjlaa.N.daL l ∧ Go.Proofs.Ytnoccknoaihjlaa.N.daL l = Go.Proofs.Ytnoccknoaihjlaa.N.daL l ∧ (↑a : Int) + (1 : Int) = (↑a' : Int)) ∧ a' ≤ List.length (Go.Proofs.Ytnoccknoaihjlaa.N.daL l) ∧ List.length (Go.Proofs.Ytnoccknoaihjlaa.N.daL l) - a' < List.length (Go.Proofs.Ytnoccknoaihjlaa.N.daL l) - a)) ∧ (Decidable.decide ((↑a : Int) < (↑(List.length (Go.Proofs.Ytnoccknoaihjlaa.N.daL l)) : Int)) = Bool.false → Bool.true = Bool.true ∧ True)))) (by kernel_rfl) ?_
  refine ⟨fun _ => ⟨rfl, trivial⟩, fun h => ?_⟩
  have hlen : l.length ≤ 200 := by have := of_decide_eq_false h; omega
  have ok : okB l := ⟨hl, by omega⟩
  have hd := daL_len l
  refine ⟨ok, ok, fun h => absurd h (by simp), fun _ => ⟨⟨0, ⟨rfl, rfl, rfl⟩, Nat.zero_le _⟩, fun a ha => ⟨fun hlt => ?_, fun _ => ⟨rfl, trivial⟩⟩⟩⟩
  have hlt : a < (daL l).length := by have := of_decide_eq_true hlt; omega
  exact ⟨⟨by omega, by omega⟩, ⟨by omega, by omega⟩, fun h => absurd h (by simp), fun _ => ⟨by unfold okI64; omega, a + 1, ⟨rfl, rfl, by omega⟩, by omega, by omega⟩⟩
end Go.Proofs.Ytnoccknoaihjlaa.N
