import Derived.Test.YtnoccknoaihjlaaF12
import Derived.Test.YtnoccknoaihjlaaB
import Derived.Test.YtnoccknoaihjlaaS
set_option linter.unusedVariables false
set_option linter.unusedSimpArgs false
set_option linter.unnecessarySimpa false
set_option linter.unusedVariables false
set_option linter.unusedSimpArgs false
/- Registers: the parts of the law on Reads and Writes. -/
namespace Go.Proofs.Ytnoccknoaihjlaa.N
open Go.DF
set_option maxRecDepth 100000

def inv41 (l m : List Int) : LInv where
  α := Nat
  S := fun k => ⟨[(0, .per (.sl (.int .i64)) l), (1, .per (.sl (.int .i64)) m), (5, .int .i64 (.sym k))], [], 0⟩
  p := fun k => k ≤ l.length ∧ m.length = l.length ∧ ∀ j, j < k → l.getD j 0 = m.getD j 0
  m := fun k => l.length - k
theorem p41 (l m : List Int) (hn : l.length ≤ 1000000) : Pure1 Try.prog 41 [.per (.sl (.int .i64)) l, .per (.sl (.int .i64)) m] (.bool (.sym (decide (l = m)))) := by
  refine pure1_of_exec (ct := cx0 [] [] []) [(4, inv41 l m)] Try.func41 rfl rfl ?_
  refine cast_goal (p := (((↑(List.length l) : Int) != (↑(List.length m) : Int)) = Bool.true → Bool.false = Decidable.decide (l = m) ∧ True) ∧ (((↑(List.length l) : Int) != (↑(List.length m) : Int)) = Bool.false → (∃ (a : Nat), (l = l ∧ m = m ∧ (0 : Int) = (↑a : Int)) ∧ a ≤ List.length l ∧ List.length m = List.length l ∧ ∀ (j : Nat), j < a → List.getD l j (0 : Int) = List.getD m j (0 : Int)) ∧ ∀ (a : Nat), (a ≤ List.length l ∧ List.length m = List.length l ∧ ∀ (j : Nat), j < a → List.getD l j (0 : Int) = List.getD m j (0 : Int)) → (Decidable.decide ((↑a : Int) < (↑(List.length l) : Int)) = Bool.true → ((0 : Int) ≤ (↑a : Int) ∧ (↑a : Int) < (↑(List.length l) : Int)) ∧ ((0 : Int) ≤ (↑a : Int) ∧ (↑a : Int) < (↑(List.length m) : Int)) ∧ ((List.getD l (Int.toNat (↑a : Int)) (0 : Int) != List.getD m (Int.toNat (↑a : Int)) (0 : Int)) = Bool.true → Bool.false = Decidable.decide (l = m) ∧ True) ∧ ((List.getD l (Int.toNat (↑a : Int)) (0 : Int) != List.getD m (Int.toNat (↑a : Int)) (0 : Int)) = Bool.false → Go.DF.okI64 ((↑a : Int) + (1 : Int)) ∧ ∃ (a' : Nat), (l = l ∧ m = m ∧ (↑a : Int) + (1 : Int) = (↑a' : Int)) ∧ (a' ≤ List.length l ∧ List.length m = List.length l ∧ ∀ (j : Nat), j < a' → List.getD l j (0 : Int) = List.getD m j (0 : Int)) ∧ List.length l - a' < List.length l - a)) ∧ (Decidable.decide ((↑a : Int) < (↑(List.length l) : Int)) = Bool.false → Bool.true = Decidable.decide (l = m) ∧ True))) (by kernel_rfl) ?_
  have ne : l.length ≠ m.length → false = decide (l = m) := fun h => by
    rw [eq_comm, decide_eq_false_iff_not]; intro e; rw [e] at h; exact h rfl
  refine ⟨fun h => ⟨ne (by have := bne_iff_ne.1 h; omega), trivial⟩, fun h => ?_⟩
  have hl : m.length = l.length := by have := bne_eq_false_iff_eq.1 h; omega
  refine ⟨⟨0, ⟨rfl, rfl, rfl⟩, Nat.zero_le _, hl, fun j hj => absurd hj (Nat.not_lt_zero j)⟩, fun a ⟨h1, h2, h3⟩ => ⟨fun hlt => ?_, fun hge => ⟨?_, trivial⟩⟩⟩
  · have hlt : a < l.length := by have := of_decide_eq_true hlt; omega
    have e : Int.toNat (a : Int) = a := by omega
    simp only [e]
    refine ⟨⟨by omega, by omega⟩, ⟨by omega, by omega⟩, fun hb => ⟨?_, trivial⟩, fun hb => ⟨by unfold okI64; omega, a + 1, ⟨trivial, trivial, by omega⟩, ⟨by omega, h2, fun j hj => ?_⟩, by omega⟩⟩
    · rw [eq_comm, decide_eq_false_iff_not]; intro e; exact bne_iff_ne.1 hb (by rw [e])
    · rcases Nat.lt_or_ge j a with h | h
      · exact h3 j h
      · have : j = a := by omega
        rw [this]; exact bne_eq_false_iff_eq.1 hb
  · have hge : l.length ≤ a := by have := of_decide_eq_false hge; omega
    rw [eq_comm, decide_eq_true_iff]
    apply List.ext_getElem?
    intro j
    by_cases hj : j < l.length
    · have := h3 j (by omega)
      rw [List.getD_eq_getElem?_getD, List.getD_eq_getElem?_getD, List.getElem?_eq_getElem hj, List.getElem?_eq_getElem (by omega)] at this
      rw [List.getElem?_eq_getElem hj, List.getElem?_eq_getElem (by omega)]
      exact congrArg some this
    · rw [List.getElem?_eq_none (by omega), List.getElem?_eq_none (by omega)]
abbrev b8 : CT := .pair .bool (.pair .bool (.pair .bool (.pair .bool (.pair .bool (.pair .bool (.pair .bool .bool))))))
def l8 (b : b8.D) : List Bool := [b.1, b.2.1, b.2.2.1, b.2.2.2.1, b.2.2.2.2.1, b.2.2.2.2.2.1, b.2.2.2.2.2.2.1, b.2.2.2.2.2.2.2]
def set8 (b : List Bool) (k : Nat) : List Int := ((List.range k).filter fun j => b.getD j false).map fun (j : Nat) => (j : Int)
theorem set8_succ (b : List Bool) (k : Nat) : set8 b (k + 1) = if b.getD k false = true then set8 b k ++ [(k : Int)] else set8 b k := by
  unfold set8
  rw [List.range_succ, List.filter_append, List.map_append]
  cases h : b.getD k false
  · simp only [List.filter_cons, List.filter_nil, h, Bool.false_eq_true, if_false, List.map_nil, List.append_nil]
  · simp only [List.filter_cons, List.filter_nil, h, if_true, List.map_cons, List.map_nil]
def inv63 (b : List Bool) : LInv where
  α := Nat
  S := fun k => ⟨[(1, .ptr ⟨0, .lit 0, 0, 0⟩), (3, .slice ⟨1, .lit 0, 1, 0⟩ (.sym (set8 b k).length)), (4, .int .i64 (.sym k))], [(0, (false, .arr 102 .bool b)), (1, (false, .arr 3 (.int .i64) (set8 b k)))], 2⟩
  p := fun k => k ≤ 8
  m := fun k => 8 - k
theorem p63 (b : b8.D) : Pure1 Try.prog 63 [toV true b8 b] (.per (.sl (.int .i64)) (set8 (l8 b) 8)) := by
  refine pure1_of_exec (ct := cx0 [] [] []) [(3, inv63 (l8 b))] Try.func63 rfl rfl ?_
  refine cast_goal (p := (∃ (a : Nat), (List.length (Go.Proofs.Ytnoccknoaihjlaa.N.set8 (Go.Proofs.Ytnoccknoaihjlaa.N.l8 b) a) = (0 : Nat) ∧ (0 : Int) = (↑a : Int) ∧ [Prod.fst b, Prod.fst (Prod.snd b), Prod.fst (Prod.snd (Prod.snd b)), Prod.fst (Prod.snd (Prod.snd (Prod.snd b))), Prod.fst (Prod.snd (Prod.snd (Prod.snd (Prod.snd b)))), Prod.fst (Prod.snd (Prod.snd (Prod.snd (Prod.snd (Prod.snd b))))), Prod.fst (Prod.snd (Prod.snd (Prod.snd (Prod.snd (Prod.snd (Prod.snd b)))))), Prod.snd (Prod.snd (Prod.snd (Prod.snd (Prod.snd (Prod.snd (Prod.snd b))))))] = Go.Proofs.Ytnoccknoaihjlaa.N.l8 b ∧ Go.Proofs.Ytnoccknoaihjlaa.N.set8 (Go.Proofs.Ytnoccknoaihjlaa.N.l8 b) a = []) ∧ a ≤ (8 : Nat)) ∧ ∀ (a : Nat), a ≤ (8 : Nat) → (Decidable.decide ((↑a : Int) < (8 : Int)) = Bool.true → ((0 : Int) ≤ (↑a : Int) ∧ (↑a : Int) < (↑(8 : Nat) : Int)) ∧ Int.toNat (↑a : Int) < List.length (Go.Proofs.Ytnoccknoaihjlaa.N.l8 b) ∧ (List.getD (Go.Proofs.Ytnoccknoaihjlaa.N.l8 b) (Int.toNat (↑a : Int)) Bool.false = Bool.true → (0 : Nat) + List.length (Go.Proofs.Ytnoccknoaihjlaa.N.set8 (Go.Proofs.Ytnoccknoaihjlaa.N.l8 b) a) ≤ List.length (Go.Proofs.Ytnoccknoaihjlaa.N.set8 (Go.Proofs.Ytnoccknoaihjlaa.N.l8 b) a) ∧ ((List.length (Go.Proofs.Ytnoccknoaihjlaa.N.set8 (Go.Proofs.Ytnoccknoaihjlaa.N.l8 b) a) + List.length [(↑a : Int)]) * (8 : Nat) ≤ (140737488355328 : Nat) ∧ List.length (Go.Proofs.Ytnoccknoaihjlaa.N.set8 (Go.Proofs.Ytnoccknoaihjlaa.N.l8 b) a) + List.length [(↑a : Int)] ≤ Go.maxLen) ∧ Go.DF.okI64 ((↑a : Int) + (1 : Int)) ∧ ∃ (a' : Nat), (List.length (Go.Proofs.Ytnoccknoaihjlaa.N.set8 (Go.Proofs.Ytnoccknoaihjlaa.N.l8 b) a) + (1 : Nat) = List.length (Go.Proofs.Ytnoccknoaihjlaa.N.set8 (Go.Proofs.Ytnoccknoaihjlaa.N.l8 b) a') ∧ (↑a : Int) + (1 : Int) = (↑a' : Int) ∧ Go.Proofs.Ytnoccknoaihjlaa.N.l8 b = Go.Proofs.Ytnoccknoaihjlaa.N.l8 b ∧ List.take (List.length (Go.Proofs.Ytnoccknoaihjlaa.N.set8 (Go.Proofs.Ytnoccknoaihjlaa.N.l8 b) a)) (Go.Proofs.Ytnoccknoaihjlaa.N.set8 (Go.Proofs.Ytnoccknoaihjlaa.N.l8 b) a) ++ [(↑a : Int)] = Go.Proofs.Ytnoccknoaihjlaa.N.set8 (Go.Proofs.Ytnoccknoaihjlaa.N.l8 b) a') ∧ a' ≤ (8 : Nat) ∧ (8 : Nat) - a' < (8 : Nat) - a) ∧ (List.getD (Go.Proofs.Ytnoccknoaihjlaa.N.l8 b) (Int.toNat (↑a : Int)) Bool.false = Bool.false → Go.DF.okI64 ((↑a : Int) + (1 : Int)) ∧ ∃ (a' : Nat), (List.length (Go.Proofs.Ytnoccknoaihjlaa.N.set8 (Go.Proofs.Ytnoccknoaihjlaa.N.l8 b) a) = List.length (Go.Proofs.Ytnoccknoaihjlaa.N.set8 (Go.Proofs.Ytnoccknoaihjlaa.N.l8 b) a') ∧ (↑a : Int) + (1 : Int) = (↑a' : Int) ∧ Go.Proofs.Ytnoccknoaihjlaa.N.l8 b = Go.Proofs.Ytnoccknoaihjlaa.N.l8 b ∧ Go.Proofs.Ytnoccknoaihjlaa.N.set8 (Go.Proofs.Ytnoccknoaihjlaa.N.l8 b) a = Go.Proofs.Ytnoccknoaihjlaa.N.set8 (Go.Proofs.Ytnoccknoaihjlaa.N.l8 b) a') ∧ a' ≤ (8 : Nat) ∧ (8 : Nat) - a' < (8 : Nat) - a)) ∧ (Decidable.decide ((↑a : Int) < (8 : Int)) = Bool.false → ((0 : Nat) + List.length (Go.Proofs.Ytnoccknoaihjlaa.N.set8 (Go.Proofs.Ytnoccknoaihjlaa.N.l8 b) a) ≤ List.length (Go.Proofs.Ytnoccknoaihjlaa.N.set8 (Go.Proofs.Ytnoccknoaihjlaa.N.l8 b) a) ∧ List.take (List.length (Go.Proofs.Ytnoccknoaihjlaa.N.set8 (Go.Proofs.Ytnoccknoaihjlaa.N.l8 b) a)) (Go.Proofs.Ytnoccknoaihjlaa.N.set8 (Go.Proofs.Ytnoccknoaihjlaa.N.l8 b) a) = Go.Proofs.Ytnoccknoaihjlaa.N.set8 (Go.Proofs.Ytnoccknoaihjlaa.N.l8 b) (8 : Nat)) ∧ True)) (by kernel_rfl) ?_
  have hl : (l8 b).length = 8 := rfl
  have hle : ∀ k, (set8 (l8 b) k).length ≤ k := fun k => by
    unfold set8
    rw [List.length_map]
    exact Nat.le_trans (List.length_filter_le _ _) (by simp)
  refine ⟨⟨0, ⟨rfl, rfl, rfl, rfl⟩, Nat.zero_le _⟩, fun a ha => ⟨fun hlt => ?_, fun hge => ?_⟩⟩
  · have hlt : a < 8 := by have := of_decide_eq_true hlt; omega
    have e : Int.toNat (a : Int) = a := by omega
    have hs := set8_succ (l8 b) a
    have hk := hle a
    simp only [e, List.length_singleton]
    refine ⟨⟨by omega, by omega⟩, by rw [hl]; exact hlt, fun hb => ?_, fun hb => ?_⟩
    · rw [hb, if_pos rfl] at hs
      exact ⟨by omega, ⟨by omega, by unfold maxLen; omega⟩, by unfold okI64; omega, a + 1, ⟨by rw [hs, List.length_append]; rfl, by omega, trivial, by rw [hs, List.take_of_length_le (Nat.le_refl _)]⟩, by omega, by omega⟩
    · rw [hb, if_neg (by simp)] at hs
      exact ⟨by unfold okI64; omega, a + 1, ⟨by rw [hs], by omega, trivial, by rw [hs]⟩, by omega, by omega⟩
  · have : a = 8 := by have := of_decide_eq_false hge; omega
    subst this
    exact ⟨⟨by omega, List.take_of_length_le (Nat.le_refl _)⟩, trivial⟩
end Go.Proofs.Ytnoccknoaihjlaa.N

set_option linter.unusedVariables false
set_option linter.unusedSimpArgs false
/- Reads and Writes: what they return. -/
namespace Go.Proofs.Ytnoccknoaihjlaa.N
open Go.DF
set_option maxRecDepth 100000

def chkJ (i : Ins) : Int := chk i.1 i.2.1 i.2.2.1 i.2.2.2
def c15 : PureC Try.prog where
  f := 15
  sig := [.dat true iC]
  per := false
  spec := fun x => .leaf (.int .i64 (.sym (chkJ x.1)))
  body := hasBody_of Try.func15 (by kernel_rfl) (by kernel_rfl)
  ok := fun x d h => by
    obtain rfl : d = _ := h
    exact bridge (p15 x.1.1 x.1.2.1 x.1.2.2.1 x.1.2.2.2) (by simp [sameL, same, encAL, AS.enc, toV, CT.enc, sI, DE.DI.v, DI.v]; exact ⟨rfl, rfl, rfl, rfl⟩) (by simp [same, chkJ, DE.DI.v, DI.v])
def c16 : PureC Try.prog where
  f := 16
  sig := [.dat true iC]
  per := false
  spec := fun x => .leaf (.int .i64 (.sym (chkJ x.1)))
  body := hasBody_of Try.func16 (by kernel_rfl) (by kernel_rfl)
  ok := fun x d h => by
    obtain rfl : d = _ := h
    exact bridge (p16 x.1.1 x.1.2.1 x.1.2.2.1 x.1.2.2.2) (by simp [sameL, same, encAL, AS.enc, toV, CT.enc, sI, DE.DI.v, DI.v]; exact ⟨rfl, rfl, rfl, rfl⟩) (by simp [same, chkJ, DE.DI.v, DI.v])
def c46 : PureC Try.prog where
  f := 46
  sig := [.dat false (.int .i64)]
  per := false
  spec := fun x => .leaf (.tup [.agg [.str (.sym (wordI x.1)), .int .i64 (.sym (formI x.1)), .int .i64 (.sym (lowI x.1)), .int .i64 (.sym (highI x.1))], .bool (.sym (inO x.1))])
  body := hasBody_of Try.func46 (by kernel_rfl) (by kernel_rfl)
  ok := fun x d h => by
    obtain rfl : d = _ := h
    exact bridge (p46 x.1) (by simp [sameL, same, encAL, AS.enc, toV, CT.enc, DE.DI.v, DI.v]; rfl) (by simp [same, sameL, DE.DI.v, DI.v, DE.DB.v, DB.v, DE.DS.v, DS.v])
abbrev fC : CT := .pair .str (.pair (.int .i64) (.pair (.int .i64) (.int .i64)))
def c48 : PureC Try.prog where
  f := 48
  sig := [.dat true fC]
  per := false
  spec := fun x => .leaf (.bool (.sym (hB x.1.2.1)))
  body := hasBody_of Try.func48 (by kernel_rfl) (by kernel_rfl)
  ok := fun x d h => by
    obtain rfl : d = _ := h
    exact bridge (p48 x.1.1 x.1.2.1 x.1.2.2.1 x.1.2.2.2) (by simp [sameL, same, encAL, AS.enc, toV, CT.enc, DE.DI.v, DI.v, DE.DS.v, DS.v]; exact ⟨rfl, rfl, rfl, rfl⟩) (by simp [same, DE.DB.v, DB.v])
def c31 : PureC Try.prog where
  f := 31
  sig := [.dat false (.int .i64)]
  per := false
  spec := fun x => .leaf (.tup [.int .i64 (.sym (formI x.1)), .int .i64 (.sym (errO x.1))])
  body := hasBody_of Try.func31 (by kernel_rfl) (by kernel_rfl)
  ok := fun x d h => by
    obtain rfl : d = _ := h
    exact bridge (p31 x.1) (by simp [sameL, same, encAL, AS.enc, toV, CT.enc, DE.DI.v, DI.v]; rfl) (by simp [same, sameL, DE.DI.v, DI.v])
def c53 : PureC Try.prog where
  f := 53
  sig := [.dat false (.int .i64)]
  per := false
  spec := fun x => .leaf (.bool (.sym (hB x.1)))
  body := hasBody_of Try.func53 (by kernel_rfl) (by kernel_rfl)
  ok := fun x d h => by
    obtain rfl : d = _ := h
    exact bridge (p53 x.1) (by simp [sameL, same, encAL, AS.enc, toV, CT.enc, DE.DI.v, DI.v]; rfl) (by simp [same, DE.DB.v, DB.v])
def c63 : PureC Try.prog where
  f := 63
  sig := [.dat true b8]
  per := true
  spec := fun x => .leaf (.per (.sl (.int .i64)) (set8 (l8 x.1) 8))
  body := hasBody_of Try.func63 (by kernel_rfl) (by kernel_rfl)
  ok := fun x d h => by obtain rfl : d = _ := h; exact p63 x.1
end Go.Proofs.Ytnoccknoaihjlaa.N
