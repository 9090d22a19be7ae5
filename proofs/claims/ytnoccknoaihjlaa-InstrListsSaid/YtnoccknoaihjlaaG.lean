import Derived.Test.YtnoccknoaihjlaaF11
import Derived.Test.YtnoccknoaihjlaaD
set_option linter.unusedVariables false
set_option linter.unusedSimpArgs false
set_option linter.unnecessarySimpa false
set_option linter.unusedVariables false
set_option linter.unusedSimpArgs false
/- EncodeAll, the two of them, and the law on lists. -/
namespace Go.Proofs.Ytnoccknoaihjlaa.N
open Go.DF
set_option maxRecDepth 100000

def chkI (i : Ins) : Int := chk i.1 i.2.1 i.2.2.1 i.2.2.2
def encB (i : Ins) : Ins := (bY i.1 i.2.1 i.2.2.1 i.2.2.2 i.1, bY i.1 i.2.1 i.2.2.1 i.2.2.2 (16 * i.2.1 + i.2.2.1), bY i.1 i.2.1 i.2.2.1 i.2.2.2 (i.2.2.2 % 256), bY i.1 i.2.1 i.2.2.1 i.2.2.2 (i.2.2.2 / 256 % 256))
def bV (b : Ins) : DV := .agg [.int .u8 (.sym b.1), .int .u8 (.sym b.2.1), .int .u8 (.sym b.2.2.1), .int .u8 (.sym b.2.2.2)]
def c23 : PureC Try.prog where
  f := 23
  sig := [.dat true iC]
  per := false
  spec := fun x => .leaf (.tup [bV (encB x.1), .int .i64 (.sym (chkI x.1))])
  body := hasBody_of Try.func23 (by kernel_rfl) (by kernel_rfl)
  ok := fun x d h => by
    obtain rfl : d = _ := h
    exact bridge (p23 x.1.1 x.1.2.1 x.1.2.2.1 x.1.2.2.2) (by simp [sameL, same, encAL, AS.enc, toV, CT.enc, sI, DE.DI.v, DI.v]; exact ⟨rfl, rfl, rfl, rfl⟩) (by simp [same, sameL, encV, bV, encB, chkI, DE.DI.v, DI.v])
def c24 : PureC Try.prog where
  f := 24
  sig := [.dat true iC]
  per := false
  spec := fun x => .leaf (.tup [bV (encB x.1), .int .i64 (.sym (chkI x.1))])
  body := hasBody_of Try.func24 (by kernel_rfl) (by kernel_rfl)
  ok := fun x d h => by
    obtain rfl : d = _ := h
    exact bridge (p24 x.1.1 x.1.2.1 x.1.2.2.1 x.1.2.2.2) (by simp [sameL, same, encAL, AS.enc, toV, CT.enc, sI, DE.DI.v, DI.v]; exact ⟨rfl, rfl, rfl, rfl⟩) (by simp [same, sameL, encV, bV, encB, chkI, DE.DI.v, DI.v])

local notation "i0" => (((0 : Int), (0 : Int), (0 : Int), (0 : Int)) : Ins)
def inv39 (l : List Ins) : LInv where
  α := Nat
  S := fun k => ⟨[(0, .per (.sl iC) l), (3, .slice ⟨0, .lit 0, 4, 0⟩ (.sym k)), (4, .int .i64 (.sym k))], [(0, (false, .arr 26 iC (l.take k)))], 1⟩
  p := fun k => k ≤ l.length
  m := fun k => l.length - k
theorem take_succ (l : List Ins) (k : Nat) (h : k < l.length) : l.take k ++ [l.getD k i0] = l.take (k + 1) := by
  rw [List.take_add_one, List.getElem?_eq_getElem h, List.getD_eq_getElem?_getD, List.getElem?_eq_getElem h]; rfl
theorem p39 (l : List Ins) (hn : l.length ≤ 1000000) : Pure1 Try.prog 39 [.per (.sl iC) l] (.per (.sl iC) l) := by
  refine pure1_of_exec (ct := ⟨[c14], [], []⟩) [(3, inv39 l)] Try.func39 rfl rfl ?_
  refine cast_goal (p := (∃ (a : Nat), (l = l ∧ a = (0 : Nat) ∧ (0 : Int) = (↑a : Int) ∧ List.take a l = []) ∧ a ≤ List.length l) ∧ ∀ (a : Nat), a ≤ List.length l → (Decidable.decide ((↑a : Int) < (↑(List.length l) : Int)) = Bool.true → ((0 : Int) ≤ (↑a : Int) ∧ (↑a : Int) < (↑(List.length l) : Int)) ∧ (0 : Nat) + a ≤ List.length (List.take a l) ∧ ((a + List.length [List.getD l (Int.toNat (↑a : Int)) ((0 : Int), (0 : Int), (0 : Int), (0 : Int))]) * (32 : Nat) ≤ (140737488355328 : Nat) ∧ a + List.length [List.getD l (Int.toNat (↑a : Int)) ((0 : Int), (0 : Int), (0 : Int), (0 : Int))] ≤ Go.maxLen) ∧ Go.DF.okI64 ((↑a : Int) + (1 : Int)) ∧ ∃ (a' : Nat), (l = l ∧ a + (1 : Nat) = a' ∧ (↑a : Int) + (1 : Int) = (↑a' : Int) ∧ List.take a (List.take a l) ++ [List.getD l (Int.toNat (↑a : Int)) ((0 : Int), (0 : Int), (0 : Int), (0 : Int))] = List.take a' l) ∧ a' ≤ List.length l ∧ List.length l - a' < List.length l - a) ∧ (Decidable.decide ((↑a : Int) < (↑(List.length l) : Int)) = Bool.false → ((0 : Nat) + a ≤ List.length (List.take a l) ∧ List.take a (List.take a l) = l) ∧ True)) (by kernel_rfl) ?_
  refine ⟨⟨0, ⟨rfl, rfl, rfl, by simp⟩, Nat.zero_le _⟩, fun a ha => ⟨fun hlt => ?_, fun hge => ?_⟩⟩
  · have hlt : a < l.length := by have := of_decide_eq_true hlt; omega
    have e : Int.toNat (a : Int) = a := by omega
    simp only [e, List.length_take, List.length_singleton, List.take_take, Nat.min_self]
    exact ⟨⟨by omega, by omega⟩, by omega, ⟨by omega, by unfold maxLen; omega⟩, by unfold okI64; omega, a + 1, ⟨trivial, rfl, by omega, take_succ l a hlt⟩, by omega, by omega⟩
  · have hge : l.length ≤ a := by have := of_decide_eq_false hge; omega
    refine ⟨⟨by rw [List.length_take]; omega, ?_⟩, trivial⟩
    rw [List.take_take, Nat.min_self, List.take_of_length_le hge]

def lst4 (b : Ins) : List Int := [b.1, b.2.1, b.2.2.1, b.2.2.2]
def eBytes (l : List Ins) (k : Nat) : List Int := (List.range k).flatMap fun j => lst4 (encB (l.getD j i0))
def badI (l : List Ins) : Option Nat := (List.range l.length).find? fun k => chkI (l.getD k i0) != 0
def eaL (l : List Ins) : List Int := match badI l with | some _ => [] | none => eBytes l l.length
def eaA (l : List Ins) : Int := match badI l with | some k => (k : Int) | none => 0
def eaE (l : List Ins) : Int := match badI l with | some k => chkI (l.getD k i0) | none => 0
def eaV (l : List Ins) : DV := .tup [.per (.sl (.int .u8)) (eaL l), .int .i64 (.sym (eaA l)), .int .i64 (.sym (eaE l))]
theorem eBytes_succ (l : List Ins) (k : Nat) : eBytes l (k + 1) = eBytes l k ++ lst4 (encB (l.getD k i0)) := by
  simp [eBytes, List.range_succ, List.flatMap_append]
theorem eBytes_len (l : List Ins) : ∀ k, (eBytes l k).length = 4 * k
  | 0 => rfl
  | k + 1 => by rw [eBytes_succ, List.length_append, eBytes_len l k]; simp [lst4]; omega
theorem badI_some (l : List Ins) (k : Nat) (h1 : k < l.length) (h2 : ∀ j, j < k → chkI (l.getD j i0) = 0) (h3 : chkI (l.getD k i0) ≠ 0) : badI l = some k := by
  unfold badI
  rw [List.find?_range_eq_some]
  refine ⟨by simpa using h3, by simpa using h1, fun j hj => ?_⟩
  simp only [h2 j hj]; rfl
theorem badI_none (l : List Ins) (h2 : ∀ j, j < l.length → chkI (l.getD j i0) = 0) : badI l = none := by
  unfold badI
  rw [List.find?_eq_none]
  intro j hj
  rw [List.mem_range] at hj
  simp only [h2 j hj]; simp
def inv38 (l : List Ins) : LInv where
  α := Nat
  S := fun k => ⟨[(5, .slice ⟨0, .lit 0, 1, 0⟩ (.sym (4 * k))), (10, .per (.sl iC) l), (11, .int .i64 (.sym l.length)), (12, .int .i64 (.sym k))], [(0, (false, .arr 5 (.int .u8) (eBytes l k)))], 1⟩
  p := fun k => k ≤ l.length ∧ ∀ j, j < k → chkI (l.getD j i0) = 0
  m := fun k => l.length - k
theorem p38 (l : List Ins) (hn : l.length ≤ 1000000) : Pure1 Try.prog 38 [.per (.sl iC) l] (eaV l) := by
  refine pure1_of_exec (ct := ⟨[c23], [], []⟩) [(3, inv38 l)] Try.func38 rfl rfl ?_
  refine cast_goal (p := (∃ (a : Nat), ((4 : Nat) * a = (0 : Nat) ∧ l = l ∧ (↑(List.length l) : Int) = (↑(List.length l) : Int) ∧ (0 : Int) = (↑a : Int) ∧ Go.Proofs.Ytnoccknoaihjlaa.N.eBytes l a = []) ∧ a ≤ List.length l ∧ ∀ (j : Nat), j < a → Go.Proofs.Ytnoccknoaihjlaa.N.chkI (List.getD l j ((0 : Int), (0 : Int), (0 : Int), (0 : Int))) = (0 : Int)) ∧ ∀ (a : Nat), (a ≤ List.length l ∧ ∀ (j : Nat), j < a → Go.Proofs.Ytnoccknoaihjlaa.N.chkI (List.getD l j ((0 : Int), (0 : Int), (0 : Int), (0 : Int))) = (0 : Int)) → (Decidable.decide ((↑a : Int) < (↑(List.length l) : Int)) = Bool.true → ((0 : Int) ≤ (↑a : Int) ∧ (↑a : Int) < (↑(List.length l) : Int)) ∧ ((Go.Proofs.Ytnoccknoaihjlaa.N.chkI (List.getD l (Int.toNat (↑a : Int)) ((0 : Int), (0 : Int), (0 : Int), (0 : Int))) != (0 : Int)) = Bool.true → ([] = Go.Proofs.Ytnoccknoaihjlaa.N.eaL l ∧ (↑a : Int) = Go.Proofs.Ytnoccknoaihjlaa.N.eaA l ∧ Go.Proofs.Ytnoccknoaihjlaa.N.chkI (List.getD l (Int.toNat (↑a : Int)) ((0 : Int), (0 : Int), (0 : Int), (0 : Int))) = Go.Proofs.Ytnoccknoaihjlaa.N.eaE l) ∧ True) ∧ ((Go.Proofs.Ytnoccknoaihjlaa.N.chkI (List.getD l (Int.toNat (↑a : Int)) ((0 : Int), (0 : Int), (0 : Int), (0 : Int))) != (0 : Int)) = Bool.false → (0 : Nat) + (4 : Nat) * a ≤ List.length (Go.Proofs.Ytnoccknoaihjlaa.N.eBytes l a) ∧ (((4 : Nat) * a + List.length [Prod.fst (Go.Proofs.Ytnoccknoaihjlaa.N.encB (List.getD l (Int.toNat (↑a : Int)) ((0 : Int), (0 : Int), (0 : Int), (0 : Int)))), Prod.fst (Prod.snd (Go.Proofs.Ytnoccknoaihjlaa.N.encB (List.getD l (Int.toNat (↑a : Int)) ((0 : Int), (0 : Int), (0 : Int), (0 : Int))))), Prod.fst (Prod.snd (Prod.snd (Go.Proofs.Ytnoccknoaihjlaa.N.encB (List.getD l (Int.toNat (↑a : Int)) ((0 : Int), (0 : Int), (0 : Int), (0 : Int)))))), Prod.snd (Prod.snd (Prod.snd (Go.Proofs.Ytnoccknoaihjlaa.N.encB (List.getD l (Int.toNat (↑a : Int)) ((0 : Int), (0 : Int), (0 : Int), (0 : Int))))))]) * (1 : Nat) ≤ (140737488355328 : Nat) ∧ (4 : Nat) * a + List.length [Prod.fst (Go.Proofs.Ytnoccknoaihjlaa.N.encB (List.getD l (Int.toNat (↑a : Int)) ((0 : Int), (0 : Int), (0 : Int), (0 : Int)))), Prod.fst (Prod.snd (Go.Proofs.Ytnoccknoaihjlaa.N.encB (List.getD l (Int.toNat (↑a : Int)) ((0 : Int), (0 : Int), (0 : Int), (0 : Int))))), Prod.fst (Prod.snd (Prod.snd (Go.Proofs.Ytnoccknoaihjlaa.N.encB (List.getD l (Int.toNat (↑a : Int)) ((0 : Int), (0 : Int), (0 : Int), (0 : Int)))))), Prod.snd (Prod.snd (Prod.snd (Go.Proofs.Ytnoccknoaihjlaa.N.encB (List.getD l (Int.toNat (↑a : Int)) ((0 : Int), (0 : Int), (0 : Int), (0 : Int))))))] ≤ Go.maxLen) ∧ Go.DF.okI64 ((↑a : Int) + (1 : Int)) ∧ ∃ (a' : Nat), ((4 : Nat) * a + (Int.toNat (↑(4 : Nat) : Int) - Int.toNat (0 : Int)) = (4 : Nat) * a' ∧ l = l ∧ (↑(List.length l) : Int) = (↑(List.length l) : Int) ∧ (↑a : Int) + (1 : Int) = (↑a' : Int) ∧ List.take ((4 : Nat) * a) (Go.Proofs.Ytnoccknoaihjlaa.N.eBytes l a) ++ [Prod.fst (Go.Proofs.Ytnoccknoaihjlaa.N.encB (List.getD l (Int.toNat (↑a : Int)) ((0 : Int), (0 : Int), (0 : Int), (0 : Int)))), Prod.fst (Prod.snd (Go.Proofs.Ytnoccknoaihjlaa.N.encB (List.getD l (Int.toNat (↑a : Int)) ((0 : Int), (0 : Int), (0 : Int), (0 : Int))))), Prod.fst (Prod.snd (Prod.snd (Go.Proofs.Ytnoccknoaihjlaa.N.encB (List.getD l (Int.toNat (↑a : Int)) ((0 : Int), (0 : Int), (0 : Int), (0 : Int)))))), Prod.snd (Prod.snd (Prod.snd (Go.Proofs.Ytnoccknoaihjlaa.N.encB (List.getD l (Int.toNat (↑a : Int)) ((0 : Int), (0 : Int), (0 : Int), (0 : Int))))))] = Go.Proofs.Ytnoccknoaihjlaa.N.eBytes l a') ∧ (a' ≤ List.length l ∧ ∀ (j : Nat), j < a' → Go.Proofs.Ytnoccknoaihjlaa.N.chkI (List.getD l j ((0 : Int), (0 : Int), (0 : Int), (0 : Int))) = (0 : Int)) ∧ List.length l - a' < List.length l - a)) ∧ (Decidable.decide ((↑a : Int) < (↑(List.length l) : Int)) = Bool.false → ((0 : Nat) + (4 : Nat) * a ≤ List.length (Go.Proofs.Ytnoccknoaihjlaa.N.eBytes l a) ∧ List.take ((4 : Nat) * a) (Go.Proofs.Ytnoccknoaihjlaa.N.eBytes l a) = Go.Proofs.Ytnoccknoaihjlaa.N.eaL l ∧ (0 : Int) = Go.Proofs.Ytnoccknoaihjlaa.N.eaA l ∧ (0 : Int) = Go.Proofs.Ytnoccknoaihjlaa.N.eaE l) ∧ True)) (by kernel_rfl) ?_
  refine ⟨⟨0, ⟨rfl, rfl, rfl, rfl, rfl⟩, Nat.zero_le _, fun j hj => absurd hj (Nat.not_lt_zero j)⟩, fun a ⟨h1, h2⟩ => ⟨fun hlt => ?_, fun hge => ?_⟩⟩
  · have hlt : a < l.length := by have := of_decide_eq_true hlt; omega
    have e : Int.toNat (a : Int) = a := by omega
    simp only [e]
    refine ⟨⟨by omega, by omega⟩, fun hb => ?_, fun hb => ?_⟩
    · have hb : chkI (l.getD a i0) ≠ 0 := bne_iff_ne.1 hb
      have hs := badI_some l a hlt h2 hb
      exact ⟨⟨by simp [eaL, hs], by simp [eaA, hs], by simp [eaE, hs]⟩, trivial⟩
    · have hb : chkI (l.getD a i0) = 0 := bne_eq_false_iff_eq.1 hb
      refine ⟨by rw [eBytes_len]; omega, ⟨by simp only [List.length_cons, List.length_nil]; omega, by simp only [List.length_cons, List.length_nil]; unfold maxLen; omega⟩, by unfold okI64; omega, a + 1, ⟨by omega, trivial, trivial, by omega, ?_⟩, ⟨by omega, fun j hj => ?_⟩, by omega⟩
      · rw [List.take_of_length_le (by rw [eBytes_len]; exact Nat.le_refl _), eBytes_succ]; rfl
      · rcases Nat.lt_or_ge j a with h | h
        · exact h2 j h
        · have : j = a := by omega
          rw [this]; exact hb
  · have hge : l.length ≤ a := by have := of_decide_eq_false hge; omega
    have ha : a = l.length := by omega
    have hs := badI_none l (fun j hj => h2 j (by omega))
    refine ⟨⟨by rw [eBytes_len]; omega, ?_, by simp [eaA, hs], by simp [eaE, hs]⟩, trivial⟩
    rw [List.take_of_length_le (by rw [eBytes_len]; exact Nat.le_refl _), ha]
    simp [eaL, hs]
def inv40 (l : List Ins) : LInv where
  α := Nat
  S := fun k => ⟨[(0, .per (.sl iC) l), (5, .slice ⟨0, .lit 0, 1, 0⟩ (.sym (4 * k))), (6, .int .i64 (.sym k))], [(0, (false, .arr 5 (.int .u8) (eBytes l k)))], 1⟩
  p := fun k => k ≤ l.length ∧ ∀ j, j < k → chkI (l.getD j i0) = 0
  m := fun k => l.length - k
theorem p40 (l : List Ins) (hn : l.length ≤ 1000000) : Pure1 Try.prog 40 [.per (.sl iC) l] (eaV l) := by
  refine pure1_of_exec (ct := ⟨[c24], [], []⟩) [(3, inv40 l)] Try.func40 rfl rfl ?_
  refine cast_goal (p := (∃ (a : Nat), (l = l ∧ (4 : Nat) * a = (0 : Nat) ∧ (0 : Int) = (↑a : Int) ∧ Go.Proofs.Ytnoccknoaihjlaa.N.eBytes l a = []) ∧ a ≤ List.length l ∧ ∀ (j : Nat), j < a → Go.Proofs.Ytnoccknoaihjlaa.N.chkI (List.getD l j ((0 : Int), (0 : Int), (0 : Int), (0 : Int))) = (0 : Int)) ∧ ∀ (a : Nat), (a ≤ List.length l ∧ ∀ (j : Nat), j < a → Go.Proofs.Ytnoccknoaihjlaa.N.chkI (List.getD l j ((0 : Int), (0 : Int), (0 : Int), (0 : Int))) = (0 : Int)) → (Decidable.decide ((↑a : Int) < (↑(List.length l) : Int)) = Bool.true → ((0 : Int) ≤ (↑a : Int) ∧ (↑a : Int) < (↑(List.length l) : Int)) ∧ ((Go.Proofs.Ytnoccknoaihjlaa.N.chkI (List.getD l (Int.toNat (↑a : Int)) ((0 : Int), (0 : Int), (0 : Int), (0 : Int))) != (0 : Int)) = Bool.true → ([] = Go.Proofs.Ytnoccknoaihjlaa.N.eaL l ∧ (↑a : Int) = Go.Proofs.Ytnoccknoaihjlaa.N.eaA l ∧ Go.Proofs.Ytnoccknoaihjlaa.N.chkI (List.getD l (Int.toNat (↑a : Int)) ((0 : Int), (0 : Int), (0 : Int), (0 : Int))) = Go.Proofs.Ytnoccknoaihjlaa.N.eaE l) ∧ True) ∧ ((Go.Proofs.Ytnoccknoaihjlaa.N.chkI (List.getD l (Int.toNat (↑a : Int)) ((0 : Int), (0 : Int), (0 : Int), (0 : Int))) != (0 : Int)) = Bool.false → (0 : Nat) + (4 : Nat) * a ≤ List.length (Go.Proofs.Ytnoccknoaihjlaa.N.eBytes l a) ∧ (((4 : Nat) * a + List.length [Prod.fst (Go.Proofs.Ytnoccknoaihjlaa.N.encB (List.getD l (Int.toNat (↑a : Int)) ((0 : Int), (0 : Int), (0 : Int), (0 : Int)))), Prod.fst (Prod.snd (Go.Proofs.Ytnoccknoaihjlaa.N.encB (List.getD l (Int.toNat (↑a : Int)) ((0 : Int), (0 : Int), (0 : Int), (0 : Int))))), Prod.fst (Prod.snd (Prod.snd (Go.Proofs.Ytnoccknoaihjlaa.N.encB (List.getD l (Int.toNat (↑a : Int)) ((0 : Int), (0 : Int), (0 : Int), (0 : Int)))))), Prod.snd (Prod.snd (Prod.snd (Go.Proofs.Ytnoccknoaihjlaa.N.encB (List.getD l (Int.toNat (↑a : Int)) ((0 : Int), (0 : Int), (0 : Int), (0 : Int))))))]) * (1 : Nat) ≤ (140737488355328 : Nat) ∧ (4 : Nat) * a + List.length [Prod.fst (Go.Proofs.Ytnoccknoaihjlaa.N.encB (List.getD l (Int.toNat (↑a : Int)) ((0 : Int), (0 : Int), (0 : Int), (0 : Int)))), Prod.fst (Prod.snd (Go.Proofs.Ytnoccknoaihjlaa.N.encB (List.getD l (Int.toNat (↑a : Int)) ((0 : Int), (0 : Int), (0 : Int), (0 : Int))))), Prod.fst (Prod.snd (Prod.snd (Go.Proofs.Ytnoccknoaihjlaa.N.encB (List.getD l (Int.toNat (↑a : Int)) ((0 : Int), (0 : Int), (0 : Int), (0 : Int)))))), Prod.snd (Prod.snd (Prod.snd (Go.Proofs.Ytnoccknoaihjlaa.N.encB (List.getD l (Int.toNat (↑a : Int)) ((0 : Int), (0 : Int), (0 : Int), (0 : Int))))))] ≤ Go.maxLen) ∧ Go.DF.okI64 ((↑a : Int) + (1 : Int)) ∧ ∃ (a' : Nat), (l = l ∧ (4 : Nat) * a + (4 : Nat) = (4 : Nat) * a' ∧ (↑a : Int) + (1 : Int) = (↑a' : Int) ∧ List.take ((4 : Nat) * a) (Go.Proofs.Ytnoccknoaihjlaa.N.eBytes l a) ++ [Prod.fst (Go.Proofs.Ytnoccknoaihjlaa.N.encB (List.getD l (Int.toNat (↑a : Int)) ((0 : Int), (0 : Int), (0 : Int), (0 : Int)))), Prod.fst (Prod.snd (Go.Proofs.Ytnoccknoaihjlaa.N.encB (List.getD l (Int.toNat (↑a : Int)) ((0 : Int), (0 : Int), (0 : Int), (0 : Int))))), Prod.fst (Prod.snd (Prod.snd (Go.Proofs.Ytnoccknoaihjlaa.N.encB (List.getD l (Int.toNat (↑a : Int)) ((0 : Int), (0 : Int), (0 : Int), (0 : Int)))))), Prod.snd (Prod.snd (Prod.snd (Go.Proofs.Ytnoccknoaihjlaa.N.encB (List.getD l (Int.toNat (↑a : Int)) ((0 : Int), (0 : Int), (0 : Int), (0 : Int))))))] = Go.Proofs.Ytnoccknoaihjlaa.N.eBytes l a') ∧ (a' ≤ List.length l ∧ ∀ (j : Nat), j < a' → Go.Proofs.Ytnoccknoaihjlaa.N.chkI (List.getD l j ((0 : Int), (0 : Int), (0 : Int), (0 : Int))) = (0 : Int)) ∧ List.length l - a' < List.length l - a)) ∧ (Decidable.decide ((↑a : Int) < (↑(List.length l) : Int)) = Bool.false → ((0 : Nat) + (4 : Nat) * a ≤ List.length (Go.Proofs.Ytnoccknoaihjlaa.N.eBytes l a) ∧ List.take ((4 : Nat) * a) (Go.Proofs.Ytnoccknoaihjlaa.N.eBytes l a) = Go.Proofs.Ytnoccknoaihjlaa.N.eaL l ∧ (0 : Int) = Go.Proofs.Ytnoccknoaihjlaa.N.eaA l ∧ (0 : Int) = Go.Proofs.Ytnoccknoaihjlaa.N.eaE l) ∧ True)) (by kernel_rfl) ?_
  refine ⟨⟨0, ⟨rfl, rfl, rfl, rfl⟩, Nat.zero_le _, fun j hj => absurd hj (Nat.not_lt_zero j)⟩, fun a ⟨h1, h2⟩ => ⟨fun hlt => ?_, fun hge => ?_⟩⟩
  · have hlt : a < l.length := by have := of_decide_eq_true hlt; omega
    have e : Int.toNat (a : Int) = a := by omega
    simp only [e]
    refine ⟨⟨by omega, by omega⟩, fun hb => ?_, fun hb => ?_⟩
    · have hb : chkI (l.getD a i0) ≠ 0 := bne_iff_ne.1 hb
      have hs := badI_some l a hlt h2 hb
      exact ⟨⟨by simp [eaL, hs], by simp [eaA, hs], by simp [eaE, hs]⟩, trivial⟩
    · have hb : chkI (l.getD a i0) = 0 := bne_eq_false_iff_eq.1 hb
      refine ⟨by rw [eBytes_len]; omega, ⟨by simp only [List.length_cons, List.length_nil]; omega, by simp only [List.length_cons, List.length_nil]; unfold maxLen; omega⟩, by unfold okI64; omega, a + 1, ⟨trivial, by omega, by omega, ?_⟩, ⟨by omega, fun j hj => ?_⟩, by omega⟩
      · rw [List.take_of_length_le (by rw [eBytes_len]; exact Nat.le_refl _), eBytes_succ]; rfl
      · rcases Nat.lt_or_ge j a with h | h
        · exact h2 j h
        · have : j = a := by omega
          rw [this]; exact hb
  · have hge : l.length ≤ a := by have := of_decide_eq_false hge; omega
    have ha : a = l.length := by omega
    have hs := badI_none l (fun j hj => h2 j (by omega))
    refine ⟨⟨by rw [eBytes_len]; omega, ?_, by simp [eaA, hs], by simp [eaE, hs]⟩, trivial⟩
    rw [List.take_of_length_le (by rw [eBytes_len]; exact Nat.le_refl _), ha]
    simp [eaL, hs]
end Go.Proofs.Ytnoccknoaihjlaa.N
