import Derived.Test.YtfacddeaobogjaaF12
import Derived.Test.YtfacddeaobogjaaG7
set_option linter.unusedVariables false
set_option linter.unusedSimpArgs false
set_option linter.unnecessarySimpa false
set_option linter.unusedVariables false
set_option linter.unusedSimpArgs false
/- Make, Reverse, Equal. -/
namespace Go.Proofs.Ytfacddeaobogjaa.N
open Go.DF
set_option maxRecDepth 100000
/-- A number, taken modulo n. -/
def um (x n : Int) : Int := IntKind.i64.wrap ((IntKind.u64.wrap x).tmod (IntKind.u64.wrap n))
def mkE (n : Int) (l : Es) : Es := (l.take 120).map fun x => (um x.1 n, um x.2 n)
def mkN (k : Int) : Int := 1 + k.tmod 30
def inv12 (n : Int) (l : Es) : LInv where
  α := Nat
  S := fun k => ⟨[(1, .per (.sl eC) l), (5, .ptr ⟨0, .lit 0, 0, 0⟩), (6, .int .i64 (.sym n)), (7, .slice ⟨1, .lit 0, 2, 0⟩ (.sym k)), (8, .int .i64 (.sym k))],
    [(0, (false, .cells 27 [.int .i64 (.lit 0), .nilslice])), (1, (false, .arr 71 eC ((mkE n l).take k)))], 2⟩
  p := fun k => k ≤ l.length ∧ k ≤ 120
  m := fun k => 120 - k
theorem mkN_le (k : Int) (h : 0 ≤ k ∧ k < 256) : 1 ≤ mkN k ∧ mkN k ≤ 30 := by
  unfold mkN
  rw [Int.tmod_eq_emod_of_nonneg h.1]
  omega
theorem um_le (x n : Int) (h : 1 ≤ n ∧ n ≤ 30) : 0 ≤ um x n ∧ um x n < n := by
  unfold um
  rw [u64_id n (by omega)]
  have hx : 0 ≤ IntKind.u64.wrap x := by rw [IntKind.wrap_u64]; omega
  rw [Int.tmod_eq_emod_of_nonneg hx]
  have h1 := Int.emod_nonneg (IntKind.u64.wrap x) (b := n) (by omega)
  have h2 := Int.emod_lt_of_pos (IntKind.u64.wrap x) (b := n) (by omega)
  rw [i64_id _ (by omega)]
  omega
theorem mk_err (k : Int) (l : Es) (h : 0 ≤ k ∧ k < 256) : gErr (mkN k) (mkE (mkN k) l) = 0 := by
  have hN := mkN_le k h
  unfold gErr
  rw [if_neg (by omega), if_neg, if_neg]
  · rw [Bool.not_eq_true, List.any_eq_false]
    intro y hy
    unfold mkE at hy
    obtain ⟨x, _, rfl⟩ := List.mem_map.1 hy
    have h1 := um_le x.1 (mkN k) hN
    have h2 := um_le x.2 (mkN k) hN
    unfold badE
    simp only [Bool.or_eq_true, Bool.not_eq_true', Bool.and_eq_false_iff, decide_eq_false_iff_not]
    omega
  · unfold mkE
    rw [List.length_map, List.length_take]
    omega
theorem p12 (k : Int) (l : Es) (hk : 0 ≤ k ∧ k < 256) : Pure1 Try.prog 12 [.int .u8 (.sym k), .per (.sl eC) l] (.tup [.per gC (gDat (mkN k) (mkE (mkN k) l)), .agg [.int .i64 (.sym (mkN k)), .per (.sl eC) (putAll (mkE (mkN k) l))]]) := by
  refine pure1_of_exec (ct := cx0 [c20, c21, c22] [] []) [(4, inv12 (mkN k) l)] Try.func12 rfl rfl ?_
  apply @cast_goal (Go.DF.okI64 ((1 : Int) + Int.tmod (Go.IntKind.wrap Go.IntKind.i64 k) (30 : Int)) ∧ (∃ (a : Nat), (l = l ∧ (1 : Int) + Int.tmod (Go.IntKind.wrap Go.IntKind.i64 k) (30 : Int) = Go.Proofs.Ytfacddeaobogjaa.N.mkN k ∧ a = (0 : Nat) ∧ (0 : Int) = (↑a : Int) ∧ List.take a (Go.Proofs.Ytfacddeaobogjaa.N.mkE (Go.Proofs.Ytfacddeaobogjaa.N.mkN k) l) = []) ∧ a ≤ List.length l ∧ a ≤ (120 : Nat)) ∧ ∀ (a : Nat), a ≤ List.length l ∧ a ≤ (120 : Nat) → ((Decidable.decide ((↑a : Int) < (↑(List.length l) : Int)) && Decidable.decide ((↑a : Int) < (120 : Int))) = Bool.true → ((0 : Int) ≤ (↑a : Int) ∧ (↑a : Int) < (↑(List.length l) : Int)) ∧ Go.IntKind.wrap Go.IntKind.u64 (Go.Proofs.Ytfacddeaobogjaa.N.mkN k) ≠ (0 : Int) ∧ ((0 : Int) ≤ (↑a : Int) ∧ (↑a : Int) < (↑(List.length l) : Int)) ∧ Go.IntKind.wrap Go.IntKind.u64 (Go.Proofs.Ytfacddeaobogjaa.N.mkN k) ≠ (0 : Int) ∧ (0 : Nat) + a ≤ List.length (List.take a (Go.Proofs.Ytfacddeaobogjaa.N.mkE (Go.Proofs.Ytfacddeaobogjaa.N.mkN k) l)) ∧ ((a + List.length [(Go.IntKind.wrap Go.IntKind.i64 (Int.tmod (Go.IntKind.wrap Go.IntKind.u64 (Prod.fst (List.getD l (Int.toNat (↑a : Int)) ((0 : Int), (0 : Int))))) (Go.IntKind.wrap Go.IntKind.u64 (Go.Proofs.Ytfacddeaobogjaa.N.mkN k))), Go.IntKind.wrap Go.IntKind.i64 (Int.tmod (Go.IntKind.wrap Go.IntKind.u64 (Prod.snd (List.getD l (Int.toNat (↑a : Int)) ((0 : Int), (0 : Int))))) (Go.IntKind.wrap Go.IntKind.u64 (Go.Proofs.Ytfacddeaobogjaa.N.mkN k))))]) * (16 : Nat) ≤ (140737488355328 : Nat) ∧ a + List.length [(Go.IntKind.wrap Go.IntKind.i64 (Int.tmod (Go.IntKind.wrap Go.IntKind.u64 (Prod.fst (List.getD l (Int.toNat (↑a : Int)) ((0 : Int), (0 : Int))))) (Go.IntKind.wrap Go.IntKind.u64 (Go.Proofs.Ytfacddeaobogjaa.N.mkN k))), Go.IntKind.wrap Go.IntKind.i64 (Int.tmod (Go.IntKind.wrap Go.IntKind.u64 (Prod.snd (List.getD l (Int.toNat (↑a : Int)) ((0 : Int), (0 : Int))))) (Go.IntKind.wrap Go.IntKind.u64 (Go.Proofs.Ytfacddeaobogjaa.N.mkN k))))] ≤ Go.maxLen) ∧ Go.DF.okI64 ((↑a : Int) + (1 : Int)) ∧ ∃ (a' : Nat), (l = l ∧ Go.Proofs.Ytfacddeaobogjaa.N.mkN k = Go.Proofs.Ytfacddeaobogjaa.N.mkN k ∧ a + (1 : Nat) = a' ∧ (↑a : Int) + (1 : Int) = (↑a' : Int) ∧ List.take a (List.take a (Go.Proofs.Ytfacddeaobogjaa.N.mkE (Go.Proofs.Ytfacddeaobogjaa.N.mkN k) l)) ++ [(Go.IntKind.wrap Go.IntKind.i64 (Int.tmod (Go.IntKind.wrap Go.IntKind.u64 (Prod.fst (List.getD l (Int.toNat (↑a : Int)) ((0 : Int), (0 : Int))))) (Go.IntKind.wrap Go.IntKind.u64 (Go.Proofs.Ytfacddeaobogjaa.N.mkN k))), Go.IntKind.wrap Go.IntKind.i64 (Int.tmod (Go.IntKind.wrap Go.IntKind.u64 (Prod.snd (List.getD l (Int.toNat (↑a : Int)) ((0 : Int), (0 : Int))))) (Go.IntKind.wrap Go.IntKind.u64 (Go.Proofs.Ytfacddeaobogjaa.N.mkN k))))] = List.take a' (Go.Proofs.Ytfacddeaobogjaa.N.mkE (Go.Proofs.Ytfacddeaobogjaa.N.mkN k) l)) ∧ (a' ≤ List.length l ∧ a' ≤ (120 : Nat)) ∧ (120 : Nat) - a' < (120 : Nat) - a) ∧ ((Decidable.decide ((↑a : Int) < (↑(List.length l) : Int)) && Decidable.decide ((↑a : Int) < (120 : Int))) = Bool.false → Nat.le ((0 : Nat) + a) (List.length (List.take a (Go.Proofs.Ytfacddeaobogjaa.N.mkE (Go.Proofs.Ytfacddeaobogjaa.N.mkN k) l))) ∧ List.length (List.take a (List.take a (Go.Proofs.Ytfacddeaobogjaa.N.mkE (Go.Proofs.Ytfacddeaobogjaa.N.mkN k) l))) ≤ (1000000 : Nat) ∧ Nat.le ((0 : Nat) + a) (List.length (List.take a (Go.Proofs.Ytfacddeaobogjaa.N.mkE (Go.Proofs.Ytfacddeaobogjaa.N.mkN k) l))) ∧ List.length (List.take a (List.take a (Go.Proofs.Ytfacddeaobogjaa.N.mkE (Go.Proofs.Ytfacddeaobogjaa.N.mkN k) l))) ≤ (1000000 : Nat) ∧ (Go.Proofs.Ytfacddeaobogjaa.N.gDat (Go.Proofs.Ytfacddeaobogjaa.N.mkN k) (List.take a (List.take a (Go.Proofs.Ytfacddeaobogjaa.N.mkE (Go.Proofs.Ytfacddeaobogjaa.N.mkN k) l))) = Go.Proofs.Ytfacddeaobogjaa.N.gDat (Go.Proofs.Ytfacddeaobogjaa.N.mkN k) (Go.Proofs.Ytfacddeaobogjaa.N.mkE (Go.Proofs.Ytfacddeaobogjaa.N.mkN k) l) ∧ Go.Proofs.Ytfacddeaobogjaa.N.rN (Go.Proofs.Ytfacddeaobogjaa.N.mkN k) (List.take a (List.take a (Go.Proofs.Ytfacddeaobogjaa.N.mkE (Go.Proofs.Ytfacddeaobogjaa.N.mkN k) l))) = Go.Proofs.Ytfacddeaobogjaa.N.mkN k ∧ Go.Proofs.Ytfacddeaobogjaa.N.rE (Go.Proofs.Ytfacddeaobogjaa.N.mkN k) (List.take a (List.take a (Go.Proofs.Ytfacddeaobogjaa.N.mkE (Go.Proofs.Ytfacddeaobogjaa.N.mkN k) l))) = Go.Proofs.Ytfacddeaobogjaa.N.putAll (Go.Proofs.Ytfacddeaobogjaa.N.mkE (Go.Proofs.Ytfacddeaobogjaa.N.mkN k) l)) ∧ True)) _ (by kernel_rfl)
  have hmax : maxLen = 9223372036854775807 := rfl
  have hN := mkN_le k hk
  have he := mk_err k l hk
  have hw : IntKind.u64.wrap (mkN k) ≠ 0 := by rw [u64_id _ (by omega)]; omega
  have hkk : 1 + Int.tmod (IntKind.i64.wrap k) 30 = mkN k := by rw [i64_id k (by omega)]; rfl
  have hml : (mkE (mkN k) l).length = min 120 l.length := by unfold mkE; rw [List.length_map, List.length_take]
  refine ⟨by rw [hkk]; unfold okI64; omega, ⟨0, ⟨rfl, hkk, rfl, rfl, rfl⟩, Nat.zero_le _, Nat.zero_le _⟩, fun a ⟨ha, ha'⟩ => ⟨fun hlt => ?_, fun hge => ?_⟩⟩
  · rw [Bool.and_eq_true, decide_eq_true_iff, decide_eq_true_iff] at hlt
    have hlt1 : a < l.length := by omega
    have e : Int.toNat (a : Int) = a := by omega
    have hl : (List.take a (mkE (mkN k) l)).length = a := by rw [List.length_take]; omega
    simp only [e, List.length_singleton, hl]
    refine ⟨⟨by omega, by omega⟩, hw, ⟨by omega, by omega⟩, hw, by omega, ⟨by omega, by omega⟩, by unfold okI64; omega, a + 1, ⟨by trivial, by trivial, by trivial, by omega, ?_⟩, ⟨by omega, by omega⟩, by omega⟩
    rw [List.take_of_length_le (by rw [hl]; omega), List.take_add_one]
    have hg : (mkE (mkN k) l)[a]? = some (um (l.getD a (0, 0)).1 (mkN k), um (l.getD a (0, 0)).2 (mkN k)) := by
      unfold mkE
      rw [List.getElem?_map, List.getElem?_take, if_pos (by omega), List.getElem?_eq_getElem hlt1, List.getD_eq_getElem?_getD, List.getElem?_eq_getElem hlt1]; rfl
    rw [hg]; rfl
  · have hge : a = min 120 l.length := by
      rw [Bool.and_eq_false_iff, decide_eq_false_iff_not, decide_eq_false_iff_not] at hge
      omega
    have ht : List.take a (mkE (mkN k) l) = mkE (mkN k) l := List.take_of_length_le (by omega)
    rw [ht, ht]
    have r1 : rN (mkN k) (mkE (mkN k) l) = mkN k := by unfold rN; rw [if_pos he]
    have r2 : rE (mkN k) (mkE (mkN k) l) = putAll (mkE (mkN k) l) := by unfold rE; rw [if_pos he]
    rw [r1, r2]
    exact ⟨by show 0 + a ≤ _; omega, by omega, by show 0 + a ≤ _; omega, by omega, ⟨rfl, rfl, rfl⟩, trivial⟩
def revG (g : Option (Rows × Rows)) : Option (Rows × Rows) := match g with | none => none | some (A, B) => some (B, A)
theorem p34 (g : Option (Rows × Rows)) : Pure1 Try.prog 34 [.per gC g] (.per gC (revG g)) := by
  refine pure1_of_exec (ct := cx0 [] [] []) [] Try.func34 rfl rfl ?_
  apply @cast_goal ((Option.isNone g = Bool.true → Option.none = Go.Proofs.Ytfacddeaobogjaa.N.revG g ∧ True) ∧ (Option.isNone g = Bool.false → Option.isSome g = Bool.true ∧ Option.isSome g = Bool.true ∧ Option.some (Prod.snd (Option.getD g ([], [])), Prod.fst (Option.getD g ([], []))) = Go.Proofs.Ytfacddeaobogjaa.N.revG g ∧ True)) _ (by kernel_rfl)
  cases g with
  | none => exact ⟨fun _ => ⟨rfl, trivial⟩, fun h => absurd h (by simp)⟩
  | some x => exact ⟨fun h => absurd h (by simp), fun _ => ⟨rfl, rfl, rfl, trivial⟩⟩
def inv62 (a b : List Int) : LInv where
  α := Nat
  S := fun k => ⟨[(0, .per iC a), (1, .per iC b), (12, .int .i64 (.sym a.length)), (13, .int .i64 (.sym k))], [], 0⟩
  p := fun k => k ≤ a.length ∧ b.length = a.length ∧ ∀ j, j < k → a.getD j 0 = b.getD j 0
  m := fun k => a.length - k
theorem p62 (a b : List Int) (hn : a.length ≤ 1000000000) : Pure1 Try.prog 62 [.per iC a, .per iC b] (.bool (.sym (eqL a b))) := by
  refine pure1_of_exec (ct := cx0 [] [] []) [(4, inv62 a b)] Try.func62 rfl rfl ?_
  apply @cast_goal ((((↑(List.length a) : Int) != (↑(List.length b) : Int)) = Bool.true → Bool.false = Go.Proofs.Ytfacddeaobogjaa.N.eqL a b ∧ True) ∧ (((↑(List.length a) : Int) != (↑(List.length b) : Int)) = Bool.false → (∃ (a_2 : Nat), (a = a ∧ b = b ∧ (↑(List.length a) : Int) = (↑(List.length a) : Int) ∧ (0 : Int) = (↑a_2 : Int)) ∧ a_2 ≤ List.length a ∧ List.length b = List.length a ∧ ∀ (j : Nat), j < a_2 → List.getD a j (0 : Int) = List.getD b j (0 : Int)) ∧ ∀ (a_2 : Nat), (a_2 ≤ List.length a ∧ List.length b = List.length a ∧ ∀ (j : Nat), j < a_2 → List.getD a j (0 : Int) = List.getD b j (0 : Int)) → (Decidable.decide ((↑a_2 : Int) < (↑(List.length a) : Int)) = Bool.true → ((0 : Int) ≤ (↑a_2 : Int) ∧ (↑a_2 : Int) < (↑(List.length a) : Int)) ∧ ((0 : Int) ≤ (↑a_2 : Int) ∧ (↑a_2 : Int) < (↑(List.length b) : Int)) ∧ ((List.getD a (Int.toNat (↑a_2 : Int)) (0 : Int) != List.getD b (Int.toNat (↑a_2 : Int)) (0 : Int)) = Bool.true → Bool.false = Go.Proofs.Ytfacddeaobogjaa.N.eqL a b ∧ True) ∧ ((List.getD a (Int.toNat (↑a_2 : Int)) (0 : Int) != List.getD b (Int.toNat (↑a_2 : Int)) (0 : Int)) = Bool.false → Go.DF.okI64 ((↑a_2 : Int) + (1 : Int)) ∧ ∃ (a' : Nat), (a = a ∧ b = b ∧ (↑(List.length a) : Int) = (↑(List.length a) : Int) ∧ (↑a_2 : Int) + (1 : Int) = (↑a' : Int)) ∧ (a' ≤ List.length a ∧ List.length b = List.length a ∧ ∀ (j : Nat), j < a' → List.getD a j (0 : Int) = List.getD b j (0 : Int)) ∧ List.length a - a' < List.length a - a_2)) ∧ (Decidable.decide ((↑a_2 : Int) < (↑(List.length a) : Int)) = Bool.false → Bool.true = Go.Proofs.Ytfacddeaobogjaa.N.eqL a b ∧ True))) _ (by kernel_rfl)
  have ne : a.length ≠ b.length → false = eqL a b := fun h => by
    unfold eqL
    rw [eq_comm, decide_eq_false_iff_not]; intro e; rw [e] at h; exact h rfl
  refine ⟨fun h => ⟨ne (by have := bne_iff_ne.1 h; omega), trivial⟩, fun h => ?_⟩
  have hl : b.length = a.length := by have := bne_eq_false_iff_eq.1 h; omega
  refine ⟨⟨0, ⟨rfl, rfl, rfl, rfl⟩, Nat.zero_le _, hl, fun j hj => absurd hj (Nat.not_lt_zero j)⟩, fun k ⟨h1, h2, h3⟩ => ⟨fun hlt => ?_, fun hge => ⟨?_, trivial⟩⟩⟩
  · have hlt : k < a.length := by have := of_decide_eq_true hlt; omega
    have e : Int.toNat (k : Int) = k := by omega
    simp only [e]
    refine ⟨⟨by omega, by omega⟩, ⟨by omega, by omega⟩, fun hb => ⟨?_, trivial⟩, fun hb => ⟨by unfold okI64; omega, k + 1, ⟨trivial, trivial, trivial, by omega⟩, ⟨by omega, h2, fun j hj => ?_⟩, by omega⟩⟩
    · unfold eqL
      rw [eq_comm, decide_eq_false_iff_not]; intro e; rw [e] at hb; simp at hb
    · rcases Nat.lt_or_ge j k with h | h
      · exact h3 j h
      · have : j = k := by omega
        subst this
        exact bne_eq_false_iff_eq.1 hb
  · have hge : a.length ≤ k := by have := of_decide_eq_false hge; omega
    unfold eqL
    rw [eq_comm, decide_eq_true_iff]
    exact list_ext h2 fun j hj => h3 j (by omega)
def c62 : PureC Try.prog where
  f := 62
  sig := [.dat false iC, .dat false iC]
  per := false
  spec := fun x => .ob (List.length x.1 ≤ 1000000000) none (.leaf (.bool (.sym (eqL x.1 x.2.1))))
  body := hasBody_of Try.func62 (by kernel_rfl) (by kernel_rfl)
  ok := fun x d h => by
    obtain ⟨h1, h⟩ := h
    obtain rfl : d = _ := h
    exact p62 x.1 x.2.1 h1
noncomputable def body60 : List (Body Try.prog) := [⟨61, Try.f61, Try.func61, by kernel_rfl, by kernel_rfl, false⟩]
def eqR (a b : Rows) : Bool := decide (a = b)
def inv60 (a b : Rows) : LInv where
  α := Nat
  S := fun k => ⟨[(1, .per rC b), (2, .func 61 []), (15, .per rC a), (16, .int .i64 (.sym a.length)), (17, .int .i64 (.sym k))], [], 0⟩
  p := fun k => k ≤ a.length ∧ b.length = a.length ∧ ∀ j, j < k → a.getD j [] = b.getD j []
  m := fun k => a.length - k
theorem p60 (a b : Rows) (hn : a.length ≤ 1000000000) (hr : ∀ i, (a.getD i []).length ≤ 1000000) : Pure1 Try.prog 60 [.per rC a, .per rC b, .func 61 []] (.bool (.sym (eqR a b))) := by
  refine pure1_of_exec (ct := (cx0 [c62] [] []).deep body60 100 20) [(4, inv60 a b)] Try.func60 rfl rfl ?_
  apply @cast_goal ((((↑(List.length a) : Int) != (↑(List.length b) : Int)) = Bool.true → Bool.false = Go.Proofs.Ytfacddeaobogjaa.N.eqR a b ∧ True) ∧ (((↑(List.length a) : Int) != (↑(List.length b) : Int)) = Bool.false → (∃ (a_2 : Nat), (b = b ∧ a = a ∧ (↑(List.length a) : Int) = (↑(List.length a) : Int) ∧ (0 : Int) = (↑a_2 : Int)) ∧ a_2 ≤ List.length a ∧ List.length b = List.length a ∧ ∀ (j : Nat), j < a_2 → List.getD a j [] = List.getD b j []) ∧ ∀ (a_2 : Nat), (a_2 ≤ List.length a ∧ List.length b = List.length a ∧ ∀ (j : Nat), j < a_2 → List.getD a j [] = List.getD b j []) → (Decidable.decide ((↑a_2 : Int) < (↑(List.length a) : Int)) = Bool.true → ((0 : Int) ≤ (↑a_2 : Int) ∧ (↑a_2 : Int) < (↑(List.length a) : Int)) ∧ ((0 : Int) ≤ (↑a_2 : Int) ∧ (↑a_2 : Int) < (↑(List.length b) : Int)) ∧ List.length (List.getD a (Int.toNat (↑a_2 : Int)) []) ≤ (1000000000 : Nat) ∧ ((!Go.Proofs.Ytfacddeaobogjaa.N.eqL (List.getD a (Int.toNat (↑a_2 : Int)) []) (List.getD b (Int.toNat (↑a_2 : Int)) [])) = Bool.true → Bool.false = Go.Proofs.Ytfacddeaobogjaa.N.eqR a b ∧ True) ∧ ((!Go.Proofs.Ytfacddeaobogjaa.N.eqL (List.getD a (Int.toNat (↑a_2 : Int)) []) (List.getD b (Int.toNat (↑a_2 : Int)) [])) = Bool.false → Go.DF.okI64 ((↑a_2 : Int) + (1 : Int)) ∧ ∃ (a' : Nat), (b = b ∧ a = a ∧ (↑(List.length a) : Int) = (↑(List.length a) : Int) ∧ (↑a_2 : Int) + (1 : Int) = (↑a' : Int)) ∧ (a' ≤ List.length a ∧ List.length b = List.length a ∧ ∀ (j : Nat), j < a' → List.getD a j [] = List.getD b j []) ∧ List.length a - a' < List.length a - a_2)) ∧ (Decidable.decide ((↑a_2 : Int) < (↑(List.length a) : Int)) = Bool.false → Bool.true = Go.Proofs.Ytfacddeaobogjaa.N.eqR a b ∧ True))) _ (by kernel_rfl)
  have ne : a.length ≠ b.length → false = eqR a b := fun h => by
    unfold eqR
    rw [eq_comm, decide_eq_false_iff_not]; intro e; rw [e] at h; exact h rfl
  refine ⟨fun h => ⟨ne (by have := bne_iff_ne.1 h; omega), trivial⟩, fun h => ?_⟩
  have hl : b.length = a.length := by have := bne_eq_false_iff_eq.1 h; omega
  refine ⟨⟨0, ⟨rfl, rfl, rfl, rfl⟩, Nat.zero_le _, hl, fun j hj => absurd hj (Nat.not_lt_zero j)⟩, fun k ⟨h1, h2, h3⟩ => ⟨fun hlt => ?_, fun hge => ⟨?_, trivial⟩⟩⟩
  · have hlt : k < a.length := by have := of_decide_eq_true hlt; omega
    have e : Int.toNat (k : Int) = k := by omega
    simp only [e]
    refine ⟨⟨by omega, by omega⟩, ⟨by omega, by omega⟩, by have := hr k; omega, fun hb => ⟨?_, trivial⟩, fun hb => ⟨by unfold okI64; omega, k + 1, ⟨trivial, trivial, trivial, by omega⟩, ⟨by omega, h2, fun j hj => ?_⟩, by omega⟩⟩
    · unfold eqR
      rw [eq_comm, decide_eq_false_iff_not]; intro e; rw [e] at hb; simp [eqL] at hb
    · rcases Nat.lt_or_ge j k with h | h
      · exact h3 j h
      · have : j = k := by omega
        subst this
        exact of_decide_eq_true (by simpa [eqL] using hb)
  · have hge : a.length ≤ k := by have := of_decide_eq_false hge; omega
    unfold eqR
    rw [eq_comm, decide_eq_true_iff]
    exact list_ext h2 fun j hj => h3 j (by omega)
def c60 : PureC Try.prog where
  f := 60
  sig := [.dat false rC, .dat false rC, .fn 61 []]
  per := false
  spec := fun x => .ob (List.length x.1 ≤ 1000000000 ∧ ∀ i, (List.getD (α := List Int) x.1 i []).length ≤ 1000000) none (.leaf (.bool (.sym (eqR x.1 x.2.1))))
  body := hasBody_of Try.func60 (by kernel_rfl) (by kernel_rfl)
  ok := fun x d h => by
    obtain ⟨h1, h⟩ := h
    obtain rfl : d = _ := h
    exact p60 x.1 x.2.1 h1.1 h1.2
def eqG (g o : Option (Rows × Rows)) : Bool := match g, o with | none, none => true | some (A, _), some (B, _) => eqR A B | _, _ => false
theorem p36 (g o : Option (Rows × Rows)) (h : okA g) : Pure1 Try.prog 36 [.per gC g, .per gC o] (.bool (.sym (eqG g o))) := by
  refine pure1_of_exec (ct := cx0 [c60] [] []) [] Try.func36 rfl rfl ?_
  apply @cast_goal (((Option.isNone g || Option.isNone o) = Bool.true → (Option.isNone g = Bool.true ∨ Option.isNone o = Bool.true) ∧ (Option.isNone g && Option.isNone o) = Go.Proofs.Ytfacddeaobogjaa.N.eqG g o ∧ True) ∧ ((Option.isNone g || Option.isNone o) = Bool.false → Option.isSome g = Bool.true ∧ Option.isSome o = Bool.true ∧ (List.length (Prod.fst (Option.getD g ([], []))) ≤ (1000000000 : Nat) ∧ ∀ (i : Nat), List.length (List.getD (Prod.fst (Option.getD g ([], []))) i []) ≤ (1000000 : Nat)) ∧ Go.Proofs.Ytfacddeaobogjaa.N.eqR (Prod.fst (Option.getD g ([], []))) (Prod.fst (Option.getD o ([], []))) = Go.Proofs.Ytfacddeaobogjaa.N.eqG g o ∧ True)) _ (by kernel_rfl)
  match g, o, h with
  | none, none, _ => exact ⟨fun _ => ⟨.inl rfl, rfl, trivial⟩, fun h => absurd h (by simp)⟩
  | none, some _, _ => exact ⟨fun _ => ⟨.inl rfl, rfl, trivial⟩, fun h => absurd h (by simp)⟩
  | some _, none, _ => exact ⟨fun _ => ⟨.inr rfl, rfl, trivial⟩, fun h => absurd h (by simp)⟩
  | some (A, B), some (C, D), ⟨h1, h2, h3, h4⟩ => exact ⟨fun h => absurd h (by simp), fun _ => ⟨rfl, rfl, ⟨by show A.length ≤ _; omega, h3⟩, rfl, trivial⟩⟩
def isU8 (k : Int) : Prop := 0 ≤ k ∧ k < 256
def c12 : PureC Try.prog where
  f := 12
  sig := [.dat false (.int .u8), .dat false (.sl eC)]
  per := true
  spec := fun x => .ob (isU8 x.1) none (.leaf (.tup [.per gC (gDat (mkN x.1) (mkE (mkN x.1) x.2.1)), .agg [.int .i64 (.sym (mkN x.1)), .per (.sl eC) (putAll (mkE (mkN x.1) x.2.1))]]))
  body := hasBody_of Try.func12 (by kernel_rfl) (by kernel_rfl)
  ok := fun x d h => by
    obtain ⟨h1, h⟩ := h
    obtain rfl : d = _ := h
    exact p12 x.1 x.2.1 h1
def c34 : PureC Try.prog where
  f := 34
  sig := [.dat false gC]
  per := true
  spec := fun x => .leaf (.per gC (revG x.1))
  body := hasBody_of Try.func34 (by kernel_rfl) (by kernel_rfl)
  ok := fun x d h => by obtain rfl : d = _ := h; exact p34 x.1
def c36 : PureC Try.prog where
  f := 36
  sig := [.dat false gC, .dat false gC]
  per := false
  spec := fun x => .ob (okA x.1) none (.leaf (.bool (.sym (eqG x.1 x.2.1))))
  body := hasBody_of Try.func36 (by kernel_rfl) (by kernel_rfl)
  ok := fun x d h => by
    obtain ⟨h1, h⟩ := h
    obtain rfl : d = _ := h
    exact p36 x.1 x.2.1 h1
end Go.Proofs.Ytfacddeaobogjaa.N
