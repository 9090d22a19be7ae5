import Derived.Test.YtfacddeaobogjaaF12
import Derived.Test.YtfacddeaobogjaaG15
set_option linter.unusedVariables false
set_option linter.unusedSimpArgs false
set_option linter.unnecessarySimpa false
set_option linter.unusedVariables false
set_option linter.unusedSimpArgs false
/- slices.Repeat, slices.IndexFunc with the closure of Path. -/
namespace Go.Proofs.Ytfacddeaobogjaa.N
open Go.DF
set_option maxRecDepth 100000
noncomputable def body63 : List (Body Try.prog) := [⟨74, Try.f74, Try.func74, by kernel_rfl, by kernel_rfl, false⟩, ⟨73, Try.f73, Try.func73, by kernel_rfl, by kernel_rfl, false⟩]
theorem p63 (y : Int) (hy : 0 ≤ y ∧ y ≤ 64) : Pure1 Try.prog 63 [.int .u64 (.sym 1), .int .u64 (.sym y)] (.tup [.int .u64 (.lit 0), .int .u64 (.sym y)]) := by
  apply @pure1_of_exec _ Try.prog ((cx0 [] [] []).deep body63 100 20) 63 Try.f63 [.int .u64 (.sym 1), .int .u64 (.sym y)] (.tup [.int .u64 (.lit 0), .int .u64 (.sym y)]) [] Try.func63 rfl rfl
  apply @cast_goal ((Go.IntKind.wrap Go.IntKind.u64 (Go.IntKind.wrap Go.IntKind.u64 (Go.IntKind.wrap Go.IntKind.u64 (Go.DF.shrI Go.IntKind.u64 (1 : Int) (32 : Int) * Go.DF.shrI Go.IntKind.u64 y (32 : Int)) + Go.DF.shrI Go.IntKind.u64 (Go.IntKind.wrap Go.IntKind.u64 (Go.IntKind.wrap Go.IntKind.u64 (Go.DF.shrI Go.IntKind.u64 (1 : Int) (32 : Int) * Go.DF.bitsI Go.BinOp.and Go.IntKind.u64 y (4294967295 : Int)) + Go.DF.shrI Go.IntKind.u64 (Go.IntKind.wrap Go.IntKind.u64 (Go.DF.bitsI Go.BinOp.and Go.IntKind.u64 (1 : Int) (4294967295 : Int) * Go.DF.bitsI Go.BinOp.and Go.IntKind.u64 y (4294967295 : Int))) (32 : Int))) (32 : Int)) + Go.DF.shrI Go.IntKind.u64 (Go.IntKind.wrap Go.IntKind.u64 (Go.DF.bitsI Go.BinOp.and Go.IntKind.u64 (Go.IntKind.wrap Go.IntKind.u64 (Go.IntKind.wrap Go.IntKind.u64 (Go.DF.shrI Go.IntKind.u64 (1 : Int) (32 : Int) * Go.DF.bitsI Go.BinOp.and Go.IntKind.u64 y (4294967295 : Int)) + Go.DF.shrI Go.IntKind.u64 (Go.IntKind.wrap Go.IntKind.u64 (Go.DF.bitsI Go.BinOp.and Go.IntKind.u64 (1 : Int) (4294967295 : Int) * Go.DF.bitsI Go.BinOp.and Go.IntKind.u64 y (4294967295 : Int))) (32 : Int))) (4294967295 : Int) + Go.IntKind.wrap Go.IntKind.u64 (Go.DF.bitsI Go.BinOp.and Go.IntKind.u64 (1 : Int) (4294967295 : Int) * Go.DF.shrI Go.IntKind.u64 y (32 : Int)))) (32 : Int)) = (0 : Int) ∧ Go.IntKind.wrap Go.IntKind.u64 ((1 : Int) * y) = y) ∧ True) _ (by kernel_rfl)
  obtain ⟨m, rfl⟩ : ∃ m : Fin 65, y = ((m.val : Nat) : Int) := ⟨⟨y.toNat, by omega⟩, by simp only; omega⟩
  clear hy
  revert m
  decide +kernel
def isOne (x y : Int) : Prop := x = 1 ∧ 0 ≤ y ∧ y ≤ 64
def c63 : PureC Try.prog where
  f := 63
  sig := [.dat false (.int .u64), .dat false (.int .u64)]
  per := false
  spec := fun x => .ob (isOne x.1 x.2.1) none (.leaf (.tup [.int .u64 (.lit 0), .int .u64 (.sym x.2.1)]))
  body := hasBody_of Try.func63 (by kernel_rfl) (by kernel_rfl)
  ok := fun x d h => by
    obtain ⟨h1, h⟩ := h
    obtain rfl : d = _ := h
    obtain ⟨a, b, u⟩ := x
    obtain ⟨h1, h2⟩ := h1
    simp only at h1 h2
    subst h1
    exact p63 b h2
def rep38 (n k : Nat) : List Int := List.replicate k (-1) ++ List.replicate (n - k) 0
def hp38 : Hp := [(0, (false, .cells 3 [.int .i64 (.lit (-1))]))]
def hp38' (n : Nat) : Hp := [(0, (false, .cells 3 [.int .i64 (.lit (-1))])), (1, (false, .arr 3 (.int .i64) (List.replicate n (-1 : Int))))]
def inv38 (n : Nat) : LInv where
  α := Nat
  S := fun k => ⟨[(7, .slice ⟨1, .lit 0, 1, 0⟩ (.sym n)), (8, .int .i64 (.sym k))], [(0, (false, .cells 3 [.int .i64 (.lit (-1))])), (1, (false, .arr 3 (.int .i64) (rep38 n k)))], 2⟩
  p := fun k => 1 ≤ k ∧ k ≤ n
  m := fun k => n - k
def out38 (n : Nat) (d : DV) (st : St) : Prop := subS 1 ⟨[(0, d)], st.hp, st.nx⟩ ⟨[(0, .slice ⟨1, .lit 0, 1, 0⟩ (.sym n))], hp38' n, 2⟩ True
theorem rep38_len {n k : Nat} (h : k ≤ n) : (rep38 n k).length = n := by simp [rep38]; omega
theorem rep38_take (n k : Nat) : (rep38 n k).take k = List.replicate k (-1) := by
  unfold rep38
  rw [List.take_append_of_le_length (by simp), List.take_of_length_le (by simp)]
theorem rep38_step {n k c : Nat} (hc : c ≤ k) (h : k + c ≤ n) : List.replicate k (-1 : Int) ++ (List.take c (List.replicate k (-1 : Int)) ++ List.drop (k + c) (rep38 n k)) = rep38 n (k + c) := by
  unfold rep38
  rw [List.take_replicate, List.drop_append, List.length_replicate, List.drop_of_length_le (by simp), List.nil_append, List.drop_replicate, ← List.append_assoc, List.replicate_append_replicate]
  congr 2 <;> omega
set_option maxHeartbeats 4000000 in
theorem q38 (n : Int) (hn : 1 ≤ n ∧ n ≤ 64) : DCall Try.prog 38 [.slice ⟨0, .lit 0, 1, 0⟩ (.lit 1), .int .i64 (.sym n)] hp38 1 (out38 n.toNat) := by
  apply @calls_of_exec _ Try.prog (cx0 [c63] [] []) [(8, inv38 n.toNat)] 38 Try.f38 [.slice ⟨0, .lit 0, 1, 0⟩ (.lit 1), .int .i64 (.sym n)] hp38 1 (out38 n.toNat) Try.func38 _ (of_decide_eq_true rfl)
  apply @cast_goal ((Decidable.decide (n < (0 : Int)) = Bool.true → False) ∧ (Decidable.decide (n < (0 : Int)) = Bool.false → Go.Proofs.Ytfacddeaobogjaa.N.isOne (Go.IntKind.wrap Go.IntKind.u64 (↑(1 : Nat) : Int)) (Go.IntKind.wrap Go.IntKind.u64 n) ∧ (Decidable.decide ((9223372036854775807 : Int) < Go.IntKind.wrap Go.IntKind.u64 n) = Bool.true → False) ∧ (Decidable.decide ((9223372036854775807 : Int) < Go.IntKind.wrap Go.IntKind.u64 n) = Bool.false → ((0 : Int) ≤ Go.IntKind.wrap Go.IntKind.i64 (Go.IntKind.wrap Go.IntKind.u64 n) ∧ Go.IntKind.wrap Go.IntKind.i64 (Go.IntKind.wrap Go.IntKind.u64 n) ≤ Go.IntKind.wrap Go.IntKind.i64 (Go.IntKind.wrap Go.IntKind.u64 n) ∧ Go.IntKind.wrap Go.IntKind.i64 (Go.IntKind.wrap Go.IntKind.u64 n) * (↑(8 : Nat) : Int) ≤ (140737488355328 : Int) ∧ Go.IntKind.wrap Go.IntKind.i64 (Go.IntKind.wrap Go.IntKind.u64 n) ≤ (9223372036854775807 : Int)) ∧ (0 : Nat) + Int.toNat (Go.IntKind.wrap Go.IntKind.i64 (Go.IntKind.wrap Go.IntKind.u64 n)) ≤ List.length (List.replicate (Int.toNat (Go.IntKind.wrap Go.IntKind.i64 (Go.IntKind.wrap Go.IntKind.u64 n))) (0 : Int)) ∧ (∃ (a : Nat), (Int.toNat (Go.IntKind.wrap Go.IntKind.i64 (Go.IntKind.wrap Go.IntKind.u64 n)) = Int.toNat n ∧ (↑(Nat.min (Int.toNat (Go.IntKind.wrap Go.IntKind.i64 (Go.IntKind.wrap Go.IntKind.u64 n))) (List.length [(-1 : Int)])) : Int) = (↑a : Int) ∧ List.take (0 : Nat) (List.replicate (Int.toNat (Go.IntKind.wrap Go.IntKind.i64 (Go.IntKind.wrap Go.IntKind.u64 n))) (0 : Int)) ++ (List.take (Nat.min (Int.toNat (Go.IntKind.wrap Go.IntKind.i64 (Go.IntKind.wrap Go.IntKind.u64 n))) (List.length [(-1 : Int)])) [(-1 : Int)] ++ List.drop ((0 : Nat) + Nat.min (Int.toNat (Go.IntKind.wrap Go.IntKind.i64 (Go.IntKind.wrap Go.IntKind.u64 n))) (List.length [(-1 : Int)])) (List.replicate (Int.toNat (Go.IntKind.wrap Go.IntKind.i64 (Go.IntKind.wrap Go.IntKind.u64 n))) (0 : Int))) = Go.Proofs.Ytfacddeaobogjaa.N.rep38 (Int.toNat n) a) ∧ (1 : Nat) ≤ a ∧ a ≤ Int.toNat n) ∧ ∀ (a : Nat), (1 : Nat) ≤ a ∧ a ≤ Int.toNat n → (Decidable.decide ((↑a : Int) < (↑(Int.toNat n) : Int)) = Bool.true → ((0 : Int) ≤ (↑a : Int) ∧ (↑a : Int) ≤ (↑(Int.toNat n) : Int) ∧ (↑(Int.toNat n) : Int) ≤ (↑(Int.toNat n) : Int)) ∧ ((0 : Int) ≤ (0 : Int) ∧ (0 : Int) ≤ (↑a : Int) ∧ (↑a : Int) ≤ (↑(Int.toNat n) : Int)) ∧ (0 : Nat) + Int.toNat (↑a : Int) ≤ List.length (Go.Proofs.Ytfacddeaobogjaa.N.rep38 (Int.toNat n) a) ∧ Int.toNat (↑a : Int) + (Int.toNat (↑(Int.toNat n) : Int) - Int.toNat (↑a : Int)) ≤ List.length (Go.Proofs.Ytfacddeaobogjaa.N.rep38 (Int.toNat n) a) ∧ Go.DF.okI64 ((↑a : Int) + (↑(Nat.min (Int.toNat (↑(Int.toNat n) : Int) - Int.toNat (↑a : Int)) (List.length (List.take (Int.toNat (↑a : Int)) (Go.Proofs.Ytfacddeaobogjaa.N.rep38 (Int.toNat n) a)))) : Int)) ∧ ∃ (a' : Nat), (Int.toNat n = Int.toNat n ∧ (↑a : Int) + (↑(Nat.min (Int.toNat (↑(Int.toNat n) : Int) - Int.toNat (↑a : Int)) (List.length (List.take (Int.toNat (↑a : Int)) (Go.Proofs.Ytfacddeaobogjaa.N.rep38 (Int.toNat n) a)))) : Int) = (↑a' : Int) ∧ List.take (Int.toNat (↑a : Int)) (Go.Proofs.Ytfacddeaobogjaa.N.rep38 (Int.toNat n) a) ++ (List.take (Nat.min (Int.toNat (↑(Int.toNat n) : Int) - Int.toNat (↑a : Int)) (List.length (List.take (Int.toNat (↑a : Int)) (Go.Proofs.Ytfacddeaobogjaa.N.rep38 (Int.toNat n) a)))) (List.take (Int.toNat (↑a : Int)) (Go.Proofs.Ytfacddeaobogjaa.N.rep38 (Int.toNat n) a)) ++ List.drop (Int.toNat (↑a : Int) + Nat.min (Int.toNat (↑(Int.toNat n) : Int) - Int.toNat (↑a : Int)) (List.length (List.take (Int.toNat (↑a : Int)) (Go.Proofs.Ytfacddeaobogjaa.N.rep38 (Int.toNat n) a)))) (Go.Proofs.Ytfacddeaobogjaa.N.rep38 (Int.toNat n) a)) = Go.Proofs.Ytfacddeaobogjaa.N.rep38 (Int.toNat n) a') ∧ ((1 : Nat) ≤ a' ∧ a' ≤ Int.toNat n) ∧ Int.toNat n - a' < Int.toNat n - a) ∧ (Decidable.decide ((↑a : Int) < (↑(Int.toNat n) : Int)) = Bool.false → (Int.toNat n = Int.toNat n ∧ Go.Proofs.Ytfacddeaobogjaa.N.rep38 (Int.toNat n) a = List.replicate (Int.toNat n) (-1 : Int)) ∧ True)))) _ (by kernel_rfl)
  have hmax : maxLen = 9223372036854775807 := rfl
  obtain ⟨m, rfl⟩ : ∃ m : Nat, n = (m : Int) := ⟨n.toNat, by omega⟩
  have hm : 1 ≤ m ∧ m ≤ 64 := by omega
  rw [u64_id ((1 : Nat) : Int) (by decide), u64_id (m : Int) (by omega), i64_id (m : Int) (by omega)]
  have em : Int.toNat (m : Int) = m := by omega
  simp only [em]
  have hmin : Nat.min m ([-1] : List Int).length = 1 := by show min m 1 = 1; omega
  rw [hmin]
  refine ⟨fun h => by have := of_decide_eq_true h; omega, fun _ => ⟨⟨rfl, by omega⟩, fun h => by have := of_decide_eq_true h; omega, fun _ => ⟨by omega, by rw [List.length_replicate]; omega, ⟨1, ⟨by trivial, by trivial, ?_⟩, by omega⟩, fun a ⟨ha1, ha2⟩ => ⟨fun hlt => ?_, fun hge => ?_⟩⟩⟩⟩
  · simp [rep38]
  · have hlt : a < m := by have := of_decide_eq_true hlt; omega
    have ea : Int.toNat (a : Int) = a := by omega
    have hl := rep38_len ha2
    have hc : Nat.min (m - a) (List.replicate a (-1 : Int)).length = min (m - a) a := by rw [List.length_replicate]
    simp only [ea, rep38_take, hc]
    refine ⟨by omega, by omega, by omega, by omega, by unfold okI64; omega, a + min (m - a) a, ⟨by trivial, by omega, rep38_step (by omega) (by omega)⟩, by omega, by omega⟩
  · have hge : a = m := by have := of_decide_eq_false hge; omega
    subst hge
    refine ⟨⟨by trivial, ?_⟩, trivial⟩
    unfold rep38; rw [Nat.sub_self]; simp
def c38 : CanC Try.prog where
  f := 38
  α := Int
  args := fun x => [.slice ⟨0, .lit 0, 1, 0⟩ (.lit 1), .int .i64 (.sym x)]
  hp := fun _ => hp38
  n := 1
  infer := fun l _ => match l with | [_, .int .i64 n] => some n.v | _ => none
  pre := fun x => 1 ≤ x ∧ x ≤ 64
  out := fun x => .leaf (.slice ⟨1, .lit 0, 1, 0⟩ (.sym x.toNat), hp38' x.toNat, 2)
  body := hasBody_of Try.func38 (by kernel_rfl) (by kernel_rfl)
  ok := fun x hx => q38 x hx
def hp39 (F : List Int) (n : Int) : Hp := [(0, (false, .cells 30 [.slice ⟨2, .lit 0, 1, 0⟩ (.sym F.length)])), (1, (false, .cells 3 [.int .i64 (.sym n)])), (2, (false, .arr 3 (.int .i64) F))]
noncomputable def body39 : List (Body Try.prog) := [⟨40, Try.f40, Try.func40, by kernel_rfl, by kernel_rfl, false⟩]
def inv39 (L F : List Int) (n : Int) : LInv where
  α := Nat
  S := fun k => ⟨[(0, .per iC L), (1, .func 40 [.ptr ⟨0, .lit 0, 0, 0⟩, .ptr ⟨1, .lit 0, 0, 0⟩]), (7, .int .i64 (.sym L.length)), (8, .int .i64 (.sym k))], hp39 F n, 3⟩
  p := fun k => k < L.length ∧ ∀ j, j < k → F.getD (L.getD j 0).toNat 0 ≠ F.getD n.toNat 0 - 1
  m := fun k => L.length - k
def idx39 (L F : List Int) (n : Int) : Nat := L.findIdx (fun x => F.getD x.toNat 0 == F.getD n.toNat 0 - 1)
def ok39 (L F : List Int) (n : Int) : Prop := L.length ≤ 1000000 ∧ (∀ x ∈ L, 0 ≤ x ∧ x < (F.length : Int)) ∧ (0 ≤ n ∧ n < (F.length : Int)) ∧ (0 ≤ F.getD n.toNat 0 ∧ F.getD n.toNat 0 ≤ 1000000) ∧ ∃ m, m < L.length ∧ F.getD (L.getD m 0).toNat 0 = F.getD n.toNat 0 - 1
def out39 (L F : List Int) (n : Int) (d : DV) (st : St) : Prop := subS 3 ⟨[(0, d)], st.hp, st.nx⟩ ⟨[(0, .int .i64 (.sym (idx39 L F n)))], hp39 F n, 3⟩ True
set_option maxHeartbeats 4000000 in
theorem q39 (L F : List Int) (n : Int) (h : ok39 L F n) : DCall Try.prog 39 [.per iC L, .func 40 [.ptr ⟨0, .lit 0, 0, 0⟩, .ptr ⟨1, .lit 0, 0, 0⟩]] (hp39 F n) 3 (out39 L F n) := by
  apply @calls_of_exec _ Try.prog ((cx0 [] [] []).deep body39 100 20) [(2, inv39 L F n)] 39 Try.f39 [.per iC L, .func 40 [.ptr ⟨0, .lit 0, 0, 0⟩, .ptr ⟨1, .lit 0, 0, 0⟩]] (hp39 F n) 3 (out39 L F n) Try.func39 _ (of_decide_eq_true rfl)
  apply @cast_goal ((∃ (a : Nat), (L = L ∧ (↑(List.length L) : Int) = (↑(List.length L) : Int) ∧ (0 : Int) = (↑a : Int) ∧ List.length F = List.length F ∧ n = n ∧ F = F) ∧ a < List.length L ∧ ∀ (j : Nat), j < a → List.getD F (Int.toNat (List.getD L j (0 : Int))) (0 : Int) ≠ List.getD F (Int.toNat n) (0 : Int) - (1 : Int)) ∧ ∀ (a : Nat), (a < List.length L ∧ ∀ (j : Nat), j < a → List.getD F (Int.toNat (List.getD L j (0 : Int))) (0 : Int) ≠ List.getD F (Int.toNat n) (0 : Int) - (1 : Int)) → (Decidable.decide ((↑a : Int) < (↑(List.length L) : Int)) = Bool.true → ((0 : Int) ≤ (↑a : Int) ∧ (↑a : Int) < (↑(List.length L) : Int)) ∧ ((0 : Int) ≤ List.getD L (Int.toNat (↑a : Int)) (0 : Int) ∧ List.getD L (Int.toNat (↑a : Int)) (0 : Int) < (↑(List.length F) : Int)) ∧ Int.toNat (List.getD L (Int.toNat (↑a : Int)) (0 : Int)) < List.length F ∧ ((0 : Int) ≤ n ∧ n < (↑(List.length F) : Int)) ∧ Int.toNat n < List.length F ∧ Go.DF.okI64 (List.getD F (Int.toNat n) (0 : Int) - (1 : Int)) ∧ ((List.getD F (Int.toNat (List.getD L (Int.toNat (↑a : Int)) (0 : Int))) (0 : Int) == List.getD F (Int.toNat n) (0 : Int) - (1 : Int)) = Bool.true → ((↑a : Int) = (↑(Go.Proofs.Ytfacddeaobogjaa.N.idx39 L F n) : Int) ∧ List.length F = List.length F ∧ n = n ∧ F = F) ∧ True) ∧ ((List.getD F (Int.toNat (List.getD L (Int.toNat (↑a : Int)) (0 : Int))) (0 : Int) == List.getD F (Int.toNat n) (0 : Int) - (1 : Int)) = Bool.false → Go.DF.okI64 ((↑a : Int) + (1 : Int)) ∧ ∃ (a' : Nat), (L = L ∧ (↑(List.length L) : Int) = (↑(List.length L) : Int) ∧ (↑a : Int) + (1 : Int) = (↑a' : Int) ∧ List.length F = List.length F ∧ n = n ∧ F = F) ∧ (a' < List.length L ∧ ∀ (j : Nat), j < a' → List.getD F (Int.toNat (List.getD L j (0 : Int))) (0 : Int) ≠ List.getD F (Int.toNat n) (0 : Int) - (1 : Int)) ∧ List.length L - a' < List.length L - a)) ∧ (Decidable.decide ((↑a : Int) < (↑(List.length L) : Int)) = Bool.false → ((-1 : Int) = (↑(Go.Proofs.Ytfacddeaobogjaa.N.idx39 L F n) : Int) ∧ List.length F = List.length F ∧ n = n ∧ F = F) ∧ True)) _ (by kernel_rfl)
  have hmax : maxLen = 9223372036854775807 := rfl
  obtain ⟨hL, hv, hn, hFn, m, hm1, hm2⟩ := h
  refine ⟨⟨0, ⟨rfl, rfl, rfl, rfl, rfl, rfl⟩, by omega, fun j hj => absurd hj (Nat.not_lt_zero j)⟩, fun a ⟨p1, p2⟩ => ⟨fun _ => ?_, fun hge => by have := of_decide_eq_false hge; omega⟩⟩
  have ea : Int.toNat (a : Int) = a := by omega
  rw [ea]
  have hmem : L.getD a 0 ∈ L := by rw [List.getD_eq_getElem?_getD, List.getElem?_eq_getElem p1]; exact List.getElem_mem p1
  have hva := hv _ hmem
  have hg : ∀ j, (hj : j < L.length) → L[j] = L.getD j 0 := fun j hj => by rw [List.getD_eq_getElem?_getD, List.getElem?_eq_getElem hj]; rfl
  refine ⟨⟨by omega, by omega⟩, hva, by omega, hn, by omega, by unfold okI64; omega, fun hb => ⟨⟨?_, by trivial, by trivial, by trivial⟩, trivial⟩, fun hb => ⟨by unfold okI64; omega, a + 1, ⟨by trivial, by trivial, by omega, by trivial, by trivial, by trivial⟩, ⟨?_, fun j hj => ?_⟩, by omega⟩⟩
  · have : idx39 L F n = a := by
      unfold idx39
      rw [List.findIdx_eq p1]
      refine ⟨by rw [hg a p1]; exact hb, fun j hj => ?_⟩
      rw [hg j (by omega)]
      exact beq_eq_false_iff_ne.2 (p2 j hj)
    rw [this]
  · have hb := beq_eq_false_iff_ne.1 hb
    rcases Nat.lt_trichotomy a m with h | h | h
    · omega
    · rw [h] at hb; exact absurd hm2 hb
    · exact absurd hm2 (p2 m h)
  · rcases Nat.lt_or_ge j a with h | h
    · exact p2 j h
    · have : j = a := by omega
      rw [this]; exact beq_eq_false_iff_ne.1 hb
def infer39 : List DV → Hp → Option (List Int × List Int × Int)
  | [d, .func _ [.ptr p, .ptr q]], hp => match cod hp fuelC iC [d], DF.look hp p.id, DF.look hp q.id with
    | some (L, _), some (_, .cells _ [.slice r _]), some (_, .cells _ [.int .i64 n]) => match DF.look hp r.id with
      | some (_, .arr _ (.int .i64) F) => some (L, F, n.v)
      | _ => none
    | _, _, _ => none
  | _, _ => none
def c39 : CanC Try.prog where
  f := 39
  α := List Int × List Int × Int
  args := fun x => [.per iC x.1, .func 40 [.ptr ⟨0, .lit 0, 0, 0⟩, .ptr ⟨1, .lit 0, 0, 0⟩]]
  hp := fun x => hp39 x.2.1 x.2.2
  n := 3
  infer := infer39
  pre := fun x => ok39 x.1 x.2.1 x.2.2 ∧ True
  out := fun x => .leaf (.int .i64 (.sym (idx39 x.1 x.2.1 x.2.2)), hp39 x.2.1 x.2.2, 3)
  body := hasBody_of Try.func39 (by kernel_rfl) (by kernel_rfl)
  ok := fun x hx => q39 x.1 x.2.1 x.2.2 hx.1
end Go.Proofs.Ytfacddeaobogjaa.N
