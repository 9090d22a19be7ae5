import Derived.Test.YtfacddeaobogjaaF12
import Derived.Test.YtfacddeaobogjaaG17
set_option linter.unusedVariables false
set_option linter.unusedSimpArgs false
set_option linter.unnecessarySimpa false
set_option linter.unusedVariables false
set_option linter.unusedSimpArgs false
/- graph.Path. -/
namespace Go.Proofs.Ytfacddeaobogjaa.N
open Go.DF
set_option maxRecDepth 100000
/-- The graph's rows say the edges. -/
def okP (A B : Rows) (W : Es) : Prop := okV A ∧ okV B ∧ B.length = A.length ∧ A.length ≤ 64 ∧ (∀ x ∈ W, 0 ≤ x.1 ∧ x.1 < (A.length : Int) ∧ 0 ≤ x.2 ∧ x.2 < (A.length : Int)) ∧ (∀ (h a : Int), 0 ≤ h → (a ∈ B.getD h.toNat [] ↔ (a, h) ∈ W)) ∧ ∀ h : Int, 0 ≤ h → A.getD h.toNat [] = refA W h
def cntN (F : List Int) : Nat := F.count (-1)
def hp13 (F Q : List Int) : Hp := [(0, (false, .cells 30 [.slice ⟨1, .lit 0, 1, 0⟩ (.sym F.length)])), (1, (false, .arr 3 (.int .i64) F)), (2, (false, .arr 3 (.int .i64) Q))]
def inv13a (g : Gr) (W : Es) (fr t : Int) (n : Nat) : LInv where
  α := List Int × List Int × Nat
  S := fun x => ⟨[(0, .per gC g), (1, .int .i64 (.sym fr)), (2, .int .i64 (.sym t)), (8, .ptr ⟨0, .lit 0, 0, 0⟩), (9, .slice ⟨2, .sym x.2.2, 1, 0⟩ (.sym (x.2.1.length - x.2.2)))], hp13 x.1 x.2.1, 3⟩
  p := fun x => x.2.2 ≤ x.2.1.length ∧ Bfs W t n x.1 (x.2.1.drop x.2.2) ∧ 2 * cntN x.1 + (x.2.1.length - x.2.2) ≤ 2 * n + 2
  m := fun x => 2 * cntN x.1 + (x.2.1.length - x.2.2)
def inv13b (g : Gr) (B : Rows) (W : Es) (fr t : Int) (n : Nat) : LInv where
  α := List Int × List Int × Nat × Nat × Nat
  S := fun x => ⟨[(0, .per gC g), (1, .int .i64 (.sym fr)), (2, .int .i64 (.sym t)), (8, .ptr ⟨0, .lit 0, 0, 0⟩), (9, .slice ⟨2, .sym x.2.2.1, 1, 0⟩ (.sym (x.2.1.length - x.2.2.1))),
    (47, .per iC (B.getD (x.2.1.getD x.2.2.1 0).toNat [])), (48, .int .i64 (.sym (B.getD (x.2.1.getD x.2.2.1 0).toNat []).length)), (49, .int .i64 (.sym x.2.2.2.1))], hp13 x.1 x.2.1, 3⟩
  p := fun x => x.2.2.1 < x.2.1.length ∧ Bfs W t n x.1 (x.2.1.drop x.2.2.1) ∧ x.2.2.2.1 ≤ (B.getD (x.2.1.getD x.2.2.1 0).toNat []).length ∧ (∀ j, j < x.2.2.2.1 → 0 ≤ x.1.getD ((B.getD (x.2.1.getD x.2.2.1 0).toNat []).getD j 0).toNat 0) ∧ 2 * cntN x.1 + (x.2.1.length - x.2.2.1) ≤ x.2.2.2.2
  m := fun x => (B.getD (x.2.1.getD x.2.2.1 0).toNat []).length - x.2.2.2.1
  lq := some fun st x => match DF.look st.fr 9, DF.look st.hp 1 with | some (.slice _ k), some (_, .arr _ (.int .i64) F) => x.2.2.2.2 = 2 * cntN F + k.v | _, _ => False
def hp13c (F : List Int) (n : Int) (l : List Int) : Hp := [(0, (false, .cells 30 [.slice ⟨1, .lit 0, 1, 0⟩ (.sym F.length)])), (1, (false, .arr 3 (.int .i64) F)), (2, (false, .cells 3 [.int .i64 (.sym n)])), (3, (false, .arr 3 (.int .i64) l))]
def inv13c (g : Gr) (F : List Int) (W : Es) (fr t : Int) : LInv where
  α := Nat
  S := fun k => ⟨[(0, .per gC g), (2, .int .i64 (.sym t)), (8, .ptr ⟨0, .lit 0, 0, 0⟩), (12, .slice ⟨3, .lit 0, 1, 0⟩ (.sym (k + 1))), (13, .ptr ⟨2, .lit 0, 0, 0⟩)], hp13c F (nodeAt F W fr k) (pathTo F W fr k), 4⟩
  p := fun k => k ≤ (F.getD fr.toNat 0).toNat
  m := fun k => (F.getD fr.toNat 0).toNat - k
theorem p23 (g : Gr) : Pure1 Try.prog 23 [.per gC g] (.int .i64 (.sym (rowsOf g).length)) := by
  apply @pure1_of_exec _ Try.prog (cx0 [] [] []) 23 Try.f23 [.per gC g] (.int .i64 (.sym (rowsOf g).length)) [] Try.func23 rfl rfl
  apply @cast_goal ((Option.isNone g = Bool.true → (0 : Int) = (↑(List.length (Go.Proofs.Ytfacddeaobogjaa.N.rowsOf g)) : Int) ∧ True) ∧ (Option.isNone g = Bool.false → Option.isSome g = Bool.true ∧ (↑(List.length (Prod.fst (Option.getD g ([], [])))) : Int) = (↑(List.length (Go.Proofs.Ytfacddeaobogjaa.N.rowsOf g)) : Int) ∧ True)) _ (by kernel_rfl)
  cases g with
  | none => exact ⟨fun _ => ⟨rfl, trivial⟩, fun h => absurd h (by simp)⟩
  | some x => exact ⟨fun h => absurd h (by simp), fun _ => ⟨rfl, rfl, trivial⟩⟩
def c23 : PureC Try.prog where
  f := 23
  sig := [.dat false gC]
  per := false
  spec := fun x => .leaf (.int .i64 (.sym (rowsOf x.1).length))
  body := hasBody_of Try.func23 (by kernel_rfl) (by kernel_rfl)
  ok := fun x d h => by obtain rfl : d = _ := h; exact p23 x.1
def nodeG (g : Gr) (n : Int) : Bool := decide (0 ≤ n ∧ n < ((rowsOf g).length : Int))
theorem p37 (g : Gr) (n : Int) : Pure1 Try.prog 37 [.per gC g, .int .i64 (.sym n)] (.bool (.sym (nodeG g n))) := by
  apply @pure1_of_exec _ Try.prog (cx0 [c23] [] []) 37 Try.f37 [.per gC g, .int .i64 (.sym n)] (.bool (.sym (nodeG g n))) [] Try.func37 rfl rfl
  apply @cast_goal ((Decidable.decide ((0 : Int) ≤ n) && Decidable.decide (n < (↑(List.length (Go.Proofs.Ytfacddeaobogjaa.N.rowsOf g)) : Int))) = Go.Proofs.Ytfacddeaobogjaa.N.nodeG g n ∧ True) _ (by kernel_rfl)
  refine ⟨?_, trivial⟩
  unfold nodeG
  rw [Bool.eq_iff_iff, Bool.and_eq_true, decide_eq_true_iff, decide_eq_true_iff, decide_eq_true_iff]
def c37 : PureC Try.prog where
  f := 37
  sig := [.dat false gC, .dat false (.int .i64)]
  per := false
  spec := fun x => .leaf (.bool (.sym (nodeG x.1 x.2.1)))
  body := hasBody_of Try.func37 (by kernel_rfl) (by kernel_rfl)
  ok := fun x d h => by obtain rfl : d = _ := h; exact p37 x.1 x.2.1
theorem cntN_set {F : List Int} {i : Nat} {x : Int} (h : i < F.length) (h1 : F.getD i 0 = -1) (hx : x ≠ -1) : cntN (F.set i x) + 1 = cntN F := by
  have hg : F[i] = -1 := by rw [List.getD_eq_getElem?_getD, List.getElem?_eq_getElem h] at h1; exact h1
  have hp : 0 < F.count (-1) := List.count_pos_iff.2 (by rw [← hg]; exact List.getElem_mem h)
  unfold cntN
  rw [List.count_set h, hg]
  have : (x == -1) = false := beq_eq_false_iff_ne.2 hx
  simp [this]; omega
theorem nodeG_iff (A B : Rows) (x : Int) : nodeG (some (A, B)) x = true ↔ 0 ≤ x ∧ x < (A.length : Int) := by
  unfold nodeG
  rw [decide_eq_true_iff]; rfl
theorem idx_next {L F : List Int} {n : Int} (h : ∃ m, m < L.length ∧ F.getD (L.getD m 0).toNat 0 = F.getD n.toNat 0 - 1) : idx39 L F n < L.length ∧ L.getD (idx39 L F n) 0 = nextN F L n := by
  obtain ⟨m, hm, he⟩ := h
  have hg : ∀ j, (hj : j < L.length) → L[j] = L.getD j 0 := fun j hj => by rw [List.getD_eq_getElem?_getD, List.getElem?_eq_getElem hj]; rfl
  have hlt : idx39 L F n < L.length := List.findIdx_lt_length_of_exists ⟨L[m], List.getElem_mem hm, by rw [hg m hm, he]; simp⟩
  refine ⟨hlt, ?_⟩
  have h1 : (fun x => F.getD x.toNat 0 == F.getD n.toNat 0 - 1) (L.getD (idx39 L F n) 0) = true := by
    rw [← hg _ hlt]
    exact List.findIdx_getElem (w := hlt)
  have h2 : ∀ j, j < idx39 L F n → (fun x => F.getD x.toNat 0 == F.getD n.toNat 0 - 1) (L.getD j 0) = false := fun j hj => by
    rw [← hg j (by omega)]
    have := List.not_of_lt_findIdx hj
    simpa using this
  unfold nextN
  rw [find_at hlt h1 h2]; rfl
set_option maxHeartbeats 8000000 in
theorem p13 (A B : Rows) (g : Gr) (hg : g = some (A, B)) (W : Es) (fr t : Int) (h : okP A B W) : Pure1 Try.prog 13 [.per gC g, .int .i64 (.sym fr), .int .i64 (.sym t)] (.tup [.per iC (pathL W A.length fr t), .bool (.sym (pathB W A.length fr t))]) := by
  refine pure1_of_exec (ct := cx0 [c23, c37] [c38, c39] []) [(6, inv13a g W fr t A.length), (9, inv13b g B W fr t A.length), (19, inv13c g (farL W t A.length) W fr t)] Try.func13 rfl rfl ?_
  apply @cast_goal (((!Go.Proofs.Ytfacddeaobogjaa.N.nodeG g fr || !Go.Proofs.Ytfacddeaobogjaa.N.nodeG g t) = Bool.true → ([] = Go.Proofs.Ytfacddeaobogjaa.N.pathL W (↑(List.length A) : Int) fr t ∧ Bool.false = Go.Proofs.Ytfacddeaobogjaa.N.pathB W (↑(List.length A) : Int) fr t) ∧ True) ∧ ((!Go.Proofs.Ytfacddeaobogjaa.N.nodeG g fr || !Go.Proofs.Ytfacddeaobogjaa.N.nodeG g t) = Bool.false → ((↑(List.length (Go.Proofs.Ytfacddeaobogjaa.N.rowsOf g)) : Int) = (↑(List.length (Go.Proofs.Ytfacddeaobogjaa.N.rowsOf g)) : Int) ∧ (1 : Int) ≤ (↑(List.length (Go.Proofs.Ytfacddeaobogjaa.N.rowsOf g)) : Int) ∧ (↑(List.length (Go.Proofs.Ytfacddeaobogjaa.N.rowsOf g)) : Int) ≤ (64 : Int)) ∧ ((0 : Int) ≤ t ∧ t < (↑(Int.toNat (↑(List.length (Go.Proofs.Ytfacddeaobogjaa.N.rowsOf g)) : Int)) : Int)) ∧ Int.toNat t < List.length (List.replicate (Int.toNat (↑(List.length (Go.Proofs.Ytfacddeaobogjaa.N.rowsOf g)) : Int)) (-1 : Int)) ∧ (∃ (a : List Int × List Int × Nat), (g = g ∧ fr = fr ∧ t = t ∧ (0 : Nat) = Prod.snd (Prod.snd a) ∧ (1 : Nat) = List.length (Prod.fst (Prod.snd a)) - Prod.snd (Prod.snd a) ∧ Int.toNat (↑(List.length (Go.Proofs.Ytfacddeaobogjaa.N.rowsOf g)) : Int) = List.length (Prod.fst a) ∧ List.set (List.replicate (Int.toNat (↑(List.length (Go.Proofs.Ytfacddeaobogjaa.N.rowsOf g)) : Int)) (-1 : Int)) (Int.toNat t) (0 : Int) = Prod.fst a ∧ [t] = Prod.fst (Prod.snd a)) ∧ Prod.snd (Prod.snd a) ≤ List.length (Prod.fst (Prod.snd a)) ∧ Go.Proofs.Ytfacddeaobogjaa.N.Bfs W t (List.length A) (Prod.fst a) (List.drop (Prod.snd (Prod.snd a)) (Prod.fst (Prod.snd a))) ∧ (2 : Nat) * Go.Proofs.Ytfacddeaobogjaa.N.cntN (Prod.fst a) + (List.length (Prod.fst (Prod.snd a)) - Prod.snd (Prod.snd a)) ≤ (2 : Nat) * List.length A + (2 : Nat)) ∧ ∀ (a : List Int × List Int × Nat), Prod.snd (Prod.snd a) ≤ List.length (Prod.fst (Prod.snd a)) ∧ Go.Proofs.Ytfacddeaobogjaa.N.Bfs W t (List.length A) (Prod.fst a) (List.drop (Prod.snd (Prod.snd a)) (Prod.fst (Prod.snd a))) ∧ (2 : Nat) * Go.Proofs.Ytfacddeaobogjaa.N.cntN (Prod.fst a) + (List.length (Prod.fst (Prod.snd a)) - Prod.snd (Prod.snd a)) ≤ (2 : Nat) * List.length A + (2 : Nat) → (Decidable.decide ((0 : Int) < (↑(List.length (Prod.fst (Prod.snd a)) - Prod.snd (Prod.snd a)) : Int)) = Bool.true → Option.isSome g = Bool.true ∧ ((0 : Int) ≤ (0 : Int) ∧ (0 : Int) < (↑(List.length (Prod.fst (Prod.snd a)) - Prod.snd (Prod.snd a)) : Int)) ∧ Prod.snd (Prod.snd a) + Int.toNat (0 : Int) < List.length (Prod.fst (Prod.snd a)) ∧ ((0 : Int) ≤ List.getD (Prod.fst (Prod.snd a)) (Prod.snd (Prod.snd a) + Int.toNat (0 : Int)) (0 : Int) ∧ List.getD (Prod.fst (Prod.snd a)) (Prod.snd (Prod.snd a) + Int.toNat (0 : Int)) (0 : Int) < (↑(List.length (Prod.snd (Option.getD g ([], [])))) : Int)) ∧ (∃ (a_3 : List Int × List Int × Nat × Nat × Nat), (g = g ∧ fr = fr ∧ t = t ∧ Prod.snd (Prod.snd a) = Prod.fst (Prod.snd (Prod.snd a_3)) ∧ List.length (Prod.fst (Prod.snd a)) - Prod.snd (Prod.snd a) = List.length (Prod.fst (Prod.snd a_3)) - Prod.fst (Prod.snd (Prod.snd a_3)) ∧ List.getD (Prod.snd (Option.getD g ([], []))) (Int.toNat (List.getD (Prod.fst (Prod.snd a)) (Prod.snd (Prod.snd a) + Int.toNat (0 : Int)) (0 : Int))) [] = List.getD B (Int.toNat (List.getD (Prod.fst (Prod.snd a_3)) (Prod.fst (Prod.snd (Prod.snd a_3))) (0 : Int))) [] ∧ (↑(List.length (List.getD (Prod.snd (Option.getD g ([], []))) (Int.toNat (List.getD (Prod.fst (Prod.snd a)) (Prod.snd (Prod.snd a) + Int.toNat (0 : Int)) (0 : Int))) [])) : Int) = (↑(List.length (List.getD B (Int.toNat (List.getD (Prod.fst (Prod.snd a_3)) (Prod.fst (Prod.snd (Prod.snd a_3))) (0 : Int))) [])) : Int) ∧ (0 : Int) = (↑(Prod.fst (Prod.snd (Prod.snd (Prod.snd a_3)))) : Int) ∧ List.length (Prod.fst a) = List.length (Prod.fst a_3) ∧ Prod.fst a = Prod.fst a_3 ∧ Prod.fst (Prod.snd a) = Prod.fst (Prod.snd a_3)) ∧ (Prod.fst (Prod.snd (Prod.snd a_3)) < List.length (Prod.fst (Prod.snd a_3)) ∧ Go.Proofs.Ytfacddeaobogjaa.N.Bfs W t (List.length A) (Prod.fst a_3) (List.drop (Prod.fst (Prod.snd (Prod.snd a_3))) (Prod.fst (Prod.snd a_3))) ∧ Prod.fst (Prod.snd (Prod.snd (Prod.snd a_3))) ≤ List.length (List.getD B (Int.toNat (List.getD (Prod.fst (Prod.snd a_3)) (Prod.fst (Prod.snd (Prod.snd a_3))) (0 : Int))) []) ∧ (∀ (j : Nat), j < Prod.fst (Prod.snd (Prod.snd (Prod.snd a_3))) → (0 : Int) ≤ List.getD (Prod.fst a_3) (Int.toNat (List.getD (List.getD B (Int.toNat (List.getD (Prod.fst (Prod.snd a_3)) (Prod.fst (Prod.snd (Prod.snd a_3))) (0 : Int))) []) j (0 : Int))) (0 : Int)) ∧ (2 : Nat) * Go.Proofs.Ytfacddeaobogjaa.N.cntN (Prod.fst a_3) + (List.length (Prod.fst (Prod.snd a_3)) - Prod.fst (Prod.snd (Prod.snd a_3))) ≤ Prod.snd (Prod.snd (Prod.snd (Prod.snd a_3)))) ∧ True ∧ Prod.snd (Prod.snd (Prod.snd (Prod.snd a_3))) = (2 : Nat) * Go.Proofs.Ytfacddeaobogjaa.N.cntN (Prod.fst a) + (List.length (Prod.fst (Prod.snd a)) - Prod.snd (Prod.snd a))) ∧ ∀ (a_3 : List Int × List Int × Nat × Nat × Nat), (Prod.fst (Prod.snd (Prod.snd a_3)) < List.length (Prod.fst (Prod.snd a_3)) ∧ Go.Proofs.Ytfacddeaobogjaa.N.Bfs W t (List.length A) (Prod.fst a_3) (List.drop (Prod.fst (Prod.snd (Prod.snd a_3))) (Prod.fst (Prod.snd a_3))) ∧ Prod.fst (Prod.snd (Prod.snd (Prod.snd a_3))) ≤ List.length (List.getD B (Int.toNat (List.getD (Prod.fst (Prod.snd a_3)) (Prod.fst (Prod.snd (Prod.snd a_3))) (0 : Int))) []) ∧ (∀ (j : Nat), j < Prod.fst (Prod.snd (Prod.snd (Prod.snd a_3))) → (0 : Int) ≤ List.getD (Prod.fst a_3) (Int.toNat (List.getD (List.getD B (Int.toNat (List.getD (Prod.fst (Prod.snd a_3)) (Prod.fst (Prod.snd (Prod.snd a_3))) (0 : Int))) []) j (0 : Int))) (0 : Int)) ∧ (2 : Nat) * Go.Proofs.Ytfacddeaobogjaa.N.cntN (Prod.fst a_3) + (List.length (Prod.fst (Prod.snd a_3)) - Prod.fst (Prod.snd (Prod.snd a_3))) ≤ Prod.snd (Prod.snd (Prod.snd (Prod.snd a_3)))) ∧ True ∧ Prod.snd (Prod.snd (Prod.snd (Prod.snd a_3))) = (2 : Nat) * Go.Proofs.Ytfacddeaobogjaa.N.cntN (Prod.fst a) + (List.length (Prod.fst (Prod.snd a)) - Prod.snd (Prod.snd a)) → (Decidable.decide ((↑(Prod.fst (Prod.snd (Prod.snd (Prod.snd a_3)))) : Int) < (↑(List.length (List.getD B (Int.toNat (List.getD (Prod.fst (Prod.snd a_3)) (Prod.fst (Prod.snd (Prod.snd a_3))) (0 : Int))) [])) : Int)) = Bool.true → ((0 : Int) ≤ (↑(Prod.fst (Prod.snd (Prod.snd (Prod.snd a_3)))) : Int) ∧ (↑(Prod.fst (Prod.snd (Prod.snd (Prod.snd a_3)))) : Int) < (↑(List.length (List.getD B (Int.toNat (List.getD (Prod.fst (Prod.snd a_3)) (Prod.fst (Prod.snd (Prod.snd a_3))) (0 : Int))) [])) : Int)) ∧ ((0 : Int) ≤ List.getD (List.getD B (Int.toNat (List.getD (Prod.fst (Prod.snd a_3)) (Prod.fst (Prod.snd (Prod.snd a_3))) (0 : Int))) []) (Int.toNat (↑(Prod.fst (Prod.snd (Prod.snd (Prod.snd a_3)))) : Int)) (0 : Int) ∧ List.getD (List.getD B (Int.toNat (List.getD (Prod.fst (Prod.snd a_3)) (Prod.fst (Prod.snd (Prod.snd a_3))) (0 : Int))) []) (Int.toNat (↑(Prod.fst (Prod.snd (Prod.snd (Prod.snd a_3)))) : Int)) (0 : Int) < (↑(List.length (Prod.fst a_3)) : Int)) ∧ Int.toNat (List.getD (List.getD B (Int.toNat (List.getD (Prod.fst (Prod.snd a_3)) (Prod.fst (Prod.snd (Prod.snd a_3))) (0 : Int))) []) (Int.toNat (↑(Prod.fst (Prod.snd (Prod.snd (Prod.snd a_3)))) : Int)) (0 : Int)) < List.length (Prod.fst a_3) ∧ (Decidable.decide (List.getD (Prod.fst a_3) (Int.toNat (List.getD (List.getD B (Int.toNat (List.getD (Prod.fst (Prod.snd a_3)) (Prod.fst (Prod.snd (Prod.snd a_3))) (0 : Int))) []) (Int.toNat (↑(Prod.fst (Prod.snd (Prod.snd (Prod.snd a_3)))) : Int)) (0 : Int))) (0 : Int) < (0 : Int)) = Bool.true → ((0 : Int) ≤ (0 : Int) ∧ (0 : Int) < (↑(List.length (Prod.fst (Prod.snd a_3)) - Prod.fst (Prod.snd (Prod.snd a_3))) : Int)) ∧ Prod.fst (Prod.snd (Prod.snd a_3)) + Int.toNat (0 : Int) < List.length (Prod.fst (Prod.snd a_3)) ∧ ((0 : Int) ≤ List.getD (Prod.fst (Prod.snd a_3)) (Prod.fst (Prod.snd (Prod.snd a_3)) + Int.toNat (0 : Int)) (0 : Int) ∧ List.getD (Prod.fst (Prod.snd a_3)) (Prod.fst (Prod.snd (Prod.snd a_3)) + Int.toNat (0 : Int)) (0 : Int) < (↑(List.length (Prod.fst a_3)) : Int)) ∧ Int.toNat (List.getD (Prod.fst (Prod.snd a_3)) (Prod.fst (Prod.snd (Prod.snd a_3)) + Int.toNat (0 : Int)) (0 : Int)) < List.length (Prod.fst a_3) ∧ Go.DF.okI64 (List.getD (Prod.fst a_3) (Int.toNat (List.getD (Prod.fst (Prod.snd a_3)) (Prod.fst (Prod.snd (Prod.snd a_3)) + Int.toNat (0 : Int)) (0 : Int))) (0 : Int) + (1 : Int)) ∧ ((0 : Int) ≤ List.getD (List.getD B (Int.toNat (List.getD (Prod.fst (Prod.snd a_3)) (Prod.fst (Prod.snd (Prod.snd a_3))) (0 : Int))) []) (Int.toNat (↑(Prod.fst (Prod.snd (Prod.snd (Prod.snd a_3)))) : Int)) (0 : Int) ∧ List.getD (List.getD B (Int.toNat (List.getD (Prod.fst (Prod.snd a_3)) (Prod.fst (Prod.snd (Prod.snd a_3))) (0 : Int))) []) (Int.toNat (↑(Prod.fst (Prod.snd (Prod.snd (Prod.snd a_3)))) : Int)) (0 : Int) < (↑(List.length (Prod.fst a_3)) : Int)) ∧ Int.toNat (List.getD (List.getD B (Int.toNat (List.getD (Prod.fst (Prod.snd a_3)) (Prod.fst (Prod.snd (Prod.snd a_3))) (0 : Int))) []) (Int.toNat (↑(Prod.fst (Prod.snd (Prod.snd (Prod.snd a_3)))) : Int)) (0 : Int)) < List.length (Prod.fst a_3) ∧ Prod.fst (Prod.snd (Prod.snd a_3)) + (List.length (Prod.fst (Prod.snd a_3)) - Prod.fst (Prod.snd (Prod.snd a_3))) ≤ List.length (Prod.fst (Prod.snd a_3)) ∧ ((List.length (Prod.fst (Prod.snd a_3)) - Prod.fst (Prod.snd (Prod.snd a_3)) + List.length [List.getD (List.getD B (Int.toNat (List.getD (Prod.fst (Prod.snd a_3)) (Prod.fst (Prod.snd (Prod.snd a_3))) (0 : Int))) []) (Int.toNat (↑(Prod.fst (Prod.snd (Prod.snd (Prod.snd a_3)))) : Int)) (0 : Int)]) * (8 : Nat) ≤ (140737488355328 : Nat) ∧ List.length (Prod.fst (Prod.snd a_3)) - Prod.fst (Prod.snd (Prod.snd a_3)) + List.length [List.getD (List.getD B (Int.toNat (List.getD (Prod.fst (Prod.snd a_3)) (Prod.fst (Prod.snd (Prod.snd a_3))) (0 : Int))) []) (Int.toNat (↑(Prod.fst (Prod.snd (Prod.snd (Prod.snd a_3)))) : Int)) (0 : Int)] ≤ Go.maxLen) ∧ Go.DF.okI64 ((↑(Prod.fst (Prod.snd (Prod.snd (Prod.snd a_3)))) : Int) + (1 : Int)) ∧ ∃ (a' : List Int × List Int × Nat × Nat × Nat), (g = g ∧ fr = fr ∧ t = t ∧ (0 : Nat) = Prod.fst (Prod.snd (Prod.snd a')) ∧ List.length (Prod.fst (Prod.snd a_3)) - Prod.fst (Prod.snd (Prod.snd a_3)) + (1 : Nat) = List.length (Prod.fst (Prod.snd a')) - Prod.fst (Prod.snd (Prod.snd a')) ∧ List.getD B (Int.toNat (List.getD (Prod.fst (Prod.snd a_3)) (Prod.fst (Prod.snd (Prod.snd a_3))) (0 : Int))) [] = List.getD B (Int.toNat (List.getD (Prod.fst (Prod.snd a')) (Prod.fst (Prod.snd (Prod.snd a'))) (0 : Int))) [] ∧ (↑(List.length (List.getD B (Int.toNat (List.getD (Prod.fst (Prod.snd a_3)) (Prod.fst (Prod.snd (Prod.snd a_3))) (0 : Int))) [])) : Int) = (↑(List.length (List.getD B (Int.toNat (List.getD (Prod.fst (Prod.snd a')) (Prod.fst (Prod.snd (Prod.snd a'))) (0 : Int))) [])) : Int) ∧ (↑(Prod.fst (Prod.snd (Prod.snd (Prod.snd a_3)))) : Int) + (1 : Int) = (↑(Prod.fst (Prod.snd (Prod.snd (Prod.snd a')))) : Int) ∧ List.length (Prod.fst a_3) = List.length (Prod.fst a') ∧ List.set (Prod.fst a_3) (Int.toNat (List.getD (List.getD B (Int.toNat (List.getD (Prod.fst (Prod.snd a_3)) (Prod.fst (Prod.snd (Prod.snd a_3))) (0 : Int))) []) (Int.toNat (↑(Prod.fst (Prod.snd (Prod.snd (Prod.snd a_3)))) : Int)) (0 : Int))) (List.getD (Prod.fst a_3) (Int.toNat (List.getD (Prod.fst (Prod.snd a_3)) (Prod.fst (Prod.snd (Prod.snd a_3)) + Int.toNat (0 : Int)) (0 : Int))) (0 : Int) + (1 : Int)) = Prod.fst a' ∧ List.take (List.length (Prod.fst (Prod.snd a_3)) - Prod.fst (Prod.snd (Prod.snd a_3))) (List.drop (Prod.fst (Prod.snd (Prod.snd a_3))) (Prod.fst (Prod.snd a_3))) ++ [List.getD (List.getD B (Int.toNat (List.getD (Prod.fst (Prod.snd a_3)) (Prod.fst (Prod.snd (Prod.snd a_3))) (0 : Int))) []) (Int.toNat (↑(Prod.fst (Prod.snd (Prod.snd (Prod.snd a_3)))) : Int)) (0 : Int)] = Prod.fst (Prod.snd a')) ∧ ((Prod.fst (Prod.snd (Prod.snd a')) < List.length (Prod.fst (Prod.snd a')) ∧ Go.Proofs.Ytfacddeaobogjaa.N.Bfs W t (List.length A) (Prod.fst a') (List.drop (Prod.fst (Prod.snd (Prod.snd a'))) (Prod.fst (Prod.snd a'))) ∧ Prod.fst (Prod.snd (Prod.snd (Prod.snd a'))) ≤ List.length (List.getD B (Int.toNat (List.getD (Prod.fst (Prod.snd a')) (Prod.fst (Prod.snd (Prod.snd a'))) (0 : Int))) []) ∧ (∀ (j : Nat), j < Prod.fst (Prod.snd (Prod.snd (Prod.snd a'))) → (0 : Int) ≤ List.getD (Prod.fst a') (Int.toNat (List.getD (List.getD B (Int.toNat (List.getD (Prod.fst (Prod.snd a')) (Prod.fst (Prod.snd (Prod.snd a'))) (0 : Int))) []) j (0 : Int))) (0 : Int)) ∧ (2 : Nat) * Go.Proofs.Ytfacddeaobogjaa.N.cntN (Prod.fst a') + (List.length (Prod.fst (Prod.snd a')) - Prod.fst (Prod.snd (Prod.snd a'))) ≤ Prod.snd (Prod.snd (Prod.snd (Prod.snd a')))) ∧ True ∧ Prod.snd (Prod.snd (Prod.snd (Prod.snd a'))) = (2 : Nat) * Go.Proofs.Ytfacddeaobogjaa.N.cntN (Prod.fst a) + (List.length (Prod.fst (Prod.snd a)) - Prod.snd (Prod.snd a))) ∧ List.length (List.getD B (Int.toNat (List.getD (Prod.fst (Prod.snd a')) (Prod.fst (Prod.snd (Prod.snd a'))) (0 : Int))) []) - Prod.fst (Prod.snd (Prod.snd (Prod.snd a'))) < List.length (List.getD B (Int.toNat (List.getD (Prod.fst (Prod.snd a_3)) (Prod.fst (Prod.snd (Prod.snd a_3))) (0 : Int))) []) - Prod.fst (Prod.snd (Prod.snd (Prod.snd a_3)))) ∧ (Decidable.decide (List.getD (Prod.fst a_3) (Int.toNat (List.getD (List.getD B (Int.toNat (List.getD (Prod.fst (Prod.snd a_3)) (Prod.fst (Prod.snd (Prod.snd a_3))) (0 : Int))) []) (Int.toNat (↑(Prod.fst (Prod.snd (Prod.snd (Prod.snd a_3)))) : Int)) (0 : Int))) (0 : Int) < (0 : Int)) = Bool.false → Go.DF.okI64 ((↑(Prod.fst (Prod.snd (Prod.snd (Prod.snd a_3)))) : Int) + (1 : Int)) ∧ ∃ (a' : List Int × List Int × Nat × Nat × Nat), (g = g ∧ fr = fr ∧ t = t ∧ Prod.fst (Prod.snd (Prod.snd a_3)) = Prod.fst (Prod.snd (Prod.snd a')) ∧ List.length (Prod.fst (Prod.snd a_3)) - Prod.fst (Prod.snd (Prod.snd a_3)) = List.length (Prod.fst (Prod.snd a')) - Prod.fst (Prod.snd (Prod.snd a')) ∧ List.getD B (Int.toNat (List.getD (Prod.fst (Prod.snd a_3)) (Prod.fst (Prod.snd (Prod.snd a_3))) (0 : Int))) [] = List.getD B (Int.toNat (List.getD (Prod.fst (Prod.snd a')) (Prod.fst (Prod.snd (Prod.snd a'))) (0 : Int))) [] ∧ (↑(List.length (List.getD B (Int.toNat (List.getD (Prod.fst (Prod.snd a_3)) (Prod.fst (Prod.snd (Prod.snd a_3))) (0 : Int))) [])) : Int) = (↑(List.length (List.getD B (Int.toNat (List.getD (Prod.fst (Prod.snd a')) (Prod.fst (Prod.snd (Prod.snd a'))) (0 : Int))) [])) : Int) ∧ (↑(Prod.fst (Prod.snd (Prod.snd (Prod.snd a_3)))) : Int) + (1 : Int) = (↑(Prod.fst (Prod.snd (Prod.snd (Prod.snd a')))) : Int) ∧ List.length (Prod.fst a_3) = List.length (Prod.fst a') ∧ Prod.fst a_3 = Prod.fst a' ∧ Prod.fst (Prod.snd a_3) = Prod.fst (Prod.snd a')) ∧ ((Prod.fst (Prod.snd (Prod.snd a')) < List.length (Prod.fst (Prod.snd a')) ∧ Go.Proofs.Ytfacddeaobogjaa.N.Bfs W t (List.length A) (Prod.fst a') (List.drop (Prod.fst (Prod.snd (Prod.snd a'))) (Prod.fst (Prod.snd a'))) ∧ Prod.fst (Prod.snd (Prod.snd (Prod.snd a'))) ≤ List.length (List.getD B (Int.toNat (List.getD (Prod.fst (Prod.snd a')) (Prod.fst (Prod.snd (Prod.snd a'))) (0 : Int))) []) ∧ (∀ (j : Nat), j < Prod.fst (Prod.snd (Prod.snd (Prod.snd a'))) → (0 : Int) ≤ List.getD (Prod.fst a') (Int.toNat (List.getD (List.getD B (Int.toNat (List.getD (Prod.fst (Prod.snd a')) (Prod.fst (Prod.snd (Prod.snd a'))) (0 : Int))) []) j (0 : Int))) (0 : Int)) ∧ (2 : Nat) * Go.Proofs.Ytfacddeaobogjaa.N.cntN (Prod.fst a') + (List.length (Prod.fst (Prod.snd a')) - Prod.fst (Prod.snd (Prod.snd a'))) ≤ Prod.snd (Prod.snd (Prod.snd (Prod.snd a')))) ∧ True ∧ Prod.snd (Prod.snd (Prod.snd (Prod.snd a'))) = (2 : Nat) * Go.Proofs.Ytfacddeaobogjaa.N.cntN (Prod.fst a) + (List.length (Prod.fst (Prod.snd a)) - Prod.snd (Prod.snd a))) ∧ List.length (List.getD B (Int.toNat (List.getD (Prod.fst (Prod.snd a')) (Prod.fst (Prod.snd (Prod.snd a'))) (0 : Int))) []) - Prod.fst (Prod.snd (Prod.snd (Prod.snd a'))) < List.length (List.getD B (Int.toNat (List.getD (Prod.fst (Prod.snd a_3)) (Prod.fst (Prod.snd (Prod.snd a_3))) (0 : Int))) []) - Prod.fst (Prod.snd (Prod.snd (Prod.snd a_3))))) ∧ (Decidable.decide ((↑(Prod.fst (Prod.snd (Prod.snd (Prod.snd a_3)))) : Int) < (↑(List.length (List.getD B (Int.toNat (List.getD (Prod.fst (Prod.snd a_3)) (Prod.fst (Prod.snd (Prod.snd a_3))) (0 : Int))) [])) : Int)) = Bool.false → ((0 : Int) ≤ (1 : Int) ∧ (1 : Int) ≤ (↑(List.length (Prod.fst (Prod.snd a_3)) - Prod.fst (Prod.snd (Prod.snd a_3))) : Int) ∧ (↑(List.length (Prod.fst (Prod.snd a_3)) - Prod.fst (Prod.snd (Prod.snd a_3))) : Int) ≤ (↑(List.length (Prod.fst (Prod.snd a_3)) - Prod.fst (Prod.snd (Prod.snd a_3))) : Int)) ∧ ∃ (a' : List Int × List Int × Nat), (g = g ∧ fr = fr ∧ t = t ∧ Prod.fst (Prod.snd (Prod.snd a_3)) + Int.toNat (1 : Int) = Prod.snd (Prod.snd a') ∧ Int.toNat (↑(List.length (Prod.fst (Prod.snd a_3)) - Prod.fst (Prod.snd (Prod.snd a_3))) : Int) - Int.toNat (1 : Int) = List.length (Prod.fst (Prod.snd a')) - Prod.snd (Prod.snd a') ∧ List.length (Prod.fst a_3) = List.length (Prod.fst a') ∧ Prod.fst a_3 = Prod.fst a' ∧ Prod.fst (Prod.snd a_3) = Prod.fst (Prod.snd a')) ∧ (Prod.snd (Prod.snd a') ≤ List.length (Prod.fst (Prod.snd a')) ∧ Go.Proofs.Ytfacddeaobogjaa.N.Bfs W t (List.length A) (Prod.fst a') (List.drop (Prod.snd (Prod.snd a')) (Prod.fst (Prod.snd a'))) ∧ (2 : Nat) * Go.Proofs.Ytfacddeaobogjaa.N.cntN (Prod.fst a') + (List.length (Prod.fst (Prod.snd a')) - Prod.snd (Prod.snd a')) ≤ (2 : Nat) * List.length A + (2 : Nat)) ∧ (2 : Nat) * Go.Proofs.Ytfacddeaobogjaa.N.cntN (Prod.fst a') + (List.length (Prod.fst (Prod.snd a')) - Prod.snd (Prod.snd a')) < (2 : Nat) * Go.Proofs.Ytfacddeaobogjaa.N.cntN (Prod.fst a) + (List.length (Prod.fst (Prod.snd a)) - Prod.snd (Prod.snd a)))) ∧ (Decidable.decide ((0 : Int) < (↑(List.length (Prod.fst (Prod.snd a)) - Prod.snd (Prod.snd a)) : Int)) = Bool.false → ((0 : Int) ≤ fr ∧ fr < (↑(List.length (Prod.fst a)) : Int)) ∧ Int.toNat fr < List.length (Prod.fst a) ∧ (Decidable.decide (List.getD (Prod.fst a) (Int.toNat fr) (0 : Int) < (0 : Int)) = Bool.true → ([] = Go.Proofs.Ytfacddeaobogjaa.N.pathL W (↑(List.length A) : Int) fr t ∧ Bool.false = Go.Proofs.Ytfacddeaobogjaa.N.pathB W (↑(List.length A) : Int) fr t) ∧ True) ∧ (Decidable.decide (List.getD (Prod.fst a) (Int.toNat fr) (0 : Int) < (0 : Int)) = Bool.false → (∃ (a_4 : Nat), (g = g ∧ t = t ∧ (1 : Nat) = a_4 + (1 : Nat) ∧ List.length (Prod.fst a) = List.length (Go.Proofs.Ytfacddeaobogjaa.N.farL W t (List.length A)) ∧ Prod.fst a = Go.Proofs.Ytfacddeaobogjaa.N.farL W t (List.length A) ∧ fr = Go.Proofs.Ytfacddeaobogjaa.N.nodeAt (Go.Proofs.Ytfacddeaobogjaa.N.farL W t (List.length A)) W fr a_4 ∧ [fr] = Go.Proofs.Ytfacddeaobogjaa.N.pathTo (Go.Proofs.Ytfacddeaobogjaa.N.farL W t (List.length A)) W fr a_4) ∧ a_4 ≤ Int.toNat (List.getD (Go.Proofs.Ytfacddeaobogjaa.N.farL W t (List.length A)) (Int.toNat fr) (0 : Int))) ∧ ∀ (a : Nat), a ≤ Int.toNat (List.getD (Go.Proofs.Ytfacddeaobogjaa.N.farL W t (List.length A)) (Int.toNat fr) (0 : Int)) → ((Go.Proofs.Ytfacddeaobogjaa.N.nodeAt (Go.Proofs.Ytfacddeaobogjaa.N.farL W t (List.length A)) W fr a != t) = Bool.true → Option.isSome g = Bool.true ∧ ((0 : Int) ≤ Go.Proofs.Ytfacddeaobogjaa.N.nodeAt (Go.Proofs.Ytfacddeaobogjaa.N.farL W t (List.length A)) W fr a ∧ Go.Proofs.Ytfacddeaobogjaa.N.nodeAt (Go.Proofs.Ytfacddeaobogjaa.N.farL W t (List.length A)) W fr a < (↑(List.length (Prod.fst (Option.getD g ([], [])))) : Int)) ∧ (List.getD (Prod.fst (Option.getD g ([], []))) (Int.toNat (Go.Proofs.Ytfacddeaobogjaa.N.nodeAt (Go.Proofs.Ytfacddeaobogjaa.N.farL W t (List.length A)) W fr a)) [] = List.getD (Prod.fst (Option.getD g ([], []))) (Int.toNat (Go.Proofs.Ytfacddeaobogjaa.N.nodeAt (Go.Proofs.Ytfacddeaobogjaa.N.farL W t (List.length A)) W fr a)) [] ∧ List.length (Go.Proofs.Ytfacddeaobogjaa.N.farL W t (List.length A)) = List.length (Go.Proofs.Ytfacddeaobogjaa.N.farL W t (List.length A)) ∧ Go.Proofs.Ytfacddeaobogjaa.N.nodeAt (Go.Proofs.Ytfacddeaobogjaa.N.farL W t (List.length A)) W fr a = Go.Proofs.Ytfacddeaobogjaa.N.nodeAt (Go.Proofs.Ytfacddeaobogjaa.N.farL W t (List.length A)) W fr a ∧ Go.Proofs.Ytfacddeaobogjaa.N.farL W t (List.length A) = Go.Proofs.Ytfacddeaobogjaa.N.farL W t (List.length A) ∧ Go.Proofs.Ytfacddeaobogjaa.N.ok39 (List.getD (Prod.fst (Option.getD g ([], []))) (Int.toNat (Go.Proofs.Ytfacddeaobogjaa.N.nodeAt (Go.Proofs.Ytfacddeaobogjaa.N.farL W t (List.length A)) W fr a)) []) (Go.Proofs.Ytfacddeaobogjaa.N.farL W t (List.length A)) (Go.Proofs.Ytfacddeaobogjaa.N.nodeAt (Go.Proofs.Ytfacddeaobogjaa.N.farL W t (List.length A)) W fr a) ∧ True) ∧ Option.isSome g = Bool.true ∧ ((0 : Int) ≤ Go.Proofs.Ytfacddeaobogjaa.N.nodeAt (Go.Proofs.Ytfacddeaobogjaa.N.farL W t (List.length A)) W fr a ∧ Go.Proofs.Ytfacddeaobogjaa.N.nodeAt (Go.Proofs.Ytfacddeaobogjaa.N.farL W t (List.length A)) W fr a < (↑(List.length (Prod.fst (Option.getD g ([], [])))) : Int)) ∧ ((0 : Int) ≤ (↑(Go.Proofs.Ytfacddeaobogjaa.N.idx39 (List.getD (Prod.fst (Option.getD g ([], []))) (Int.toNat (Go.Proofs.Ytfacddeaobogjaa.N.nodeAt (Go.Proofs.Ytfacddeaobogjaa.N.farL W t (List.length A)) W fr a)) []) (Go.Proofs.Ytfacddeaobogjaa.N.farL W t (List.length A)) (Go.Proofs.Ytfacddeaobogjaa.N.nodeAt (Go.Proofs.Ytfacddeaobogjaa.N.farL W t (List.length A)) W fr a)) : Int) ∧ (↑(Go.Proofs.Ytfacddeaobogjaa.N.idx39 (List.getD (Prod.fst (Option.getD g ([], []))) (Int.toNat (Go.Proofs.Ytfacddeaobogjaa.N.nodeAt (Go.Proofs.Ytfacddeaobogjaa.N.farL W t (List.length A)) W fr a)) []) (Go.Proofs.Ytfacddeaobogjaa.N.farL W t (List.length A)) (Go.Proofs.Ytfacddeaobogjaa.N.nodeAt (Go.Proofs.Ytfacddeaobogjaa.N.farL W t (List.length A)) W fr a)) : Int) < (↑(List.length (List.getD (Prod.fst (Option.getD g ([], []))) (Int.toNat (Go.Proofs.Ytfacddeaobogjaa.N.nodeAt (Go.Proofs.Ytfacddeaobogjaa.N.farL W t (List.length A)) W fr a)) [])) : Int)) ∧ (0 : Nat) + (a + (1 : Nat)) ≤ List.length (Go.Proofs.Ytfacddeaobogjaa.N.pathTo (Go.Proofs.Ytfacddeaobogjaa.N.farL W t (List.length A)) W fr a) ∧ ((a + (1 : Nat) + List.length [List.getD (List.getD (Prod.fst (Option.getD g ([], []))) (Int.toNat (Go.Proofs.Ytfacddeaobogjaa.N.nodeAt (Go.Proofs.Ytfacddeaobogjaa.N.farL W t (List.length A)) W fr a)) []) (Int.toNat (↑(Go.Proofs.Ytfacddeaobogjaa.N.idx39 (List.getD (Prod.fst (Option.getD g ([], []))) (Int.toNat (Go.Proofs.Ytfacddeaobogjaa.N.nodeAt (Go.Proofs.Ytfacddeaobogjaa.N.farL W t (List.length A)) W fr a)) []) (Go.Proofs.Ytfacddeaobogjaa.N.farL W t (List.length A)) (Go.Proofs.Ytfacddeaobogjaa.N.nodeAt (Go.Proofs.Ytfacddeaobogjaa.N.farL W t (List.length A)) W fr a)) : Int)) (0 : Int)]) * (8 : Nat) ≤ (140737488355328 : Nat) ∧ a + (1 : Nat) + List.length [List.getD (List.getD (Prod.fst (Option.getD g ([], []))) (Int.toNat (Go.Proofs.Ytfacddeaobogjaa.N.nodeAt (Go.Proofs.Ytfacddeaobogjaa.N.farL W t (List.length A)) W fr a)) []) (Int.toNat (↑(Go.Proofs.Ytfacddeaobogjaa.N.idx39 (List.getD (Prod.fst (Option.getD g ([], []))) (Int.toNat (Go.Proofs.Ytfacddeaobogjaa.N.nodeAt (Go.Proofs.Ytfacddeaobogjaa.N.farL W t (List.length A)) W fr a)) []) (Go.Proofs.Ytfacddeaobogjaa.N.farL W t (List.length A)) (Go.Proofs.Ytfacddeaobogjaa.N.nodeAt (Go.Proofs.Ytfacddeaobogjaa.N.farL W t (List.length A)) W fr a)) : Int)) (0 : Int)] ≤ Go.maxLen) ∧ ∃ (a' : Nat), (g = g ∧ t = t ∧ a + (1 : Nat) + (1 : Nat) = a' + (1 : Nat) ∧ List.length (Go.Proofs.Ytfacddeaobogjaa.N.farL W t (List.length A)) = List.length (Go.Proofs.Ytfacddeaobogjaa.N.farL W t (List.length A)) ∧ Go.Proofs.Ytfacddeaobogjaa.N.farL W t (List.length A) = Go.Proofs.Ytfacddeaobogjaa.N.farL W t (List.length A) ∧ List.getD (List.getD (Prod.fst (Option.getD g ([], []))) (Int.toNat (Go.Proofs.Ytfacddeaobogjaa.N.nodeAt (Go.Proofs.Ytfacddeaobogjaa.N.farL W t (List.length A)) W fr a)) []) (Int.toNat (↑(Go.Proofs.Ytfacddeaobogjaa.N.idx39 (List.getD (Prod.fst (Option.getD g ([], []))) (Int.toNat (Go.Proofs.Ytfacddeaobogjaa.N.nodeAt (Go.Proofs.Ytfacddeaobogjaa.N.farL W t (List.length A)) W fr a)) []) (Go.Proofs.Ytfacddeaobogjaa.N.farL W t (List.length A)) (Go.Proofs.Ytfacddeaobogjaa.N.nodeAt (Go.Proofs.Ytfacddeaobogjaa.N.farL W t (List.length A)) W fr a)) : Int)) (0 : Int) = Go.Proofs.Ytfacddeaobogjaa.N.nodeAt (Go.Proofs.Ytfacddeaobogjaa.N.farL W t (List.length A)) W fr a' ∧ List.take (a + (1 : Nat)) (Go.Proofs.Ytfacddeaobogjaa.N.pathTo (Go.Proofs.Ytfacddeaobogjaa.N.farL W t (List.length A)) W fr a) ++ [List.getD (List.getD (Prod.fst (Option.getD g ([], []))) (Int.toNat (Go.Proofs.Ytfacddeaobogjaa.N.nodeAt (Go.Proofs.Ytfacddeaobogjaa.N.farL W t (List.length A)) W fr a)) []) (Int.toNat (↑(Go.Proofs.Ytfacddeaobogjaa.N.idx39 (List.getD (Prod.fst (Option.getD g ([], []))) (Int.toNat (Go.Proofs.Ytfacddeaobogjaa.N.nodeAt (Go.Proofs.Ytfacddeaobogjaa.N.farL W t (List.length A)) W fr a)) []) (Go.Proofs.Ytfacddeaobogjaa.N.farL W t (List.length A)) (Go.Proofs.Ytfacddeaobogjaa.N.nodeAt (Go.Proofs.Ytfacddeaobogjaa.N.farL W t (List.length A)) W fr a)) : Int)) (0 : Int)] = Go.Proofs.Ytfacddeaobogjaa.N.pathTo (Go.Proofs.Ytfacddeaobogjaa.N.farL W t (List.length A)) W fr a') ∧ a' ≤ Int.toNat (List.getD (Go.Proofs.Ytfacddeaobogjaa.N.farL W t (List.length A)) (Int.toNat fr) (0 : Int)) ∧ Int.toNat (List.getD (Go.Proofs.Ytfacddeaobogjaa.N.farL W t (List.length A)) (Int.toNat fr) (0 : Int)) - a' < Int.toNat (List.getD (Go.Proofs.Ytfacddeaobogjaa.N.farL W t (List.length A)) (Int.toNat fr) (0 : Int)) - a) ∧ ((Go.Proofs.Ytfacddeaobogjaa.N.nodeAt (Go.Proofs.Ytfacddeaobogjaa.N.farL W t (List.length A)) W fr a != t) = Bool.false → ((0 : Nat) + (a + (1 : Nat)) ≤ List.length (Go.Proofs.Ytfacddeaobogjaa.N.pathTo (Go.Proofs.Ytfacddeaobogjaa.N.farL W t (List.length A)) W fr a) ∧ List.take (a + (1 : Nat)) (Go.Proofs.Ytfacddeaobogjaa.N.pathTo (Go.Proofs.Ytfacddeaobogjaa.N.farL W t (List.length A)) W fr a) = Go.Proofs.Ytfacddeaobogjaa.N.pathL W (↑(List.length A) : Int) fr t ∧ Bool.true = Go.Proofs.Ytfacddeaobogjaa.N.pathB W (↑(List.length A) : Int) fr t) ∧ True))))) _ (by kernel_rfl)
  have hmax : maxLen = 9223372036854775807 := rfl
  subst hg
  obtain ⟨hA, hB, hBl, hAl, hE, hpre, hrow⟩ := h
  have hr : rowsOf (some (A, B)) = A := rfl
  have hpB : pathB W (A.length : Int) fr t = pathOk (farL W t A.length) (A.length : Int) fr t := by unfold pathB; rw [Int.toNat_natCast]
  have hpL : pathL W (A.length : Int) fr t = bif pathB W (A.length : Int) fr t then pathTo (farL W t A.length) W fr ((farL W t A.length).getD fr.toNat 0).toNat else [] := by unfold pathL; rw [Int.toNat_natCast]
  have no : pathB W (A.length : Int) fr t = false → ([] = pathL W (A.length : Int) fr t ∧ false = pathB W (A.length : Int) fr t) ∧ True := fun hb => by
    rw [hpL, hb]
    exact ⟨⟨rfl, rfl⟩, trivial⟩
  rw [hr]
  have z0 : Int.toNat (0 : Int) = 0 := rfl
  have z1 : Int.toNat (1 : Int) = 1 := rfl
  simp only [Int.toNat_natCast, z0, z1, Nat.add_zero, Option.getD_some, Option.isSome_some]
  refine ⟨fun hc => no ?_, fun hc => ?_⟩
  · rw [hpB]
    unfold pathOk
    have : ¬ (0 ≤ fr ∧ fr < (A.length : Int) ∧ 0 ≤ t ∧ t < (A.length : Int)) := fun hh => by
      rw [(nodeG_iff A B fr).2 ⟨hh.1, hh.2.1⟩, (nodeG_iff A B t).2 hh.2.2] at hc
      simp at hc
    rw [decide_eq_false this]; rfl
  · rw [Bool.or_eq_false_iff, Bool.not_eq_false', Bool.not_eq_false', nodeG_iff, nodeG_iff] at hc
    obtain ⟨⟨f0, f1⟩, t0, t1⟩ := hc
    have hst := Bfs.start (W := W) (t := t) (n := A.length) ⟨t0, t1⟩
    have hrl : (List.replicate A.length (-1 : Int)).length = A.length := List.length_replicate
    have hc0 : cntN ((List.replicate A.length (-1 : Int)).set t.toNat 0) + 1 ≤ A.length + 1 := by
      have := List.count_le_length (a := (-1 : Int)) (l := (List.replicate A.length (-1 : Int)).set t.toNat 0)
      rw [List.length_set, hrl] at this
      unfold cntN; omega
    refine ⟨⟨by trivial, by omega, by omega⟩, ⟨t0, by omega⟩, by omega, ⟨((List.replicate A.length (-1 : Int)).set t.toNat 0, [t], 0), ⟨by trivial, by trivial, by trivial, rfl, rfl, by rw [List.length_set, hrl], rfl, rfl⟩, Nat.zero_le _, hst, by simp only [List.length_singleton]; omega⟩, ?_⟩
    rintro ⟨F, Q, k⟩ ⟨hk, hbfs, hms⟩
    simp only at hk hbfs hms ⊢
    refine ⟨fun hlt => ?_, fun hge => ?_⟩
    · have hlt : k < Q.length := by have := of_decide_eq_true hlt; omega
      have hdrop : ∀ (Q : List Int) (k : Nat), k < Q.length → Q.drop k = Q.getD k 0 :: Q.drop (k + 1) := fun Q k h => by
        rw [List.drop_eq_getElem_cons h, List.getD_eq_getElem?_getD, List.getElem?_eq_getElem h]; rfl
      have hq := hbfs.q0 (Q.getD k 0) (by rw [hdrop Q k hlt]; exact List.mem_cons_self ..)
      refine ⟨trivial, ⟨by omega, by omega⟩, hlt, ⟨hq.1.1, by omega⟩, ⟨(F, Q, k, 0, 2 * cntN F + (Q.length - k)), ⟨by trivial, by trivial, by trivial, rfl, rfl, rfl, rfl, rfl, rfl, rfl, rfl⟩, ⟨hlt, hbfs, Nat.zero_le _, fun j hj => absurd hj (Nat.not_lt_zero j), Nat.le_refl _⟩, trivial, rfl⟩, ?_⟩
      rintro ⟨F1, Q1, k1, j, M⟩ ⟨⟨r1, r2, r3, r4, r5⟩, _, r6⟩
      simp only at r1 r2 r3 r4 r5 r6 ⊢
      have hQ1 := hdrop Q1 k1 r1
      have hq1 := r2.q0 (Q1.getD k1 0) (by rw [hQ1]; exact List.mem_cons_self ..)
      have hB1 := hB.2 (Q1.getD k1 0).toNat
      have hpr := fun a => hpre (Q1.getD k1 0) a hq1.1.1
      have hF1 := r2.len
      rw [hQ1] at r2
      generalize hhd : Q1.getD k1 0 = hd at *
      generalize hrw : B.getD hd.toNat [] = row at *
      refine ⟨fun hj => ?_, fun hj => ?_⟩
      · have hj : j < row.length := by have := of_decide_eq_true hj; omega
        have hmem : row.getD j 0 ∈ row := by rw [List.getD_eq_getElem?_getD, List.getElem?_eq_getElem hj]; exact List.getElem_mem hj
        have hxW := (hpr _).1 hmem
        have hxv := hE _ hxW
        simp only at hxv
        obtain ⟨x, hx⟩ : ∃ x, row.getD j 0 = x := ⟨_, rfl⟩
        simp only [hx] at hmem hxW hxv ⊢
        refine ⟨⟨by omega, by omega⟩, ⟨hxv.1, by omega⟩, by omega, fun hneg => ?_, fun hneg => ?_⟩
        · have hneg := of_decide_eq_true hneg
          have hadd := Bfs.add hE r2 hxW hneg
          obtain ⟨d, hd1, hd2⟩ := r2.at hq1.1 hq1.2
          have hdn := Mn.lt hE ⟨t0, t1⟩ hd2
          have hx1 : F1.getD x.toNat 0 = -1 := by
            rcases r2.val x.toNat (by omega) with q | ⟨e, q, _⟩
            · exact q
            · omega
          have hcs := cntN_set (x := F1.getD hd.toNat 0 + 1) (show x.toNat < F1.length by omega) hx1 (by omega)
          have hdl : (Q1.drop k1).length = Q1.length - k1 := List.length_drop
          have htk : List.take (Q1.length - k1) (Q1.drop k1) = Q1.drop k1 := List.take_of_length_le (by omega)
          have hhead : (Q1.drop k1 ++ [x]).getD 0 0 = hd := by rw [hQ1]; rfl
          have hql : (Q1.drop k1 ++ [x]).length = Q1.length - k1 + 1 := by rw [List.length_append, hdl, List.length_singleton]
          rw [htk]
          refine ⟨⟨by omega, by omega⟩, r1, ⟨hq1.1.1, by omega⟩, by omega, by unfold okI64; omega, ⟨hxv.1, by omega⟩, by omega, by omega, ⟨by simp only [List.length_singleton]; omega, by simp only [List.length_singleton]; omega⟩, by unfold okI64; omega,
            (F1.set x.toNat (F1.getD hd.toNat 0 + 1), Q1.drop k1 ++ [x], 0, j + 1, M), ⟨by trivial, by trivial, by trivial, rfl, by simp only [hql]; omega, by simp only [hhead, hrw], by simp only [hhead, hrw], by simp, by simp only [List.length_set], rfl, rfl⟩,
            ⟨⟨by simp only [hql]; omega, by simp only [List.drop_zero]; rw [hQ1]; exact hadd, by simp only [hhead, hrw]; omega, fun j' hj' => ?_, by simp only [hql]; omega⟩, trivial, r6⟩, by simp only [hhead, hrw]; omega⟩
          simp only [hhead, hrw] at hj' ⊢
          rw [getD_setI (by omega)]
          split
          · omega
          · rcases Nat.lt_or_ge j' j with q | q
            · exact r4 j' q
            · have hjj : j' = j := by omega
              rename_i hne
              exact absurd (by rw [hjj, hx]) hne
        · have hneg := of_decide_eq_false hneg
          refine ⟨by unfold okI64; omega, (F1, Q1, k1, j + 1, M), ⟨by trivial, by trivial, by trivial, rfl, rfl, by simp only [hhd, hrw], by simp only [hhd, hrw], by simp, rfl, rfl, rfl⟩, ⟨⟨r1, by simp only [hQ1]; exact r2, by simp only [hhd, hrw]; omega, fun j' hj' => ?_, r5⟩, trivial, r6⟩, by simp only [hhd, hrw]; omega⟩
          simp only [hhd, hrw] at hj' ⊢
          rcases Nat.lt_or_ge j' j with q | q
          · exact r4 j' q
          · have : j' = j := by omega
            rw [this, hx]; omega
      · have hj : j = row.length := by have := of_decide_eq_false hj; omega
        have hpop := Bfs.pop hE r2 (fun a ha => by
          obtain ⟨i, hi, hai⟩ := List.mem_iff_getElem.1 ((hpr a).2 ha)
          have := r4 i (by omega)
          rw [List.getD_eq_getElem?_getD (l := row), List.getElem?_eq_getElem hi] at this
          simp only [Option.getD_some] at this
          rw [hai] at this; exact this)
        exact ⟨⟨by omega, by omega, by omega⟩, (F1, Q1, k1 + 1), ⟨by trivial, by trivial, by trivial, rfl, by simp only; omega, rfl, rfl, rfl⟩, ⟨by simp only; omega, hpop, by simp only; omega⟩, by simp only; omega⟩
    · have hge : k = Q.length := by have := of_decide_eq_false hge; omega
      rw [hge, List.drop_length] at hbfs
      have hFar := Bfs.far hE hbfs
      have hFl := hbfs.len
      have hF := farL_is W t A.length
      subst hFar
      generalize farL W t A.length = F at hF hpB hpL hFl ⊢
      refine ⟨⟨f0, by omega⟩, by omega, fun hneg => no ?_, fun hneg => ?_⟩
      · have := of_decide_eq_true hneg
        rw [hpB]; unfold pathOk
        rw [Bool.and_eq_false_iff]
        exact .inr (decide_eq_false (by omega))
      · have hnn := of_decide_eq_false hneg
        have hpB' : pathB W (A.length : Int) fr t = true := by
          rw [hpB]; unfold pathOk
          rw [Bool.and_eq_true, decide_eq_true_iff, decide_eq_true_iff]; omega
        obtain ⟨D, hD⟩ : ∃ D : Nat, F.getD fr.toNat 0 = D := ⟨(F.getD fr.toNat 0).toNat, by omega⟩
        have hDt : (F.getD fr.toNat 0).toNat = D := by omega
        have nd := node_ok hF hE (fr := fr) ⟨f0, f1⟩ hD
        have nx := fun k hk => node_next hF hE (fr := fr) ⟨f0, f1⟩ hD (k := k) hk
        have hDn : D < A.length := Mn.lt hE ⟨t0, t1⟩ (by have := (nd 0 (Nat.zero_le _)).2.2; simpa using this)
        rw [hDt] at hpL ⊢
        rw [hpB', cond_true] at hpL
        refine ⟨⟨0, ⟨by trivial, by trivial, rfl, rfl, rfl, rfl, rfl⟩, Nat.zero_le _⟩, fun a ha => ⟨fun hne => ?_, fun heq => ?_⟩⟩
        · have hne := bne_iff_ne.1 hne
          have had : a < D := by
            rcases Nat.lt_or_ge a D with h | h
            · exact h
            · have haD : a = D := by omega
              have k3 := (nd a ha).2.2
              rw [haD, Nat.sub_self] at k3
              have : nodeAt F W fr D = t := by
                have hw := k3.1
                generalize nodeAt F W fr D = z at hw
                cases hw; rfl
              rw [haD] at hne
              exact absurd this hne
          obtain ⟨k1, k2, k3⟩ := nd a ha
          have hnx := nx a had
          have hro := hrow _ k1.1
          obtain ⟨i1, i2⟩ := idx_next hnx
          have hnode : nodeAt F W fr (a + 1) = nextN F (refA W (nodeAt F W fr a)) (nodeAt F W fr a) := rfl
          have hrl := (hA.2 (nodeAt F W fr a).toNat).1
          have hrv := (hA.2 (nodeAt F W fr a).toNat).2
          rw [hro] at hrl hrv ⊢
          rw [i2, ← hnode]
          have hpl := pathTo_len F W fr a
          have hps := pathTo_succ F W fr a
          refine ⟨trivial, k1, ⟨by trivial, by trivial, by trivial, by trivial, ⟨hrl, fun x hx => by have := hrv x hx; omega, by omega, by omega, hnx⟩, trivial⟩, trivial, k1, ⟨by omega, by omega⟩, by omega, ⟨by simp only [List.length_singleton]; omega, by simp only [List.length_singleton]; omega⟩, a + 1, ⟨by trivial, by trivial, rfl, by trivial, by trivial, rfl, ?_⟩, by omega, by omega⟩
          rw [List.take_of_length_le (by omega), hps]
        · have heq := bne_eq_false_iff_eq.1 heq
          have haD : a = D := by
            have k3 := (nd a ha).2.2
            rw [heq] at k3
            have k0 : Mn W t t 0 := ⟨.zero, fun e he => absurd he (Nat.not_lt_zero e)⟩
            have := k3.uniq k0
            omega
          subst haD
          have hpl := pathTo_len F W fr a
          refine ⟨⟨by omega, ?_, hpB'.symm⟩, trivial⟩
          rw [List.take_of_length_le (by omega)]
          exact hpL.symm
end Go.Proofs.Ytfacddeaobogjaa.N
