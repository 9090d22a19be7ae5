import Derived.Test.YtfacddeaobogjaaF12
import Derived.Test.YtfacddeaobogjaaG14
set_option linter.unusedVariables false
set_option linter.unusedSimpArgs false
set_option linter.unnecessarySimpa false
set_option linter.unusedVariables false
set_option linter.unusedSimpArgs false
/- The reference's far and Path. -/
namespace Go.Proofs.Ytfacddeaobogjaa.N
open Go.DF
set_option maxRecDepth 100000
section
variable (W : Es) (t : Int) (n : Nat)
def lev (F : List Int) (d : Nat) : Prop := F.length = n ∧ ∀ v : Nat, v < n → (∃ e : Nat, e ≤ d ∧ F.getD v 0 = e ∧ Mn W t (v : Int) e) ∨ (F.getD v 0 = -1 ∧ ∀ e, e ≤ d → ¬ Wk W t e (v : Int))
def lev2 (F : List Int) (d i : Nat) : Prop := F.length = n ∧ ∀ v : Nat, v < n → (∃ e : Nat, e ≤ d ∧ F.getD v 0 = e ∧ Mn W t (v : Int) e) ∨ (F.getD v 0 = (d : Int) + 1 ∧ Mn W t (v : Int) (d + 1)) ∨
  (F.getD v 0 = -1 ∧ (∀ e, e ≤ d → ¬ Wk W t e (v : Int)) ∧ ∀ j, j < i → (W.getD j (0, 0)).1 = (v : Int) → ¬ Wk W t d (W.getD j (0, 0)).2)
end
theorem lev_lev2 {W : Es} {t : Int} {n : Nat} {F : List Int} {d : Nat} (h : lev W t n F d) : lev2 W t n F d 0 :=
  ⟨h.1, fun v hv => (h.2 v hv).imp_right fun k => .inr ⟨k.1, k.2, fun j hj => absurd hj (Nat.not_lt_zero j)⟩⟩
theorem lev2_lev {W : Es} {t : Int} {n : Nat} {F : List Int} {d : Nat} (h : lev2 W t n F d W.length) : lev W t n F (d + 1) := by
  refine ⟨h.1, fun v hv => ?_⟩
  rcases h.2 v hv with ⟨e, h1, h2, h3⟩ | ⟨h1, h2⟩ | ⟨h1, h2, h3⟩
  · exact .inl ⟨e, by omega, h2, h3⟩
  · exact .inl ⟨d + 1, Nat.le_refl _, by rw [h1]; omega, h2⟩
  · refine .inr ⟨h1, fun e he hw => ?_⟩
    rcases Nat.lt_or_ge d e with hd | hd
    · have : e = d + 1 := by omega
      subst this
      cases hw with
      | step hm hk =>
        obtain ⟨j, hj, hx⟩ := List.mem_iff_getElem.1 hm
        have hg : W.getD j (0, 0) = W[j] := by rw [List.getD_eq_getElem?_getD, List.getElem?_eq_getElem hj]; rfl
        exact h3 j hj (by rw [hg, hx]) (by rw [hg, hx]; exact hk)
    · exact h2 e hd hw
theorem getD_setI {F : List Int} {i v : Nat} {x : Int} (h : i < F.length) : (F.set i x).getD v 0 = if v = i then x else F.getD v 0 := by
  rw [List.getD_eq_getElem?_getD, List.getElem?_set]
  by_cases e : i = v
  · subst e; simp [h]
  · rw [if_neg e, if_neg (Ne.symm e), List.getD_eq_getElem?_getD]
theorem lev2_step {W : Es} {t : Int} {n : Nat} {F : List Int} {d i : Nat} (h : lev2 W t n F d i) (hi : i < W.length) (hE : ∀ x ∈ W, 0 ≤ x.1 ∧ x.1 < (n : Int) ∧ 0 ≤ x.2 ∧ x.2 < (n : Int))
    (h1 : F.getD (W.getD i (0, 0)).2.toNat 0 = d) (h2 : F.getD (W.getD i (0, 0)).1.toNat 0 < 0) : lev2 W t n (F.set (W.getD i (0, 0)).1.toNat ((d : Int) + 1)) d (i + 1) := by
  have hm : W.getD i (0, 0) ∈ W := by rw [List.getD_eq_getElem?_getD, List.getElem?_eq_getElem hi]; exact List.getElem_mem hi
  generalize hx : W.getD i (0, 0) = x at *
  have hv := hE x hm
  have hl := h.1
  have hb := h.2 x.2.toNat (by omega)
  have ha := h.2 x.1.toNat (by omega)
  rw [show ((x.1.toNat : Nat) : Int) = x.1 from by omega] at ha
  rw [show ((x.2.toNat : Nat) : Int) = x.2 from by omega] at hb
  have hwb : Wk W t d x.2 := by
    rcases hb with ⟨e, k1, k2, k3⟩ | ⟨k1, k2⟩ | ⟨k1, k2, k3⟩
    · have : e = d := by omega
      rw [← this]; exact k3.1
    · omega
    · omega
  have hna : ∀ e, e ≤ d → ¬ Wk W t e x.1 := by
    rcases ha with ⟨e, k1, k2, k3⟩ | ⟨k1, k2⟩ | ⟨k1, k2, k3⟩
    · omega
    · omega
    · exact k2
  refine ⟨by rw [List.length_set]; exact hl, fun v hv' => ?_⟩
  rw [getD_setI (by omega)]
  by_cases e : v = x.1.toNat
  · rw [if_pos e]
    have ev : (v : Int) = x.1 := by omega
    rw [ev]
    exact .inr (.inl ⟨rfl, .step hm hwb, fun e he => hna e (by omega)⟩)
  · rw [if_neg e]
    rcases h.2 v hv' with k | k | ⟨k1, k2, k3⟩
    · exact .inl k
    · exact .inr (.inl k)
    · refine .inr (.inr ⟨k1, k2, fun j hj hjv => ?_⟩)
      rcases Nat.lt_or_ge j i with hj' | hj'
      · exact k3 j hj' hjv
      · have : j = i := by omega
        subst this
        rw [hx] at hjv
        omega
theorem lev2_skip {W : Es} {t : Int} {n : Nat} {F : List Int} {d i : Nat} (h : lev2 W t n F d i) (hi : i < W.length) (hE : ∀ x ∈ W, 0 ≤ x.1 ∧ x.1 < (n : Int) ∧ 0 ≤ x.2 ∧ x.2 < (n : Int))
    (h1 : ¬ (F.getD (W.getD i (0, 0)).2.toNat 0 = d ∧ F.getD (W.getD i (0, 0)).1.toNat 0 < 0)) : lev2 W t n F d (i + 1) := by
  have hm : W.getD i (0, 0) ∈ W := by rw [List.getD_eq_getElem?_getD, List.getElem?_eq_getElem hi]; exact List.getElem_mem hi
  refine ⟨h.1, fun v hv' => ?_⟩
  rcases h.2 v hv' with k | k | ⟨k1, k2, k3⟩
  · exact .inl k
  · exact .inr (.inl k)
  · refine .inr (.inr ⟨k1, k2, fun j hj hjv => ?_⟩)
    rcases Nat.lt_or_ge j i with hj' | hj'
    · exact k3 j hj' hjv
    · have : j = i := by omega
      subst this
      generalize hx : W.getD j (0, 0) = x at *
      have hv := hE x hm
      intro hw
      have ex : x.1.toNat = v := by omega
      rw [ex] at h1
      have hb := h.2 x.2.toNat (by omega)
      rw [show ((x.2.toNat : Nat) : Int) = x.2 from by omega] at hb
      rcases hb with ⟨e, q1, q2, q3⟩ | ⟨q1, q2⟩ | ⟨q1, q2, q3⟩
      · have : e ≠ d := fun e' => h1 ⟨by omega, by omega⟩
        exact k2 (e + 1) (by omega) (by rw [← hjv]; exact .step hm q3.1)
      · exact q2.2 d (by omega) hw
      · exact q2 d (Nat.le_refl _) hw
theorem lev_far {W : Es} {t : Int} {n : Nat} {F : List Int} (h : lev W t n F n) (hE : ∀ x ∈ W, 0 ≤ x.1 ∧ x.1 < (n : Int) ∧ 0 ≤ x.2 ∧ x.2 < (n : Int)) (ht : 0 ≤ t ∧ t < (n : Int)) : F = farL W t n := by
  refine far_of ⟨h.1, fun v hv => ?_⟩
  rcases h.2 v hv with ⟨e, h1, h2, h3⟩ | ⟨h1, h2⟩
  · exact .inr ⟨e, h2, h3⟩
  · refine .inl ⟨h1, fun d hd => ?_⟩
    obtain ⟨e, _, k⟩ := Mn.of hd
    exact h2 e (by have := Mn.lt hE ht k; omega) k.1
def hp41 (N : Int) (W : Es) (F : List Int) : Hp := [(0, (false, .cells 27 [.int .i64 (.sym N), .per (.sl eC) W])), (1, (false, .arr 3 (.int .i64) F))]
def inv41a (N : Int) (W : Es) (t : Int) : LInv where
  α := Nat × List Int
  S := fun x => ⟨[(1, .int .i64 (.sym t)), (2, .ptr ⟨0, .lit 0, 0, 0⟩), (5, .slice ⟨1, .lit 0, 1, 0⟩ (.sym N.toNat)), (6, .int .i64 (.sym x.1))], hp41 N W x.2, 2⟩
  p := fun x => x.1 ≤ N.toNat ∧ x.2.length = N.toNat ∧ ∀ v, v < x.1 → x.2.getD v 0 = -1
  m := fun x => N.toNat - x.1
def inv41b (N : Int) (W : Es) (t : Int) : LInv where
  α := Nat × List Int
  S := fun x => ⟨[(2, .ptr ⟨0, .lit 0, 0, 0⟩), (5, .slice ⟨1, .lit 0, 1, 0⟩ (.sym N.toNat)), (7, .int .i64 (.sym x.1))], hp41 N W x.2, 2⟩
  p := fun x => x.1 ≤ N.toNat ∧ lev W t N.toNat x.2 x.1
  m := fun x => N.toNat - x.1
def inv41c (N : Int) (W : Es) (t : Int) : LInv where
  α := Nat × Nat × List Int
  S := fun x => ⟨[(2, .ptr ⟨0, .lit 0, 0, 0⟩), (5, .slice ⟨1, .lit 0, 1, 0⟩ (.sym N.toNat)), (7, .int .i64 (.sym x.1)), (8, .int .i64 (.sym x.2.1))], hp41 N W x.2.2, 2⟩
  p := fun x => x.1 < N.toNat ∧ x.2.1 ≤ W.length ∧ lev2 W t N.toNat x.2.2 x.1 x.2.1
  m := fun x => W.length - x.2.1
  lk := [(7, fun x => (x.1 : Int))]
set_option maxHeartbeats 4000000 in
theorem p41 (N : Int) (W : Es) (t : Int) (h : okW N W []) (ht : 0 ≤ t ∧ t < N) : Pure1 Try.prog 41 [.agg [.int .i64 (.sym N), .per (.sl eC) W], .int .i64 (.sym t)] (.per iC (farL W t N.toNat)) := by
  refine pure1_of_exec (ct := cx0 [] [] []) [(3, inv41a N W t), (8, inv41b N W t), (11, inv41c N W t)] Try.func41 rfl rfl ?_
  apply @cast_goal (((0 : Int) ≤ N ∧ N ≤ N ∧ N * (↑(8 : Nat) : Int) ≤ (140737488355328 : Int) ∧ N ≤ (9223372036854775807 : Int)) ∧ (∃ (a : Nat × List Int), (t = t ∧ Int.toNat N = Int.toNat N ∧ (0 : Int) = (↑(Prod.fst a) : Int) ∧ N = N ∧ W = W ∧ List.replicate (Int.toNat N) (0 : Int) = Prod.snd a) ∧ Prod.fst a ≤ Int.toNat N ∧ List.length (Prod.snd a) = Int.toNat N ∧ ∀ (v : Nat), v < Prod.fst a → List.getD (Prod.snd a) v (0 : Int) = (-1 : Int)) ∧ ∀ (a : Nat × List Int), (Prod.fst a ≤ Int.toNat N ∧ List.length (Prod.snd a) = Int.toNat N ∧ ∀ (v : Nat), v < Prod.fst a → List.getD (Prod.snd a) v (0 : Int) = (-1 : Int)) → (Decidable.decide ((↑(Prod.fst a) : Int) < N) = Bool.true → ((0 : Int) ≤ (↑(Prod.fst a) : Int) ∧ (↑(Prod.fst a) : Int) < (↑(Int.toNat N) : Int)) ∧ Int.toNat (↑(Prod.fst a) : Int) < List.length (Prod.snd a) ∧ Go.DF.okI64 ((↑(Prod.fst a) : Int) + (1 : Int)) ∧ ∃ (a' : Nat × List Int), (t = t ∧ Int.toNat N = Int.toNat N ∧ (↑(Prod.fst a) : Int) + (1 : Int) = (↑(Prod.fst a') : Int) ∧ N = N ∧ W = W ∧ List.set (Prod.snd a) (Int.toNat (↑(Prod.fst a) : Int)) (-1 : Int) = Prod.snd a') ∧ (Prod.fst a' ≤ Int.toNat N ∧ List.length (Prod.snd a') = Int.toNat N ∧ ∀ (v : Nat), v < Prod.fst a' → List.getD (Prod.snd a') v (0 : Int) = (-1 : Int)) ∧ Int.toNat N - Prod.fst a' < Int.toNat N - Prod.fst a) ∧ (Decidable.decide ((↑(Prod.fst a) : Int) < N) = Bool.false → ((0 : Int) ≤ t ∧ t < (↑(Int.toNat N) : Int)) ∧ Int.toNat t < List.length (Prod.snd a) ∧ (∃ (a_3 : Nat × List Int), (Int.toNat N = Int.toNat N ∧ (0 : Int) = (↑(Prod.fst a_3) : Int) ∧ N = N ∧ W = W ∧ List.set (Prod.snd a) (Int.toNat t) (0 : Int) = Prod.snd a_3) ∧ Prod.fst a_3 ≤ Int.toNat N ∧ Go.Proofs.Ytfacddeaobogjaa.N.lev W t (Int.toNat N) (Prod.snd a_3) (Prod.fst a_3)) ∧ ∀ (a : Nat × List Int), Prod.fst a ≤ Int.toNat N ∧ Go.Proofs.Ytfacddeaobogjaa.N.lev W t (Int.toNat N) (Prod.snd a) (Prod.fst a) → (Decidable.decide ((↑(Prod.fst a) : Int) < N) = Bool.true → (∃ (a_5 : Nat × Nat × List Int), (Int.toNat N = Int.toNat N ∧ (↑(Prod.fst a) : Int) = (↑(Prod.fst a_5) : Int) ∧ (0 : Int) = (↑(Prod.fst (Prod.snd a_5)) : Int) ∧ N = N ∧ W = W ∧ Prod.snd a = Prod.snd (Prod.snd a_5)) ∧ (Prod.fst a_5 < Int.toNat N ∧ Prod.fst (Prod.snd a_5) ≤ List.length W ∧ Go.Proofs.Ytfacddeaobogjaa.N.lev2 W t (Int.toNat N) (Prod.snd (Prod.snd a_5)) (Prod.fst a_5) (Prod.fst (Prod.snd a_5))) ∧ (↑(Prod.fst a_5) : Int) = (↑(Prod.fst a) : Int) ∧ True) ∧ ∀ (a_5 : Nat × Nat × List Int), (Prod.fst a_5 < Int.toNat N ∧ Prod.fst (Prod.snd a_5) ≤ List.length W ∧ Go.Proofs.Ytfacddeaobogjaa.N.lev2 W t (Int.toNat N) (Prod.snd (Prod.snd a_5)) (Prod.fst a_5) (Prod.fst (Prod.snd a_5))) ∧ (↑(Prod.fst a_5) : Int) = (↑(Prod.fst a) : Int) ∧ True → (Decidable.decide ((↑(Prod.fst (Prod.snd a_5)) : Int) < (↑(List.length W) : Int)) = Bool.true → (((0 : Int) ≤ (↑(Prod.fst (Prod.snd a_5)) : Int) ∧ (↑(Prod.fst (Prod.snd a_5)) : Int) < (↑(List.length W) : Int)) ∧ ((0 : Int) ≤ Prod.snd (List.getD W (Int.toNat (↑(Prod.fst (Prod.snd a_5)) : Int)) ((0 : Int), (0 : Int))) ∧ Prod.snd (List.getD W (Int.toNat (↑(Prod.fst (Prod.snd a_5)) : Int)) ((0 : Int), (0 : Int))) < (↑(Int.toNat N) : Int)) ∧ Int.toNat (Prod.snd (List.getD W (Int.toNat (↑(Prod.fst (Prod.snd a_5)) : Int)) ((0 : Int), (0 : Int)))) < List.length (Prod.snd (Prod.snd a_5)) ∧ ((List.getD (Prod.snd (Prod.snd a_5)) (Int.toNat (Prod.snd (List.getD W (Int.toNat (↑(Prod.fst (Prod.snd a_5)) : Int)) ((0 : Int), (0 : Int))))) (0 : Int) == (↑(Prod.fst a_5) : Int)) = Bool.true → ((0 : Int) ≤ (↑(Prod.fst (Prod.snd a_5)) : Int) ∧ (↑(Prod.fst (Prod.snd a_5)) : Int) < (↑(List.length W) : Int)) ∧ ((0 : Int) ≤ Prod.fst (List.getD W (Int.toNat (↑(Prod.fst (Prod.snd a_5)) : Int)) ((0 : Int), (0 : Int))) ∧ Prod.fst (List.getD W (Int.toNat (↑(Prod.fst (Prod.snd a_5)) : Int)) ((0 : Int), (0 : Int))) < (↑(Int.toNat N) : Int)) ∧ Int.toNat (Prod.fst (List.getD W (Int.toNat (↑(Prod.fst (Prod.snd a_5)) : Int)) ((0 : Int), (0 : Int)))) < List.length (Prod.snd (Prod.snd a_5)) ∧ True) ∧ ((List.getD (Prod.snd (Prod.snd a_5)) (Int.toNat (Prod.snd (List.getD W (Int.toNat (↑(Prod.fst (Prod.snd a_5)) : Int)) ((0 : Int), (0 : Int))))) (0 : Int) == (↑(Prod.fst a_5) : Int)) = Bool.false → True)) ∧ ((List.getD (Prod.snd (Prod.snd a_5)) (Int.toNat (Prod.snd (List.getD W (Int.toNat (↑(Prod.fst (Prod.snd a_5)) : Int)) ((0 : Int), (0 : Int))))) (0 : Int) == (↑(Prod.fst a_5) : Int) && Decidable.decide (List.getD (Prod.snd (Prod.snd a_5)) (Int.toNat (Prod.fst (List.getD W (Int.toNat (↑(Prod.fst (Prod.snd a_5)) : Int)) ((0 : Int), (0 : Int))))) (0 : Int) < (0 : Int))) = Bool.true → ((0 : Int) ≤ (↑(Prod.fst (Prod.snd a_5)) : Int) ∧ (↑(Prod.fst (Prod.snd a_5)) : Int) < (↑(List.length W) : Int)) ∧ Go.DF.okI64 ((↑(Prod.fst a_5) : Int) + (1 : Int)) ∧ ((0 : Int) ≤ Prod.fst (List.getD W (Int.toNat (↑(Prod.fst (Prod.snd a_5)) : Int)) ((0 : Int), (0 : Int))) ∧ Prod.fst (List.getD W (Int.toNat (↑(Prod.fst (Prod.snd a_5)) : Int)) ((0 : Int), (0 : Int))) < (↑(Int.toNat N) : Int)) ∧ Int.toNat (Prod.fst (List.getD W (Int.toNat (↑(Prod.fst (Prod.snd a_5)) : Int)) ((0 : Int), (0 : Int)))) < List.length (Prod.snd (Prod.snd a_5)) ∧ Go.DF.okI64 ((↑(Prod.fst (Prod.snd a_5)) : Int) + (1 : Int)) ∧ ∃ (a' : Nat × Nat × List Int), (Int.toNat N = Int.toNat N ∧ (↑(Prod.fst a_5) : Int) = (↑(Prod.fst a') : Int) ∧ (↑(Prod.fst (Prod.snd a_5)) : Int) + (1 : Int) = (↑(Prod.fst (Prod.snd a')) : Int) ∧ N = N ∧ W = W ∧ List.set (Prod.snd (Prod.snd a_5)) (Int.toNat (Prod.fst (List.getD W (Int.toNat (↑(Prod.fst (Prod.snd a_5)) : Int)) ((0 : Int), (0 : Int))))) ((↑(Prod.fst a_5) : Int) + (1 : Int)) = Prod.snd (Prod.snd a')) ∧ ((Prod.fst a' < Int.toNat N ∧ Prod.fst (Prod.snd a') ≤ List.length W ∧ Go.Proofs.Ytfacddeaobogjaa.N.lev2 W t (Int.toNat N) (Prod.snd (Prod.snd a')) (Prod.fst a') (Prod.fst (Prod.snd a'))) ∧ (↑(Prod.fst a') : Int) = (↑(Prod.fst a) : Int) ∧ True) ∧ List.length W - Prod.fst (Prod.snd a') < List.length W - Prod.fst (Prod.snd a_5)) ∧ ((List.getD (Prod.snd (Prod.snd a_5)) (Int.toNat (Prod.snd (List.getD W (Int.toNat (↑(Prod.fst (Prod.snd a_5)) : Int)) ((0 : Int), (0 : Int))))) (0 : Int) == (↑(Prod.fst a_5) : Int) && Decidable.decide (List.getD (Prod.snd (Prod.snd a_5)) (Int.toNat (Prod.fst (List.getD W (Int.toNat (↑(Prod.fst (Prod.snd a_5)) : Int)) ((0 : Int), (0 : Int))))) (0 : Int) < (0 : Int))) = Bool.false → Go.DF.okI64 ((↑(Prod.fst (Prod.snd a_5)) : Int) + (1 : Int)) ∧ ∃ (a' : Nat × Nat × List Int), (Int.toNat N = Int.toNat N ∧ (↑(Prod.fst a_5) : Int) = (↑(Prod.fst a') : Int) ∧ (↑(Prod.fst (Prod.snd a_5)) : Int) + (1 : Int) = (↑(Prod.fst (Prod.snd a')) : Int) ∧ N = N ∧ W = W ∧ Prod.snd (Prod.snd a_5) = Prod.snd (Prod.snd a')) ∧ ((Prod.fst a' < Int.toNat N ∧ Prod.fst (Prod.snd a') ≤ List.length W ∧ Go.Proofs.Ytfacddeaobogjaa.N.lev2 W t (Int.toNat N) (Prod.snd (Prod.snd a')) (Prod.fst a') (Prod.fst (Prod.snd a'))) ∧ (↑(Prod.fst a') : Int) = (↑(Prod.fst a) : Int) ∧ True) ∧ List.length W - Prod.fst (Prod.snd a') < List.length W - Prod.fst (Prod.snd a_5))) ∧ (Decidable.decide ((↑(Prod.fst (Prod.snd a_5)) : Int) < (↑(List.length W) : Int)) = Bool.false → Go.DF.okI64 ((↑(Prod.fst a_5) : Int) + (1 : Int)) ∧ ∃ (a' : Nat × List Int), (Int.toNat N = Int.toNat N ∧ (↑(Prod.fst a_5) : Int) + (1 : Int) = (↑(Prod.fst a') : Int) ∧ N = N ∧ W = W ∧ Prod.snd (Prod.snd a_5) = Prod.snd a') ∧ (Prod.fst a' ≤ Int.toNat N ∧ Go.Proofs.Ytfacddeaobogjaa.N.lev W t (Int.toNat N) (Prod.snd a') (Prod.fst a')) ∧ Int.toNat N - Prod.fst a' < Int.toNat N - Prod.fst a)) ∧ (Decidable.decide ((↑(Prod.fst a) : Int) < N) = Bool.false → ((0 : Nat) + Int.toNat N ≤ List.length (Prod.snd a) ∧ List.take (Int.toNat N) (Prod.snd a) = Go.Proofs.Ytfacddeaobogjaa.N.farL W t (Int.toNat N)) ∧ True))) _ (by kernel_rfl)
  have hmax : maxLen = 9223372036854775807 := rfl
  obtain ⟨⟨hN0, hN1⟩, hE, hWl, _⟩ := h
  have hNt : (N.toNat : Int) = N := by omega
  have hE' : ∀ x ∈ W, 0 ≤ x.1 ∧ x.1 < (N.toNat : Int) ∧ 0 ≤ x.2 ∧ x.2 < (N.toNat : Int) := fun x hx => by have := hE x hx; omega
  refine ⟨by omega, ⟨(0, List.replicate N.toNat 0), ⟨rfl, rfl, rfl, rfl, rfl, rfl⟩, Nat.zero_le _, List.length_replicate, fun v hv => absurd hv (Nat.not_lt_zero v)⟩, ?_⟩
  rintro ⟨k, F⟩ ⟨p1, p2, p3⟩
  simp only at p1 p2 p3 ⊢
  have ek : Int.toNat (k : Int) = k := by omega
  rw [ek]
  refine ⟨fun hlt => ?_, fun hge => ?_⟩
  · have hlt : k < N.toNat := by have := of_decide_eq_true hlt; omega
    refine ⟨⟨by omega, by omega⟩, by omega, by unfold okI64; omega, (k + 1, F.set k (-1)), ⟨by trivial, by trivial, by simp, by trivial, by trivial, rfl⟩, ⟨by simp only; omega, by simp only [List.length_set]; exact p2, fun v hv => ?_⟩, by simp only; omega⟩
    simp only at hv ⊢
    rw [getD_setI (by omega)]
    split
    · rfl
    · exact p3 v (by omega)
  · have hge : k = N.toNat := by have := of_decide_eq_false hge; omega
    have l0 : lev W t N.toNat (F.set t.toNat 0) 0 := by
      refine ⟨by rw [List.length_set]; exact p2, fun v hv => ?_⟩
      rw [getD_setI (by omega)]
      by_cases e : v = t.toNat
      · rw [if_pos e, show (v : Int) = t from by omega]
        exact .inl ⟨0, Nat.le_refl _, rfl, .zero, fun e he => absurd he (Nat.not_lt_zero e)⟩
      · rw [if_neg e]
        refine .inr ⟨p3 v (by omega), fun d hd hw => ?_⟩
        have : d = 0 := by omega
        subst this
        have : (v : Int) = t := by cases hw; rfl
        omega
    refine ⟨⟨ht.1, by omega⟩, by omega, ⟨(0, F.set t.toNat 0), ⟨by trivial, rfl, by trivial, by trivial, rfl⟩, Nat.zero_le _, l0⟩, ?_⟩
    rintro ⟨d, G⟩ ⟨q1, q2⟩
    simp only at q1 q2 ⊢
    refine ⟨fun hlt => ?_, fun hge => ?_⟩
    · have hlt : d < N.toNat := by have := of_decide_eq_true hlt; omega
      refine ⟨⟨(d, 0, G), ⟨by trivial, rfl, rfl, by trivial, by trivial, rfl⟩, ⟨hlt, Nat.zero_le _, lev_lev2 q2⟩, rfl, trivial⟩, ?_⟩
      rintro ⟨d', i, H⟩ ⟨⟨r1, r2, r3⟩, r4, _⟩
      have r4 : d' = d := by simp only at r4; omega
      subst r4
      simp only at r1 r2 r3 ⊢
      have ei : Int.toNat (i : Int) = i := by omega
      rw [ei]
      have hHl := r3.1
      refine ⟨fun hi => ?_, fun hi => ?_⟩
      · have hi : i < W.length := by have := of_decide_eq_true hi; omega
        have hxm : W.getD i (0, 0) ∈ W := by rw [List.getD_eq_getElem?_getD, List.getElem?_eq_getElem hi]; exact List.getElem_mem hi
        have hEx := hE _ hxm
        have st := lev2_step r3 hi hE'
        have sk := lev2_skip r3 hi hE'
        generalize W.getD i (0, 0) = x at hEx st sk ⊢
        refine ⟨⟨⟨by omega, by omega⟩, ⟨hEx.2.2.1, by omega⟩, by omega, fun _ => ⟨⟨by omega, by omega⟩, ⟨hEx.1, by omega⟩, by omega, trivial⟩, fun _ => trivial⟩, fun hc => ?_, fun hc => ?_⟩
        · rw [Bool.and_eq_true, beq_iff_eq, decide_eq_true_iff] at hc
          exact ⟨⟨by omega, by omega⟩, by unfold okI64; omega, ⟨hEx.1, by omega⟩, by omega, by unfold okI64; omega, (d', i + 1, H.set x.1.toNat ((d' : Int) + 1)), ⟨by trivial, rfl, by simp, by trivial, by trivial, rfl⟩, ⟨⟨r1, by simp only; omega, st hc.1 hc.2⟩, rfl, trivial⟩, by simp only; omega⟩
        · have hc' : ¬ (H.getD x.2.toNat 0 = d' ∧ H.getD x.1.toNat 0 < 0) := fun ⟨h1, h2⟩ => by
            rw [h1, decide_eq_true h2] at hc; simp at hc
          exact ⟨by unfold okI64; omega, (d', i + 1, H), ⟨by trivial, rfl, by simp, by trivial, by trivial, rfl⟩, ⟨⟨r1, by simp only; omega, sk hc'⟩, rfl, trivial⟩, by simp only; omega⟩
      · have hi : i = W.length := by have := of_decide_eq_false hi; omega
        subst hi
        exact ⟨by unfold okI64; omega, (d' + 1, H), ⟨by trivial, by simp, by trivial, by trivial, rfl⟩, ⟨by simp only; omega, lev2_lev r3⟩, by simp only; omega⟩
    · have hge : d = N.toNat := by have := of_decide_eq_false hge; omega
      subst hge
      have hGl := q2.1
      refine ⟨⟨by omega, ?_⟩, trivial⟩
      rw [List.take_of_length_le (by omega)]
      exact lev_far q2 hE' (by omega)

def ok41 (N : Int) (W : Es) (t : Int) : Prop := okW N W [] ∧ 0 ≤ t ∧ t < N
/-! ### the path -/
def nextN (F L : List Int) (n : Int) : Int := (L.find? (fun x => F.getD x.toNat 0 == F.getD n.toNat 0 - 1)).getD 0
def nodeAt (F : List Int) (W : Es) (fr : Int) : Nat → Int
  | 0 => fr
  | k + 1 => nextN F (refA W (nodeAt F W fr k)) (nodeAt F W fr k)
def pathTo (F : List Int) (W : Es) (fr : Int) (k : Nat) : List Int := (List.range (k + 1)).map (nodeAt F W fr)
theorem pathTo_len (F : List Int) (W : Es) (fr : Int) (k : Nat) : (pathTo F W fr k).length = k + 1 := by simp [pathTo]
theorem pathTo_succ (F : List Int) (W : Es) (fr : Int) (k : Nat) : pathTo F W fr (k + 1) = pathTo F W fr k ++ [nodeAt F W fr (k + 1)] := by
  unfold pathTo
  rw [List.range_succ, List.map_append]; rfl
theorem find_at {p : Int → Bool} : ∀ {L : List Int} {i : Nat}, i < L.length → p (L.getD i 0) = true → (∀ j, j < i → p (L.getD j 0) = false) → L.find? p = some (L.getD i 0)
  | [], i, h, _, _ => by simp at h
  | a :: L, 0, _, h1, _ => by
    simp only [List.getD_cons_zero] at h1 ⊢
    rw [List.find?_cons, h1]
  | a :: L, i + 1, h, h1, h2 => by
    have h0 := h2 0 (by omega)
    simp only [List.getD_cons_zero] at h0
    simp only [List.getD_cons_succ] at h1 ⊢
    rw [List.find?_cons, h0]
    exact find_at (by simpa using h) h1 fun j hj => by have := h2 (j + 1) (by omega); simpa only [List.getD_cons_succ] using this
/-- What is so along a path. -/
theorem node_ok {W : Es} {t : Int} {n : Nat} {F : List Int} (hF : IsFar W t n F) (hE : ∀ x ∈ W, 0 ≤ x.1 ∧ x.1 < (n : Int) ∧ 0 ≤ x.2 ∧ x.2 < (n : Int)) {fr : Int} (hfr : 0 ≤ fr ∧ fr < (n : Int)) {D : Nat} (hD : F.getD fr.toNat 0 = D) :
    ∀ k, k ≤ D → (0 ≤ nodeAt F W fr k ∧ nodeAt F W fr k < (n : Int)) ∧ F.getD (nodeAt F W fr k).toNat 0 = (D : Int) - k ∧ Mn W t (nodeAt F W fr k) (D - k)
  | 0, _ => by
    refine ⟨hfr, by rw [show nodeAt F W fr 0 = fr from rfl, hD]; omega, ?_⟩
    have := hF.2 fr.toNat (by omega)
    rw [show ((fr.toNat : Nat) : Int) = fr from by omega] at this
    rcases this with ⟨h1, _⟩ | ⟨d, h1, h2⟩
    · omega
    · have : d = D := by omega
      rw [← this]; exact h2
  | k + 1, hk => by
    obtain ⟨h1, h2, h3⟩ := node_ok hF hE hfr hD k (by omega)
    have hd : D - k = (D - (k + 1)) + 1 := by omega
    rw [hd] at h3
    obtain ⟨b, hb, hm⟩ := h3.next
    have hbv := hE _ hb
    simp only at hbv
    have far_at : ∀ x : Int, 0 ≤ x → x < (n : Int) → F.getD x.toNat 0 = (D : Int) - k - 1 → Mn W t x (D - (k + 1)) := fun x h0 h1' hx => by
      have := hF.2 x.toNat (by omega)
      rw [show ((x.toNat : Nat) : Int) = x from by omega] at this
      rcases this with ⟨q1, _⟩ | ⟨d, q1, q2⟩
      · omega
      · have : d = D - (k + 1) := by omega
        rw [← this]; exact q2
    have hbF : F.getD b.toNat 0 = (D : Int) - k - 1 := by
      have := hF.2 b.toNat (by omega)
      rw [show ((b.toNat : Nat) : Int) = b from by omega] at this
      rcases this with ⟨_, q2⟩ | ⟨d, q1, q2⟩
      · exact absurd hm.1 (q2 _)
      · have := q2.uniq hm
        omega
    have hmem : b ∈ refA W (nodeAt F W fr k) := (refA_mem W _ _).2 hb
    have hsome : ∃ x, (refA W (nodeAt F W fr k)).find? (fun x => F.getD x.toNat 0 == F.getD (nodeAt F W fr k).toNat 0 - 1) = some x := by
      rw [← Option.isSome_iff_exists, List.find?_isSome]
      exact ⟨b, hmem, by rw [hbF, h2]; simp⟩
    obtain ⟨x, hx⟩ := hsome
    have e : nodeAt F W fr (k + 1) = x := by
      show nextN F (refA W (nodeAt F W fr k)) (nodeAt F W fr k) = x
      unfold nextN; rw [hx]; rfl
    have hx1 := List.find?_some hx
    have hx2 := List.mem_of_find?_eq_some hx
    simp only [beq_iff_eq] at hx1
    have hxv := hE _ ((refA_mem W _ _).1 hx2)
    simp only at hxv
    rw [e]
    exact ⟨⟨hxv.2.2.1, hxv.2.2.2⟩, by rw [hx1, h2]; omega, far_at x hxv.2.2.1 hxv.2.2.2 (by rw [hx1, h2])⟩
/-- There is a next node, and it is found. -/
theorem node_next {W : Es} {t : Int} {n : Nat} {F : List Int} (hF : IsFar W t n F) (hE : ∀ x ∈ W, 0 ≤ x.1 ∧ x.1 < (n : Int) ∧ 0 ≤ x.2 ∧ x.2 < (n : Int)) {fr : Int} (hfr : 0 ≤ fr ∧ fr < (n : Int)) {D : Nat} (hD : F.getD fr.toNat 0 = D) {k : Nat} (hk : k < D) :
    ∃ m, m < (refA W (nodeAt F W fr k)).length ∧ F.getD ((refA W (nodeAt F W fr k)).getD m 0).toNat 0 = F.getD (nodeAt F W fr k).toNat 0 - 1 := by
  obtain ⟨h1, h2, h3⟩ := node_ok hF hE hfr hD k (by omega)
  have hd : D - k = (D - (k + 1)) + 1 := by omega
  rw [hd] at h3
  obtain ⟨b, hb, hm⟩ := h3.next
  have hbv := hE _ hb
  simp only at hbv
  have hmem : b ∈ refA W (nodeAt F W fr k) := (refA_mem W _ _).2 hb
  obtain ⟨m, hml, hmb⟩ := List.mem_iff_getElem.1 hmem
  refine ⟨m, hml, ?_⟩
  rw [List.getD_eq_getElem?_getD (l := refA W _), List.getElem?_eq_getElem hml]
  simp only [Option.getD_some]
  rw [hmb, h2]
  have := hF.2 b.toNat (by omega)
  rw [show ((b.toNat : Nat) : Int) = b from by omega] at this
  rcases this with ⟨_, q2⟩ | ⟨d, q1, q2⟩
  · exact absurd hm.1 (q2 _)
  · have := q2.uniq hm
    omega
def pathOk (F : List Int) (N fr t : Int) : Bool := decide (0 ≤ fr ∧ fr < N ∧ 0 ≤ t ∧ t < N) && decide (0 ≤ F.getD fr.toNat 0)
noncomputable def pathB (W : Es) (N fr t : Int) : Bool := pathOk (farL W t N.toNat) N fr t
noncomputable def pathL (W : Es) (N fr t : Int) : List Int := bif pathB W N fr t then pathTo (farL W t N.toNat) W fr ((farL W t N.toNat).getD fr.toNat 0).toNat else []
def hp14 (N : Int) (W : Es) (l : List Int) : Hp := [(0, (false, .cells 27 [.int .i64 (.sym N), .per (.sl eC) W])), (1, (false, .arr 3 (.int .i64) l))]
def inv14 (N : Int) (W : Es) (F : List Int) (fr t : Int) : LInv where
  α := Nat
  S := fun k => ⟨[(2, .int .i64 (.sym t)), (3, .ptr ⟨0, .lit 0, 0, 0⟩), (8, .per iC F), (9, .slice ⟨1, .lit 0, 1, 0⟩ (.sym (k + 1))), (10, .int .i64 (.sym (nodeAt F W fr k)))], hp14 N W (pathTo F W fr k), 2⟩
  p := fun k => k ≤ (F.getD fr.toNat 0).toNat
  m := fun k => (F.getD fr.toNat 0).toNat - k
def inv14b (N : Int) (W : Es) (F : List Int) (fr t : Int) : LInv where
  α := Nat × Nat
  S := fun x => ⟨[(2, .int .i64 (.sym t)), (3, .ptr ⟨0, .lit 0, 0, 0⟩), (8, .per iC F), (9, .slice ⟨1, .lit 0, 1, 0⟩ (.sym (x.1 + 1))), (10, .int .i64 (.sym (nodeAt F W fr x.1))), (11, .per iC (refA W (nodeAt F W fr x.1))), (12, .int .i64 (.sym x.2))], hp14 N W (pathTo F W fr x.1), 2⟩
  p := fun x => x.1 < (F.getD fr.toNat 0).toNat ∧ x.2 < (refA W (nodeAt F W fr x.1)).length ∧ ∀ j, j < x.2 → F.getD ((refA W (nodeAt F W fr x.1)).getD j 0).toNat 0 ≠ F.getD (nodeAt F W fr x.1).toNat 0 - 1
  m := fun x => (refA W (nodeAt F W fr x.1)).length - x.2
  lq := some fun st x => match DF.look st.fr 9 with | some (.slice _ n) => n.v = x.1 + 1 | _ => False
noncomputable def c41 : PureC Try.prog where
  f := 41
  sig := [.dat true (.pair (.int .i64) (.sl eC)), .dat false (.int .i64)]
  per := true
  spec := fun x => .ob (ok41 x.1.1 x.1.2 x.2.1) none (.leaf (.per iC (farL x.1.2 x.2.1 (Int.toNat x.1.1))))
  body := hasBody_of Try.func41 (by kernel_rfl) (by kernel_rfl)
  ok := fun x d h => by
    obtain ⟨h1, h⟩ := h
    obtain rfl : d = _ := h
    exact p41 x.1.1 x.1.2 x.2.1 h1.1 h1.2
set_option maxHeartbeats 4000000 in
theorem p14 (N : Int) (W : Es) (fr t : Int) (h : okW N W []) : Pure1 Try.prog 14 [.agg [.int .i64 (.sym N), .per (.sl eC) W], .int .i64 (.sym fr), .int .i64 (.sym t)] (.tup [.per iC (pathL W N fr t), .bool (.sym (pathB W N fr t))]) := by
  refine pure1_of_exec (ct := cx0 [c31, c41] [] []) [(8, inv14 N W (farL W t N.toNat) fr t), (11, inv14b N W (farL W t N.toNat) fr t)] Try.func14 rfl rfl ?_
  apply @cast_goal (((Decidable.decide (fr < (0 : Int)) || (Decidable.decide (N ≤ fr) || (Decidable.decide (t < (0 : Int)) || Decidable.decide (N ≤ t)))) = Bool.true → ([] = Go.Proofs.Ytfacddeaobogjaa.N.pathL W N fr t ∧ Bool.false = Go.Proofs.Ytfacddeaobogjaa.N.pathB W N fr t) ∧ True) ∧ ((Decidable.decide (fr < (0 : Int)) || (Decidable.decide (N ≤ fr) || (Decidable.decide (t < (0 : Int)) || Decidable.decide (N ≤ t)))) = Bool.false → Go.Proofs.Ytfacddeaobogjaa.N.ok41 N W t ∧ ((0 : Int) ≤ fr ∧ fr < (↑(List.length (Go.Proofs.Ytfacddeaobogjaa.N.farL W t (Int.toNat N))) : Int)) ∧ (Decidable.decide (List.getD (Go.Proofs.Ytfacddeaobogjaa.N.farL W t (Int.toNat N)) (Int.toNat fr) (0 : Int) < (0 : Int)) = Bool.true → ([] = Go.Proofs.Ytfacddeaobogjaa.N.pathL W N fr t ∧ Bool.false = Go.Proofs.Ytfacddeaobogjaa.N.pathB W N fr t) ∧ True) ∧ (Decidable.decide (List.getD (Go.Proofs.Ytfacddeaobogjaa.N.farL W t (Int.toNat N)) (Int.toNat fr) (0 : Int) < (0 : Int)) = Bool.false → (∃ (a : Nat), (t = t ∧ Go.Proofs.Ytfacddeaobogjaa.N.farL W t (Int.toNat N) = Go.Proofs.Ytfacddeaobogjaa.N.farL W t (Int.toNat N) ∧ (1 : Nat) = a + (1 : Nat) ∧ fr = Go.Proofs.Ytfacddeaobogjaa.N.nodeAt (Go.Proofs.Ytfacddeaobogjaa.N.farL W t (Int.toNat N)) W fr a ∧ N = N ∧ W = W ∧ [fr] = Go.Proofs.Ytfacddeaobogjaa.N.pathTo (Go.Proofs.Ytfacddeaobogjaa.N.farL W t (Int.toNat N)) W fr a) ∧ a ≤ Int.toNat (List.getD (Go.Proofs.Ytfacddeaobogjaa.N.farL W t (Int.toNat N)) (Int.toNat fr) (0 : Int))) ∧ ∀ (a : Nat), a ≤ Int.toNat (List.getD (Go.Proofs.Ytfacddeaobogjaa.N.farL W t (Int.toNat N)) (Int.toNat fr) (0 : Int)) → ((Go.Proofs.Ytfacddeaobogjaa.N.nodeAt (Go.Proofs.Ytfacddeaobogjaa.N.farL W t (Int.toNat N)) W fr a != t) = Bool.true → List.length W ≤ (1000000 : Nat) ∧ (∃ (a_3 : Nat × Nat), (t = t ∧ Go.Proofs.Ytfacddeaobogjaa.N.farL W t (Int.toNat N) = Go.Proofs.Ytfacddeaobogjaa.N.farL W t (Int.toNat N) ∧ a + (1 : Nat) = Prod.fst a_3 + (1 : Nat) ∧ Go.Proofs.Ytfacddeaobogjaa.N.nodeAt (Go.Proofs.Ytfacddeaobogjaa.N.farL W t (Int.toNat N)) W fr a = Go.Proofs.Ytfacddeaobogjaa.N.nodeAt (Go.Proofs.Ytfacddeaobogjaa.N.farL W t (Int.toNat N)) W fr (Prod.fst a_3) ∧ Go.Proofs.Ytfacddeaobogjaa.N.refA W (Go.Proofs.Ytfacddeaobogjaa.N.nodeAt (Go.Proofs.Ytfacddeaobogjaa.N.farL W t (Int.toNat N)) W fr a) = Go.Proofs.Ytfacddeaobogjaa.N.refA W (Go.Proofs.Ytfacddeaobogjaa.N.nodeAt (Go.Proofs.Ytfacddeaobogjaa.N.farL W t (Int.toNat N)) W fr (Prod.fst a_3)) ∧ (0 : Int) = (↑(Prod.snd a_3) : Int) ∧ N = N ∧ W = W ∧ Go.Proofs.Ytfacddeaobogjaa.N.pathTo (Go.Proofs.Ytfacddeaobogjaa.N.farL W t (Int.toNat N)) W fr a = Go.Proofs.Ytfacddeaobogjaa.N.pathTo (Go.Proofs.Ytfacddeaobogjaa.N.farL W t (Int.toNat N)) W fr (Prod.fst a_3)) ∧ (Prod.fst a_3 < Int.toNat (List.getD (Go.Proofs.Ytfacddeaobogjaa.N.farL W t (Int.toNat N)) (Int.toNat fr) (0 : Int)) ∧ Prod.snd a_3 < List.length (Go.Proofs.Ytfacddeaobogjaa.N.refA W (Go.Proofs.Ytfacddeaobogjaa.N.nodeAt (Go.Proofs.Ytfacddeaobogjaa.N.farL W t (Int.toNat N)) W fr (Prod.fst a_3))) ∧ ∀ (j : Nat), j < Prod.snd a_3 → List.getD (Go.Proofs.Ytfacddeaobogjaa.N.farL W t (Int.toNat N)) (Int.toNat (List.getD (Go.Proofs.Ytfacddeaobogjaa.N.refA W (Go.Proofs.Ytfacddeaobogjaa.N.nodeAt (Go.Proofs.Ytfacddeaobogjaa.N.farL W t (Int.toNat N)) W fr (Prod.fst a_3))) j (0 : Int))) (0 : Int) ≠ List.getD (Go.Proofs.Ytfacddeaobogjaa.N.farL W t (Int.toNat N)) (Int.toNat (Go.Proofs.Ytfacddeaobogjaa.N.nodeAt (Go.Proofs.Ytfacddeaobogjaa.N.farL W t (Int.toNat N)) W fr (Prod.fst a_3))) (0 : Int) - (1 : Int)) ∧ True ∧ a + (1 : Nat) = Prod.fst a_3 + (1 : Nat)) ∧ ∀ (a_3 : Nat × Nat), (Prod.fst a_3 < Int.toNat (List.getD (Go.Proofs.Ytfacddeaobogjaa.N.farL W t (Int.toNat N)) (Int.toNat fr) (0 : Int)) ∧ Prod.snd a_3 < List.length (Go.Proofs.Ytfacddeaobogjaa.N.refA W (Go.Proofs.Ytfacddeaobogjaa.N.nodeAt (Go.Proofs.Ytfacddeaobogjaa.N.farL W t (Int.toNat N)) W fr (Prod.fst a_3))) ∧ ∀ (j : Nat), j < Prod.snd a_3 → List.getD (Go.Proofs.Ytfacddeaobogjaa.N.farL W t (Int.toNat N)) (Int.toNat (List.getD (Go.Proofs.Ytfacddeaobogjaa.N.refA W (Go.Proofs.Ytfacddeaobogjaa.N.nodeAt (Go.Proofs.Ytfacddeaobogjaa.N.farL W t (Int.toNat N)) W fr (Prod.fst a_3))) j (0 : Int))) (0 : Int) ≠ List.getD (Go.Proofs.Ytfacddeaobogjaa.N.farL W t (Int.toNat N)) (Int.toNat (Go.Proofs.Ytfacddeaobogjaa.N.nodeAt (Go.Proofs.Ytfacddeaobogjaa.N.farL W t (Int.toNat N)) W fr (Prod.fst a_3))) (0 : Int) - (1 : Int)) ∧ True ∧ a + (1 : Nat) = Prod.fst a_3 + (1 : Nat) → ((0 : Int) ≤ (↑(Prod.snd a_3) : Int) ∧ (↑(Prod.snd a_3) : Int) < (↑(List.length (Go.Proofs.Ytfacddeaobogjaa.N.refA W (Go.Proofs.Ytfacddeaobogjaa.N.nodeAt (Go.Proofs.Ytfacddeaobogjaa.N.farL W t (Int.toNat N)) W fr (Prod.fst a_3)))) : Int)) ∧ ((0 : Int) ≤ List.getD (Go.Proofs.Ytfacddeaobogjaa.N.refA W (Go.Proofs.Ytfacddeaobogjaa.N.nodeAt (Go.Proofs.Ytfacddeaobogjaa.N.farL W t (Int.toNat N)) W fr (Prod.fst a_3))) (Int.toNat (↑(Prod.snd a_3) : Int)) (0 : Int) ∧ List.getD (Go.Proofs.Ytfacddeaobogjaa.N.refA W (Go.Proofs.Ytfacddeaobogjaa.N.nodeAt (Go.Proofs.Ytfacddeaobogjaa.N.farL W t (Int.toNat N)) W fr (Prod.fst a_3))) (Int.toNat (↑(Prod.snd a_3) : Int)) (0 : Int) < (↑(List.length (Go.Proofs.Ytfacddeaobogjaa.N.farL W t (Int.toNat N))) : Int)) ∧ ((0 : Int) ≤ Go.Proofs.Ytfacddeaobogjaa.N.nodeAt (Go.Proofs.Ytfacddeaobogjaa.N.farL W t (Int.toNat N)) W fr (Prod.fst a_3) ∧ Go.Proofs.Ytfacddeaobogjaa.N.nodeAt (Go.Proofs.Ytfacddeaobogjaa.N.farL W t (Int.toNat N)) W fr (Prod.fst a_3) < (↑(List.length (Go.Proofs.Ytfacddeaobogjaa.N.farL W t (Int.toNat N))) : Int)) ∧ Go.DF.okI64 (List.getD (Go.Proofs.Ytfacddeaobogjaa.N.farL W t (Int.toNat N)) (Int.toNat (Go.Proofs.Ytfacddeaobogjaa.N.nodeAt (Go.Proofs.Ytfacddeaobogjaa.N.farL W t (Int.toNat N)) W fr (Prod.fst a_3))) (0 : Int) - (1 : Int)) ∧ ((List.getD (Go.Proofs.Ytfacddeaobogjaa.N.farL W t (Int.toNat N)) (Int.toNat (List.getD (Go.Proofs.Ytfacddeaobogjaa.N.refA W (Go.Proofs.Ytfacddeaobogjaa.N.nodeAt (Go.Proofs.Ytfacddeaobogjaa.N.farL W t (Int.toNat N)) W fr (Prod.fst a_3))) (Int.toNat (↑(Prod.snd a_3) : Int)) (0 : Int))) (0 : Int) != List.getD (Go.Proofs.Ytfacddeaobogjaa.N.farL W t (Int.toNat N)) (Int.toNat (Go.Proofs.Ytfacddeaobogjaa.N.nodeAt (Go.Proofs.Ytfacddeaobogjaa.N.farL W t (Int.toNat N)) W fr (Prod.fst a_3))) (0 : Int) - (1 : Int)) = Bool.true → Go.DF.okI64 ((↑(Prod.snd a_3) : Int) + (1 : Int)) ∧ ∃ (a' : Nat × Nat), (t = t ∧ Go.Proofs.Ytfacddeaobogjaa.N.farL W t (Int.toNat N) = Go.Proofs.Ytfacddeaobogjaa.N.farL W t (Int.toNat N) ∧ Prod.fst a_3 + (1 : Nat) = Prod.fst a' + (1 : Nat) ∧ Go.Proofs.Ytfacddeaobogjaa.N.nodeAt (Go.Proofs.Ytfacddeaobogjaa.N.farL W t (Int.toNat N)) W fr (Prod.fst a_3) = Go.Proofs.Ytfacddeaobogjaa.N.nodeAt (Go.Proofs.Ytfacddeaobogjaa.N.farL W t (Int.toNat N)) W fr (Prod.fst a') ∧ Go.Proofs.Ytfacddeaobogjaa.N.refA W (Go.Proofs.Ytfacddeaobogjaa.N.nodeAt (Go.Proofs.Ytfacddeaobogjaa.N.farL W t (Int.toNat N)) W fr (Prod.fst a_3)) = Go.Proofs.Ytfacddeaobogjaa.N.refA W (Go.Proofs.Ytfacddeaobogjaa.N.nodeAt (Go.Proofs.Ytfacddeaobogjaa.N.farL W t (Int.toNat N)) W fr (Prod.fst a')) ∧ (↑(Prod.snd a_3) : Int) + (1 : Int) = (↑(Prod.snd a') : Int) ∧ N = N ∧ W = W ∧ Go.Proofs.Ytfacddeaobogjaa.N.pathTo (Go.Proofs.Ytfacddeaobogjaa.N.farL W t (Int.toNat N)) W fr (Prod.fst a_3) = Go.Proofs.Ytfacddeaobogjaa.N.pathTo (Go.Proofs.Ytfacddeaobogjaa.N.farL W t (Int.toNat N)) W fr (Prod.fst a')) ∧ ((Prod.fst a' < Int.toNat (List.getD (Go.Proofs.Ytfacddeaobogjaa.N.farL W t (Int.toNat N)) (Int.toNat fr) (0 : Int)) ∧ Prod.snd a' < List.length (Go.Proofs.Ytfacddeaobogjaa.N.refA W (Go.Proofs.Ytfacddeaobogjaa.N.nodeAt (Go.Proofs.Ytfacddeaobogjaa.N.farL W t (Int.toNat N)) W fr (Prod.fst a'))) ∧ ∀ (j : Nat), j < Prod.snd a' → List.getD (Go.Proofs.Ytfacddeaobogjaa.N.farL W t (Int.toNat N)) (Int.toNat (List.getD (Go.Proofs.Ytfacddeaobogjaa.N.refA W (Go.Proofs.Ytfacddeaobogjaa.N.nodeAt (Go.Proofs.Ytfacddeaobogjaa.N.farL W t (Int.toNat N)) W fr (Prod.fst a'))) j (0 : Int))) (0 : Int) ≠ List.getD (Go.Proofs.Ytfacddeaobogjaa.N.farL W t (Int.toNat N)) (Int.toNat (Go.Proofs.Ytfacddeaobogjaa.N.nodeAt (Go.Proofs.Ytfacddeaobogjaa.N.farL W t (Int.toNat N)) W fr (Prod.fst a'))) (0 : Int) - (1 : Int)) ∧ True ∧ a + (1 : Nat) = Prod.fst a' + (1 : Nat)) ∧ List.length (Go.Proofs.Ytfacddeaobogjaa.N.refA W (Go.Proofs.Ytfacddeaobogjaa.N.nodeAt (Go.Proofs.Ytfacddeaobogjaa.N.farL W t (Int.toNat N)) W fr (Prod.fst a'))) - Prod.snd a' < List.length (Go.Proofs.Ytfacddeaobogjaa.N.refA W (Go.Proofs.Ytfacddeaobogjaa.N.nodeAt (Go.Proofs.Ytfacddeaobogjaa.N.farL W t (Int.toNat N)) W fr (Prod.fst a_3))) - Prod.snd a_3) ∧ ((List.getD (Go.Proofs.Ytfacddeaobogjaa.N.farL W t (Int.toNat N)) (Int.toNat (List.getD (Go.Proofs.Ytfacddeaobogjaa.N.refA W (Go.Proofs.Ytfacddeaobogjaa.N.nodeAt (Go.Proofs.Ytfacddeaobogjaa.N.farL W t (Int.toNat N)) W fr (Prod.fst a_3))) (Int.toNat (↑(Prod.snd a_3) : Int)) (0 : Int))) (0 : Int) != List.getD (Go.Proofs.Ytfacddeaobogjaa.N.farL W t (Int.toNat N)) (Int.toNat (Go.Proofs.Ytfacddeaobogjaa.N.nodeAt (Go.Proofs.Ytfacddeaobogjaa.N.farL W t (Int.toNat N)) W fr (Prod.fst a_3))) (0 : Int) - (1 : Int)) = Bool.false → ((0 : Int) ≤ (↑(Prod.snd a_3) : Int) ∧ (↑(Prod.snd a_3) : Int) < (↑(List.length (Go.Proofs.Ytfacddeaobogjaa.N.refA W (Go.Proofs.Ytfacddeaobogjaa.N.nodeAt (Go.Proofs.Ytfacddeaobogjaa.N.farL W t (Int.toNat N)) W fr (Prod.fst a_3)))) : Int)) ∧ (0 : Nat) + (Prod.fst a_3 + (1 : Nat)) ≤ List.length (Go.Proofs.Ytfacddeaobogjaa.N.pathTo (Go.Proofs.Ytfacddeaobogjaa.N.farL W t (Int.toNat N)) W fr (Prod.fst a_3)) ∧ ((Prod.fst a_3 + (1 : Nat) + List.length [List.getD (Go.Proofs.Ytfacddeaobogjaa.N.refA W (Go.Proofs.Ytfacddeaobogjaa.N.nodeAt (Go.Proofs.Ytfacddeaobogjaa.N.farL W t (Int.toNat N)) W fr (Prod.fst a_3))) (Int.toNat (↑(Prod.snd a_3) : Int)) (0 : Int)]) * (8 : Nat) ≤ (140737488355328 : Nat) ∧ Prod.fst a_3 + (1 : Nat) + List.length [List.getD (Go.Proofs.Ytfacddeaobogjaa.N.refA W (Go.Proofs.Ytfacddeaobogjaa.N.nodeAt (Go.Proofs.Ytfacddeaobogjaa.N.farL W t (Int.toNat N)) W fr (Prod.fst a_3))) (Int.toNat (↑(Prod.snd a_3) : Int)) (0 : Int)] ≤ Go.maxLen) ∧ ∃ (a' : Nat), (t = t ∧ Go.Proofs.Ytfacddeaobogjaa.N.farL W t (Int.toNat N) = Go.Proofs.Ytfacddeaobogjaa.N.farL W t (Int.toNat N) ∧ Prod.fst a_3 + (1 : Nat) + (1 : Nat) = a' + (1 : Nat) ∧ List.getD (Go.Proofs.Ytfacddeaobogjaa.N.refA W (Go.Proofs.Ytfacddeaobogjaa.N.nodeAt (Go.Proofs.Ytfacddeaobogjaa.N.farL W t (Int.toNat N)) W fr (Prod.fst a_3))) (Int.toNat (↑(Prod.snd a_3) : Int)) (0 : Int) = Go.Proofs.Ytfacddeaobogjaa.N.nodeAt (Go.Proofs.Ytfacddeaobogjaa.N.farL W t (Int.toNat N)) W fr a' ∧ N = N ∧ W = W ∧ List.take (Prod.fst a_3 + (1 : Nat)) (Go.Proofs.Ytfacddeaobogjaa.N.pathTo (Go.Proofs.Ytfacddeaobogjaa.N.farL W t (Int.toNat N)) W fr (Prod.fst a_3)) ++ [List.getD (Go.Proofs.Ytfacddeaobogjaa.N.refA W (Go.Proofs.Ytfacddeaobogjaa.N.nodeAt (Go.Proofs.Ytfacddeaobogjaa.N.farL W t (Int.toNat N)) W fr (Prod.fst a_3))) (Int.toNat (↑(Prod.snd a_3) : Int)) (0 : Int)] = Go.Proofs.Ytfacddeaobogjaa.N.pathTo (Go.Proofs.Ytfacddeaobogjaa.N.farL W t (Int.toNat N)) W fr a') ∧ a' ≤ Int.toNat (List.getD (Go.Proofs.Ytfacddeaobogjaa.N.farL W t (Int.toNat N)) (Int.toNat fr) (0 : Int)) ∧ Int.toNat (List.getD (Go.Proofs.Ytfacddeaobogjaa.N.farL W t (Int.toNat N)) (Int.toNat fr) (0 : Int)) - a' < Int.toNat (List.getD (Go.Proofs.Ytfacddeaobogjaa.N.farL W t (Int.toNat N)) (Int.toNat fr) (0 : Int)) - a)) ∧ ((Go.Proofs.Ytfacddeaobogjaa.N.nodeAt (Go.Proofs.Ytfacddeaobogjaa.N.farL W t (Int.toNat N)) W fr a != t) = Bool.false → ((0 : Nat) + (a + (1 : Nat)) ≤ List.length (Go.Proofs.Ytfacddeaobogjaa.N.pathTo (Go.Proofs.Ytfacddeaobogjaa.N.farL W t (Int.toNat N)) W fr a) ∧ List.take (a + (1 : Nat)) (Go.Proofs.Ytfacddeaobogjaa.N.pathTo (Go.Proofs.Ytfacddeaobogjaa.N.farL W t (Int.toNat N)) W fr a) = Go.Proofs.Ytfacddeaobogjaa.N.pathL W N fr t ∧ Bool.true = Go.Proofs.Ytfacddeaobogjaa.N.pathB W N fr t) ∧ True)))) _ (by kernel_rfl)
  have hmax : maxLen = 9223372036854775807 := rfl
  have hok := h
  obtain ⟨⟨hN0, hN1⟩, hE, hWl, _⟩ := h
  have hNt : (N.toNat : Int) = N := by omega
  have hE' : ∀ x ∈ W, 0 ≤ x.1 ∧ x.1 < (N.toNat : Int) ∧ 0 ≤ x.2 ∧ x.2 < (N.toNat : Int) := fun x hx => by have := hE x hx; omega
  have hF := farL_is W t N.toNat
  have no : pathB W N fr t = false → ([] = pathL W N fr t ∧ false = pathB W N fr t) ∧ True := fun hb => by
    unfold pathL
    rw [hb]
    exact ⟨⟨rfl, rfl⟩, trivial⟩
  refine ⟨fun hc => no ?_, fun hc => ?_⟩
  · have : ¬ (0 ≤ fr ∧ fr < N ∧ 0 ≤ t ∧ t < N) := by
      simp only [Bool.or_eq_true, decide_eq_true_eq] at hc; omega
    unfold pathB pathOk
    rw [decide_eq_false this]; rfl
  · simp only [Bool.or_eq_false_iff, decide_eq_false_iff_not] at hc
    have hv : 0 ≤ fr ∧ fr < N ∧ 0 ≤ t ∧ t < N := by omega
    have hpB : pathB W N fr t = decide (0 ≤ (farL W t N.toNat).getD fr.toNat 0) := by
      unfold pathB pathOk
      rw [decide_eq_true hv, Bool.true_and]
    have hpL : pathL W N fr t = bif pathB W N fr t then pathTo (farL W t N.toNat) W fr ((farL W t N.toNat).getD fr.toNat 0).toNat else [] := rfl
    have hFl := hF.1
    generalize farL W t N.toNat = F at hF hpB hpL hFl ⊢
    refine ⟨⟨hok, hv.2.2.1, hv.2.2.2⟩, ⟨hv.1, by omega⟩, fun hneg => no ?_, fun hneg => ?_⟩
    · have := of_decide_eq_true hneg
      rw [hpB, decide_eq_false_iff_not]; omega
    · have hnn := of_decide_eq_false hneg
      have hpB' : pathB W N fr t = true := by rw [hpB, decide_eq_true_iff]; omega
      obtain ⟨D, hD⟩ : ∃ D : Nat, F.getD fr.toNat 0 = D := ⟨(F.getD fr.toNat 0).toNat, by omega⟩
      have hDt : (F.getD fr.toNat 0).toNat = D := by omega
      have nd := node_ok hF hE' (fr := fr) ⟨hv.1, by omega⟩ hD
      have nx := fun k hk => node_next hF hE' (fr := fr) ⟨hv.1, by omega⟩ hD (k := k) hk
      have hDn : D < N.toNat := Mn.lt hE' ⟨hv.2.2.1, by omega⟩ (by have := (nd 0 (Nat.zero_le _)).2.2; simpa using this)
      rw [hDt] at hpL ⊢
      rw [hpB', cond_true] at hpL
      refine ⟨⟨0, ⟨by trivial, by trivial, rfl, rfl, by trivial, by trivial, rfl⟩, Nat.zero_le _⟩, fun a ha => ⟨fun hne => ?_, fun heq => ?_⟩⟩
      · have hne := bne_iff_ne.1 hne
        have had : a < D := by
          rcases Nat.lt_or_ge a D with h | h
          · exact h
          · have : a = D := by omega
            have k3 := (nd a ha).2.2
            rw [this, Nat.sub_self] at k3
            have : nodeAt F W fr D = t := by
              have hw := k3.1
              generalize nodeAt F W fr D = z at hw
              cases hw; rfl
            rw [‹a = D›] at hne
            exact absurd this hne
        obtain ⟨m, hm1, hm2⟩ := nx a had
        refine ⟨hWl, ⟨(a, 0), ⟨by trivial, by trivial, rfl, rfl, rfl, rfl, by trivial, by trivial, rfl⟩, ⟨had, by simp only; omega, fun j hj => absurd hj (Nat.not_lt_zero j)⟩, trivial, rfl⟩, ?_⟩
        rintro ⟨a', i⟩ ⟨⟨p1, p2, p3⟩, _, p4⟩
        have p4 : a' = a := by simp only at p4; omega
        subst p4
        simp only at p1 p2 p3 ⊢
        have ei : Int.toNat (i : Int) = i := by omega
        rw [ei]
        obtain ⟨k1, k2, k3⟩ := nd a' ha
        have hLm : (refA W (nodeAt F W fr a')).getD i 0 ∈ refA W (nodeAt F W fr a') := by
          rw [List.getD_eq_getElem?_getD (l := refA W _), List.getElem?_eq_getElem p2]; exact List.getElem_mem p2
        have hLv := hE _ ((refA_mem W _ _).1 hLm)
        simp only at hLv
        have hnx : nodeAt F W fr (a' + 1) = nextN F (refA W (nodeAt F W fr a')) (nodeAt F W fr a') := rfl
        have hrl := refA_le W (nodeAt F W fr a')
        generalize hL : refA W (nodeAt F W fr a') = L at *
        generalize hn : nodeAt F W fr a' = n at *
        refine ⟨⟨by omega, by omega⟩, ⟨hLv.2.2.1, by omega⟩, ⟨k1.1, by omega⟩, by rw [k2]; unfold okI64; omega, fun hb => ?_, fun hb => ?_⟩
        · have hb := bne_iff_ne.1 hb
          have him : i < m := by
            rcases Nat.lt_trichotomy i m with h | h | h
            · exact h
            · rw [h] at hb; exact absurd hm2 hb
            · exact absurd hm2 (p3 m h)
          refine ⟨by unfold okI64; omega, (a', i + 1), ⟨by trivial, by trivial, rfl, hn.symm, by simp only [hn, hL], by simp, by trivial, by trivial, rfl⟩, ⟨⟨p1, by simp only [hn, hL]; omega, fun j hj => ?_⟩, trivial, rfl⟩, by simp only [hn, hL]; omega⟩
          simp only [hn, hL] at hj ⊢
          rcases Nat.lt_or_ge j i with h | h
          · exact p3 j h
          · have : j = i := by omega
            rw [this]; exact hb
        · have hb := bne_eq_false_iff_eq.1 hb
          have hfind := find_at (p := fun x => F.getD x.toNat 0 == F.getD n.toNat 0 - 1) p2 (by rw [hb]; simp) (fun j hj => beq_eq_false_iff_ne.2 (p3 j hj))
          have hnode : nodeAt F W fr (a' + 1) = L.getD i 0 := by
            rw [hnx]; unfold nextN; rw [hfind]; rfl
          have hpl := pathTo_len F W fr a'
          have hps := pathTo_succ F W fr a'
          simp only [List.length_singleton]
          refine ⟨⟨by omega, by omega⟩, by omega, ⟨by omega, by omega⟩, a' + 1, ⟨by trivial, by trivial, rfl, hnode.symm, by trivial, by trivial, ?_⟩, by omega, by omega⟩
          rw [List.take_of_length_le (by omega), hps, hnode]
      · have heq := bne_eq_false_iff_eq.1 heq
        have haD : a = D := by
          have k3 := (nd a ha).2.2
          rw [heq] at k3
          have k0 : Mn W t t 0 := ⟨.zero, fun e he => absurd he (Nat.not_lt_zero e)⟩
          have := k3.uniq k0
          omega
        subst haD
        have hpl := pathTo_len F W fr a
        refine ⟨⟨by omega, ?_, hpB'.symm⟩, trivial⟩
        rw [List.take_of_length_le (by omega)]
        exact hpL.symm
end Go.Proofs.Ytfacddeaobogjaa.N
