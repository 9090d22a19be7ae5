import Derived.Test.YtfacddeaobogjaaF12
import Derived.Test.YtfacddeaobogjaaG18
set_option linter.unusedVariables false
set_option linter.unusedSimpArgs false
set_option linter.unnecessarySimpa false
set_option linter.unusedVariables false
set_option linter.unusedSimpArgs false
/- The law on paths. -/
namespace Go.Proofs.Ytfacddeaobogjaa.N
open Go.DF
set_option maxRecDepth 100000
def okPG (g : Gr) : Prop := ∃ A B, g = some (A, B) ∧ okP A B (edgesOf g)
noncomputable def c13 : PureC Try.prog where
  f := 13
  sig := [.dat false gC, .dat false (.int .i64), .dat false (.int .i64)]
  per := true
  spec := fun x => .ob (okPG x.1) none (.leaf (.tup [.per iC (pathL (edgesOf x.1) (rowsOf x.1).length x.2.1 x.2.2.1), .bool (.sym (pathB (edgesOf x.1) (rowsOf x.1).length x.2.1 x.2.2.1))]))
  body := hasBody_of Try.func13 (by kernel_rfl) (by kernel_rfl)
  ok := fun x d h => by
    obtain ⟨⟨A, B, hg, h1⟩, h⟩ := h
    obtain rfl : d = _ := h
    have hr : rowsOf x.1 = A := by rw [hg]; rfl
    have := p13 A B x.1 hg (edgesOf x.1) x.2.1 x.2.2.1 h1
    rw [← hr] at this
    exact this
noncomputable def c14 : PureC Try.prog where
  f := 14
  sig := [.dat true (.pair (.int .i64) (.sl eC)), .dat false (.int .i64), .dat false (.int .i64)]
  per := true
  spec := fun x => .ob (okW x.1.1 x.1.2 []) none (.leaf (.tup [.per iC (pathL x.1.2 x.1.1 x.2.1 x.2.2.1), .bool (.sym (pathB x.1.2 x.1.1 x.2.1 x.2.2.1))]))
  body := hasBody_of Try.func14 (by kernel_rfl) (by kernel_rfl)
  ok := fun x d h => by
    obtain ⟨h1, h⟩ := h
    obtain rfl : d = _ := h
    exact p14 x.1.1 x.1.2 x.2.1 x.2.2.1 h1
theorem okP_gA {n : Int} {es : Es} (h : gErr n es = 0) (hn : n ≤ 64) : okP (gA n es) (gB n es) (putAll es) := by
  obtain ⟨h1, h2, h3, h4⟩ := gErr_zero h
  obtain ⟨_, k2⟩ := putAll_rise h
  refine ⟨okV_gA h, okV_gB h, by rw [gA_len, gB_len], by rw [gA_len]; omega, fun x hx => ?_, fun y a hy => ?_, fun y hy => ?_⟩
  · have := h4 x ((k2 x).1 hx)
    rw [gA_len]; omega
  · rw [gB_mem h, show ((y.toNat : Nat) : Int) = y from by omega, k2]
  · rw [← after_eq h]
    by_cases hh : 0 ≤ y ∧ y < ((gA n es).length : Int)
    · exact inR_yes hh
    · rw [← inR_no hh, gA_get, if_neg]
      rw [gA_len] at hh; omega
theorem okPG_gA {n : Int} {es : Es} (h : gErr n es = 0) (hn : n ≤ 64) : okPG (some (gA n es, gB n es)) :=
  ⟨_, _, rfl, by rw [show edgesOf (some (gA n es, gB n es)) = putAll es from edges_eq h]; exact okP_gA h hn⟩
def inv3 (g : Gr) (N : Int) (W : Es) : LInv where
  α := Nat
  S := fun k => ⟨[(7, .per gC g), (8, .ptr ⟨0, .lit 0, 0, 0⟩), (13, .int .i64 (.sym k))], [(0, (false, .cells 27 [.int .i64 (.sym N), .per (.sl eC) W]))], 1⟩
  p := fun k => (k : Int) ≤ N
  m := fun k => N.toNat - k
theorem pathL_len {W : Es} {N : Int} (fr t : Int) (hN : 0 ≤ N) (hE : ∀ x ∈ W, 0 ≤ x.1 ∧ x.1 < N ∧ 0 ≤ x.2 ∧ x.2 < N) : ((pathL W N fr t).length : Int) ≤ N + 1 := by
  unfold pathL
  cases hb : pathB W N fr t with
  | false => simp; omega
  | true =>
    rw [cond_true, pathTo_len]
    unfold pathB pathOk at hb
    rw [Bool.and_eq_true, decide_eq_true_iff, decide_eq_true_iff] at hb
    obtain ⟨⟨h0, h1, h2, h3⟩, h4⟩ := hb
    have hE' : ∀ x ∈ W, 0 ≤ x.1 ∧ x.1 < (N.toNat : Int) ∧ 0 ≤ x.2 ∧ x.2 < (N.toNat : Int) := fun x hx => by have := hE x hx; omega
    rcases (farL_is W t N.toNat).2 fr.toNat (by omega) with ⟨q, _⟩ | ⟨d, q1, q2⟩
    · omega
    · have := Mn.lt hE' (by omega) q2
      omega
theorem p3 (k : Int) (l : Es) (fr t : Int) (hk : 0 ≤ k ∧ k < 256) : Pure1 Try.prog 3 [.int .u8 (.sym k), .per (.sl eC) l, .agg [.int .i64 (.sym fr), .int .i64 (.sym t)]] (.bool (.sym true)) := by
  refine pure1_of_exec (ct := cx0 [c11, c12, c13, c14, c15] [] []) [(11, inv3 (gDat (mkN k) (mkE (mkN k) l)) (mkN k) (putAll (mkE (mkN k) l)))] Try.func3 rfl rfl ?_
  apply @cast_goal (Go.Proofs.Ytfacddeaobogjaa.N.isU8 k ∧ (Option.isNone (Go.Proofs.Ytfacddeaobogjaa.N.gDat (Go.Proofs.Ytfacddeaobogjaa.N.mkN k) (Go.Proofs.Ytfacddeaobogjaa.N.mkE (Go.Proofs.Ytfacddeaobogjaa.N.mkN k) l)) = Bool.true → Bool.false = Bool.true ∧ True) ∧ (Option.isNone (Go.Proofs.Ytfacddeaobogjaa.N.gDat (Go.Proofs.Ytfacddeaobogjaa.N.mkN k) (Go.Proofs.Ytfacddeaobogjaa.N.mkE (Go.Proofs.Ytfacddeaobogjaa.N.mkN k) l)) = Bool.false → Go.Proofs.Ytfacddeaobogjaa.N.okPG (Go.Proofs.Ytfacddeaobogjaa.N.gDat (Go.Proofs.Ytfacddeaobogjaa.N.mkN k) (Go.Proofs.Ytfacddeaobogjaa.N.mkE (Go.Proofs.Ytfacddeaobogjaa.N.mkN k) l)) ∧ Go.Proofs.Ytfacddeaobogjaa.N.okW (Go.Proofs.Ytfacddeaobogjaa.N.mkN k) (Go.Proofs.Ytfacddeaobogjaa.N.putAll (Go.Proofs.Ytfacddeaobogjaa.N.mkE (Go.Proofs.Ytfacddeaobogjaa.N.mkN k) l)) [] ∧ (((!Go.Proofs.Ytfacddeaobogjaa.N.pathB (Go.Proofs.Ytfacddeaobogjaa.N.edgesOf (Go.Proofs.Ytfacddeaobogjaa.N.gDat (Go.Proofs.Ytfacddeaobogjaa.N.mkN k) (Go.Proofs.Ytfacddeaobogjaa.N.mkE (Go.Proofs.Ytfacddeaobogjaa.N.mkN k) l))) (↑(List.length (Go.Proofs.Ytfacddeaobogjaa.N.rowsOf (Go.Proofs.Ytfacddeaobogjaa.N.gDat (Go.Proofs.Ytfacddeaobogjaa.N.mkN k) (Go.Proofs.Ytfacddeaobogjaa.N.mkE (Go.Proofs.Ytfacddeaobogjaa.N.mkN k) l)))) : Int) fr t == Go.Proofs.Ytfacddeaobogjaa.N.pathB (Go.Proofs.Ytfacddeaobogjaa.N.putAll (Go.Proofs.Ytfacddeaobogjaa.N.mkE (Go.Proofs.Ytfacddeaobogjaa.N.mkN k) l)) (Go.Proofs.Ytfacddeaobogjaa.N.mkN k) fr t) = Bool.true → True) ∧ ((!Go.Proofs.Ytfacddeaobogjaa.N.pathB (Go.Proofs.Ytfacddeaobogjaa.N.edgesOf (Go.Proofs.Ytfacddeaobogjaa.N.gDat (Go.Proofs.Ytfacddeaobogjaa.N.mkN k) (Go.Proofs.Ytfacddeaobogjaa.N.mkE (Go.Proofs.Ytfacddeaobogjaa.N.mkN k) l))) (↑(List.length (Go.Proofs.Ytfacddeaobogjaa.N.rowsOf (Go.Proofs.Ytfacddeaobogjaa.N.gDat (Go.Proofs.Ytfacddeaobogjaa.N.mkN k) (Go.Proofs.Ytfacddeaobogjaa.N.mkE (Go.Proofs.Ytfacddeaobogjaa.N.mkN k) l)))) : Int) fr t == Go.Proofs.Ytfacddeaobogjaa.N.pathB (Go.Proofs.Ytfacddeaobogjaa.N.putAll (Go.Proofs.Ytfacddeaobogjaa.N.mkE (Go.Proofs.Ytfacddeaobogjaa.N.mkN k) l)) (Go.Proofs.Ytfacddeaobogjaa.N.mkN k) fr t) = Bool.false → List.length (Go.Proofs.Ytfacddeaobogjaa.N.pathL (Go.Proofs.Ytfacddeaobogjaa.N.edgesOf (Go.Proofs.Ytfacddeaobogjaa.N.gDat (Go.Proofs.Ytfacddeaobogjaa.N.mkN k) (Go.Proofs.Ytfacddeaobogjaa.N.mkE (Go.Proofs.Ytfacddeaobogjaa.N.mkN k) l))) (↑(List.length (Go.Proofs.Ytfacddeaobogjaa.N.rowsOf (Go.Proofs.Ytfacddeaobogjaa.N.gDat (Go.Proofs.Ytfacddeaobogjaa.N.mkN k) (Go.Proofs.Ytfacddeaobogjaa.N.mkE (Go.Proofs.Ytfacddeaobogjaa.N.mkN k) l)))) : Int) fr t) ≤ (1000000000 : Nat) ∧ True)) ∧ ((!Go.Proofs.Ytfacddeaobogjaa.N.pathB (Go.Proofs.Ytfacddeaobogjaa.N.edgesOf (Go.Proofs.Ytfacddeaobogjaa.N.gDat (Go.Proofs.Ytfacddeaobogjaa.N.mkN k) (Go.Proofs.Ytfacddeaobogjaa.N.mkE (Go.Proofs.Ytfacddeaobogjaa.N.mkN k) l))) (↑(List.length (Go.Proofs.Ytfacddeaobogjaa.N.rowsOf (Go.Proofs.Ytfacddeaobogjaa.N.gDat (Go.Proofs.Ytfacddeaobogjaa.N.mkN k) (Go.Proofs.Ytfacddeaobogjaa.N.mkE (Go.Proofs.Ytfacddeaobogjaa.N.mkN k) l)))) : Int) fr t == Go.Proofs.Ytfacddeaobogjaa.N.pathB (Go.Proofs.Ytfacddeaobogjaa.N.putAll (Go.Proofs.Ytfacddeaobogjaa.N.mkE (Go.Proofs.Ytfacddeaobogjaa.N.mkN k) l)) (Go.Proofs.Ytfacddeaobogjaa.N.mkN k) fr t || !Go.Proofs.Ytfacddeaobogjaa.N.eqL (Go.Proofs.Ytfacddeaobogjaa.N.pathL (Go.Proofs.Ytfacddeaobogjaa.N.edgesOf (Go.Proofs.Ytfacddeaobogjaa.N.gDat (Go.Proofs.Ytfacddeaobogjaa.N.mkN k) (Go.Proofs.Ytfacddeaobogjaa.N.mkE (Go.Proofs.Ytfacddeaobogjaa.N.mkN k) l))) (↑(List.length (Go.Proofs.Ytfacddeaobogjaa.N.rowsOf (Go.Proofs.Ytfacddeaobogjaa.N.gDat (Go.Proofs.Ytfacddeaobogjaa.N.mkN k) (Go.Proofs.Ytfacddeaobogjaa.N.mkE (Go.Proofs.Ytfacddeaobogjaa.N.mkN k) l)))) : Int) fr t) (Go.Proofs.Ytfacddeaobogjaa.N.pathL (Go.Proofs.Ytfacddeaobogjaa.N.putAll (Go.Proofs.Ytfacddeaobogjaa.N.mkE (Go.Proofs.Ytfacddeaobogjaa.N.mkN k) l)) (Go.Proofs.Ytfacddeaobogjaa.N.mkN k) fr t)) = Bool.true → Bool.false = Bool.true ∧ True) ∧ ((!Go.Proofs.Ytfacddeaobogjaa.N.pathB (Go.Proofs.Ytfacddeaobogjaa.N.edgesOf (Go.Proofs.Ytfacddeaobogjaa.N.gDat (Go.Proofs.Ytfacddeaobogjaa.N.mkN k) (Go.Proofs.Ytfacddeaobogjaa.N.mkE (Go.Proofs.Ytfacddeaobogjaa.N.mkN k) l))) (↑(List.length (Go.Proofs.Ytfacddeaobogjaa.N.rowsOf (Go.Proofs.Ytfacddeaobogjaa.N.gDat (Go.Proofs.Ytfacddeaobogjaa.N.mkN k) (Go.Proofs.Ytfacddeaobogjaa.N.mkE (Go.Proofs.Ytfacddeaobogjaa.N.mkN k) l)))) : Int) fr t == Go.Proofs.Ytfacddeaobogjaa.N.pathB (Go.Proofs.Ytfacddeaobogjaa.N.putAll (Go.Proofs.Ytfacddeaobogjaa.N.mkE (Go.Proofs.Ytfacddeaobogjaa.N.mkN k) l)) (Go.Proofs.Ytfacddeaobogjaa.N.mkN k) fr t || !Go.Proofs.Ytfacddeaobogjaa.N.eqL (Go.Proofs.Ytfacddeaobogjaa.N.pathL (Go.Proofs.Ytfacddeaobogjaa.N.edgesOf (Go.Proofs.Ytfacddeaobogjaa.N.gDat (Go.Proofs.Ytfacddeaobogjaa.N.mkN k) (Go.Proofs.Ytfacddeaobogjaa.N.mkE (Go.Proofs.Ytfacddeaobogjaa.N.mkN k) l))) (↑(List.length (Go.Proofs.Ytfacddeaobogjaa.N.rowsOf (Go.Proofs.Ytfacddeaobogjaa.N.gDat (Go.Proofs.Ytfacddeaobogjaa.N.mkN k) (Go.Proofs.Ytfacddeaobogjaa.N.mkE (Go.Proofs.Ytfacddeaobogjaa.N.mkN k) l)))) : Int) fr t) (Go.Proofs.Ytfacddeaobogjaa.N.pathL (Go.Proofs.Ytfacddeaobogjaa.N.putAll (Go.Proofs.Ytfacddeaobogjaa.N.mkE (Go.Proofs.Ytfacddeaobogjaa.N.mkN k) l)) (Go.Proofs.Ytfacddeaobogjaa.N.mkN k) fr t)) = Bool.false → (∃ (a : Nat), (Go.Proofs.Ytfacddeaobogjaa.N.gDat (Go.Proofs.Ytfacddeaobogjaa.N.mkN k) (Go.Proofs.Ytfacddeaobogjaa.N.mkE (Go.Proofs.Ytfacddeaobogjaa.N.mkN k) l) = Go.Proofs.Ytfacddeaobogjaa.N.gDat (Go.Proofs.Ytfacddeaobogjaa.N.mkN k) (Go.Proofs.Ytfacddeaobogjaa.N.mkE (Go.Proofs.Ytfacddeaobogjaa.N.mkN k) l) ∧ (0 : Int) = (↑a : Int) ∧ Go.Proofs.Ytfacddeaobogjaa.N.mkN k = Go.Proofs.Ytfacddeaobogjaa.N.mkN k ∧ Go.Proofs.Ytfacddeaobogjaa.N.putAll (Go.Proofs.Ytfacddeaobogjaa.N.mkE (Go.Proofs.Ytfacddeaobogjaa.N.mkN k) l) = Go.Proofs.Ytfacddeaobogjaa.N.putAll (Go.Proofs.Ytfacddeaobogjaa.N.mkE (Go.Proofs.Ytfacddeaobogjaa.N.mkN k) l)) ∧ (↑a : Int) ≤ Go.Proofs.Ytfacddeaobogjaa.N.mkN k) ∧ ∀ (a : Nat), (↑a : Int) ≤ Go.Proofs.Ytfacddeaobogjaa.N.mkN k → (Decidable.decide ((↑a : Int) < Go.Proofs.Ytfacddeaobogjaa.N.mkN k) = Bool.true → Go.Proofs.Ytfacddeaobogjaa.N.okPG (Go.Proofs.Ytfacddeaobogjaa.N.gDat (Go.Proofs.Ytfacddeaobogjaa.N.mkN k) (Go.Proofs.Ytfacddeaobogjaa.N.mkE (Go.Proofs.Ytfacddeaobogjaa.N.mkN k) l)) ∧ Go.Proofs.Ytfacddeaobogjaa.N.okW (Go.Proofs.Ytfacddeaobogjaa.N.mkN k) (Go.Proofs.Ytfacddeaobogjaa.N.putAll (Go.Proofs.Ytfacddeaobogjaa.N.mkE (Go.Proofs.Ytfacddeaobogjaa.N.mkN k) l)) [] ∧ (((!Go.Proofs.Ytfacddeaobogjaa.N.pathB (Go.Proofs.Ytfacddeaobogjaa.N.edgesOf (Go.Proofs.Ytfacddeaobogjaa.N.gDat (Go.Proofs.Ytfacddeaobogjaa.N.mkN k) (Go.Proofs.Ytfacddeaobogjaa.N.mkE (Go.Proofs.Ytfacddeaobogjaa.N.mkN k) l))) (↑(List.length (Go.Proofs.Ytfacddeaobogjaa.N.rowsOf (Go.Proofs.Ytfacddeaobogjaa.N.gDat (Go.Proofs.Ytfacddeaobogjaa.N.mkN k) (Go.Proofs.Ytfacddeaobogjaa.N.mkE (Go.Proofs.Ytfacddeaobogjaa.N.mkN k) l)))) : Int) (↑a : Int) (0 : Int) == Go.Proofs.Ytfacddeaobogjaa.N.pathB (Go.Proofs.Ytfacddeaobogjaa.N.putAll (Go.Proofs.Ytfacddeaobogjaa.N.mkE (Go.Proofs.Ytfacddeaobogjaa.N.mkN k) l)) (Go.Proofs.Ytfacddeaobogjaa.N.mkN k) (↑a : Int) (0 : Int)) = Bool.true → True) ∧ ((!Go.Proofs.Ytfacddeaobogjaa.N.pathB (Go.Proofs.Ytfacddeaobogjaa.N.edgesOf (Go.Proofs.Ytfacddeaobogjaa.N.gDat (Go.Proofs.Ytfacddeaobogjaa.N.mkN k) (Go.Proofs.Ytfacddeaobogjaa.N.mkE (Go.Proofs.Ytfacddeaobogjaa.N.mkN k) l))) (↑(List.length (Go.Proofs.Ytfacddeaobogjaa.N.rowsOf (Go.Proofs.Ytfacddeaobogjaa.N.gDat (Go.Proofs.Ytfacddeaobogjaa.N.mkN k) (Go.Proofs.Ytfacddeaobogjaa.N.mkE (Go.Proofs.Ytfacddeaobogjaa.N.mkN k) l)))) : Int) (↑a : Int) (0 : Int) == Go.Proofs.Ytfacddeaobogjaa.N.pathB (Go.Proofs.Ytfacddeaobogjaa.N.putAll (Go.Proofs.Ytfacddeaobogjaa.N.mkE (Go.Proofs.Ytfacddeaobogjaa.N.mkN k) l)) (Go.Proofs.Ytfacddeaobogjaa.N.mkN k) (↑a : Int) (0 : Int)) = Bool.false → List.length (Go.Proofs.Ytfacddeaobogjaa.N.pathL (Go.Proofs.Ytfacddeaobogjaa.N.edgesOf (Go.Proofs.Ytfacddeaobogjaa.N.gDat (Go.Proofs.Ytfacddeaobogjaa.N.mkN k) (Go.Proofs.Ytfacddeaobogjaa.N.mkE (Go.Proofs.Ytfacddeaobogjaa.N.mkN k) l))) (↑(List.length (Go.Proofs.Ytfacddeaobogjaa.N.rowsOf (Go.Proofs.Ytfacddeaobogjaa.N.gDat (Go.Proofs.Ytfacddeaobogjaa.N.mkN k) (Go.Proofs.Ytfacddeaobogjaa.N.mkE (Go.Proofs.Ytfacddeaobogjaa.N.mkN k) l)))) : Int) (↑a : Int) (0 : Int)) ≤ (1000000000 : Nat) ∧ True)) ∧ ((!Go.Proofs.Ytfacddeaobogjaa.N.pathB (Go.Proofs.Ytfacddeaobogjaa.N.edgesOf (Go.Proofs.Ytfacddeaobogjaa.N.gDat (Go.Proofs.Ytfacddeaobogjaa.N.mkN k) (Go.Proofs.Ytfacddeaobogjaa.N.mkE (Go.Proofs.Ytfacddeaobogjaa.N.mkN k) l))) (↑(List.length (Go.Proofs.Ytfacddeaobogjaa.N.rowsOf (Go.Proofs.Ytfacddeaobogjaa.N.gDat (Go.Proofs.Ytfacddeaobogjaa.N.mkN k) (Go.Proofs.Ytfacddeaobogjaa.N.mkE (Go.Proofs.Ytfacddeaobogjaa.N.mkN k) l)))) : Int) (↑a : Int) (0 : Int) == Go.Proofs.Ytfacddeaobogjaa.N.pathB (Go.Proofs.Ytfacddeaobogjaa.N.putAll (Go.Proofs.Ytfacddeaobogjaa.N.mkE (Go.Proofs.Ytfacddeaobogjaa.N.mkN k) l)) (Go.Proofs.Ytfacddeaobogjaa.N.mkN k) (↑a : Int) (0 : Int) || !Go.Proofs.Ytfacddeaobogjaa.N.eqL (Go.Proofs.Ytfacddeaobogjaa.N.pathL (Go.Proofs.Ytfacddeaobogjaa.N.edgesOf (Go.Proofs.Ytfacddeaobogjaa.N.gDat (Go.Proofs.Ytfacddeaobogjaa.N.mkN k) (Go.Proofs.Ytfacddeaobogjaa.N.mkE (Go.Proofs.Ytfacddeaobogjaa.N.mkN k) l))) (↑(List.length (Go.Proofs.Ytfacddeaobogjaa.N.rowsOf (Go.Proofs.Ytfacddeaobogjaa.N.gDat (Go.Proofs.Ytfacddeaobogjaa.N.mkN k) (Go.Proofs.Ytfacddeaobogjaa.N.mkE (Go.Proofs.Ytfacddeaobogjaa.N.mkN k) l)))) : Int) (↑a : Int) (0 : Int)) (Go.Proofs.Ytfacddeaobogjaa.N.pathL (Go.Proofs.Ytfacddeaobogjaa.N.putAll (Go.Proofs.Ytfacddeaobogjaa.N.mkE (Go.Proofs.Ytfacddeaobogjaa.N.mkN k) l)) (Go.Proofs.Ytfacddeaobogjaa.N.mkN k) (↑a : Int) (0 : Int))) = Bool.true → Bool.false = Bool.true ∧ True) ∧ ((!Go.Proofs.Ytfacddeaobogjaa.N.pathB (Go.Proofs.Ytfacddeaobogjaa.N.edgesOf (Go.Proofs.Ytfacddeaobogjaa.N.gDat (Go.Proofs.Ytfacddeaobogjaa.N.mkN k) (Go.Proofs.Ytfacddeaobogjaa.N.mkE (Go.Proofs.Ytfacddeaobogjaa.N.mkN k) l))) (↑(List.length (Go.Proofs.Ytfacddeaobogjaa.N.rowsOf (Go.Proofs.Ytfacddeaobogjaa.N.gDat (Go.Proofs.Ytfacddeaobogjaa.N.mkN k) (Go.Proofs.Ytfacddeaobogjaa.N.mkE (Go.Proofs.Ytfacddeaobogjaa.N.mkN k) l)))) : Int) (↑a : Int) (0 : Int) == Go.Proofs.Ytfacddeaobogjaa.N.pathB (Go.Proofs.Ytfacddeaobogjaa.N.putAll (Go.Proofs.Ytfacddeaobogjaa.N.mkE (Go.Proofs.Ytfacddeaobogjaa.N.mkN k) l)) (Go.Proofs.Ytfacddeaobogjaa.N.mkN k) (↑a : Int) (0 : Int) || !Go.Proofs.Ytfacddeaobogjaa.N.eqL (Go.Proofs.Ytfacddeaobogjaa.N.pathL (Go.Proofs.Ytfacddeaobogjaa.N.edgesOf (Go.Proofs.Ytfacddeaobogjaa.N.gDat (Go.Proofs.Ytfacddeaobogjaa.N.mkN k) (Go.Proofs.Ytfacddeaobogjaa.N.mkE (Go.Proofs.Ytfacddeaobogjaa.N.mkN k) l))) (↑(List.length (Go.Proofs.Ytfacddeaobogjaa.N.rowsOf (Go.Proofs.Ytfacddeaobogjaa.N.gDat (Go.Proofs.Ytfacddeaobogjaa.N.mkN k) (Go.Proofs.Ytfacddeaobogjaa.N.mkE (Go.Proofs.Ytfacddeaobogjaa.N.mkN k) l)))) : Int) (↑a : Int) (0 : Int)) (Go.Proofs.Ytfacddeaobogjaa.N.pathL (Go.Proofs.Ytfacddeaobogjaa.N.putAll (Go.Proofs.Ytfacddeaobogjaa.N.mkE (Go.Proofs.Ytfacddeaobogjaa.N.mkN k) l)) (Go.Proofs.Ytfacddeaobogjaa.N.mkN k) (↑a : Int) (0 : Int))) = Bool.false → Go.DF.okI64 ((↑a : Int) + (1 : Int)) ∧ ∃ (a' : Nat), (Go.Proofs.Ytfacddeaobogjaa.N.gDat (Go.Proofs.Ytfacddeaobogjaa.N.mkN k) (Go.Proofs.Ytfacddeaobogjaa.N.mkE (Go.Proofs.Ytfacddeaobogjaa.N.mkN k) l) = Go.Proofs.Ytfacddeaobogjaa.N.gDat (Go.Proofs.Ytfacddeaobogjaa.N.mkN k) (Go.Proofs.Ytfacddeaobogjaa.N.mkE (Go.Proofs.Ytfacddeaobogjaa.N.mkN k) l) ∧ (↑a : Int) + (1 : Int) = (↑a' : Int) ∧ Go.Proofs.Ytfacddeaobogjaa.N.mkN k = Go.Proofs.Ytfacddeaobogjaa.N.mkN k ∧ Go.Proofs.Ytfacddeaobogjaa.N.putAll (Go.Proofs.Ytfacddeaobogjaa.N.mkE (Go.Proofs.Ytfacddeaobogjaa.N.mkN k) l) = Go.Proofs.Ytfacddeaobogjaa.N.putAll (Go.Proofs.Ytfacddeaobogjaa.N.mkE (Go.Proofs.Ytfacddeaobogjaa.N.mkN k) l)) ∧ (↑a' : Int) ≤ Go.Proofs.Ytfacddeaobogjaa.N.mkN k ∧ Int.toNat (Go.Proofs.Ytfacddeaobogjaa.N.mkN k) - a' < Int.toNat (Go.Proofs.Ytfacddeaobogjaa.N.mkN k) - a)) ∧ (Decidable.decide ((↑a : Int) < Go.Proofs.Ytfacddeaobogjaa.N.mkN k) = Bool.false → Bool.true = Bool.true ∧ True)))) _ (by kernel_rfl)
  have hNN := mkN_le k hk
  have h0 := mk_err k l hk
  have hml : (mkE (mkN k) l).length ≤ 120 := by unfold mkE; rw [List.length_map, List.length_take]; omega
  generalize mkE (mkN k) l = es at h0 hml ⊢
  generalize mkN k = N at hNN h0 ⊢
  have e : gDat N es = some (gA N es, gB N es) := by unfold gDat; rw [if_pos h0]
  rw [e]
  have hW := putAll_le es
  have hr : (((rowsOf (some (gA N es, gB N es))).length : Nat) : Int) = N := by rw [show rowsOf (some (gA N es, gB N es)) = gA N es from rfl, gA_len]; omega
  have he : edgesOf (some (gA N es, gB N es)) = putAll es := edges_eq h0
  have oP := okPG_gA h0 (by omega)
  have hE : ∀ x ∈ putAll es, 0 ≤ x.1 ∧ x.1 < N ∧ 0 ≤ x.2 ∧ x.2 < N := fun x hx => by
    have := (gErr_zero h0).2.2.2 x (((putAll_rise h0).2 x).1 hx); omega
  have oW : okW N (putAll es) [] := ⟨by omega, hE, by omega, by simp⟩
  rw [hr, he]
  have pl := fun a b => pathL_len a b (show 0 ≤ N by omega) hE
  simp only [beq_self_eq_true, Bool.not_true, eqL_true rfl, Bool.or_false, bne_self_eq_false]
  refine ⟨hk, fun h => absurd h (by simp), fun _ => ⟨oP, oW, ⟨fun _ => trivial, fun _ => ⟨by have := pl fr t; omega, trivial⟩⟩, fun h => absurd h (by simp), fun _ => ⟨⟨0, ⟨by trivial, rfl, by trivial, by trivial⟩, by omega⟩, fun a ha => ⟨fun hlt => ?_, fun _ => ⟨by trivial, trivial⟩⟩⟩⟩⟩
  have hlt := of_decide_eq_true hlt
  exact ⟨oP, oW, ⟨fun _ => trivial, fun _ => ⟨by have := pl (a : Int) 0; omega, trivial⟩⟩, fun h => absurd h (by simp), fun _ => ⟨by unfold okI64; omega, a + 1, ⟨by trivial, by omega, by trivial, by trivial⟩, by omega, by omega⟩⟩
end Go.Proofs.Ytfacddeaobogjaa.N
