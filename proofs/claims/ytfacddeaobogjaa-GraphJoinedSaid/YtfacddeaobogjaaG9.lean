import Derived.Test.YtfacddeaobogjaaF12
import Derived.Test.YtfacddeaobogjaaG8
set_option linter.unusedVariables false
set_option linter.unusedSimpArgs false
set_option linter.unnecessarySimpa false
set_option linter.unusedVariables false
set_option linter.unusedSimpArgs false
/- The law on views. -/
namespace Go.Proofs.Ytfacddeaobogjaa.N
open Go.DF
set_option maxRecDepth 100000
noncomputable def body23 : List (Body Try.prog) := [⟨23, Try.f23, Try.func23, by kernel_rfl, by kernel_rfl, false⟩]
abbrev Gr := Option (Rows × Rows)
def anyTo (l : List Int) (b : Int) (i : Nat) : Bool := (l.take i).any fun x => x == b
def inv9 (g : Gr) (N n : Int) (W : Es) : LInv where
  α := Nat
  S := fun k => ⟨[(2, .int .i64 (.sym n)), (7, .per gC g), (8, .ptr ⟨0, .lit 0, 0, 0⟩), (9, .int .i64 (.sym k))], [(0, (false, .cells 27 [.int .i64 (.sym N), .per (.sl eC) W]))], 1⟩
  p := fun k => (k : Int) ≤ N
  m := fun k => N.toNat - k
def inv9b (g : Gr) (N n : Int) (W : Es) : LInv where
  α := Nat × Nat
  S := fun k => ⟨[(2, .int .i64 (.sym n)), (7, .per gC g), (8, .ptr ⟨0, .lit 0, 0, 0⟩), (9, .int .i64 (.sym k.1)), (10, .per iC (refA W k.1)), (11, .int .i64 (.sym k.2))], [(0, (false, .cells 27 [.int .i64 (.sym N), .per (.sl eC) W]))], 1⟩
  p := fun k => (k.1 : Int) < N ∧ (k.2 : Int) ≤ N
  m := fun k => N.toNat - k.2
  lk := [(9, fun k => (k.1 : Int))]
def inv9c (g : Gr) (N n : Int) (W : Es) : LInv where
  α := Nat × Nat × Nat
  S := fun k => ⟨[(2, .int .i64 (.sym n)), (7, .per gC g), (8, .ptr ⟨0, .lit 0, 0, 0⟩), (9, .int .i64 (.sym k.1)), (10, .per iC (refA W k.1)), (11, .int .i64 (.sym k.2.1)), (12, .bool (.sym (anyTo (refA W k.1) k.2.1 k.2.2))), (13, .int .i64 (.sym k.2.2))],
    [(0, (false, .cells 27 [.int .i64 (.sym N), .per (.sl eC) W]))], 1⟩
  p := fun k => (k.1 : Int) < N ∧ (k.2.1 : Int) < N ∧ k.2.2 ≤ (refA W k.1).length
  m := fun k => (refA W k.1).length - k.2.2
  lk := [(9, fun k => (k.1 : Int)), (11, fun k => (k.2.1 : Int))]
theorem refA_rise {W : Es} (h : W.Pairwise Bef) (i : Int) : (refA W i).Pairwise (· < ·) := by
  unfold refA
  rw [List.pairwise_map]
  refine (h.filter _).imp_of_mem ?_
  intro a b ha hb hab
  have h1 := (List.mem_filter.1 ha).2
  have h2 := (List.mem_filter.1 hb).2
  simp only [beq_iff_eq] at h1 h2
  unfold Bef at hab; omega
theorem refB_rise {W : Es} (h : W.Pairwise Bef) (i : Int) : (refB W i).Pairwise (· < ·) := by
  unfold refB
  rw [List.pairwise_map]
  refine (h.filter _).imp_of_mem ?_
  intro a b ha hb hab
  have h1 := (List.mem_filter.1 ha).2
  have h2 := (List.mem_filter.1 hb).2
  simp only [beq_iff_eq] at h1 h2
  unfold Bef at hab; omega
theorem refA_mem (W : Es) (i x : Int) : x ∈ refA W i ↔ (i, x) ∈ W := by
  unfold refA
  rw [List.mem_map]
  constructor
  · rintro ⟨y, hy, rfl⟩
    obtain ⟨h1, h2⟩ := List.mem_filter.1 hy
    have : y.1 = i := by simpa using h2
    rw [← this]; exact h1
  · intro h
    exact ⟨(i, x), List.mem_filter.2 ⟨h, by simp⟩, rfl⟩
theorem refB_mem (W : Es) (i x : Int) : x ∈ refB W i ↔ (x, i) ∈ W := by
  unfold refB
  rw [List.mem_map]
  constructor
  · rintro ⟨y, hy, rfl⟩
    obtain ⟨h1, h2⟩ := List.mem_filter.1 hy
    have : y.2 = i := by simpa using h2
    rw [← this]; exact h1
  · intro h
    exact ⟨(x, i), List.mem_filter.2 ⟨h, by simp⟩, rfl⟩
theorem inR_rise {A : Rows} (h : ∀ i, (A.getD i []).Pairwise (· < ·)) (n : Int) : (inR A n).Pairwise (· < ·) := by
  unfold inR; split
  · exact h _
  · exact List.Pairwise.nil
section
variable {n : Int} {es : Es} (h : gErr n es = 0)
include h
theorem inA_mem (i x : Int) : x ∈ inR (gA n es) i ↔ (i, x) ∈ es := by
  obtain ⟨h1, h2, h3, h4⟩ := gErr_zero h
  unfold inR
  rw [gA_len]
  split
  · rw [gA_mem h, show ((i.toNat : Nat) : Int) = i from by omega]
  · refine ⟨fun hh => absurd hh (by simp), fun hh => ?_⟩
    have := h4 _ hh
    simp only at this; omega
theorem inB_mem (i x : Int) : x ∈ inR (gB n es) i ↔ (x, i) ∈ es := by
  obtain ⟨h1, h2, h3, h4⟩ := gErr_zero h
  unfold inR
  rw [gB_len]
  split
  · rw [gB_mem h, show ((i.toNat : Nat) : Int) = i from by omega]
  · refine ⟨fun hh => absurd hh (by simp), fun hh => ?_⟩
    have := h4 _ hh
    simp only at this; omega
theorem after_eq (i : Int) : inR (gA n es) i = refA (putAll es) i := by
  obtain ⟨k1, k2⟩ := putAll_rise h
  exact rise_ext (inR_rise (gA_rise n es) i) (refA_rise k1 i) fun x => by rw [inA_mem h, refA_mem, k2]
theorem before_eq (i : Int) : inR (gB n es) i = refB (putAll es) i := by
  obtain ⟨k1, k2⟩ := putAll_rise h
  exact rise_ext (inR_rise (gB_rise n es) i) (refB_rise k1 i) fun x => by rw [inB_mem h, refB_mem, k2]
theorem has_eq (a b : Int) : hasG (some (gA n es, gB n es)) a b = isIn (refA (putAll es) a) b := by
  rw [← after_eq h]
  show (decide (0 ≤ a ∧ a < ((gA n es).length : Int)) && isIn ((gA n es).getD a.toNat []) b) = _
  unfold inR
  by_cases hh : 0 ≤ a ∧ a < ((gA n es).length : Int)
  · rw [if_pos hh]; simp [hh]
  · rw [if_neg hh]; simp [hh, isIn]
theorem swp_err : gErr n ((putAll es).map swp) = 0 := by
  obtain ⟨h1, h2, h3, h4⟩ := gErr_zero h
  have hp := putAll_le es
  obtain ⟨k1, k2⟩ := putAll_rise h
  unfold gErr
  rw [if_neg (by omega), if_neg (by rw [List.length_map]; omega), if_neg]
  rw [Bool.not_eq_true, List.any_eq_false]
  intro y hy
  obtain ⟨x, hx, rfl⟩ := List.mem_map.1 hy
  have := h4 x ((k2 x).1 hx)
  unfold badE swp
  simp only [Bool.or_eq_true, Bool.not_eq_true', Bool.and_eq_false_iff, decide_eq_false_iff_not]
  omega
theorem rev_edges : edgesTo (gB n es) (gB n es).length = putAll ((putAll es).map swp) := by
  obtain ⟨k1, k2⟩ := putAll_rise (swp_err h)
  obtain ⟨k3, k4⟩ := putAll_rise h
  obtain ⟨h1, h2, h3, h4⟩ := gErr_zero h
  refine rise_extR Bef.asym (edgesTo_rise _ (gB_rise n es) _) k1 fun y => ?_
  rw [k2, edgesTo_mem, gB_len, List.mem_map]
  constructor
  · rintro ⟨i, hi, e, hm⟩
    have := (gB_mem h i y.2).1 hm
    rw [← e] at this
    exact ⟨(y.2, y.1), (k4 _).2 this, rfl⟩
  · rintro ⟨x, hx, rfl⟩
    have hx := (k4 x).1 hx
    have := h4 x hx
    unfold swp
    refine ⟨x.2.toNat, by omega, by simp only; omega, (gB_mem h _ _).2 ?_⟩
    rw [show ((x.2.toNat : Nat) : Int) = x.2 from by omega]; exact hx
theorem okA_G : okA (some (gA n es, gB n es)) ∧ okA (some (gB n es, gA n es)) := by
  obtain ⟨h1, h2, h3, h4⟩ := gErr_zero h
  have a := okR_gA h
  have b := okR_gB h
  exact ⟨⟨by rw [gA_len, gB_len], by rw [gA_len]; omega, fun i => by have := (a i).2; omega, fun i => by have := (b i).2; omega⟩, ⟨by rw [gA_len, gB_len], by rw [gB_len]; omega, fun i => by have := (b i).2; omega, fun i => by have := (a i).2; omega⟩⟩
end
theorem eqL_true {a b : List Int} (h : a = b) : eqL a b = true := decide_eq_true h
theorem refA_le (W : Es) (i : Int) : (refA W i).length ≤ W.length := by
  unfold refA
  rw [List.length_map]
  exact List.length_filter_le _ _
theorem refB_le (W : Es) (i : Int) : (refB W i).length ≤ W.length := by
  unfold refB
  rw [List.length_map]
  exact List.length_filter_le _ _
theorem anyTo_succ (l : List Int) (b : Int) (i : Nat) (h : i < l.length) : (anyTo l b i || l.getD i 0 == b) = anyTo l b (i + 1) := by
  unfold anyTo
  rw [List.take_add_one, List.getElem?_eq_getElem h, List.any_append, List.getD_eq_getElem?_getD, List.getElem?_eq_getElem h]
  simp
theorem anyTo_all (l : List Int) (b : Int) : anyTo l b l.length = isIn l b := by
  unfold anyTo isIn
  rw [List.take_length, Bool.eq_iff_iff, List.any_eq_true, decide_eq_true_iff]
  constructor
  · rintro ⟨x, hx, e⟩
    have : x = b := by simpa using e
    rw [← this]; exact hx
  · intro hx; exact ⟨b, hx, by simp⟩
set_option maxHeartbeats 4000000 in
theorem p9 (k : Int) (l : Es) (n : Int) (hk : 0 ≤ k ∧ k < 256) : Pure1 Try.prog 9 [.int .u8 (.sym k), .per (.sl eC) l, .int .i64 (.sym n)] (.bool (.sym true)) := by
  obtain ⟨N, hN⟩ : ∃ N, mkN k = N := ⟨_, rfl⟩
  obtain ⟨es, hes⟩ : ∃ es, mkE N l = es := ⟨_, rfl⟩
  refine pure1_of_exec (ct := (cx0 [c11, c12, c30, c31, c32, c33, c15, c28, c34, c35, c24, c25, c36] [] []).deep body23 100 20) [(7, inv9 (gDat (mkN k) (mkE (mkN k) l)) (mkN k) n (putAll (mkE (mkN k) l))), (13, inv9b (gDat (mkN k) (mkE (mkN k) l)) (mkN k) n (putAll (mkE (mkN k) l))), (17, inv9c (gDat (mkN k) (mkE (mkN k) l)) (mkN k) n (putAll (mkE (mkN k) l)))] Try.func9 rfl rfl ?_
  apply @cast_goal (Go.Proofs.Ytfacddeaobogjaa.N.isU8 k ∧ ((Option.isNone (Go.Proofs.Ytfacddeaobogjaa.N.gDat (Go.Proofs.Ytfacddeaobogjaa.N.mkN k) (Go.Proofs.Ytfacddeaobogjaa.N.mkE (Go.Proofs.Ytfacddeaobogjaa.N.mkN k) l)) = Bool.true → True) ∧ (Option.isNone (Go.Proofs.Ytfacddeaobogjaa.N.gDat (Go.Proofs.Ytfacddeaobogjaa.N.mkN k) (Go.Proofs.Ytfacddeaobogjaa.N.mkE (Go.Proofs.Ytfacddeaobogjaa.N.mkN k) l)) = Bool.false → Go.Proofs.Ytfacddeaobogjaa.N.okA (Go.Proofs.Ytfacddeaobogjaa.N.gDat (Go.Proofs.Ytfacddeaobogjaa.N.mkN k) (Go.Proofs.Ytfacddeaobogjaa.N.mkE (Go.Proofs.Ytfacddeaobogjaa.N.mkN k) l)) ∧ List.length (Go.Proofs.Ytfacddeaobogjaa.N.putAll (Go.Proofs.Ytfacddeaobogjaa.N.mkE (Go.Proofs.Ytfacddeaobogjaa.N.mkN k) l)) ≤ (1000000 : Nat) ∧ List.length (Go.Proofs.Ytfacddeaobogjaa.N.afterG (Go.Proofs.Ytfacddeaobogjaa.N.gDat (Go.Proofs.Ytfacddeaobogjaa.N.mkN k) (Go.Proofs.Ytfacddeaobogjaa.N.mkE (Go.Proofs.Ytfacddeaobogjaa.N.mkN k) l)) n) ≤ (1000000000 : Nat) ∧ ((!Go.Proofs.Ytfacddeaobogjaa.N.eqL (Go.Proofs.Ytfacddeaobogjaa.N.afterG (Go.Proofs.Ytfacddeaobogjaa.N.gDat (Go.Proofs.Ytfacddeaobogjaa.N.mkN k) (Go.Proofs.Ytfacddeaobogjaa.N.mkE (Go.Proofs.Ytfacddeaobogjaa.N.mkN k) l)) n) (Go.Proofs.Ytfacddeaobogjaa.N.refA (Go.Proofs.Ytfacddeaobogjaa.N.putAll (Go.Proofs.Ytfacddeaobogjaa.N.mkE (Go.Proofs.Ytfacddeaobogjaa.N.mkN k) l)) n)) = Bool.true → True) ∧ ((!Go.Proofs.Ytfacddeaobogjaa.N.eqL (Go.Proofs.Ytfacddeaobogjaa.N.afterG (Go.Proofs.Ytfacddeaobogjaa.N.gDat (Go.Proofs.Ytfacddeaobogjaa.N.mkN k) (Go.Proofs.Ytfacddeaobogjaa.N.mkE (Go.Proofs.Ytfacddeaobogjaa.N.mkN k) l)) n) (Go.Proofs.Ytfacddeaobogjaa.N.refA (Go.Proofs.Ytfacddeaobogjaa.N.putAll (Go.Proofs.Ytfacddeaobogjaa.N.mkE (Go.Proofs.Ytfacddeaobogjaa.N.mkN k) l)) n)) = Bool.false → Go.Proofs.Ytfacddeaobogjaa.N.okA (Go.Proofs.Ytfacddeaobogjaa.N.gDat (Go.Proofs.Ytfacddeaobogjaa.N.mkN k) (Go.Proofs.Ytfacddeaobogjaa.N.mkE (Go.Proofs.Ytfacddeaobogjaa.N.mkN k) l)) ∧ List.length (Go.Proofs.Ytfacddeaobogjaa.N.putAll (Go.Proofs.Ytfacddeaobogjaa.N.mkE (Go.Proofs.Ytfacddeaobogjaa.N.mkN k) l)) ≤ (1000000 : Nat) ∧ List.length (Go.Proofs.Ytfacddeaobogjaa.N.beforeG (Go.Proofs.Ytfacddeaobogjaa.N.gDat (Go.Proofs.Ytfacddeaobogjaa.N.mkN k) (Go.Proofs.Ytfacddeaobogjaa.N.mkE (Go.Proofs.Ytfacddeaobogjaa.N.mkN k) l)) n) ≤ (1000000000 : Nat) ∧ True))) ∧ ((Option.isNone (Go.Proofs.Ytfacddeaobogjaa.N.gDat (Go.Proofs.Ytfacddeaobogjaa.N.mkN k) (Go.Proofs.Ytfacddeaobogjaa.N.mkE (Go.Proofs.Ytfacddeaobogjaa.N.mkN k) l)) || (!Go.Proofs.Ytfacddeaobogjaa.N.eqL (Go.Proofs.Ytfacddeaobogjaa.N.afterG (Go.Proofs.Ytfacddeaobogjaa.N.gDat (Go.Proofs.Ytfacddeaobogjaa.N.mkN k) (Go.Proofs.Ytfacddeaobogjaa.N.mkE (Go.Proofs.Ytfacddeaobogjaa.N.mkN k) l)) n) (Go.Proofs.Ytfacddeaobogjaa.N.refA (Go.Proofs.Ytfacddeaobogjaa.N.putAll (Go.Proofs.Ytfacddeaobogjaa.N.mkE (Go.Proofs.Ytfacddeaobogjaa.N.mkN k) l)) n) || !Go.Proofs.Ytfacddeaobogjaa.N.eqL (Go.Proofs.Ytfacddeaobogjaa.N.beforeG (Go.Proofs.Ytfacddeaobogjaa.N.gDat (Go.Proofs.Ytfacddeaobogjaa.N.mkN k) (Go.Proofs.Ytfacddeaobogjaa.N.mkE (Go.Proofs.Ytfacddeaobogjaa.N.mkN k) l)) n) (Go.Proofs.Ytfacddeaobogjaa.N.refB (Go.Proofs.Ytfacddeaobogjaa.N.putAll (Go.Proofs.Ytfacddeaobogjaa.N.mkE (Go.Proofs.Ytfacddeaobogjaa.N.mkN k) l)) n))) = Bool.true → Bool.false = Bool.true ∧ True) ∧ ((Option.isNone (Go.Proofs.Ytfacddeaobogjaa.N.gDat (Go.Proofs.Ytfacddeaobogjaa.N.mkN k) (Go.Proofs.Ytfacddeaobogjaa.N.mkE (Go.Proofs.Ytfacddeaobogjaa.N.mkN k) l)) || (!Go.Proofs.Ytfacddeaobogjaa.N.eqL (Go.Proofs.Ytfacddeaobogjaa.N.afterG (Go.Proofs.Ytfacddeaobogjaa.N.gDat (Go.Proofs.Ytfacddeaobogjaa.N.mkN k) (Go.Proofs.Ytfacddeaobogjaa.N.mkE (Go.Proofs.Ytfacddeaobogjaa.N.mkN k) l)) n) (Go.Proofs.Ytfacddeaobogjaa.N.refA (Go.Proofs.Ytfacddeaobogjaa.N.putAll (Go.Proofs.Ytfacddeaobogjaa.N.mkE (Go.Proofs.Ytfacddeaobogjaa.N.mkN k) l)) n) || !Go.Proofs.Ytfacddeaobogjaa.N.eqL (Go.Proofs.Ytfacddeaobogjaa.N.beforeG (Go.Proofs.Ytfacddeaobogjaa.N.gDat (Go.Proofs.Ytfacddeaobogjaa.N.mkN k) (Go.Proofs.Ytfacddeaobogjaa.N.mkE (Go.Proofs.Ytfacddeaobogjaa.N.mkN k) l)) n) (Go.Proofs.Ytfacddeaobogjaa.N.refB (Go.Proofs.Ytfacddeaobogjaa.N.putAll (Go.Proofs.Ytfacddeaobogjaa.N.mkE (Go.Proofs.Ytfacddeaobogjaa.N.mkN k) l)) n))) = Bool.false → (∃ (a : Nat), (n = n ∧ Go.Proofs.Ytfacddeaobogjaa.N.gDat (Go.Proofs.Ytfacddeaobogjaa.N.mkN k) (Go.Proofs.Ytfacddeaobogjaa.N.mkE (Go.Proofs.Ytfacddeaobogjaa.N.mkN k) l) = Go.Proofs.Ytfacddeaobogjaa.N.gDat (Go.Proofs.Ytfacddeaobogjaa.N.mkN k) (Go.Proofs.Ytfacddeaobogjaa.N.mkE (Go.Proofs.Ytfacddeaobogjaa.N.mkN k) l) ∧ (0 : Int) = (↑a : Int) ∧ Go.Proofs.Ytfacddeaobogjaa.N.mkN k = Go.Proofs.Ytfacddeaobogjaa.N.mkN k ∧ Go.Proofs.Ytfacddeaobogjaa.N.putAll (Go.Proofs.Ytfacddeaobogjaa.N.mkE (Go.Proofs.Ytfacddeaobogjaa.N.mkN k) l) = Go.Proofs.Ytfacddeaobogjaa.N.putAll (Go.Proofs.Ytfacddeaobogjaa.N.mkE (Go.Proofs.Ytfacddeaobogjaa.N.mkN k) l)) ∧ (↑a : Int) ≤ Go.Proofs.Ytfacddeaobogjaa.N.mkN k) ∧ ∀ (a : Nat), (↑a : Int) ≤ Go.Proofs.Ytfacddeaobogjaa.N.mkN k → (Decidable.decide ((↑a : Int) < Go.Proofs.Ytfacddeaobogjaa.N.mkN k) = Bool.true → List.length (Go.Proofs.Ytfacddeaobogjaa.N.putAll (Go.Proofs.Ytfacddeaobogjaa.N.mkE (Go.Proofs.Ytfacddeaobogjaa.N.mkN k) l)) ≤ (1000000 : Nat) ∧ (Go.Proofs.Ytfacddeaobogjaa.N.okA (Go.Proofs.Ytfacddeaobogjaa.N.gDat (Go.Proofs.Ytfacddeaobogjaa.N.mkN k) (Go.Proofs.Ytfacddeaobogjaa.N.mkE (Go.Proofs.Ytfacddeaobogjaa.N.mkN k) l)) ∧ List.length (Go.Proofs.Ytfacddeaobogjaa.N.afterG (Go.Proofs.Ytfacddeaobogjaa.N.gDat (Go.Proofs.Ytfacddeaobogjaa.N.mkN k) (Go.Proofs.Ytfacddeaobogjaa.N.mkE (Go.Proofs.Ytfacddeaobogjaa.N.mkN k) l)) (↑a : Int)) ≤ (1000000000 : Nat) ∧ ((!Go.Proofs.Ytfacddeaobogjaa.N.eqL (Go.Proofs.Ytfacddeaobogjaa.N.afterG (Go.Proofs.Ytfacddeaobogjaa.N.gDat (Go.Proofs.Ytfacddeaobogjaa.N.mkN k) (Go.Proofs.Ytfacddeaobogjaa.N.mkE (Go.Proofs.Ytfacddeaobogjaa.N.mkN k) l)) (↑a : Int)) (Go.Proofs.Ytfacddeaobogjaa.N.refA (Go.Proofs.Ytfacddeaobogjaa.N.putAll (Go.Proofs.Ytfacddeaobogjaa.N.mkE (Go.Proofs.Ytfacddeaobogjaa.N.mkN k) l)) (↑a : Int))) = Bool.true → True) ∧ ((!Go.Proofs.Ytfacddeaobogjaa.N.eqL (Go.Proofs.Ytfacddeaobogjaa.N.afterG (Go.Proofs.Ytfacddeaobogjaa.N.gDat (Go.Proofs.Ytfacddeaobogjaa.N.mkN k) (Go.Proofs.Ytfacddeaobogjaa.N.mkE (Go.Proofs.Ytfacddeaobogjaa.N.mkN k) l)) (↑a : Int)) (Go.Proofs.Ytfacddeaobogjaa.N.refA (Go.Proofs.Ytfacddeaobogjaa.N.putAll (Go.Proofs.Ytfacddeaobogjaa.N.mkE (Go.Proofs.Ytfacddeaobogjaa.N.mkN k) l)) (↑a : Int))) = Bool.false → Go.Proofs.Ytfacddeaobogjaa.N.okA (Go.Proofs.Ytfacddeaobogjaa.N.gDat (Go.Proofs.Ytfacddeaobogjaa.N.mkN k) (Go.Proofs.Ytfacddeaobogjaa.N.mkE (Go.Proofs.Ytfacddeaobogjaa.N.mkN k) l)) ∧ List.length (Go.Proofs.Ytfacddeaobogjaa.N.putAll (Go.Proofs.Ytfacddeaobogjaa.N.mkE (Go.Proofs.Ytfacddeaobogjaa.N.mkN k) l)) ≤ (1000000 : Nat) ∧ List.length (Go.Proofs.Ytfacddeaobogjaa.N.beforeG (Go.Proofs.Ytfacddeaobogjaa.N.gDat (Go.Proofs.Ytfacddeaobogjaa.N.mkN k) (Go.Proofs.Ytfacddeaobogjaa.N.mkE (Go.Proofs.Ytfacddeaobogjaa.N.mkN k) l)) (↑a : Int)) ≤ (1000000000 : Nat) ∧ True)) ∧ ((!Go.Proofs.Ytfacddeaobogjaa.N.eqL (Go.Proofs.Ytfacddeaobogjaa.N.afterG (Go.Proofs.Ytfacddeaobogjaa.N.gDat (Go.Proofs.Ytfacddeaobogjaa.N.mkN k) (Go.Proofs.Ytfacddeaobogjaa.N.mkE (Go.Proofs.Ytfacddeaobogjaa.N.mkN k) l)) (↑a : Int)) (Go.Proofs.Ytfacddeaobogjaa.N.refA (Go.Proofs.Ytfacddeaobogjaa.N.putAll (Go.Proofs.Ytfacddeaobogjaa.N.mkE (Go.Proofs.Ytfacddeaobogjaa.N.mkN k) l)) (↑a : Int)) || !Go.Proofs.Ytfacddeaobogjaa.N.eqL (Go.Proofs.Ytfacddeaobogjaa.N.beforeG (Go.Proofs.Ytfacddeaobogjaa.N.gDat (Go.Proofs.Ytfacddeaobogjaa.N.mkN k) (Go.Proofs.Ytfacddeaobogjaa.N.mkE (Go.Proofs.Ytfacddeaobogjaa.N.mkN k) l)) (↑a : Int)) (Go.Proofs.Ytfacddeaobogjaa.N.refB (Go.Proofs.Ytfacddeaobogjaa.N.putAll (Go.Proofs.Ytfacddeaobogjaa.N.mkE (Go.Proofs.Ytfacddeaobogjaa.N.mkN k) l)) (↑a : Int))) = Bool.true → Bool.false = Bool.true ∧ True) ∧ ((!Go.Proofs.Ytfacddeaobogjaa.N.eqL (Go.Proofs.Ytfacddeaobogjaa.N.afterG (Go.Proofs.Ytfacddeaobogjaa.N.gDat (Go.Proofs.Ytfacddeaobogjaa.N.mkN k) (Go.Proofs.Ytfacddeaobogjaa.N.mkE (Go.Proofs.Ytfacddeaobogjaa.N.mkN k) l)) (↑a : Int)) (Go.Proofs.Ytfacddeaobogjaa.N.refA (Go.Proofs.Ytfacddeaobogjaa.N.putAll (Go.Proofs.Ytfacddeaobogjaa.N.mkE (Go.Proofs.Ytfacddeaobogjaa.N.mkN k) l)) (↑a : Int)) || !Go.Proofs.Ytfacddeaobogjaa.N.eqL (Go.Proofs.Ytfacddeaobogjaa.N.beforeG (Go.Proofs.Ytfacddeaobogjaa.N.gDat (Go.Proofs.Ytfacddeaobogjaa.N.mkN k) (Go.Proofs.Ytfacddeaobogjaa.N.mkE (Go.Proofs.Ytfacddeaobogjaa.N.mkN k) l)) (↑a : Int)) (Go.Proofs.Ytfacddeaobogjaa.N.refB (Go.Proofs.Ytfacddeaobogjaa.N.putAll (Go.Proofs.Ytfacddeaobogjaa.N.mkE (Go.Proofs.Ytfacddeaobogjaa.N.mkN k) l)) (↑a : Int))) = Bool.false → (∃ (a_4 : Nat × Nat), (n = n ∧ Go.Proofs.Ytfacddeaobogjaa.N.gDat (Go.Proofs.Ytfacddeaobogjaa.N.mkN k) (Go.Proofs.Ytfacddeaobogjaa.N.mkE (Go.Proofs.Ytfacddeaobogjaa.N.mkN k) l) = Go.Proofs.Ytfacddeaobogjaa.N.gDat (Go.Proofs.Ytfacddeaobogjaa.N.mkN k) (Go.Proofs.Ytfacddeaobogjaa.N.mkE (Go.Proofs.Ytfacddeaobogjaa.N.mkN k) l) ∧ (↑a : Int) = (↑(Prod.fst a_4) : Int) ∧ Go.Proofs.Ytfacddeaobogjaa.N.refA (Go.Proofs.Ytfacddeaobogjaa.N.putAll (Go.Proofs.Ytfacddeaobogjaa.N.mkE (Go.Proofs.Ytfacddeaobogjaa.N.mkN k) l)) (↑a : Int) = Go.Proofs.Ytfacddeaobogjaa.N.refA (Go.Proofs.Ytfacddeaobogjaa.N.putAll (Go.Proofs.Ytfacddeaobogjaa.N.mkE (Go.Proofs.Ytfacddeaobogjaa.N.mkN k) l)) (↑(Prod.fst a_4) : Int) ∧ (0 : Int) = (↑(Prod.snd a_4) : Int) ∧ Go.Proofs.Ytfacddeaobogjaa.N.mkN k = Go.Proofs.Ytfacddeaobogjaa.N.mkN k ∧ Go.Proofs.Ytfacddeaobogjaa.N.putAll (Go.Proofs.Ytfacddeaobogjaa.N.mkE (Go.Proofs.Ytfacddeaobogjaa.N.mkN k) l) = Go.Proofs.Ytfacddeaobogjaa.N.putAll (Go.Proofs.Ytfacddeaobogjaa.N.mkE (Go.Proofs.Ytfacddeaobogjaa.N.mkN k) l)) ∧ ((↑(Prod.fst a_4) : Int) < Go.Proofs.Ytfacddeaobogjaa.N.mkN k ∧ (↑(Prod.snd a_4) : Int) ≤ Go.Proofs.Ytfacddeaobogjaa.N.mkN k) ∧ (↑(Prod.fst a_4) : Int) = (↑a : Int) ∧ True) ∧ ∀ (a_4 : Nat × Nat), ((↑(Prod.fst a_4) : Int) < Go.Proofs.Ytfacddeaobogjaa.N.mkN k ∧ (↑(Prod.snd a_4) : Int) ≤ Go.Proofs.Ytfacddeaobogjaa.N.mkN k) ∧ (↑(Prod.fst a_4) : Int) = (↑a : Int) ∧ True → (Decidable.decide ((↑(Prod.snd a_4) : Int) < Go.Proofs.Ytfacddeaobogjaa.N.mkN k) = Bool.true → (∃ (a : Nat × Nat × Nat), (n = n ∧ Go.Proofs.Ytfacddeaobogjaa.N.gDat (Go.Proofs.Ytfacddeaobogjaa.N.mkN k) (Go.Proofs.Ytfacddeaobogjaa.N.mkE (Go.Proofs.Ytfacddeaobogjaa.N.mkN k) l) = Go.Proofs.Ytfacddeaobogjaa.N.gDat (Go.Proofs.Ytfacddeaobogjaa.N.mkN k) (Go.Proofs.Ytfacddeaobogjaa.N.mkE (Go.Proofs.Ytfacddeaobogjaa.N.mkN k) l) ∧ (↑(Prod.fst a_4) : Int) = (↑(Prod.fst a) : Int) ∧ Go.Proofs.Ytfacddeaobogjaa.N.refA (Go.Proofs.Ytfacddeaobogjaa.N.putAll (Go.Proofs.Ytfacddeaobogjaa.N.mkE (Go.Proofs.Ytfacddeaobogjaa.N.mkN k) l)) (↑(Prod.fst a_4) : Int) = Go.Proofs.Ytfacddeaobogjaa.N.refA (Go.Proofs.Ytfacddeaobogjaa.N.putAll (Go.Proofs.Ytfacddeaobogjaa.N.mkE (Go.Proofs.Ytfacddeaobogjaa.N.mkN k) l)) (↑(Prod.fst a) : Int) ∧ (↑(Prod.snd a_4) : Int) = (↑(Prod.fst (Prod.snd a)) : Int) ∧ Bool.false = Go.Proofs.Ytfacddeaobogjaa.N.anyTo (Go.Proofs.Ytfacddeaobogjaa.N.refA (Go.Proofs.Ytfacddeaobogjaa.N.putAll (Go.Proofs.Ytfacddeaobogjaa.N.mkE (Go.Proofs.Ytfacddeaobogjaa.N.mkN k) l)) (↑(Prod.fst a) : Int)) (↑(Prod.fst (Prod.snd a)) : Int) (Prod.snd (Prod.snd a)) ∧ (0 : Int) = (↑(Prod.snd (Prod.snd a)) : Int) ∧ Go.Proofs.Ytfacddeaobogjaa.N.mkN k = Go.Proofs.Ytfacddeaobogjaa.N.mkN k ∧ Go.Proofs.Ytfacddeaobogjaa.N.putAll (Go.Proofs.Ytfacddeaobogjaa.N.mkE (Go.Proofs.Ytfacddeaobogjaa.N.mkN k) l) = Go.Proofs.Ytfacddeaobogjaa.N.putAll (Go.Proofs.Ytfacddeaobogjaa.N.mkE (Go.Proofs.Ytfacddeaobogjaa.N.mkN k) l)) ∧ ((↑(Prod.fst a) : Int) < Go.Proofs.Ytfacddeaobogjaa.N.mkN k ∧ (↑(Prod.fst (Prod.snd a)) : Int) < Go.Proofs.Ytfacddeaobogjaa.N.mkN k ∧ Prod.snd (Prod.snd a) ≤ List.length (Go.Proofs.Ytfacddeaobogjaa.N.refA (Go.Proofs.Ytfacddeaobogjaa.N.putAll (Go.Proofs.Ytfacddeaobogjaa.N.mkE (Go.Proofs.Ytfacddeaobogjaa.N.mkN k) l)) (↑(Prod.fst a) : Int))) ∧ (↑(Prod.fst a) : Int) = (↑(Prod.fst a_4) : Int) ∧ (↑(Prod.fst (Prod.snd a)) : Int) = (↑(Prod.snd a_4) : Int) ∧ True) ∧ ∀ (a_7 : Nat × Nat × Nat), ((↑(Prod.fst a_7) : Int) < Go.Proofs.Ytfacddeaobogjaa.N.mkN k ∧ (↑(Prod.fst (Prod.snd a_7)) : Int) < Go.Proofs.Ytfacddeaobogjaa.N.mkN k ∧ Prod.snd (Prod.snd a_7) ≤ List.length (Go.Proofs.Ytfacddeaobogjaa.N.refA (Go.Proofs.Ytfacddeaobogjaa.N.putAll (Go.Proofs.Ytfacddeaobogjaa.N.mkE (Go.Proofs.Ytfacddeaobogjaa.N.mkN k) l)) (↑(Prod.fst a_7) : Int))) ∧ (↑(Prod.fst a_7) : Int) = (↑(Prod.fst a_4) : Int) ∧ (↑(Prod.fst (Prod.snd a_7)) : Int) = (↑(Prod.snd a_4) : Int) ∧ True → (Decidable.decide ((↑(Prod.snd (Prod.snd a_7)) : Int) < (↑(List.length (Go.Proofs.Ytfacddeaobogjaa.N.refA (Go.Proofs.Ytfacddeaobogjaa.N.putAll (Go.Proofs.Ytfacddeaobogjaa.N.mkE (Go.Proofs.Ytfacddeaobogjaa.N.mkN k) l)) (↑(Prod.fst a_7) : Int))) : Int)) = Bool.true → ((Go.Proofs.Ytfacddeaobogjaa.N.anyTo (Go.Proofs.Ytfacddeaobogjaa.N.refA (Go.Proofs.Ytfacddeaobogjaa.N.putAll (Go.Proofs.Ytfacddeaobogjaa.N.mkE (Go.Proofs.Ytfacddeaobogjaa.N.mkN k) l)) (↑(Prod.fst a_7) : Int)) (↑(Prod.fst (Prod.snd a_7)) : Int) (Prod.snd (Prod.snd a_7)) = Bool.true → True) ∧ (Go.Proofs.Ytfacddeaobogjaa.N.anyTo (Go.Proofs.Ytfacddeaobogjaa.N.refA (Go.Proofs.Ytfacddeaobogjaa.N.putAll (Go.Proofs.Ytfacddeaobogjaa.N.mkE (Go.Proofs.Ytfacddeaobogjaa.N.mkN k) l)) (↑(Prod.fst a_7) : Int)) (↑(Prod.fst (Prod.snd a_7)) : Int) (Prod.snd (Prod.snd a_7)) = Bool.false → ((0 : Int) ≤ (↑(Prod.snd (Prod.snd a_7)) : Int) ∧ (↑(Prod.snd (Prod.snd a_7)) : Int) < (↑(List.length (Go.Proofs.Ytfacddeaobogjaa.N.refA (Go.Proofs.Ytfacddeaobogjaa.N.putAll (Go.Proofs.Ytfacddeaobogjaa.N.mkE (Go.Proofs.Ytfacddeaobogjaa.N.mkN k) l)) (↑(Prod.fst a_7) : Int))) : Int)) ∧ True)) ∧ Go.DF.okI64 ((↑(Prod.snd (Prod.snd a_7)) : Int) + (1 : Int)) ∧ ∃ (a' : Nat × Nat × Nat), (n = n ∧ Go.Proofs.Ytfacddeaobogjaa.N.gDat (Go.Proofs.Ytfacddeaobogjaa.N.mkN k) (Go.Proofs.Ytfacddeaobogjaa.N.mkE (Go.Proofs.Ytfacddeaobogjaa.N.mkN k) l) = Go.Proofs.Ytfacddeaobogjaa.N.gDat (Go.Proofs.Ytfacddeaobogjaa.N.mkN k) (Go.Proofs.Ytfacddeaobogjaa.N.mkE (Go.Proofs.Ytfacddeaobogjaa.N.mkN k) l) ∧ (↑(Prod.fst a_7) : Int) = (↑(Prod.fst a') : Int) ∧ Go.Proofs.Ytfacddeaobogjaa.N.refA (Go.Proofs.Ytfacddeaobogjaa.N.putAll (Go.Proofs.Ytfacddeaobogjaa.N.mkE (Go.Proofs.Ytfacddeaobogjaa.N.mkN k) l)) (↑(Prod.fst a_7) : Int) = Go.Proofs.Ytfacddeaobogjaa.N.refA (Go.Proofs.Ytfacddeaobogjaa.N.putAll (Go.Proofs.Ytfacddeaobogjaa.N.mkE (Go.Proofs.Ytfacddeaobogjaa.N.mkN k) l)) (↑(Prod.fst a') : Int) ∧ (↑(Prod.fst (Prod.snd a_7)) : Int) = (↑(Prod.fst (Prod.snd a')) : Int) ∧ (Go.Proofs.Ytfacddeaobogjaa.N.anyTo (Go.Proofs.Ytfacddeaobogjaa.N.refA (Go.Proofs.Ytfacddeaobogjaa.N.putAll (Go.Proofs.Ytfacddeaobogjaa.N.mkE (Go.Proofs.Ytfacddeaobogjaa.N.mkN k) l)) (↑(Prod.fst a_7) : Int)) (↑(Prod.fst (Prod.snd a_7)) : Int) (Prod.snd (Prod.snd a_7)) || List.getD (Go.Proofs.Ytfacddeaobogjaa.N.refA (Go.Proofs.Ytfacddeaobogjaa.N.putAll (Go.Proofs.Ytfacddeaobogjaa.N.mkE (Go.Proofs.Ytfacddeaobogjaa.N.mkN k) l)) (↑(Prod.fst a_7) : Int)) (Int.toNat (↑(Prod.snd (Prod.snd a_7)) : Int)) (0 : Int) == (↑(Prod.fst (Prod.snd a_7)) : Int)) = Go.Proofs.Ytfacddeaobogjaa.N.anyTo (Go.Proofs.Ytfacddeaobogjaa.N.refA (Go.Proofs.Ytfacddeaobogjaa.N.putAll (Go.Proofs.Ytfacddeaobogjaa.N.mkE (Go.Proofs.Ytfacddeaobogjaa.N.mkN k) l)) (↑(Prod.fst a') : Int)) (↑(Prod.fst (Prod.snd a')) : Int) (Prod.snd (Prod.snd a')) ∧ (↑(Prod.snd (Prod.snd a_7)) : Int) + (1 : Int) = (↑(Prod.snd (Prod.snd a')) : Int) ∧ Go.Proofs.Ytfacddeaobogjaa.N.mkN k = Go.Proofs.Ytfacddeaobogjaa.N.mkN k ∧ Go.Proofs.Ytfacddeaobogjaa.N.putAll (Go.Proofs.Ytfacddeaobogjaa.N.mkE (Go.Proofs.Ytfacddeaobogjaa.N.mkN k) l) = Go.Proofs.Ytfacddeaobogjaa.N.putAll (Go.Proofs.Ytfacddeaobogjaa.N.mkE (Go.Proofs.Ytfacddeaobogjaa.N.mkN k) l)) ∧ (((↑(Prod.fst a') : Int) < Go.Proofs.Ytfacddeaobogjaa.N.mkN k ∧ (↑(Prod.fst (Prod.snd a')) : Int) < Go.Proofs.Ytfacddeaobogjaa.N.mkN k ∧ Prod.snd (Prod.snd a') ≤ List.length (Go.Proofs.Ytfacddeaobogjaa.N.refA (Go.Proofs.Ytfacddeaobogjaa.N.putAll (Go.Proofs.Ytfacddeaobogjaa.N.mkE (Go.Proofs.Ytfacddeaobogjaa.N.mkN k) l)) (↑(Prod.fst a') : Int))) ∧ (↑(Prod.fst a') : Int) = (↑(Prod.fst a_4) : Int) ∧ (↑(Prod.fst (Prod.snd a')) : Int) = (↑(Prod.snd a_4) : Int) ∧ True) ∧ List.length (Go.Proofs.Ytfacddeaobogjaa.N.refA (Go.Proofs.Ytfacddeaobogjaa.N.putAll (Go.Proofs.Ytfacddeaobogjaa.N.mkE (Go.Proofs.Ytfacddeaobogjaa.N.mkN k) l)) (↑(Prod.fst a') : Int)) - Prod.snd (Prod.snd a') < List.length (Go.Proofs.Ytfacddeaobogjaa.N.refA (Go.Proofs.Ytfacddeaobogjaa.N.putAll (Go.Proofs.Ytfacddeaobogjaa.N.mkE (Go.Proofs.Ytfacddeaobogjaa.N.mkN k) l)) (↑(Prod.fst a_7) : Int)) - Prod.snd (Prod.snd a_7)) ∧ (Decidable.decide ((↑(Prod.snd (Prod.snd a_7)) : Int) < (↑(List.length (Go.Proofs.Ytfacddeaobogjaa.N.refA (Go.Proofs.Ytfacddeaobogjaa.N.putAll (Go.Proofs.Ytfacddeaobogjaa.N.mkE (Go.Proofs.Ytfacddeaobogjaa.N.mkN k) l)) (↑(Prod.fst a_7) : Int))) : Int)) = Bool.false → Go.Proofs.Ytfacddeaobogjaa.N.okH (Go.Proofs.Ytfacddeaobogjaa.N.gDat (Go.Proofs.Ytfacddeaobogjaa.N.mkN k) (Go.Proofs.Ytfacddeaobogjaa.N.mkE (Go.Proofs.Ytfacddeaobogjaa.N.mkN k) l)) ∧ ((!Go.Proofs.Ytfacddeaobogjaa.N.hasG (Go.Proofs.Ytfacddeaobogjaa.N.gDat (Go.Proofs.Ytfacddeaobogjaa.N.mkN k) (Go.Proofs.Ytfacddeaobogjaa.N.mkE (Go.Proofs.Ytfacddeaobogjaa.N.mkN k) l)) (↑(Prod.fst a_7) : Int) (↑(Prod.fst (Prod.snd a_7)) : Int) == Go.Proofs.Ytfacddeaobogjaa.N.anyTo (Go.Proofs.Ytfacddeaobogjaa.N.refA (Go.Proofs.Ytfacddeaobogjaa.N.putAll (Go.Proofs.Ytfacddeaobogjaa.N.mkE (Go.Proofs.Ytfacddeaobogjaa.N.mkN k) l)) (↑(Prod.fst a_7) : Int)) (↑(Prod.fst (Prod.snd a_7)) : Int) (Prod.snd (Prod.snd a_7))) = Bool.true → Bool.false = Bool.true ∧ True) ∧ ((!Go.Proofs.Ytfacddeaobogjaa.N.hasG (Go.Proofs.Ytfacddeaobogjaa.N.gDat (Go.Proofs.Ytfacddeaobogjaa.N.mkN k) (Go.Proofs.Ytfacddeaobogjaa.N.mkE (Go.Proofs.Ytfacddeaobogjaa.N.mkN k) l)) (↑(Prod.fst a_7) : Int) (↑(Prod.fst (Prod.snd a_7)) : Int) == Go.Proofs.Ytfacddeaobogjaa.N.anyTo (Go.Proofs.Ytfacddeaobogjaa.N.refA (Go.Proofs.Ytfacddeaobogjaa.N.putAll (Go.Proofs.Ytfacddeaobogjaa.N.mkE (Go.Proofs.Ytfacddeaobogjaa.N.mkN k) l)) (↑(Prod.fst a_7) : Int)) (↑(Prod.fst (Prod.snd a_7)) : Int) (Prod.snd (Prod.snd a_7))) = Bool.false → Go.DF.okI64 ((↑(Prod.fst (Prod.snd a_7)) : Int) + (1 : Int)) ∧ ∃ (a' : Nat × Nat), (n = n ∧ Go.Proofs.Ytfacddeaobogjaa.N.gDat (Go.Proofs.Ytfacddeaobogjaa.N.mkN k) (Go.Proofs.Ytfacddeaobogjaa.N.mkE (Go.Proofs.Ytfacddeaobogjaa.N.mkN k) l) = Go.Proofs.Ytfacddeaobogjaa.N.gDat (Go.Proofs.Ytfacddeaobogjaa.N.mkN k) (Go.Proofs.Ytfacddeaobogjaa.N.mkE (Go.Proofs.Ytfacddeaobogjaa.N.mkN k) l) ∧ (↑(Prod.fst a_7) : Int) = (↑(Prod.fst a') : Int) ∧ Go.Proofs.Ytfacddeaobogjaa.N.refA (Go.Proofs.Ytfacddeaobogjaa.N.putAll (Go.Proofs.Ytfacddeaobogjaa.N.mkE (Go.Proofs.Ytfacddeaobogjaa.N.mkN k) l)) (↑(Prod.fst a_7) : Int) = Go.Proofs.Ytfacddeaobogjaa.N.refA (Go.Proofs.Ytfacddeaobogjaa.N.putAll (Go.Proofs.Ytfacddeaobogjaa.N.mkE (Go.Proofs.Ytfacddeaobogjaa.N.mkN k) l)) (↑(Prod.fst a') : Int) ∧ (↑(Prod.fst (Prod.snd a_7)) : Int) + (1 : Int) = (↑(Prod.snd a') : Int) ∧ Go.Proofs.Ytfacddeaobogjaa.N.mkN k = Go.Proofs.Ytfacddeaobogjaa.N.mkN k ∧ Go.Proofs.Ytfacddeaobogjaa.N.putAll (Go.Proofs.Ytfacddeaobogjaa.N.mkE (Go.Proofs.Ytfacddeaobogjaa.N.mkN k) l) = Go.Proofs.Ytfacddeaobogjaa.N.putAll (Go.Proofs.Ytfacddeaobogjaa.N.mkE (Go.Proofs.Ytfacddeaobogjaa.N.mkN k) l)) ∧ (((↑(Prod.fst a') : Int) < Go.Proofs.Ytfacddeaobogjaa.N.mkN k ∧ (↑(Prod.snd a') : Int) ≤ Go.Proofs.Ytfacddeaobogjaa.N.mkN k) ∧ (↑(Prod.fst a') : Int) = (↑a : Int) ∧ True) ∧ Int.toNat (Go.Proofs.Ytfacddeaobogjaa.N.mkN k) - Prod.snd a' < Int.toNat (Go.Proofs.Ytfacddeaobogjaa.N.mkN k) - Prod.snd a_4))) ∧ (Decidable.decide ((↑(Prod.snd a_4) : Int) < Go.Proofs.Ytfacddeaobogjaa.N.mkN k) = Bool.false → Go.DF.okI64 ((↑(Prod.fst a_4) : Int) + (1 : Int)) ∧ ∃ (a' : Nat), (n = n ∧ Go.Proofs.Ytfacddeaobogjaa.N.gDat (Go.Proofs.Ytfacddeaobogjaa.N.mkN k) (Go.Proofs.Ytfacddeaobogjaa.N.mkE (Go.Proofs.Ytfacddeaobogjaa.N.mkN k) l) = Go.Proofs.Ytfacddeaobogjaa.N.gDat (Go.Proofs.Ytfacddeaobogjaa.N.mkN k) (Go.Proofs.Ytfacddeaobogjaa.N.mkE (Go.Proofs.Ytfacddeaobogjaa.N.mkN k) l) ∧ (↑(Prod.fst a_4) : Int) + (1 : Int) = (↑a' : Int) ∧ Go.Proofs.Ytfacddeaobogjaa.N.mkN k = Go.Proofs.Ytfacddeaobogjaa.N.mkN k ∧ Go.Proofs.Ytfacddeaobogjaa.N.putAll (Go.Proofs.Ytfacddeaobogjaa.N.mkE (Go.Proofs.Ytfacddeaobogjaa.N.mkN k) l) = Go.Proofs.Ytfacddeaobogjaa.N.putAll (Go.Proofs.Ytfacddeaobogjaa.N.mkE (Go.Proofs.Ytfacddeaobogjaa.N.mkN k) l)) ∧ (↑a' : Int) ≤ Go.Proofs.Ytfacddeaobogjaa.N.mkN k ∧ Int.toNat (Go.Proofs.Ytfacddeaobogjaa.N.mkN k) - a' < Int.toNat (Go.Proofs.Ytfacddeaobogjaa.N.mkN k) - a))) ∧ (Decidable.decide ((↑a : Int) < Go.Proofs.Ytfacddeaobogjaa.N.mkN k) = Bool.false → Go.Proofs.Ytfacddeaobogjaa.N.okH (Go.Proofs.Ytfacddeaobogjaa.N.gDat (Go.Proofs.Ytfacddeaobogjaa.N.mkN k) (Go.Proofs.Ytfacddeaobogjaa.N.mkE (Go.Proofs.Ytfacddeaobogjaa.N.mkN k) l)) ∧ ((!Go.Proofs.Ytfacddeaobogjaa.N.hasG (Go.Proofs.Ytfacddeaobogjaa.N.gDat (Go.Proofs.Ytfacddeaobogjaa.N.mkN k) (Go.Proofs.Ytfacddeaobogjaa.N.mkE (Go.Proofs.Ytfacddeaobogjaa.N.mkN k) l)) n (Go.Proofs.Ytfacddeaobogjaa.N.mkN k)) = Bool.true → Go.Proofs.Ytfacddeaobogjaa.N.okH (Go.Proofs.Ytfacddeaobogjaa.N.gDat (Go.Proofs.Ytfacddeaobogjaa.N.mkN k) (Go.Proofs.Ytfacddeaobogjaa.N.mkE (Go.Proofs.Ytfacddeaobogjaa.N.mkN k) l)) ∧ ((!Go.Proofs.Ytfacddeaobogjaa.N.hasG (Go.Proofs.Ytfacddeaobogjaa.N.gDat (Go.Proofs.Ytfacddeaobogjaa.N.mkN k) (Go.Proofs.Ytfacddeaobogjaa.N.mkE (Go.Proofs.Ytfacddeaobogjaa.N.mkN k) l)) (-1 : Int) (0 : Int)) = Bool.true → ((!Option.isNone (Go.Proofs.Ytfacddeaobogjaa.N.revG (Go.Proofs.Ytfacddeaobogjaa.N.gDat (Go.Proofs.Ytfacddeaobogjaa.N.mkN k) (Go.Proofs.Ytfacddeaobogjaa.N.mkE (Go.Proofs.Ytfacddeaobogjaa.N.mkN k) l)))) = Bool.true → (Option.isNone (Go.Proofs.Ytfacddeaobogjaa.N.revG (Go.Proofs.Ytfacddeaobogjaa.N.gDat (Go.Proofs.Ytfacddeaobogjaa.N.mkN k) (Go.Proofs.Ytfacddeaobogjaa.N.mkE (Go.Proofs.Ytfacddeaobogjaa.N.mkN k) l))) = Bool.true → (((0 : Int) == Go.Proofs.Ytfacddeaobogjaa.N.mkN k) = Bool.true → Go.Proofs.Ytfacddeaobogjaa.N.okG (Go.Proofs.Ytfacddeaobogjaa.N.revG (Go.Proofs.Ytfacddeaobogjaa.N.gDat (Go.Proofs.Ytfacddeaobogjaa.N.mkN k) (Go.Proofs.Ytfacddeaobogjaa.N.mkE (Go.Proofs.Ytfacddeaobogjaa.N.mkN k) l))) ∧ List.length (Go.Proofs.Ytfacddeaobogjaa.N.putAll (Go.Proofs.Ytfacddeaobogjaa.N.mkE (Go.Proofs.Ytfacddeaobogjaa.N.mkN k) l)) ≤ (1000000 : Nat) ∧ List.length (Go.Proofs.Ytfacddeaobogjaa.N.edgesOf (Go.Proofs.Ytfacddeaobogjaa.N.revG (Go.Proofs.Ytfacddeaobogjaa.N.gDat (Go.Proofs.Ytfacddeaobogjaa.N.mkN k) (Go.Proofs.Ytfacddeaobogjaa.N.mkE (Go.Proofs.Ytfacddeaobogjaa.N.mkN k) l)))) ≤ (1000000000 : Nat) ∧ (Go.Proofs.Ytfacddeaobogjaa.N.eqE (Go.Proofs.Ytfacddeaobogjaa.N.edgesOf (Go.Proofs.Ytfacddeaobogjaa.N.revG (Go.Proofs.Ytfacddeaobogjaa.N.gDat (Go.Proofs.Ytfacddeaobogjaa.N.mkN k) (Go.Proofs.Ytfacddeaobogjaa.N.mkE (Go.Proofs.Ytfacddeaobogjaa.N.mkN k) l)))) (Go.Proofs.Ytfacddeaobogjaa.N.rE (Go.Proofs.Ytfacddeaobogjaa.N.mkN k) (List.map Go.Proofs.Ytfacddeaobogjaa.N.swp (Go.Proofs.Ytfacddeaobogjaa.N.putAll (Go.Proofs.Ytfacddeaobogjaa.N.mkE (Go.Proofs.Ytfacddeaobogjaa.N.mkN k) l)))) = Bool.true → Go.Proofs.Ytfacddeaobogjaa.N.okA (Go.Proofs.Ytfacddeaobogjaa.N.revG (Go.Proofs.Ytfacddeaobogjaa.N.revG (Go.Proofs.Ytfacddeaobogjaa.N.gDat (Go.Proofs.Ytfacddeaobogjaa.N.mkN k) (Go.Proofs.Ytfacddeaobogjaa.N.mkE (Go.Proofs.Ytfacddeaobogjaa.N.mkN k) l)))) ∧ Go.Proofs.Ytfacddeaobogjaa.N.eqG (Go.Proofs.Ytfacddeaobogjaa.N.revG (Go.Proofs.Ytfacddeaobogjaa.N.revG (Go.Proofs.Ytfacddeaobogjaa.N.gDat (Go.Proofs.Ytfacddeaobogjaa.N.mkN k) (Go.Proofs.Ytfacddeaobogjaa.N.mkE (Go.Proofs.Ytfacddeaobogjaa.N.mkN k) l)))) (Go.Proofs.Ytfacddeaobogjaa.N.gDat (Go.Proofs.Ytfacddeaobogjaa.N.mkN k) (Go.Proofs.Ytfacddeaobogjaa.N.mkE (Go.Proofs.Ytfacddeaobogjaa.N.mkN k) l)) = Bool.true ∧ True) ∧ (Go.Proofs.Ytfacddeaobogjaa.N.eqE (Go.Proofs.Ytfacddeaobogjaa.N.edgesOf (Go.Proofs.Ytfacddeaobogjaa.N.revG (Go.Proofs.Ytfacddeaobogjaa.N.gDat (Go.Proofs.Ytfacddeaobogjaa.N.mkN k) (Go.Proofs.Ytfacddeaobogjaa.N.mkE (Go.Proofs.Ytfacddeaobogjaa.N.mkN k) l)))) (Go.Proofs.Ytfacddeaobogjaa.N.rE (Go.Proofs.Ytfacddeaobogjaa.N.mkN k) (List.map Go.Proofs.Ytfacddeaobogjaa.N.swp (Go.Proofs.Ytfacddeaobogjaa.N.putAll (Go.Proofs.Ytfacddeaobogjaa.N.mkE (Go.Proofs.Ytfacddeaobogjaa.N.mkN k) l)))) = Bool.false → Bool.false = Bool.true ∧ True)) ∧ (((0 : Int) == Go.Proofs.Ytfacddeaobogjaa.N.mkN k) = Bool.false → Bool.false = Bool.true ∧ True)) ∧ (Option.isNone (Go.Proofs.Ytfacddeaobogjaa.N.revG (Go.Proofs.Ytfacddeaobogjaa.N.gDat (Go.Proofs.Ytfacddeaobogjaa.N.mkN k) (Go.Proofs.Ytfacddeaobogjaa.N.mkE (Go.Proofs.Ytfacddeaobogjaa.N.mkN k) l))) = Bool.false → Option.isSome (Go.Proofs.Ytfacddeaobogjaa.N.revG (Go.Proofs.Ytfacddeaobogjaa.N.gDat (Go.Proofs.Ytfacddeaobogjaa.N.mkN k) (Go.Proofs.Ytfacddeaobogjaa.N.mkE (Go.Proofs.Ytfacddeaobogjaa.N.mkN k) l))) = Bool.true ∧ (((↑(List.length (Prod.fst (Option.getD (Go.Proofs.Ytfacddeaobogjaa.N.revG (Go.Proofs.Ytfacddeaobogjaa.N.gDat (Go.Proofs.Ytfacddeaobogjaa.N.mkN k) (Go.Proofs.Ytfacddeaobogjaa.N.mkE (Go.Proofs.Ytfacddeaobogjaa.N.mkN k) l))) ([], [])))) : Int) == Go.Proofs.Ytfacddeaobogjaa.N.mkN k) = Bool.true → Go.Proofs.Ytfacddeaobogjaa.N.okG (Go.Proofs.Ytfacddeaobogjaa.N.revG (Go.Proofs.Ytfacddeaobogjaa.N.gDat (Go.Proofs.Ytfacddeaobogjaa.N.mkN k) (Go.Proofs.Ytfacddeaobogjaa.N.mkE (Go.Proofs.Ytfacddeaobogjaa.N.mkN k) l))) ∧ List.length (Go.Proofs.Ytfacddeaobogjaa.N.putAll (Go.Proofs.Ytfacddeaobogjaa.N.mkE (Go.Proofs.Ytfacddeaobogjaa.N.mkN k) l)) ≤ (1000000 : Nat) ∧ List.length (Go.Proofs.Ytfacddeaobogjaa.N.edgesOf (Go.Proofs.Ytfacddeaobogjaa.N.revG (Go.Proofs.Ytfacddeaobogjaa.N.gDat (Go.Proofs.Ytfacddeaobogjaa.N.mkN k) (Go.Proofs.Ytfacddeaobogjaa.N.mkE (Go.Proofs.Ytfacddeaobogjaa.N.mkN k) l)))) ≤ (1000000000 : Nat) ∧ (Go.Proofs.Ytfacddeaobogjaa.N.eqE (Go.Proofs.Ytfacddeaobogjaa.N.edgesOf (Go.Proofs.Ytfacddeaobogjaa.N.revG (Go.Proofs.Ytfacddeaobogjaa.N.gDat (Go.Proofs.Ytfacddeaobogjaa.N.mkN k) (Go.Proofs.Ytfacddeaobogjaa.N.mkE (Go.Proofs.Ytfacddeaobogjaa.N.mkN k) l)))) (Go.Proofs.Ytfacddeaobogjaa.N.rE (Go.Proofs.Ytfacddeaobogjaa.N.mkN k) (List.map Go.Proofs.Ytfacddeaobogjaa.N.swp (Go.Proofs.Ytfacddeaobogjaa.N.putAll (Go.Proofs.Ytfacddeaobogjaa.N.mkE (Go.Proofs.Ytfacddeaobogjaa.N.mkN k) l)))) = Bool.true → Go.Proofs.Ytfacddeaobogjaa.N.okA (Go.Proofs.Ytfacddeaobogjaa.N.revG (Go.Proofs.Ytfacddeaobogjaa.N.revG (Go.Proofs.Ytfacddeaobogjaa.N.gDat (Go.Proofs.Ytfacddeaobogjaa.N.mkN k) (Go.Proofs.Ytfacddeaobogjaa.N.mkE (Go.Proofs.Ytfacddeaobogjaa.N.mkN k) l)))) ∧ Go.Proofs.Ytfacddeaobogjaa.N.eqG (Go.Proofs.Ytfacddeaobogjaa.N.revG (Go.Proofs.Ytfacddeaobogjaa.N.revG (Go.Proofs.Ytfacddeaobogjaa.N.gDat (Go.Proofs.Ytfacddeaobogjaa.N.mkN k) (Go.Proofs.Ytfacddeaobogjaa.N.mkE (Go.Proofs.Ytfacddeaobogjaa.N.mkN k) l)))) (Go.Proofs.Ytfacddeaobogjaa.N.gDat (Go.Proofs.Ytfacddeaobogjaa.N.mkN k) (Go.Proofs.Ytfacddeaobogjaa.N.mkE (Go.Proofs.Ytfacddeaobogjaa.N.mkN k) l)) = Bool.true ∧ True) ∧ (Go.Proofs.Ytfacddeaobogjaa.N.eqE (Go.Proofs.Ytfacddeaobogjaa.N.edgesOf (Go.Proofs.Ytfacddeaobogjaa.N.revG (Go.Proofs.Ytfacddeaobogjaa.N.gDat (Go.Proofs.Ytfacddeaobogjaa.N.mkN k) (Go.Proofs.Ytfacddeaobogjaa.N.mkE (Go.Proofs.Ytfacddeaobogjaa.N.mkN k) l)))) (Go.Proofs.Ytfacddeaobogjaa.N.rE (Go.Proofs.Ytfacddeaobogjaa.N.mkN k) (List.map Go.Proofs.Ytfacddeaobogjaa.N.swp (Go.Proofs.Ytfacddeaobogjaa.N.putAll (Go.Proofs.Ytfacddeaobogjaa.N.mkE (Go.Proofs.Ytfacddeaobogjaa.N.mkN k) l)))) = Bool.false → Bool.false = Bool.true ∧ True)) ∧ (((↑(List.length (Prod.fst (Option.getD (Go.Proofs.Ytfacddeaobogjaa.N.revG (Go.Proofs.Ytfacddeaobogjaa.N.gDat (Go.Proofs.Ytfacddeaobogjaa.N.mkN k) (Go.Proofs.Ytfacddeaobogjaa.N.mkE (Go.Proofs.Ytfacddeaobogjaa.N.mkN k) l))) ([], [])))) : Int) == Go.Proofs.Ytfacddeaobogjaa.N.mkN k) = Bool.false → Bool.false = Bool.true ∧ True))) ∧ ((!Option.isNone (Go.Proofs.Ytfacddeaobogjaa.N.revG (Go.Proofs.Ytfacddeaobogjaa.N.gDat (Go.Proofs.Ytfacddeaobogjaa.N.mkN k) (Go.Proofs.Ytfacddeaobogjaa.N.mkE (Go.Proofs.Ytfacddeaobogjaa.N.mkN k) l)))) = Bool.false → Bool.false = Bool.true ∧ True)) ∧ ((!Go.Proofs.Ytfacddeaobogjaa.N.hasG (Go.Proofs.Ytfacddeaobogjaa.N.gDat (Go.Proofs.Ytfacddeaobogjaa.N.mkN k) (Go.Proofs.Ytfacddeaobogjaa.N.mkE (Go.Proofs.Ytfacddeaobogjaa.N.mkN k) l)) (-1 : Int) (0 : Int)) = Bool.false → Bool.false = Bool.true ∧ True)) ∧ ((!Go.Proofs.Ytfacddeaobogjaa.N.hasG (Go.Proofs.Ytfacddeaobogjaa.N.gDat (Go.Proofs.Ytfacddeaobogjaa.N.mkN k) (Go.Proofs.Ytfacddeaobogjaa.N.mkE (Go.Proofs.Ytfacddeaobogjaa.N.mkN k) l)) n (Go.Proofs.Ytfacddeaobogjaa.N.mkN k)) = Bool.false → Bool.false = Bool.true ∧ True)))) _ (by kernel_rfl)
  have hmax : maxLen = 9223372036854775807 := rfl
  have hNN := mkN_le k hk
  have h0 := mk_err k l hk
  have hml : (mkE (mkN k) l).length ≤ 120 := by unfold mkE; rw [List.length_map, List.length_take]; omega
  generalize mkE (mkN k) l = es at h0 hml ⊢
  generalize mkN k = N at hNN h0 ⊢
  have e : gDat N es = some (gA N es, gB N es) := by unfold gDat; rw [if_pos h0]
  rw [e]
  obtain ⟨oA, oB⟩ := okA_G h0
  have hA := okR_gA h0
  have hB := okR_gB h0
  have hW := putAll_le es
  have fa : ∀ i, afterG (some (gA N es, gB N es)) i = refA (putAll es) i := fun i => after_eq h0 i
  have fb : ∀ i, beforeG (some (gA N es, gB N es)) i = refB (putAll es) i := fun i => before_eq h0 i
  have fh := has_eq h0
  have fe := rev_edges h0
  have fs := swp_err h0
  have la := refA_le (putAll es)
  have lb := refB_le (putAll es)
  have lA := gA_len N es
  have lB := gB_len N es
  have hR : rE N (List.map swp (putAll es)) = putAll (List.map swp (putAll es)) := by unfold rE; rw [if_pos fs]
  have hno : ∀ a b, (b < 0 ∨ N ≤ b) ∨ a < 0 → hasG (some (gA N es, gB N es)) a b = false := fun a b hab => by
    rw [fh]
    unfold isIn
    rw [decide_eq_false_iff_not, refA_mem, (putAll_rise h0).2]
    intro hm
    have := (gErr_zero h0).2.2.2 _ hm
    simp only at this; omega
  have hr1 : revG (some (gA N es, gB N es)) = some (gB N es, gA N es) := rfl
  have hr2 : revG (some (gB N es, gA N es)) = some (gA N es, gB N es) := rfl
  have he1 : edgesOf (some (gB N es, gA N es)) = putAll (List.map swp (putAll es)) := fe
  have hle : (putAll (List.map swp (putAll es))).length ≤ 1000 := by have := putAll_le (List.map swp (putAll es)); rw [List.length_map] at this; omega
  have heq : eqG (some (gA N es, gB N es)) (some (gA N es, gB N es)) = true := decide_eq_true rfl
  simp only [fa, fb, eqL_true rfl, Bool.not_true, Option.isNone_some, Bool.or_false]
  have tr : (false = true → True) ∧ (True → okA (some (gA N es, gB N es)) ∧ List.length (putAll es) ≤ 1000000 ∧ (refB (putAll es) n).length ≤ 1000000000 ∧ True) := ⟨fun _ => trivial, fun _ => ⟨oA, by omega, by have := lb n; omega, trivial⟩⟩
  refine ⟨hk, ⟨fun _ => trivial, fun _ => ⟨oA, by omega, by have := la n; omega, tr⟩⟩, fun h => absurd h (by simp), fun _ => ⟨⟨0, ⟨trivial, trivial, rfl, trivial, trivial⟩, by omega⟩, fun a ha => ⟨fun hlt => ?_, fun hge => ?_⟩⟩⟩
  · have hlt := of_decide_eq_true hlt
    refine ⟨by omega, ⟨oA, by have := la a; omega, fun _ => trivial, fun _ => ⟨oA, by omega, by have := lb a; omega, trivial⟩⟩, fun h => absurd h (by simp), fun _ => ⟨⟨(a, 0), ⟨trivial, trivial, rfl, rfl, rfl, trivial, trivial⟩, ⟨hlt, by simp only; omega⟩, rfl, trivial⟩, ?_⟩⟩
    rintro ⟨a1, b⟩ ⟨⟨p1, p2⟩, ha1, _⟩
    have ha1 : a1 = a := by simp only at ha1; omega
    subst ha1
    simp only at p1 p2 ⊢
    refine ⟨fun hb => ⟨⟨(a1, b, 0), ⟨trivial, trivial, rfl, rfl, rfl, rfl, rfl, trivial, trivial⟩, ⟨hlt, of_decide_eq_true hb, Nat.zero_le _⟩, rfl, rfl, trivial⟩, ?_⟩, fun hb => ⟨by unfold okI64; omega, a1 + 1, ⟨trivial, trivial, by omega, trivial, trivial⟩, by omega, by omega⟩⟩
    have hb := of_decide_eq_true hb
    rintro ⟨a2, b2, i⟩ ⟨⟨q1, q2, q3⟩, e1, e2, _⟩
    have e1 : a2 = a1 := by simp only at e1; omega
    have e2 : b2 = b := by simp only at e2; omega
    subst e1 e2
    simp only at q1 q2 q3 ⊢
    have hla := la a2
    have ei : Int.toNat (i : Int) = i := by omega
    refine ⟨fun hi => ?_, fun hi => ?_⟩
    · have hi : i < (refA (putAll es) a2).length := by have := of_decide_eq_true hi; omega
      rw [ei]
      exact ⟨⟨fun _ => trivial, fun _ => ⟨⟨by omega, by omega⟩, trivial⟩⟩, by unfold okI64; omega, (a2, b2, i + 1), ⟨trivial, trivial, rfl, rfl, rfl, anyTo_succ _ _ _ hi, by simp, trivial, trivial⟩, ⟨⟨q1, q2, by simp only; omega⟩, rfl, rfl, trivial⟩, by simp only; omega⟩
    · have hi : i = (refA (putAll es) a2).length := by have := of_decide_eq_false hi; omega
      rw [hi, anyTo_all, fh]
      refine ⟨hA, fun h => absurd h (by simp), fun _ => ⟨by unfold okI64; omega, (a2, b2 + 1), ⟨trivial, trivial, rfl, rfl, by simp, trivial, trivial⟩, ⟨⟨hlt, by simp only; omega⟩, rfl, trivial⟩, by simp only; omega⟩⟩
  · rw [hno n N (.inl (.inr (Int.le_refl _))), hno (-1) 0 (.inr (by decide)), hr1, hr2, he1, hR, heq]
    have hee : eqE (putAll (List.map swp (putAll es))) (putAll (List.map swp (putAll es))) = true := decide_eq_true rfl
    have hlen : (((List.length (Prod.fst (Option.getD (some (gB N es, gA N es)) ([], []))) : Nat) : Int) == N) = true := by
      simp only [Option.getD_some, beq_iff_eq]; omega
    refine ⟨hA, fun _ => ⟨hA, fun _ => ⟨fun _ => ⟨fun h => absurd h (by simp), fun _ => ⟨rfl, fun _ => ⟨⟨by omega, by rw [fe]; omega⟩, by omega, by omega, fun _ => ⟨oA, rfl, trivial⟩, fun h => absurd hee (by rw [h]; simp)⟩, fun h => absurd hlen (by rw [h]; simp)⟩⟩, fun h => absurd h (by simp)⟩, fun h => absurd h (by simp)⟩, fun h => absurd h (by simp)⟩
end Go.Proofs.Ytfacddeaobogjaa.N
