import Derived.Test.YtfacddeaobogjaaF12
import Derived.Test.YtfacddeaobogjaaG19
set_option linter.unusedVariables false
set_option linter.unusedSimpArgs false
set_option linter.unnecessarySimpa false
set_option linter.unusedVariables false
set_option linter.unusedSimpArgs false
/- The law on joined nodes. -/
namespace Go.Proofs.Ytfacddeaobogjaa.N
open Go.DF
set_option maxRecDepth 100000
abbrev Mp := List (Int × Bool)
def inv7a (g : Gr) (N : Int) (W : Es) (fr t : Int) (P : List Int) (b : Bool) : LInv where
  α := Nat × Mp
  S := fun x => ⟨[(7, .per gC g), (9, .int .i64 (.sym fr)), (10, .int .i64 (.sym t)), (11, .per iC P), (12, .bool (.sym b)), (13, .map 0), (14, .int .i64 (.sym x.1))], [(0, (false, .mp false (.int .i64) false .bool x.2))], 1⟩
  p := fun x => x.1 ≤ P.length ∧ ∀ v : Int, getM (CT.beq (.int .i64)) v x.2 = if v ∈ P.take x.1 then some true else none
  m := fun x => P.length - x.1
def inv7b (fr t : Int) (P : List Int) (b : Bool) (R : List Int) : LInv where
  α := Nat
  S := fun k => ⟨[(9, .int .i64 (.sym fr)), (10, .int .i64 (.sym t)), (11, .per iC P), (12, .bool (.sym b)), (15, .bool (.sym (anyTo R t k))), (16, .per iC R), (17, .int .i64 (.sym k))], [], 0⟩
  p := fun k => k ≤ R.length
  m := fun k => R.length - k
def em (x N : Int) : Int := (IntKind.i64.wrap x).tmod N
noncomputable def PP (k : Int) (l : Es) (u v : Int) : List Int := pathL (edgesOf (gDat (mkN k) (mkE (mkN k) l))) (rowsOf (gDat (mkN k) (mkE (mkN k) l))).length (em u (mkN k)) (em v (mkN k))
noncomputable def PB (k : Int) (l : Es) (u v : Int) : Bool := pathB (edgesOf (gDat (mkN k) (mkE (mkN k) l))) (rowsOf (gDat (mkN k) (mkE (mkN k) l))).length (em u (mkN k)) (em v (mkN k))
noncomputable def RR (k : Int) (l : Es) (u : Int) : List Int := idxL (rowsOf (gDat (mkN k) (mkE (mkN k) l))).length (at1 (marksG (gDat (mkN k) (mkE (mkN k) l)) [em u (mkN k)]))
abbrev eqZ : Int → Int → Bool := fun a b => a == b
theorem getM_put (k v : Int) (x : Bool) : ∀ es : Mp, getM eqZ v (putM eqZ k x es) = if v = k then some x else getM eqZ v es
  | [] => by
    show (match v == k with | true => some x | false => none) = _
    by_cases h : v = k
    · rw [beq_iff_eq.2 h, if_pos h]
    · rw [beq_eq_false_iff_ne.2 h, if_neg h]; rfl
  | (a, b) :: r => by
    have hp : putM eqZ k x ((a, b) :: r) = match k == a with | true => (k, x) :: r | false => (a, b) :: putM eqZ k x r := rfl
    have hq : getM eqZ v ((a, b) :: r) = match v == a with | true => some b | false => getM eqZ v r := rfl
    rw [hp, hq]
    by_cases h : k = a
    · rw [beq_iff_eq.2 h]
      show (match v == k with | true => some x | false => getM eqZ v r) = _
      by_cases h2 : v = k
      · rw [beq_iff_eq.2 h2, if_pos h2]
      · rw [beq_eq_false_iff_ne.2 h2, if_neg h2, beq_eq_false_iff_ne.2 (fun h3 => h2 (h3.trans h.symm))]
    · rw [beq_eq_false_iff_ne.2 h]
      show (match v == a with | true => some b | false => getM eqZ v (putM eqZ k x r)) = _
      by_cases h2 : v = a
      · rw [beq_iff_eq.2 h2, if_neg (fun h3 => h (h3.symm.trans h2))]
      · rw [beq_eq_false_iff_ne.2 h2]
        exact getM_put k v x r
theorem Wk.rch {es : Es} {t : Int} {d : Nat} {a : Int} (h : Wk es t d a) : Rch es a t := by
  induction h with
  | zero => exact .refl
  | step he _ ih => exact Rch.trans (.step .refl he) ih
theorem Wk.snoc {es : Es} {b c : Int} (he : (b, c) ∈ es) {d : Nat} {a : Int} (h : Wk es b d a) : Wk es c (d + 1) a := by
  induction h with
  | zero => exact .step he .zero
  | step h1 _ ih => exact .step h1 ih
theorem Rch.wk {es : Es} {a t : Int} (h : Rch es a t) : ∃ d, Wk es t d a := by
  induction h with
  | refl => exact ⟨0, .zero⟩
  | step _ he ih => obtain ⟨d, hd⟩ := ih; exact ⟨d + 1, hd.snoc he⟩
theorem idxL_mem (n : Nat) (P : Nat → Bool) (x : Int) : x ∈ idxL n P ↔ ∃ i : Nat, i < n ∧ P i = true ∧ x = (i : Int) := by
  unfold idxL
  rw [List.mem_map]
  constructor
  · rintro ⟨i, hi, rfl⟩
    obtain ⟨h1, h2⟩ := List.mem_filter.1 hi
    exact ⟨i, List.mem_range.1 h1, h2, rfl⟩
  · rintro ⟨i, h1, h2, rfl⟩
    exact ⟨i, List.mem_filter.2 ⟨List.mem_range.2 h1, h2⟩, rfl⟩
theorem path_facts {W : Es} {N fr t : Int} (hN : 0 ≤ N) (hE : ∀ x ∈ W, 0 ≤ x.1 ∧ x.1 < N ∧ 0 ≤ x.2 ∧ x.2 < N) (hf : 0 ≤ fr ∧ fr < N) (ht : 0 ≤ t ∧ t < N) :
    (∀ i, 0 < i → i < (pathL W N fr t).length → ((pathL W N fr t).getD (i - 1) 0, (pathL W N fr t).getD i 0) ∈ W) ∧ (∀ i j, i < j → j < (pathL W N fr t).length → (pathL W N fr t).getD i 0 ≠ (pathL W N fr t).getD j 0) ∧
    pathB W N fr t = decide (0 < (pathL W N fr t).length) ∧ (pathB W N fr t = true → (pathL W N fr t).getD 0 0 = fr ∧ (pathL W N fr t).getD ((pathL W N fr t).length - 1) 0 = t) ∧ (pathB W N fr t = true ↔ Rch W fr t) := by
  have hE' : ∀ x ∈ W, 0 ≤ x.1 ∧ x.1 < (N.toNat : Int) ∧ 0 ≤ x.2 ∧ x.2 < (N.toNat : Int) := fun x hx => by have := hE x hx; omega
  have hF := farL_is W t N.toNat
  have hL : pathL W N fr t = bif pathB W N fr t then pathTo (farL W t N.toNat) W fr ((farL W t N.toNat).getD fr.toNat 0).toNat else [] := rfl
  have hB : pathB W N fr t = decide (0 ≤ (farL W t N.toNat).getD fr.toNat 0) := by
    unfold pathB pathOk
    rw [decide_eq_true (⟨hf.1, hf.2, ht.1, ht.2⟩ : 0 ≤ fr ∧ fr < N ∧ 0 ≤ t ∧ t < N), Bool.true_and]
  generalize farL W t N.toNat = F at hF hL hB
  have hfr := hF.2 fr.toNat (by omega)
  rw [show ((fr.toNat : Nat) : Int) = fr from by omega] at hfr
  cases hb : pathB W N fr t with
  | false =>
    rw [hb, cond_false] at hL
    rw [hL]
    refine ⟨fun i _ hi => absurd hi (by simp), fun i j _ hj => absurd hj (by simp), rfl, fun h => absurd h (by simp), fun h => absurd h (by simp), fun hr => ?_⟩
    obtain ⟨d, hd⟩ := hr.wk
    rw [hb, eq_comm, decide_eq_false_iff_not] at hB
    rcases hfr with ⟨_, q⟩ | ⟨e, q, _⟩
    · exact absurd hd (q d)
    · omega
  | true =>
    rw [hb, cond_true] at hL
    rw [hb, eq_comm, decide_eq_true_iff] at hB
    obtain ⟨D, hD⟩ : ∃ D : Nat, F.getD fr.toNat 0 = D := ⟨(F.getD fr.toNat 0).toNat, by omega⟩
    have hDt : (F.getD fr.toNat 0).toNat = D := by omega
    have nd := node_ok hF hE' (fr := fr) ⟨hf.1, by omega⟩ hD
    have nx := fun k hk => node_next hF hE' (fr := fr) ⟨hf.1, by omega⟩ hD (k := k) hk
    rw [hDt] at hL
    have hlen : (pathL W N fr t).length = D + 1 := by rw [hL, pathTo_len]
    have hget : ∀ i, i ≤ D → (pathL W N fr t).getD i 0 = nodeAt F W fr i := fun i hi => by
      rw [hL]; unfold pathTo
      rw [List.getD_eq_getElem?_getD, List.getElem?_map, List.getElem?_eq_getElem (by simpa using (by omega : i < D + 1))]
      simp
    refine ⟨fun i h0 hi => ?_, fun i j hij hj he => ?_, ?_, fun _ => ?_, fun _ => ?_, fun _ => rfl⟩
    · rw [hlen] at hi
      rw [hget i (by omega), hget (i - 1) (by omega)]
      obtain ⟨k, rfl⟩ : ∃ k, i = k + 1 := ⟨i - 1, by omega⟩
      rw [Nat.add_sub_cancel]
      obtain ⟨i1, i2⟩ := idx_next (nx k (by omega))
      have hm : (refA W (nodeAt F W fr k)).getD (idx39 (refA W (nodeAt F W fr k)) F (nodeAt F W fr k)) 0 ∈ refA W (nodeAt F W fr k) := by
        rw [List.getD_eq_getElem?_getD (l := refA W _), List.getElem?_eq_getElem i1]; exact List.getElem_mem i1
      rw [i2] at hm
      exact (refA_mem W _ _).1 hm
    · rw [hlen] at hj
      rw [hget i (by omega), hget j (by omega)] at he
      have h1 := (nd i (by omega)).2.1
      have h2 := (nd j (by omega)).2.1
      rw [he] at h1; omega
    · rw [hlen, eq_comm, decide_eq_true_iff]; omega
    · rw [hlen, hget 0 (by omega), Nat.add_sub_cancel, hget D (Nat.le_refl _)]
      refine ⟨rfl, ?_⟩
      have k3 := (nd D (Nat.le_refl _)).2.2
      rw [Nat.sub_self] at k3
      have hw := k3.1
      generalize nodeAt F W fr D = z at hw
      cases hw; rfl
    · have := (nd 0 (Nat.zero_le _)).2.2
      exact this.1.rch
set_option maxHeartbeats 8000000 in
theorem p7 (k : Int) (l : Es) (u v : Int) (hk : 0 ≤ k ∧ k < 256) (hu : 0 ≤ u ∧ u < 256) (hv : 0 ≤ v ∧ v < 256) : Pure1 Try.prog 7 [.int .u8 (.sym k), .per (.sl eC) l, .agg [.int .u8 (.sym u), .int .u8 (.sym v)]] (.bool (.sym true)) := by
  refine pure1_of_exec (ct := cx0 [c11, c12, c13, c16, c28] [] []) [(10, inv7a (gDat (mkN k) (mkE (mkN k) l)) (mkN k) (putAll (mkE (mkN k) l)) (em u (mkN k)) (em v (mkN k)) (PP k l u v) (PB k l u v)), (18, inv7b (em u (mkN k)) (em v (mkN k)) (PP k l u v) (PB k l u v) (RR k l u))] Try.func7 rfl rfl ?_
  apply @cast_goal (Go.Proofs.Ytfacddeaobogjaa.N.isU8 k ∧ (Option.isNone (Go.Proofs.Ytfacddeaobogjaa.N.gDat (Go.Proofs.Ytfacddeaobogjaa.N.mkN k) (Go.Proofs.Ytfacddeaobogjaa.N.mkE (Go.Proofs.Ytfacddeaobogjaa.N.mkN k) l)) = Bool.true → Bool.false = Bool.true ∧ True) ∧ (Option.isNone (Go.Proofs.Ytfacddeaobogjaa.N.gDat (Go.Proofs.Ytfacddeaobogjaa.N.mkN k) (Go.Proofs.Ytfacddeaobogjaa.N.mkE (Go.Proofs.Ytfacddeaobogjaa.N.mkN k) l)) = Bool.false → Go.Proofs.Ytfacddeaobogjaa.N.mkN k ≠ (0 : Int) ∧ Go.Proofs.Ytfacddeaobogjaa.N.mkN k ≠ (0 : Int) ∧ Go.Proofs.Ytfacddeaobogjaa.N.okPG (Go.Proofs.Ytfacddeaobogjaa.N.gDat (Go.Proofs.Ytfacddeaobogjaa.N.mkN k) (Go.Proofs.Ytfacddeaobogjaa.N.mkE (Go.Proofs.Ytfacddeaobogjaa.N.mkN k) l)) ∧ (∃ (a : Nat × Go.Proofs.Ytfacddeaobogjaa.N.Mp), (Go.Proofs.Ytfacddeaobogjaa.N.gDat (Go.Proofs.Ytfacddeaobogjaa.N.mkN k) (Go.Proofs.Ytfacddeaobogjaa.N.mkE (Go.Proofs.Ytfacddeaobogjaa.N.mkN k) l) = Go.Proofs.Ytfacddeaobogjaa.N.gDat (Go.Proofs.Ytfacddeaobogjaa.N.mkN k) (Go.Proofs.Ytfacddeaobogjaa.N.mkE (Go.Proofs.Ytfacddeaobogjaa.N.mkN k) l) ∧ Int.tmod (Go.IntKind.wrap Go.IntKind.i64 u) (Go.Proofs.Ytfacddeaobogjaa.N.mkN k) = Go.Proofs.Ytfacddeaobogjaa.N.em u (Go.Proofs.Ytfacddeaobogjaa.N.mkN k) ∧ Int.tmod (Go.IntKind.wrap Go.IntKind.i64 v) (Go.Proofs.Ytfacddeaobogjaa.N.mkN k) = Go.Proofs.Ytfacddeaobogjaa.N.em v (Go.Proofs.Ytfacddeaobogjaa.N.mkN k) ∧ Go.Proofs.Ytfacddeaobogjaa.N.pathL (Go.Proofs.Ytfacddeaobogjaa.N.edgesOf (Go.Proofs.Ytfacddeaobogjaa.N.gDat (Go.Proofs.Ytfacddeaobogjaa.N.mkN k) (Go.Proofs.Ytfacddeaobogjaa.N.mkE (Go.Proofs.Ytfacddeaobogjaa.N.mkN k) l))) (↑(List.length (Go.Proofs.Ytfacddeaobogjaa.N.rowsOf (Go.Proofs.Ytfacddeaobogjaa.N.gDat (Go.Proofs.Ytfacddeaobogjaa.N.mkN k) (Go.Proofs.Ytfacddeaobogjaa.N.mkE (Go.Proofs.Ytfacddeaobogjaa.N.mkN k) l)))) : Int) (Int.tmod (Go.IntKind.wrap Go.IntKind.i64 u) (Go.Proofs.Ytfacddeaobogjaa.N.mkN k)) (Int.tmod (Go.IntKind.wrap Go.IntKind.i64 v) (Go.Proofs.Ytfacddeaobogjaa.N.mkN k)) = Go.Proofs.Ytfacddeaobogjaa.N.PP k l u v ∧ Go.Proofs.Ytfacddeaobogjaa.N.pathB (Go.Proofs.Ytfacddeaobogjaa.N.edgesOf (Go.Proofs.Ytfacddeaobogjaa.N.gDat (Go.Proofs.Ytfacddeaobogjaa.N.mkN k) (Go.Proofs.Ytfacddeaobogjaa.N.mkE (Go.Proofs.Ytfacddeaobogjaa.N.mkN k) l))) (↑(List.length (Go.Proofs.Ytfacddeaobogjaa.N.rowsOf (Go.Proofs.Ytfacddeaobogjaa.N.gDat (Go.Proofs.Ytfacddeaobogjaa.N.mkN k) (Go.Proofs.Ytfacddeaobogjaa.N.mkE (Go.Proofs.Ytfacddeaobogjaa.N.mkN k) l)))) : Int) (Int.tmod (Go.IntKind.wrap Go.IntKind.i64 u) (Go.Proofs.Ytfacddeaobogjaa.N.mkN k)) (Int.tmod (Go.IntKind.wrap Go.IntKind.i64 v) (Go.Proofs.Ytfacddeaobogjaa.N.mkN k)) = Go.Proofs.Ytfacddeaobogjaa.N.PB k l u v ∧ (0 : Int) = (↑(Prod.fst a) : Int) ∧ [] = Prod.snd a) ∧ Prod.fst a ≤ List.length (Go.Proofs.Ytfacddeaobogjaa.N.PP k l u v) ∧ ∀ (v_1 : Int), Go.DF.getM (Go.DF.CT.beq (Go.DF.CT.int Go.IntKind.i64)) v_1 (Prod.snd a) = if v_1 ∈ List.take (Prod.fst a) (Go.Proofs.Ytfacddeaobogjaa.N.PP k l u v) then Option.some Bool.true else Option.none) ∧ ∀ (a : Nat × Go.Proofs.Ytfacddeaobogjaa.N.Mp), (Prod.fst a ≤ List.length (Go.Proofs.Ytfacddeaobogjaa.N.PP k l u v) ∧ ∀ (v_1 : Int), Go.DF.getM (Go.DF.CT.beq (Go.DF.CT.int Go.IntKind.i64)) v_1 (Prod.snd a) = if v_1 ∈ List.take (Prod.fst a) (Go.Proofs.Ytfacddeaobogjaa.N.PP k l u v) then Option.some Bool.true else Option.none) → (Decidable.decide ((↑(Prod.fst a) : Int) < (↑(List.length (Go.Proofs.Ytfacddeaobogjaa.N.PP k l u v)) : Int)) = Bool.true → (((0 : Int) ≤ (↑(Prod.fst a) : Int) ∧ (↑(Prod.fst a) : Int) < (↑(List.length (Go.Proofs.Ytfacddeaobogjaa.N.PP k l u v)) : Int)) ∧ (Option.getD (Go.DF.getM (Go.DF.CT.beq (Go.DF.CT.int Go.IntKind.i64)) (List.getD (Go.Proofs.Ytfacddeaobogjaa.N.PP k l u v) (Int.toNat (↑(Prod.fst a) : Int)) (0 : Int)) (Prod.snd a)) Bool.false = Bool.true → True) ∧ (Option.getD (Go.DF.getM (Go.DF.CT.beq (Go.DF.CT.int Go.IntKind.i64)) (List.getD (Go.Proofs.Ytfacddeaobogjaa.N.PP k l u v) (Int.toNat (↑(Prod.fst a) : Int)) (0 : Int)) (Prod.snd a)) Bool.false = Bool.false → (Decidable.decide ((0 : Int) < (↑(Prod.fst a) : Int)) = Bool.true → Go.DF.okI64 ((↑(Prod.fst a) : Int) - (1 : Int)) ∧ ((0 : Int) ≤ (↑(Prod.fst a) : Int) - (1 : Int) ∧ (↑(Prod.fst a) : Int) - (1 : Int) < (↑(List.length (Go.Proofs.Ytfacddeaobogjaa.N.PP k l u v)) : Int)) ∧ ((0 : Int) ≤ (↑(Prod.fst a) : Int) ∧ (↑(Prod.fst a) : Int) < (↑(List.length (Go.Proofs.Ytfacddeaobogjaa.N.PP k l u v)) : Int)) ∧ Go.Proofs.Ytfacddeaobogjaa.N.okH (Go.Proofs.Ytfacddeaobogjaa.N.gDat (Go.Proofs.Ytfacddeaobogjaa.N.mkN k) (Go.Proofs.Ytfacddeaobogjaa.N.mkE (Go.Proofs.Ytfacddeaobogjaa.N.mkN k) l)) ∧ True) ∧ (Decidable.decide ((0 : Int) < (↑(Prod.fst a) : Int)) = Bool.false → True))) ∧ ((Option.getD (Go.DF.getM (Go.DF.CT.beq (Go.DF.CT.int Go.IntKind.i64)) (List.getD (Go.Proofs.Ytfacddeaobogjaa.N.PP k l u v) (Int.toNat (↑(Prod.fst a) : Int)) (0 : Int)) (Prod.snd a)) Bool.false || Decidable.decide ((0 : Int) < (↑(Prod.fst a) : Int)) && !Go.Proofs.Ytfacddeaobogjaa.N.hasG (Go.Proofs.Ytfacddeaobogjaa.N.gDat (Go.Proofs.Ytfacddeaobogjaa.N.mkN k) (Go.Proofs.Ytfacddeaobogjaa.N.mkE (Go.Proofs.Ytfacddeaobogjaa.N.mkN k) l)) (List.getD (Go.Proofs.Ytfacddeaobogjaa.N.PP k l u v) (Int.toNat ((↑(Prod.fst a) : Int) - (1 : Int))) (0 : Int)) (List.getD (Go.Proofs.Ytfacddeaobogjaa.N.PP k l u v) (Int.toNat (↑(Prod.fst a) : Int)) (0 : Int))) = Bool.true → Bool.false = Bool.true ∧ True) ∧ ((Option.getD (Go.DF.getM (Go.DF.CT.beq (Go.DF.CT.int Go.IntKind.i64)) (List.getD (Go.Proofs.Ytfacddeaobogjaa.N.PP k l u v) (Int.toNat (↑(Prod.fst a) : Int)) (0 : Int)) (Prod.snd a)) Bool.false || Decidable.decide ((0 : Int) < (↑(Prod.fst a) : Int)) && !Go.Proofs.Ytfacddeaobogjaa.N.hasG (Go.Proofs.Ytfacddeaobogjaa.N.gDat (Go.Proofs.Ytfacddeaobogjaa.N.mkN k) (Go.Proofs.Ytfacddeaobogjaa.N.mkE (Go.Proofs.Ytfacddeaobogjaa.N.mkN k) l)) (List.getD (Go.Proofs.Ytfacddeaobogjaa.N.PP k l u v) (Int.toNat ((↑(Prod.fst a) : Int) - (1 : Int))) (0 : Int)) (List.getD (Go.Proofs.Ytfacddeaobogjaa.N.PP k l u v) (Int.toNat (↑(Prod.fst a) : Int)) (0 : Int))) = Bool.false → ((0 : Int) ≤ (↑(Prod.fst a) : Int) ∧ (↑(Prod.fst a) : Int) < (↑(List.length (Go.Proofs.Ytfacddeaobogjaa.N.PP k l u v)) : Int)) ∧ Go.DF.okI64 ((↑(Prod.fst a) : Int) + (1 : Int)) ∧ ∃ (a' : Nat × Go.Proofs.Ytfacddeaobogjaa.N.Mp), (Go.Proofs.Ytfacddeaobogjaa.N.gDat (Go.Proofs.Ytfacddeaobogjaa.N.mkN k) (Go.Proofs.Ytfacddeaobogjaa.N.mkE (Go.Proofs.Ytfacddeaobogjaa.N.mkN k) l) = Go.Proofs.Ytfacddeaobogjaa.N.gDat (Go.Proofs.Ytfacddeaobogjaa.N.mkN k) (Go.Proofs.Ytfacddeaobogjaa.N.mkE (Go.Proofs.Ytfacddeaobogjaa.N.mkN k) l) ∧ Go.Proofs.Ytfacddeaobogjaa.N.em u (Go.Proofs.Ytfacddeaobogjaa.N.mkN k) = Go.Proofs.Ytfacddeaobogjaa.N.em u (Go.Proofs.Ytfacddeaobogjaa.N.mkN k) ∧ Go.Proofs.Ytfacddeaobogjaa.N.em v (Go.Proofs.Ytfacddeaobogjaa.N.mkN k) = Go.Proofs.Ytfacddeaobogjaa.N.em v (Go.Proofs.Ytfacddeaobogjaa.N.mkN k) ∧ Go.Proofs.Ytfacddeaobogjaa.N.PP k l u v = Go.Proofs.Ytfacddeaobogjaa.N.PP k l u v ∧ Go.Proofs.Ytfacddeaobogjaa.N.PB k l u v = Go.Proofs.Ytfacddeaobogjaa.N.PB k l u v ∧ (↑(Prod.fst a) : Int) + (1 : Int) = (↑(Prod.fst a') : Int) ∧ Go.DF.putM (Go.DF.CT.beq (Go.DF.CT.int Go.IntKind.i64)) (List.getD (Go.Proofs.Ytfacddeaobogjaa.N.PP k l u v) (Int.toNat (↑(Prod.fst a) : Int)) (0 : Int)) Bool.true (Prod.snd a) = Prod.snd a') ∧ (Prod.fst a' ≤ List.length (Go.Proofs.Ytfacddeaobogjaa.N.PP k l u v) ∧ ∀ (v_1 : Int), Go.DF.getM (Go.DF.CT.beq (Go.DF.CT.int Go.IntKind.i64)) v_1 (Prod.snd a') = if v_1 ∈ List.take (Prod.fst a') (Go.Proofs.Ytfacddeaobogjaa.N.PP k l u v) then Option.some Bool.true else Option.none) ∧ List.length (Go.Proofs.Ytfacddeaobogjaa.N.PP k l u v) - Prod.fst a' < List.length (Go.Proofs.Ytfacddeaobogjaa.N.PP k l u v) - Prod.fst a)) ∧ (Decidable.decide ((↑(Prod.fst a) : Int) < (↑(List.length (Go.Proofs.Ytfacddeaobogjaa.N.PP k l u v)) : Int)) = Bool.false → Go.Proofs.Ytfacddeaobogjaa.N.ok42 (Go.Proofs.Ytfacddeaobogjaa.N.gDat (Go.Proofs.Ytfacddeaobogjaa.N.mkN k) (Go.Proofs.Ytfacddeaobogjaa.N.mkE (Go.Proofs.Ytfacddeaobogjaa.N.mkN k) l)) [Go.Proofs.Ytfacddeaobogjaa.N.em u (Go.Proofs.Ytfacddeaobogjaa.N.mkN k)] ∧ (∃ (a : Nat), (Go.Proofs.Ytfacddeaobogjaa.N.em u (Go.Proofs.Ytfacddeaobogjaa.N.mkN k) = Go.Proofs.Ytfacddeaobogjaa.N.em u (Go.Proofs.Ytfacddeaobogjaa.N.mkN k) ∧ Go.Proofs.Ytfacddeaobogjaa.N.em v (Go.Proofs.Ytfacddeaobogjaa.N.mkN k) = Go.Proofs.Ytfacddeaobogjaa.N.em v (Go.Proofs.Ytfacddeaobogjaa.N.mkN k) ∧ Go.Proofs.Ytfacddeaobogjaa.N.PP k l u v = Go.Proofs.Ytfacddeaobogjaa.N.PP k l u v ∧ Go.Proofs.Ytfacddeaobogjaa.N.PB k l u v = Go.Proofs.Ytfacddeaobogjaa.N.PB k l u v ∧ Bool.false = Go.Proofs.Ytfacddeaobogjaa.N.anyTo (Go.Proofs.Ytfacddeaobogjaa.N.RR k l u) (Go.Proofs.Ytfacddeaobogjaa.N.em v (Go.Proofs.Ytfacddeaobogjaa.N.mkN k)) a ∧ Go.Proofs.Ytfacddeaobogjaa.N.idxL (List.length (Go.Proofs.Ytfacddeaobogjaa.N.rowsOf (Go.Proofs.Ytfacddeaobogjaa.N.gDat (Go.Proofs.Ytfacddeaobogjaa.N.mkN k) (Go.Proofs.Ytfacddeaobogjaa.N.mkE (Go.Proofs.Ytfacddeaobogjaa.N.mkN k) l)))) (Go.Proofs.Ytfacddeaobogjaa.N.at1 (Go.Proofs.Ytfacddeaobogjaa.N.marksG (Go.Proofs.Ytfacddeaobogjaa.N.gDat (Go.Proofs.Ytfacddeaobogjaa.N.mkN k) (Go.Proofs.Ytfacddeaobogjaa.N.mkE (Go.Proofs.Ytfacddeaobogjaa.N.mkN k) l)) [Go.Proofs.Ytfacddeaobogjaa.N.em u (Go.Proofs.Ytfacddeaobogjaa.N.mkN k)])) = Go.Proofs.Ytfacddeaobogjaa.N.RR k l u ∧ (0 : Int) = (↑a : Int)) ∧ a ≤ List.length (Go.Proofs.Ytfacddeaobogjaa.N.RR k l u)) ∧ ∀ (a : Nat), a ≤ List.length (Go.Proofs.Ytfacddeaobogjaa.N.RR k l u) → (Decidable.decide ((↑a : Int) < (↑(List.length (Go.Proofs.Ytfacddeaobogjaa.N.RR k l u)) : Int)) = Bool.true → ((Go.Proofs.Ytfacddeaobogjaa.N.anyTo (Go.Proofs.Ytfacddeaobogjaa.N.RR k l u) (Go.Proofs.Ytfacddeaobogjaa.N.em v (Go.Proofs.Ytfacddeaobogjaa.N.mkN k)) a = Bool.true → True) ∧ (Go.Proofs.Ytfacddeaobogjaa.N.anyTo (Go.Proofs.Ytfacddeaobogjaa.N.RR k l u) (Go.Proofs.Ytfacddeaobogjaa.N.em v (Go.Proofs.Ytfacddeaobogjaa.N.mkN k)) a = Bool.false → ((0 : Int) ≤ (↑a : Int) ∧ (↑a : Int) < (↑(List.length (Go.Proofs.Ytfacddeaobogjaa.N.RR k l u)) : Int)) ∧ True)) ∧ Go.DF.okI64 ((↑a : Int) + (1 : Int)) ∧ ∃ (a' : Nat), (Go.Proofs.Ytfacddeaobogjaa.N.em u (Go.Proofs.Ytfacddeaobogjaa.N.mkN k) = Go.Proofs.Ytfacddeaobogjaa.N.em u (Go.Proofs.Ytfacddeaobogjaa.N.mkN k) ∧ Go.Proofs.Ytfacddeaobogjaa.N.em v (Go.Proofs.Ytfacddeaobogjaa.N.mkN k) = Go.Proofs.Ytfacddeaobogjaa.N.em v (Go.Proofs.Ytfacddeaobogjaa.N.mkN k) ∧ Go.Proofs.Ytfacddeaobogjaa.N.PP k l u v = Go.Proofs.Ytfacddeaobogjaa.N.PP k l u v ∧ Go.Proofs.Ytfacddeaobogjaa.N.PB k l u v = Go.Proofs.Ytfacddeaobogjaa.N.PB k l u v ∧ (Go.Proofs.Ytfacddeaobogjaa.N.anyTo (Go.Proofs.Ytfacddeaobogjaa.N.RR k l u) (Go.Proofs.Ytfacddeaobogjaa.N.em v (Go.Proofs.Ytfacddeaobogjaa.N.mkN k)) a || List.getD (Go.Proofs.Ytfacddeaobogjaa.N.RR k l u) (Int.toNat (↑a : Int)) (0 : Int) == Go.Proofs.Ytfacddeaobogjaa.N.em v (Go.Proofs.Ytfacddeaobogjaa.N.mkN k)) = Go.Proofs.Ytfacddeaobogjaa.N.anyTo (Go.Proofs.Ytfacddeaobogjaa.N.RR k l u) (Go.Proofs.Ytfacddeaobogjaa.N.em v (Go.Proofs.Ytfacddeaobogjaa.N.mkN k)) a' ∧ Go.Proofs.Ytfacddeaobogjaa.N.RR k l u = Go.Proofs.Ytfacddeaobogjaa.N.RR k l u ∧ (↑a : Int) + (1 : Int) = (↑a' : Int)) ∧ a' ≤ List.length (Go.Proofs.Ytfacddeaobogjaa.N.RR k l u) ∧ List.length (Go.Proofs.Ytfacddeaobogjaa.N.RR k l u) - a' < List.length (Go.Proofs.Ytfacddeaobogjaa.N.RR k l u) - a) ∧ (Decidable.decide ((↑a : Int) < (↑(List.length (Go.Proofs.Ytfacddeaobogjaa.N.RR k l u)) : Int)) = Bool.false → (((Go.Proofs.Ytfacddeaobogjaa.N.PB k l u v == Go.Proofs.Ytfacddeaobogjaa.N.anyTo (Go.Proofs.Ytfacddeaobogjaa.N.RR k l u) (Go.Proofs.Ytfacddeaobogjaa.N.em v (Go.Proofs.Ytfacddeaobogjaa.N.mkN k)) a) = Bool.true → ((Go.Proofs.Ytfacddeaobogjaa.N.PB k l u v == Decidable.decide ((0 : Int) < (↑(List.length (Go.Proofs.Ytfacddeaobogjaa.N.PP k l u v)) : Int))) = Bool.true → ((!Go.Proofs.Ytfacddeaobogjaa.N.PB k l u v) = Bool.true → True) ∧ ((!Go.Proofs.Ytfacddeaobogjaa.N.PB k l u v) = Bool.false → ((0 : Int) ≤ (0 : Int) ∧ (0 : Int) < (↑(List.length (Go.Proofs.Ytfacddeaobogjaa.N.PP k l u v)) : Int)) ∧ ((List.getD (Go.Proofs.Ytfacddeaobogjaa.N.PP k l u v) (Int.toNat (0 : Int)) (0 : Int) == Go.Proofs.Ytfacddeaobogjaa.N.em u (Go.Proofs.Ytfacddeaobogjaa.N.mkN k)) = Bool.true → Go.DF.okI64 ((↑(List.length (Go.Proofs.Ytfacddeaobogjaa.N.PP k l u v)) : Int) - (1 : Int)) ∧ ((0 : Int) ≤ (↑(List.length (Go.Proofs.Ytfacddeaobogjaa.N.PP k l u v)) : Int) - (1 : Int) ∧ (↑(List.length (Go.Proofs.Ytfacddeaobogjaa.N.PP k l u v)) : Int) - (1 : Int) < (↑(List.length (Go.Proofs.Ytfacddeaobogjaa.N.PP k l u v)) : Int)) ∧ True) ∧ ((List.getD (Go.Proofs.Ytfacddeaobogjaa.N.PP k l u v) (Int.toNat (0 : Int)) (0 : Int) == Go.Proofs.Ytfacddeaobogjaa.N.em u (Go.Proofs.Ytfacddeaobogjaa.N.mkN k)) = Bool.false → True))) ∧ ((Go.Proofs.Ytfacddeaobogjaa.N.PB k l u v == Decidable.decide ((0 : Int) < (↑(List.length (Go.Proofs.Ytfacddeaobogjaa.N.PP k l u v)) : Int))) = Bool.false → True)) ∧ ((Go.Proofs.Ytfacddeaobogjaa.N.PB k l u v == Go.Proofs.Ytfacddeaobogjaa.N.anyTo (Go.Proofs.Ytfacddeaobogjaa.N.RR k l u) (Go.Proofs.Ytfacddeaobogjaa.N.em v (Go.Proofs.Ytfacddeaobogjaa.N.mkN k)) a) = Bool.false → True)) ∧ (Go.Proofs.Ytfacddeaobogjaa.N.PB k l u v == Go.Proofs.Ytfacddeaobogjaa.N.anyTo (Go.Proofs.Ytfacddeaobogjaa.N.RR k l u) (Go.Proofs.Ytfacddeaobogjaa.N.em v (Go.Proofs.Ytfacddeaobogjaa.N.mkN k)) a && (Go.Proofs.Ytfacddeaobogjaa.N.PB k l u v == Decidable.decide ((0 : Int) < (↑(List.length (Go.Proofs.Ytfacddeaobogjaa.N.PP k l u v)) : Int)) && (!Go.Proofs.Ytfacddeaobogjaa.N.PB k l u v || List.getD (Go.Proofs.Ytfacddeaobogjaa.N.PP k l u v) (Int.toNat (0 : Int)) (0 : Int) == Go.Proofs.Ytfacddeaobogjaa.N.em u (Go.Proofs.Ytfacddeaobogjaa.N.mkN k) && List.getD (Go.Proofs.Ytfacddeaobogjaa.N.PP k l u v) (Int.toNat ((↑(List.length (Go.Proofs.Ytfacddeaobogjaa.N.PP k l u v)) : Int) - (1 : Int))) (0 : Int) == Go.Proofs.Ytfacddeaobogjaa.N.em v (Go.Proofs.Ytfacddeaobogjaa.N.mkN k)))) = Bool.true ∧ True)))) _ (by kernel_rfl)
  have hNN := mkN_le k hk
  have h0 := mk_err k l hk
  have hml : (mkE (mkN k) l).length ≤ 120 := by unfold mkE; rw [List.length_map, List.length_take]; omega
  unfold PP PB RR
  generalize mkE (mkN k) l = es at h0 hml ⊢
  generalize mkN k = N at hNN h0 ⊢
  have e : gDat N es = some (gA N es, gB N es) := by unfold gDat; rw [if_pos h0]
  rw [e]
  have hW := putAll_le es
  have hr0 : (rowsOf (some (gA N es, gB N es))).length = N.toNat := gA_len N es
  have hcast : ((N.toNat : Nat) : Int) = N := by omega
  have he : edgesOf (some (gA N es, gB N es)) = putAll es := edges_eq h0
  have oP := okPG_gA h0 (by omega)
  have hE : ∀ x ∈ putAll es, 0 ≤ x.1 ∧ x.1 < N ∧ 0 ≤ x.2 ∧ x.2 < N := fun x hx => by
    have := (gErr_zero h0).2.2.2 x (((putAll_rise h0).2 x).1 hx); omega
  have hem : ∀ x : Int, 0 ≤ x ∧ x < 256 → 0 ≤ em x N ∧ em x N < N := fun x hx => by
    unfold em
    rw [i64_id x (by omega), Int.tmod_eq_emod_of_nonneg hx.1]
    exact ⟨Int.emod_nonneg _ (by omega), Int.emod_lt_of_pos _ (by omega)⟩
  have hfu := hem u hu
  have hfv := hem v hv
  have e1 : ∀ x, Int.tmod (IntKind.i64.wrap x) N = em x N := fun _ => rfl
  have m1 : marksG (some (gA N es, gB N es)) [em u N] = marksL (putAll es) N [em u N] := by
    unfold marksG
    rw [show rowsOf (some (gA N es, gB N es)) = gA N es from rfl, edges_eq h0, gA_len, hcast]
  have hH : okH (some (gA N es, gB N es)) := okR_gA h0
  rw [e1, e1, hr0, hcast, he, m1]
  obtain ⟨f1, f2, f3, f4, f5⟩ := path_facts (W := putAll es) (N := N) (by omega) hE hfu hfv
  have hin : isIn (idxL N.toNat (at1 (marksL (putAll es) N [em u N]))) (em v N) = pathB (putAll es) N (em u N) (em v N) := by
    rw [Bool.eq_iff_iff, f5]
    unfold isIn
    rw [decide_eq_true_iff, idxL_mem]
    constructor
    · rintro ⟨i, hi, h1, h2⟩
      have := (marksL_get (putAll es) N [em u N] i).1 h1
      obtain ⟨_, w, hw, _, hr⟩ := this
      rw [List.mem_singleton] at hw
      rw [hw, ← h2] at hr
      exact hr
    · intro hr
      refine ⟨(em v N).toNat, by omega, (marksL_get (putAll es) N [em u N] _).2 ⟨by omega, em u N, by simp, hfu, ?_⟩, by omega⟩
      rw [show (((em v N).toNat : Nat) : Int) = em v N from by omega]; exact hr
  have pl := pathL_len (em u N) (em v N) (show 0 ≤ N by omega) hE
  have hh := has_eq h0
  have il := idxL_len N.toNat (at1 (marksL (putAll es) N [em u N]))
  have o42 : ok42 (some (gA N es, gB N es)) [em u N] := ⟨okV_gA h0, by simp, _, _, rfl⟩
  generalize pathL (putAll es) N (em u N) (em v N) = P at *
  generalize pathB (putAll es) N (em u N) (em v N) = b at *
  generalize idxL N.toNat (at1 (marksL (putAll es) N [em u N])) = R at *
  generalize em u N = fu at *
  generalize em v N = fv at *
  have z0 : Int.toNat (0 : Int) = 0 := rfl
  simp only [Int.toNat_natCast, z0]
  refine ⟨hk, fun h => absurd h (by simp), fun _ => ⟨by omega, by omega, oP, ⟨(0, []), ⟨by trivial, by trivial, by trivial, by trivial, by trivial, rfl, rfl⟩, Nat.zero_le _, fun x => by simp [getM]⟩, ?_⟩⟩
  rintro ⟨a, mp⟩ ⟨p1, p2⟩
  simp only at p1 p2 ⊢
  refine ⟨fun hlt => ?_, fun hge => ?_⟩
  · have hlt : a < P.length := by have := of_decide_eq_true hlt; omega
    have hg : ∀ j, (hj : j < P.length) → P[j] = P.getD j 0 := fun j hj => by rw [List.getD_eq_getElem?_getD, List.getElem?_eq_getElem hj]; rfl
    have hnot : P.getD a 0 ∉ P.take a := fun hm => by
      obtain ⟨i, hi, hie⟩ := List.mem_iff_getElem.1 hm
      rw [List.length_take] at hi
      rw [List.getElem_take, hg i (by omega)] at hie
      exact f2 i a (by omega) hlt hie
    have p2' : ∀ v : Int, getM eqZ v mp = if v ∈ P.take a then some true else none := p2
    have hseen : Option.getD (getM eqZ (P.getD a 0) mp) false = false := by
      rw [p2', if_neg hnot]; rfl
    have htk : P.take (a + 1) = P.take a ++ [P.getD a 0] := by
      rw [List.take_add_one, List.getElem?_eq_getElem hlt, List.getD_eq_getElem?_getD, List.getElem?_eq_getElem hlt]; rfl
    have hm1 : 0 < a → Int.toNat ((a : Int) - 1) = a - 1 := fun h => by omega
    have hjoin : (decide (0 < (a : Int)) && !hasG (some (gA N es, gB N es)) (P.getD (Int.toNat ((a : Int) - 1)) 0) (P.getD a 0)) = false := by
      by_cases ha : 0 < a
      · rw [hm1 ha, hh]
        have := f1 a ha hlt
        unfold isIn
        rw [decide_eq_true ((refA_mem _ _ _).2 this)]
        simp
      · have : ¬ (0 < (a : Int)) := by omega
        rw [decide_eq_false this]; rfl
    have hboth : (Option.getD (getM eqZ (P.getD a 0) mp) false || (decide (0 < (a : Int)) && !hasG (some (gA N es, gB N es)) (P.getD (Int.toNat ((a : Int) - 1)) 0) (P.getD a 0))) = false := by rw [hseen, hjoin]; rfl
    refine ⟨⟨⟨by omega, by omega⟩, fun _ => trivial, fun _ => ⟨fun h => ⟨by unfold okI64; omega, ⟨by have := of_decide_eq_true h; omega, by omega⟩, ⟨by omega, by omega⟩, hH, trivial⟩, fun _ => trivial⟩⟩, fun h => absurd (hboth.symm.trans h) (by simp), fun _ => ⟨⟨by omega, by omega⟩, by unfold okI64; omega,
      (a + 1, putM (CT.beq (CT.int IntKind.i64)) (P.getD a 0) true mp), ⟨by trivial, by trivial, by trivial, by trivial, by trivial, by simp, rfl⟩, ⟨by simp only; omega, fun x => ?_⟩, by simp only; omega⟩⟩
    show getM eqZ x (putM eqZ (P.getD a 0) true mp) = if x ∈ P.take (a + 1) then some true else none
    rw [getM_put, htk]
    by_cases hx : x = P.getD a 0
    · rw [if_pos hx, if_pos (List.mem_append.2 (.inr (by rw [List.mem_singleton]; exact hx)))]
    · rw [if_neg hx, p2']
      by_cases hx2 : x ∈ P.take a
      · rw [if_pos hx2, if_pos (List.mem_append.2 (.inl hx2))]
      · rw [if_neg hx2, if_neg]
        intro hm
        rcases List.mem_append.1 hm with h | h
        · exact hx2 h
        · exact hx (List.mem_singleton.1 h)
  · refine ⟨o42, ⟨0, ⟨by trivial, by trivial, by trivial, by trivial, rfl, by trivial, rfl⟩, Nat.zero_le _⟩, fun i hi => ⟨fun hlt => ?_, fun hge => ?_⟩⟩
    · have hlt : i < R.length := by have := of_decide_eq_true hlt; omega
      exact ⟨⟨fun _ => trivial, fun _ => ⟨⟨by omega, by omega⟩, trivial⟩⟩, by unfold okI64; omega, i + 1, ⟨by trivial, by trivial, by trivial, by trivial, anyTo_succ _ _ _ hlt, by trivial, by omega⟩, by omega, by omega⟩
    · have hge : i = R.length := by have := of_decide_eq_false hge; omega
      rw [hge, anyTo_all, hin]
      have hpos : (b == decide (0 < ((P.length : Nat) : Int))) = true := by
        rw [beq_iff_eq, f3, Bool.eq_iff_iff, decide_eq_true_iff, decide_eq_true_iff]; omega
      have hlast : b = true → Int.toNat (((P.length : Nat) : Int) - 1) = P.length - 1 ∧ 0 < P.length := fun hb => by
        rw [hb, eq_comm, decide_eq_true_iff] at f3
        exact ⟨by omega, f3⟩
      rw [hpos]
      refine ⟨⟨fun _ => ⟨fun _ => ⟨fun _ => trivial, fun hb => ?_⟩, fun _ => trivial⟩, fun _ => trivial⟩, ?_, trivial⟩
      · rw [Bool.not_eq_false'] at hb
        have := (hlast hb).2
        exact ⟨⟨by omega, by omega⟩, fun _ => ⟨by unfold okI64; omega, ⟨by omega, by omega⟩, trivial⟩, fun _ => trivial⟩
      · cases b with
        | false => rfl
        | true =>
          rw [(hlast rfl).1, (f4 rfl).1, (f4 rfl).2]
          simp
end Go.Proofs.Ytfacddeaobogjaa.N
