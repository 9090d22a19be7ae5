import Derived.Test.YtnoccknoaihjlaaEng12
import Derived.Test.YtnoccknoaihjlaaI4
set_option linter.unusedVariables false
set_option linter.unusedSimpArgs false
set_option linter.unnecessarySimpa false
/- What Decode returns; the laws on Encode and Decode. -/
namespace Go.Proofs.Ytnoccknoaihjlaa
open Go.DE
set_option maxRecDepth 100000
set_option linter.unusedVariables false
set_option linter.unusedSimpArgs false

abbrev W8 (x : Int) : Prop := 0 ≤ x ∧ x < 256
theorem w8_i64 (x : Int) (h : W8 x) : IntKind.i64.wrap x = x := wrap_i64_id x (by unfold W8 at h; omega)
/-- the number in the bytes r and s, of the operation o -/
def cOf (o r s : Int) : Int := bif inO o && (hN (formI o) && decide (lowI o < 0)) then IntKind.i16.wrap (r + 256 * s) else r + 256 * s
def dE (o q r s : Int) : Int := chk o (q / 16) (q % 16) (cOf o r s)
def dV (o q r s v : Int) : Int := if dE o q r s = 0 then v else 0
def dErr (o q r s : Int) : Int := if dE o q r s = 0 then 0 else 24
def decV (o q r s : Int) : DV := .tup [.agg [.int .i64 (.sym (dV o q r s o)), .int .i64 (.sym (dV o q r s (q / 16))), .int .i64 (.sym (dV o q r s (q % 16))), .int .i64 (.sym (dV o q r s (cOf o r s)))], .int .i64 (.sym (dErr o q r s))]
def s4 (o q r s : Int) : DV := .agg [.int .u8 (.sym o), .int .u8 (.sym q), .int .u8 (.sym r), .int .u8 (.sym s)]
theorem shr_q (q : Int) (h : W8 q) : IntKind.i64.wrap (shrI .u8 q 4) = q / 16 := by
  have : shrI .u8 q 4 = q.fdiv 16 := rfl
  unfold W8 at h
  rw [this, Int.fdiv_eq_ediv_of_nonneg _ (by omega), wrap_i64_id _ (by omega)]
theorem and_q (q : Int) (h : W8 q) : IntKind.i64.wrap (bitsI .and .u8 q 15) = q % 16 := by
  unfold W8 at h
  have h1 : bitsI .and .u8 q 15 = IntKind.u8.wrap (BitVec.ofInt 8 q &&& BitVec.ofInt 8 15).toNat := rfl
  have e1 : (BitVec.ofInt 8 q).toNat = q.toNat := by rw [BitVec.toNat_ofInt]; simp; omega
  have e2 : (BitVec.ofInt 8 15).toNat = 2 ^ 4 - 1 := by decide
  rw [h1, BitVec.toNat_and, e1, e2, Nat.and_two_pow_sub_one_eq_mod, wrap_u8, wrap_i64_id _ (by omega)]
  omega
theorem or_rs (r s : Int) (hr : W8 r) (hs : W8 s) : bitsI .or .i64 r (shlI .i64 s 8) = r + 256 * s := by
  unfold W8 at hr hs
  have h1 : shlI .i64 s 8 = IntKind.i64.wrap (s * 2 ^ 8) := rfl
  rw [h1, wrap_i64_id _ (by omega)]
  have h2 : bitsI .or .i64 r (s * 2 ^ 8) = IntKind.i64.wrap (BitVec.ofInt 64 r ||| BitVec.ofInt 64 (s * 2 ^ 8)).toNat := rfl
  have e1 : (BitVec.ofInt 64 r).toNat = r.toNat := by rw [BitVec.toNat_ofInt]; simp; omega
  have e2 : (BitVec.ofInt 64 (s * 2 ^ 8)).toNat = 2 ^ 8 * s.toNat := by rw [BitVec.toNat_ofInt]; simp; omega
  rw [h2, BitVec.toNat_or, e1, e2, Nat.or_comm, ← Nat.two_pow_add_eq_or_of_lt (by omega), wrap_i64_id _ (by omega)]
  omega
theorem wrap_i16 (x : Int) : IntKind.i16.wrap x = (x + 32768) % 65536 - 32768 := by simp [IntKind.wrap, IntKind.bits, IntKind.signed]; omega
theorem i16_id (x : Int) : IntKind.i64.wrap (IntKind.i16.wrap x) = IntKind.i16.wrap x := wrap_i64_id _ (by rw [wrap_i16]; omega)
theorem p25 (o q r s : Int) (ho : W8 o) (hq : W8 q) (hr : W8 r) (hs : W8 s) : Pure1 Try.prog 25 [s4 o q r s] (decV o q r s) := by
  refine pure_of_exec (ct := ⟨[c15, c46, c51], []⟩) [] Try.func25 rfl rfl rfl ?_
  refine cast_goal (p := ((Go.Proofs.Ytnoccknoaihjlaa.inO (Go.IntKind.wrap Go.IntKind.i64 o) && (Go.Proofs.Ytnoccknoaihjlaa.hN (Go.Proofs.Ytnoccknoaihjlaa.formI (Go.IntKind.wrap Go.IntKind.i64 o)) && Decidable.decide (Go.Proofs.Ytnoccknoaihjlaa.lowI (Go.IntKind.wrap Go.IntKind.i64 o) < (0 : Int)))) = Bool.true → ((Go.Proofs.Ytnoccknoaihjlaa.chk (Go.IntKind.wrap Go.IntKind.i64 o) (Go.IntKind.wrap Go.IntKind.i64 (Go.DE.shrI Go.IntKind.u8 q (4 : Int))) (Go.IntKind.wrap Go.IntKind.i64 (Go.DE.bitsI Go.BinOp.and Go.IntKind.u8 q (15 : Int))) (Go.IntKind.wrap Go.IntKind.i64 (Go.IntKind.wrap Go.IntKind.i16 (Go.DE.bitsI Go.BinOp.or Go.IntKind.i64 (Go.IntKind.wrap Go.IntKind.i64 r) (Go.DE.shlI Go.IntKind.i64 (Go.IntKind.wrap Go.IntKind.i64 s) (8 : Int))))) != (0 : Int)) = Bool.true → (0 : Int) = Go.Proofs.Ytnoccknoaihjlaa.dV o q r s o ∧ (0 : Int) = Go.Proofs.Ytnoccknoaihjlaa.dV o q r s (q / (16 : Int)) ∧ (0 : Int) = Go.Proofs.Ytnoccknoaihjlaa.dV o q r s (q % (16 : Int)) ∧ (0 : Int) = Go.Proofs.Ytnoccknoaihjlaa.dV o q r s (Go.Proofs.Ytnoccknoaihjlaa.cOf o r s) ∧ (24 : Int) = Go.Proofs.Ytnoccknoaihjlaa.dErr o q r s) ∧ ((Go.Proofs.Ytnoccknoaihjlaa.chk (Go.IntKind.wrap Go.IntKind.i64 o) (Go.IntKind.wrap Go.IntKind.i64 (Go.DE.shrI Go.IntKind.u8 q (4 : Int))) (Go.IntKind.wrap Go.IntKind.i64 (Go.DE.bitsI Go.BinOp.and Go.IntKind.u8 q (15 : Int))) (Go.IntKind.wrap Go.IntKind.i64 (Go.IntKind.wrap Go.IntKind.i16 (Go.DE.bitsI Go.BinOp.or Go.IntKind.i64 (Go.IntKind.wrap Go.IntKind.i64 r) (Go.DE.shlI Go.IntKind.i64 (Go.IntKind.wrap Go.IntKind.i64 s) (8 : Int))))) != (0 : Int)) = Bool.false → Go.IntKind.wrap Go.IntKind.i64 o = Go.Proofs.Ytnoccknoaihjlaa.dV o q r s o ∧ Go.IntKind.wrap Go.IntKind.i64 (Go.DE.shrI Go.IntKind.u8 q (4 : Int)) = Go.Proofs.Ytnoccknoaihjlaa.dV o q r s (q / (16 : Int)) ∧ Go.IntKind.wrap Go.IntKind.i64 (Go.DE.bitsI Go.BinOp.and Go.IntKind.u8 q (15 : Int)) = Go.Proofs.Ytnoccknoaihjlaa.dV o q r s (q % (16 : Int)) ∧ Go.IntKind.wrap Go.IntKind.i64 (Go.IntKind.wrap Go.IntKind.i16 (Go.DE.bitsI Go.BinOp.or Go.IntKind.i64 (Go.IntKind.wrap Go.IntKind.i64 r) (Go.DE.shlI Go.IntKind.i64 (Go.IntKind.wrap Go.IntKind.i64 s) (8 : Int)))) = Go.Proofs.Ytnoccknoaihjlaa.dV o q r s (Go.Proofs.Ytnoccknoaihjlaa.cOf o r s) ∧ (0 : Int) = Go.Proofs.Ytnoccknoaihjlaa.dErr o q r s)) ∧ ((Go.Proofs.Ytnoccknoaihjlaa.inO (Go.IntKind.wrap Go.IntKind.i64 o) && (Go.Proofs.Ytnoccknoaihjlaa.hN (Go.Proofs.Ytnoccknoaihjlaa.formI (Go.IntKind.wrap Go.IntKind.i64 o)) && Decidable.decide (Go.Proofs.Ytnoccknoaihjlaa.lowI (Go.IntKind.wrap Go.IntKind.i64 o) < (0 : Int)))) = Bool.false → ((Go.Proofs.Ytnoccknoaihjlaa.chk (Go.IntKind.wrap Go.IntKind.i64 o) (Go.IntKind.wrap Go.IntKind.i64 (Go.DE.shrI Go.IntKind.u8 q (4 : Int))) (Go.IntKind.wrap Go.IntKind.i64 (Go.DE.bitsI Go.BinOp.and Go.IntKind.u8 q (15 : Int))) (Go.DE.bitsI Go.BinOp.or Go.IntKind.i64 (Go.IntKind.wrap Go.IntKind.i64 r) (Go.DE.shlI Go.IntKind.i64 (Go.IntKind.wrap Go.IntKind.i64 s) (8 : Int))) != (0 : Int)) = Bool.true → (0 : Int) = Go.Proofs.Ytnoccknoaihjlaa.dV o q r s o ∧ (0 : Int) = Go.Proofs.Ytnoccknoaihjlaa.dV o q r s (q / (16 : Int)) ∧ (0 : Int) = Go.Proofs.Ytnoccknoaihjlaa.dV o q r s (q % (16 : Int)) ∧ (0 : Int) = Go.Proofs.Ytnoccknoaihjlaa.dV o q r s (Go.Proofs.Ytnoccknoaihjlaa.cOf o r s) ∧ (24 : Int) = Go.Proofs.Ytnoccknoaihjlaa.dErr o q r s) ∧ ((Go.Proofs.Ytnoccknoaihjlaa.chk (Go.IntKind.wrap Go.IntKind.i64 o) (Go.IntKind.wrap Go.IntKind.i64 (Go.DE.shrI Go.IntKind.u8 q (4 : Int))) (Go.IntKind.wrap Go.IntKind.i64 (Go.DE.bitsI Go.BinOp.and Go.IntKind.u8 q (15 : Int))) (Go.DE.bitsI Go.BinOp.or Go.IntKind.i64 (Go.IntKind.wrap Go.IntKind.i64 r) (Go.DE.shlI Go.IntKind.i64 (Go.IntKind.wrap Go.IntKind.i64 s) (8 : Int))) != (0 : Int)) = Bool.false → Go.IntKind.wrap Go.IntKind.i64 o = Go.Proofs.Ytnoccknoaihjlaa.dV o q r s o ∧ Go.IntKind.wrap Go.IntKind.i64 (Go.DE.shrI Go.IntKind.u8 q (4 : Int)) = Go.Proofs.Ytnoccknoaihjlaa.dV o q r s (q / (16 : Int)) ∧ Go.IntKind.wrap Go.IntKind.i64 (Go.DE.bitsI Go.BinOp.and Go.IntKind.u8 q (15 : Int)) = Go.Proofs.Ytnoccknoaihjlaa.dV o q r s (q % (16 : Int)) ∧ Go.DE.bitsI Go.BinOp.or Go.IntKind.i64 (Go.IntKind.wrap Go.IntKind.i64 r) (Go.DE.shlI Go.IntKind.i64 (Go.IntKind.wrap Go.IntKind.i64 s) (8 : Int)) = Go.Proofs.Ytnoccknoaihjlaa.dV o q r s (Go.Proofs.Ytnoccknoaihjlaa.cOf o r s) ∧ (0 : Int) = Go.Proofs.Ytnoccknoaihjlaa.dErr o q r s))) (by kernel_rfl) ?_
  simp only [w8_i64 o ho, w8_i64 r hr, w8_i64 s hs, shr_q q hq, and_q q hq, or_rs r s hr hs, i16_id]
  refine ⟨fun h => ?_, fun h => ?_⟩
  · have hc : cOf o r s = IntKind.i16.wrap (r + 256 * s) := by simp only [cOf, h, cond_true]
    rw [← hc]
    refine ⟨fun h1 => ?_, fun h1 => ?_⟩
    · have h1 : ¬ dE o q r s = 0 := by simpa [dE] using h1
      simp [dV, dErr, h1]
    · have h1 : dE o q r s = 0 := by simpa [dE] using h1
      simp [dV, dErr, h1]
  · have hc : cOf o r s = r + 256 * s := by simp only [cOf, h, cond_false]
    rw [← hc]
    refine ⟨fun h1 => ?_, fun h1 => ?_⟩
    · have h1 : ¬ dE o q r s = 0 := by simpa [dE] using h1
      simp [dV, dErr, h1]
    · have h1 : dE o q r s = 0 := by simpa [dE] using h1
      simp [dV, dErr, h1]
theorem limE0 (o : Int) : (limE o == 0 && (decide (lowI o < 0))) = (inO o && (hN (formI o) && decide (lowI o < 0))) := by
  unfold limE; cases inO o <;> cases hN (formI o) <;> simp
theorem p27 (o q r s : Int) (ho : W8 o) (hq : W8 q) (hr : W8 r) (hs : W8 s) : Pure1 Try.prog 27 [s4 o q r s] (decV o q r s) := by
  refine pure_of_exec (ct := ⟨[c16, c33], []⟩) [] Try.func27 rfl rfl rfl ?_
  refine cast_goal (p := Go.DE.okI64 (Int.tdiv (Go.IntKind.wrap Go.IntKind.i64 q) (16 : Int)) ∧ Go.DE.okI64 ((256 : Int) * Go.IntKind.wrap Go.IntKind.i64 s) ∧ Go.DE.okI64 (Go.IntKind.wrap Go.IntKind.i64 r + (256 : Int) * Go.IntKind.wrap Go.IntKind.i64 s) ∧ ((Go.Proofs.Ytnoccknoaihjlaa.limE (Go.IntKind.wrap Go.IntKind.i64 o) == (0 : Int) && (Decidable.decide (Go.Proofs.Ytnoccknoaihjlaa.lowI (Go.IntKind.wrap Go.IntKind.i64 o) < (0 : Int)) && Decidable.decide ((32767 : Int) < Go.IntKind.wrap Go.IntKind.i64 r + (256 : Int) * Go.IntKind.wrap Go.IntKind.i64 s))) = Bool.true → Go.DE.okI64 (Go.IntKind.wrap Go.IntKind.i64 r + (256 : Int) * Go.IntKind.wrap Go.IntKind.i64 s - (65536 : Int)) ∧ ((Go.Proofs.Ytnoccknoaihjlaa.chk (Go.IntKind.wrap Go.IntKind.i64 o) (Int.tdiv (Go.IntKind.wrap Go.IntKind.i64 q) (16 : Int)) (Int.tmod (Go.IntKind.wrap Go.IntKind.i64 q) (16 : Int)) (Go.IntKind.wrap Go.IntKind.i64 r + (256 : Int) * Go.IntKind.wrap Go.IntKind.i64 s - (65536 : Int)) != (0 : Int)) = Bool.true → (0 : Int) = Go.Proofs.Ytnoccknoaihjlaa.dV o q r s o ∧ (0 : Int) = Go.Proofs.Ytnoccknoaihjlaa.dV o q r s (q / (16 : Int)) ∧ (0 : Int) = Go.Proofs.Ytnoccknoaihjlaa.dV o q r s (q % (16 : Int)) ∧ (0 : Int) = Go.Proofs.Ytnoccknoaihjlaa.dV o q r s (Go.Proofs.Ytnoccknoaihjlaa.cOf o r s) ∧ (24 : Int) = Go.Proofs.Ytnoccknoaihjlaa.dErr o q r s) ∧ ((Go.Proofs.Ytnoccknoaihjlaa.chk (Go.IntKind.wrap Go.IntKind.i64 o) (Int.tdiv (Go.IntKind.wrap Go.IntKind.i64 q) (16 : Int)) (Int.tmod (Go.IntKind.wrap Go.IntKind.i64 q) (16 : Int)) (Go.IntKind.wrap Go.IntKind.i64 r + (256 : Int) * Go.IntKind.wrap Go.IntKind.i64 s - (65536 : Int)) != (0 : Int)) = Bool.false → Go.IntKind.wrap Go.IntKind.i64 o = Go.Proofs.Ytnoccknoaihjlaa.dV o q r s o ∧ Int.tdiv (Go.IntKind.wrap Go.IntKind.i64 q) (16 : Int) = Go.Proofs.Ytnoccknoaihjlaa.dV o q r s (q / (16 : Int)) ∧ Int.tmod (Go.IntKind.wrap Go.IntKind.i64 q) (16 : Int) = Go.Proofs.Ytnoccknoaihjlaa.dV o q r s (q % (16 : Int)) ∧ Go.IntKind.wrap Go.IntKind.i64 r + (256 : Int) * Go.IntKind.wrap Go.IntKind.i64 s - (65536 : Int) = Go.Proofs.Ytnoccknoaihjlaa.dV o q r s (Go.Proofs.Ytnoccknoaihjlaa.cOf o r s) ∧ (0 : Int) = Go.Proofs.Ytnoccknoaihjlaa.dErr o q r s)) ∧ ((Go.Proofs.Ytnoccknoaihjlaa.limE (Go.IntKind.wrap Go.IntKind.i64 o) == (0 : Int) && (Decidable.decide (Go.Proofs.Ytnoccknoaihjlaa.lowI (Go.IntKind.wrap Go.IntKind.i64 o) < (0 : Int)) && Decidable.decide ((32767 : Int) < Go.IntKind.wrap Go.IntKind.i64 r + (256 : Int) * Go.IntKind.wrap Go.IntKind.i64 s))) = Bool.false → ((Go.Proofs.Ytnoccknoaihjlaa.chk (Go.IntKind.wrap Go.IntKind.i64 o) (Int.tdiv (Go.IntKind.wrap Go.IntKind.i64 q) (16 : Int)) (Int.tmod (Go.IntKind.wrap Go.IntKind.i64 q) (16 : Int)) (Go.IntKind.wrap Go.IntKind.i64 r + (256 : Int) * Go.IntKind.wrap Go.IntKind.i64 s) != (0 : Int)) = Bool.true → (0 : Int) = Go.Proofs.Ytnoccknoaihjlaa.dV o q r s o ∧ (0 : Int) = Go.Proofs.Ytnoccknoaihjlaa.dV o q r s (q / (16 : Int)) ∧ (0 : Int) = Go.Proofs.Ytnoccknoaihjlaa.dV o q r s (q % (16 : Int)) ∧ (0 : Int) = Go.Proofs.Ytnoccknoaihjlaa.dV o q r s (Go.Proofs.Ytnoccknoaihjlaa.cOf o r s) ∧ (24 : Int) = Go.Proofs.Ytnoccknoaihjlaa.dErr o q r s) ∧ ((Go.Proofs.Ytnoccknoaihjlaa.chk (Go.IntKind.wrap Go.IntKind.i64 o) (Int.tdiv (Go.IntKind.wrap Go.IntKind.i64 q) (16 : Int)) (Int.tmod (Go.IntKind.wrap Go.IntKind.i64 q) (16 : Int)) (Go.IntKind.wrap Go.IntKind.i64 r + (256 : Int) * Go.IntKind.wrap Go.IntKind.i64 s) != (0 : Int)) = Bool.false → Go.IntKind.wrap Go.IntKind.i64 o = Go.Proofs.Ytnoccknoaihjlaa.dV o q r s o ∧ Int.tdiv (Go.IntKind.wrap Go.IntKind.i64 q) (16 : Int) = Go.Proofs.Ytnoccknoaihjlaa.dV o q r s (q / (16 : Int)) ∧ Int.tmod (Go.IntKind.wrap Go.IntKind.i64 q) (16 : Int) = Go.Proofs.Ytnoccknoaihjlaa.dV o q r s (q % (16 : Int)) ∧ Go.IntKind.wrap Go.IntKind.i64 r + (256 : Int) * Go.IntKind.wrap Go.IntKind.i64 s = Go.Proofs.Ytnoccknoaihjlaa.dV o q r s (Go.Proofs.Ytnoccknoaihjlaa.cOf o r s) ∧ (0 : Int) = Go.Proofs.Ytnoccknoaihjlaa.dErr o q r s))) (by kernel_rfl) ?_
  have ho' := ho; have hq' := hq; have hr' := hr; have hs' := hs
  unfold W8 at ho' hq' hr' hs'
  simp only [w8_i64 o ho, w8_i64 q hq, w8_i64 r hr, w8_i64 s hs, Int.tdiv_eq_ediv_of_nonneg hq'.1, Int.tmod_eq_emod_of_nonneg hq'.1, ← Bool.and_assoc, limE0]
  refine ⟨by unfold okI64; omega, by unfold okI64; omega, by unfold okI64; omega, fun h => ?_, fun h => ?_⟩
  · rw [Bool.and_eq_true, decide_eq_true_eq] at h
    have hc : cOf o r s = r + 256 * s - 65536 := by
      have h1 := h.1
      rw [Bool.and_assoc] at h1
      simp only [cOf, h1, cond_true, wrap_i16]; omega
    rw [← hc]
    refine ⟨by rw [hc]; unfold okI64; omega, fun h1 => ?_, fun h1 => ?_⟩
    · have h1 : ¬ dE o q r s = 0 := by simpa [dE] using h1
      simp [dV, dErr, h1]
    · have h1 : dE o q r s = 0 := by simpa [dE] using h1
      simp [dV, dErr, h1]
  · have hc : cOf o r s = r + 256 * s := by
      cases h1 : inO o && (hN (formI o) && decide (lowI o < 0))
      · simp only [cOf, h1, cond_false]
      · rw [← Bool.and_assoc] at h1
        rw [h1, Bool.true_and, decide_eq_false_iff_not] at h
        rw [Bool.and_assoc] at h1
        simp only [cOf, h1, cond_true, wrap_i16]; omega
    rw [← hc]
    refine ⟨fun h1 => ?_, fun h1 => ?_⟩
    · have h1 : ¬ dE o q r s = 0 := by simpa [dE] using h1
      simp [dV, dErr, h1]
    · have h1 : dE o q r s = 0 := by simpa [dE] using h1
      simp [dV, dErr, h1]

def c25 : PureC Try.prog where
  f := 25
  spec := fun args => match args with
    | [.agg [.int .u8 o, .int .u8 q, .int .u8 r, .int .u8 s]] =>
      let l := [o, q, r, s]
      let e := fun v => DV.int .i64 (asL l (dV o.v q.v r.v s.v v))
      some (some (W8 o.v ∧ W8 q.v ∧ W8 r.v ∧ W8 s.v), .tup [.agg [e o.v, e (q.v / 16), e (q.v % 16), e (cOf o.v r.v s.v)], .int .i64 (asL l (dErr o.v q.v r.v s.v))])
    | _ => none
  body := hasBody_of Try.func25 (by kernel_rfl) (by kernel_rfl)
  ok := by
    intro args p d h hp
    split at h
    · rename_i o q r s; cases h; obtain ⟨h1, h2, h3, h4⟩ := hp _ rfl; exact (p25 o.v q.v r.v s.v h1 h2 h3 h4).congr (by simp [deqL, deq, s4]) (by simp [deq, deqL, decV])
    · cases h

def c27 : PureC Try.prog where
  f := 27
  spec := fun args => match args with
    | [.agg [.int .u8 o, .int .u8 q, .int .u8 r, .int .u8 s]] =>
      let l := [o, q, r, s]
      let e := fun v => DV.int .i64 (asL l (dV o.v q.v r.v s.v v))
      some (some (W8 o.v ∧ W8 q.v ∧ W8 r.v ∧ W8 s.v), .tup [.agg [e o.v, e (q.v / 16), e (q.v % 16), e (cOf o.v r.v s.v)], .int .i64 (asL l (dErr o.v q.v r.v s.v))])
    | _ => none
  body := hasBody_of Try.func27 (by kernel_rfl) (by kernel_rfl)
  ok := by
    intro args p d h hp
    split at h
    · rename_i o q r s; cases h; obtain ⟨h1, h2, h3, h4⟩ := hp _ rfl; exact (p27 o.v q.v r.v s.v h1 h2 h3 h4).congr (by simp [deqL, deq, s4]) (by simp [deq, deqL, decV])
    · cases h


theorem cOf_enc (op a b c : Int) (g : Good op a b c) : cOf op (c % 256) (c / 256 % 256) = c := by
  obtain ⟨g0, g1, g2, g3, g4, g5, g6, g7, g8, g9, g10⟩ := g
  unfold cOf
  cases h : inO op && (hN (formI op) && decide (lowI op < 0))
  · have : ¬ (lowI op < 0) := fun hl => by
      have := (lims op g0).2.2 hl
      simp [g0, this.2, hl] at h
    have := g10 this
    simp only [cond_false]; omega
  · simp only [Bool.and_eq_true, decide_eq_true_eq] at h
    have := g9 h.2.2
    simp only [cond_true, wrap_i16]; omega
theorem dec_enc (op a b c : Int) (h : chk op a b c = 0) : W8 op ∧ W8 (16 * a + b) ∧ W8 (c % 256) ∧ W8 (c / 256 % 256) ∧ dE op (16 * a + b) (c % 256) (c / 256 % 256) = 0 ∧ (16 * a + b) / 16 = a ∧ (16 * a + b) % 16 = b ∧ cOf op (c % 256) (c / 256 % 256) = c := by
  have g := good op a b c h
  have hc := cOf_enc op a b c g
  obtain ⟨g0, g1, g2, g3, g4, g5, g6, g7, g8, g9, g10⟩ := g
  have e1 : (16 * a + b) / 16 = a := by omega
  have e2 : (16 * a + b) % 16 = b := by omega
  refine ⟨⟨by omega, by omega⟩, ⟨by omega, by omega⟩, ⟨by omega, by omega⟩, ⟨by omega, by omega⟩, ?_, e1, e2, hc⟩
  unfold dE; rw [e1, e2, hc]; exact h
theorem enc_dec (o q r s : Int) (ho : W8 o) (hq : W8 q) (hr : W8 r) (hs : W8 s) : 16 * (q / 16) + q % 16 = q ∧ cOf o r s % 256 = r ∧ cOf o r s / 256 % 256 = s := by
  unfold W8 at *
  refine ⟨by omega, ?_⟩
  unfold cOf
  cases inO o && (hN (formI o) && decide (lowI o < 0))
  · simp only [cond_false]; omega
  · simp only [cond_true, wrap_i16]; omega
theorem p7 (op a b c : Int) : Pure1 Try.prog 7 [sI op a b c] (.bool (.sym true)) := by
  refine pure_of_exec (ct := ⟨[c13, c14, c26, c23, c24, c25], []⟩) [] Try.func7 rfl rfl rfl ?_
  refine cast_goal (p := ((!(Go.Proofs.Ytnoccknoaihjlaa.bY op a b c op == Go.Proofs.Ytnoccknoaihjlaa.bY op a b c op && (Go.Proofs.Ytnoccknoaihjlaa.bY op a b c ((16 : Int) * a + b) == Go.Proofs.Ytnoccknoaihjlaa.bY op a b c ((16 : Int) * a + b) && (Go.Proofs.Ytnoccknoaihjlaa.bY op a b c (c % (256 : Int)) == Go.Proofs.Ytnoccknoaihjlaa.bY op a b c (c % (256 : Int)) && Go.Proofs.Ytnoccknoaihjlaa.bY op a b c (c / (256 : Int) % (256 : Int)) == Go.Proofs.Ytnoccknoaihjlaa.bY op a b c (c / (256 : Int) % (256 : Int))))) || Go.Proofs.Ytnoccknoaihjlaa.chk op a b c != Go.Proofs.Ytnoccknoaihjlaa.chk op a b c) = Bool.true → Bool.false = Bool.true) ∧ ((!(Go.Proofs.Ytnoccknoaihjlaa.bY op a b c op == Go.Proofs.Ytnoccknoaihjlaa.bY op a b c op && (Go.Proofs.Ytnoccknoaihjlaa.bY op a b c ((16 : Int) * a + b) == Go.Proofs.Ytnoccknoaihjlaa.bY op a b c ((16 : Int) * a + b) && (Go.Proofs.Ytnoccknoaihjlaa.bY op a b c (c % (256 : Int)) == Go.Proofs.Ytnoccknoaihjlaa.bY op a b c (c % (256 : Int)) && Go.Proofs.Ytnoccknoaihjlaa.bY op a b c (c / (256 : Int) % (256 : Int)) == Go.Proofs.Ytnoccknoaihjlaa.bY op a b c (c / (256 : Int) % (256 : Int))))) || Go.Proofs.Ytnoccknoaihjlaa.chk op a b c != Go.Proofs.Ytnoccknoaihjlaa.chk op a b c) = Bool.false → ((Go.Proofs.Ytnoccknoaihjlaa.chk op a b c != (0 : Int)) = Bool.true → Bool.true = Bool.true) ∧ ((Go.Proofs.Ytnoccknoaihjlaa.chk op a b c != (0 : Int)) = Bool.false → (Go.Proofs.Ytnoccknoaihjlaa.W8 (Go.Proofs.Ytnoccknoaihjlaa.bY op a b c op) ∧ Go.Proofs.Ytnoccknoaihjlaa.W8 (Go.Proofs.Ytnoccknoaihjlaa.bY op a b c ((16 : Int) * a + b)) ∧ Go.Proofs.Ytnoccknoaihjlaa.W8 (Go.Proofs.Ytnoccknoaihjlaa.bY op a b c (c % (256 : Int))) ∧ Go.Proofs.Ytnoccknoaihjlaa.W8 (Go.Proofs.Ytnoccknoaihjlaa.bY op a b c (c / (256 : Int) % (256 : Int)))) ∧ (Go.Proofs.Ytnoccknoaihjlaa.dErr (Go.Proofs.Ytnoccknoaihjlaa.bY op a b c op) (Go.Proofs.Ytnoccknoaihjlaa.bY op a b c ((16 : Int) * a + b)) (Go.Proofs.Ytnoccknoaihjlaa.bY op a b c (c % (256 : Int))) (Go.Proofs.Ytnoccknoaihjlaa.bY op a b c (c / (256 : Int) % (256 : Int))) == (0 : Int) && (Go.Proofs.Ytnoccknoaihjlaa.dV (Go.Proofs.Ytnoccknoaihjlaa.bY op a b c op) (Go.Proofs.Ytnoccknoaihjlaa.bY op a b c ((16 : Int) * a + b)) (Go.Proofs.Ytnoccknoaihjlaa.bY op a b c (c % (256 : Int))) (Go.Proofs.Ytnoccknoaihjlaa.bY op a b c (c / (256 : Int) % (256 : Int))) (Go.Proofs.Ytnoccknoaihjlaa.bY op a b c op) == op && (Go.Proofs.Ytnoccknoaihjlaa.dV (Go.Proofs.Ytnoccknoaihjlaa.bY op a b c op) (Go.Proofs.Ytnoccknoaihjlaa.bY op a b c ((16 : Int) * a + b)) (Go.Proofs.Ytnoccknoaihjlaa.bY op a b c (c % (256 : Int))) (Go.Proofs.Ytnoccknoaihjlaa.bY op a b c (c / (256 : Int) % (256 : Int))) (Go.Proofs.Ytnoccknoaihjlaa.bY op a b c ((16 : Int) * a + b) / (16 : Int)) == a && (Go.Proofs.Ytnoccknoaihjlaa.dV (Go.Proofs.Ytnoccknoaihjlaa.bY op a b c op) (Go.Proofs.Ytnoccknoaihjlaa.bY op a b c ((16 : Int) * a + b)) (Go.Proofs.Ytnoccknoaihjlaa.bY op a b c (c % (256 : Int))) (Go.Proofs.Ytnoccknoaihjlaa.bY op a b c (c / (256 : Int) % (256 : Int))) (Go.Proofs.Ytnoccknoaihjlaa.bY op a b c ((16 : Int) * a + b) % (16 : Int)) == b && Go.Proofs.Ytnoccknoaihjlaa.dV (Go.Proofs.Ytnoccknoaihjlaa.bY op a b c op) (Go.Proofs.Ytnoccknoaihjlaa.bY op a b c ((16 : Int) * a + b)) (Go.Proofs.Ytnoccknoaihjlaa.bY op a b c (c % (256 : Int))) (Go.Proofs.Ytnoccknoaihjlaa.bY op a b c (c / (256 : Int) % (256 : Int))) (Go.Proofs.Ytnoccknoaihjlaa.cOf (Go.Proofs.Ytnoccknoaihjlaa.bY op a b c op) (Go.Proofs.Ytnoccknoaihjlaa.bY op a b c (c % (256 : Int))) (Go.Proofs.Ytnoccknoaihjlaa.bY op a b c (c / (256 : Int) % (256 : Int)))) == c)))) = Bool.true))) (by kernel_rfl) ?_
  refine ⟨fun h => by simp at h, fun _ => ⟨fun _ => rfl, fun h => ?_⟩⟩
  have h : chk op a b c = 0 := by simpa using h
  obtain ⟨w1, w2, w3, w4, h1, h2, h3, h4⟩ := dec_enc op a b c h
  simp only [bY, h, if_true]
  refine ⟨⟨w1, w2, w3, w4⟩, ?_⟩
  simp only [dErr, dV, h1, if_true, h2, h3, h4]; simp
theorem p8 (o q r s : Int) (ho : W8 o) (hq : W8 q) (hr : W8 r) (hs : W8 s) : Pure1 Try.prog 8 [s4 o q r s] (.bool (.sym true)) := by
  refine pure_of_exec (ct := ⟨[c13, c14, c26, c23, c27, c25], []⟩) [] Try.func8 rfl rfl rfl ?_
  refine cast_goal (p := (Go.Proofs.Ytnoccknoaihjlaa.W8 o ∧ Go.Proofs.Ytnoccknoaihjlaa.W8 q ∧ Go.Proofs.Ytnoccknoaihjlaa.W8 r ∧ Go.Proofs.Ytnoccknoaihjlaa.W8 s) ∧ (Go.Proofs.Ytnoccknoaihjlaa.W8 o ∧ Go.Proofs.Ytnoccknoaihjlaa.W8 q ∧ Go.Proofs.Ytnoccknoaihjlaa.W8 r ∧ Go.Proofs.Ytnoccknoaihjlaa.W8 s) ∧ ((!(Go.Proofs.Ytnoccknoaihjlaa.dV o q r s o == Go.Proofs.Ytnoccknoaihjlaa.dV o q r s o && (Go.Proofs.Ytnoccknoaihjlaa.dV o q r s (q / (16 : Int)) == Go.Proofs.Ytnoccknoaihjlaa.dV o q r s (q / (16 : Int)) && (Go.Proofs.Ytnoccknoaihjlaa.dV o q r s (q % (16 : Int)) == Go.Proofs.Ytnoccknoaihjlaa.dV o q r s (q % (16 : Int)) && Go.Proofs.Ytnoccknoaihjlaa.dV o q r s (Go.Proofs.Ytnoccknoaihjlaa.cOf o r s) == Go.Proofs.Ytnoccknoaihjlaa.dV o q r s (Go.Proofs.Ytnoccknoaihjlaa.cOf o r s)))) || Go.Proofs.Ytnoccknoaihjlaa.dErr o q r s != Go.Proofs.Ytnoccknoaihjlaa.dErr o q r s) = Bool.true → Bool.false = Bool.true) ∧ ((!(Go.Proofs.Ytnoccknoaihjlaa.dV o q r s o == Go.Proofs.Ytnoccknoaihjlaa.dV o q r s o && (Go.Proofs.Ytnoccknoaihjlaa.dV o q r s (q / (16 : Int)) == Go.Proofs.Ytnoccknoaihjlaa.dV o q r s (q / (16 : Int)) && (Go.Proofs.Ytnoccknoaihjlaa.dV o q r s (q % (16 : Int)) == Go.Proofs.Ytnoccknoaihjlaa.dV o q r s (q % (16 : Int)) && Go.Proofs.Ytnoccknoaihjlaa.dV o q r s (Go.Proofs.Ytnoccknoaihjlaa.cOf o r s) == Go.Proofs.Ytnoccknoaihjlaa.dV o q r s (Go.Proofs.Ytnoccknoaihjlaa.cOf o r s)))) || Go.Proofs.Ytnoccknoaihjlaa.dErr o q r s != Go.Proofs.Ytnoccknoaihjlaa.dErr o q r s) = Bool.false → (Go.Proofs.Ytnoccknoaihjlaa.dErr o q r s != (0 : Int) || Go.Proofs.Ytnoccknoaihjlaa.bY (Go.Proofs.Ytnoccknoaihjlaa.dV o q r s o) (Go.Proofs.Ytnoccknoaihjlaa.dV o q r s (q / (16 : Int))) (Go.Proofs.Ytnoccknoaihjlaa.dV o q r s (q % (16 : Int))) (Go.Proofs.Ytnoccknoaihjlaa.dV o q r s (Go.Proofs.Ytnoccknoaihjlaa.cOf o r s)) (Go.Proofs.Ytnoccknoaihjlaa.dV o q r s o) == o && (Go.Proofs.Ytnoccknoaihjlaa.bY (Go.Proofs.Ytnoccknoaihjlaa.dV o q r s o) (Go.Proofs.Ytnoccknoaihjlaa.dV o q r s (q / (16 : Int))) (Go.Proofs.Ytnoccknoaihjlaa.dV o q r s (q % (16 : Int))) (Go.Proofs.Ytnoccknoaihjlaa.dV o q r s (Go.Proofs.Ytnoccknoaihjlaa.cOf o r s)) ((16 : Int) * Go.Proofs.Ytnoccknoaihjlaa.dV o q r s (q / (16 : Int)) + Go.Proofs.Ytnoccknoaihjlaa.dV o q r s (q % (16 : Int))) == q && (Go.Proofs.Ytnoccknoaihjlaa.bY (Go.Proofs.Ytnoccknoaihjlaa.dV o q r s o) (Go.Proofs.Ytnoccknoaihjlaa.dV o q r s (q / (16 : Int))) (Go.Proofs.Ytnoccknoaihjlaa.dV o q r s (q % (16 : Int))) (Go.Proofs.Ytnoccknoaihjlaa.dV o q r s (Go.Proofs.Ytnoccknoaihjlaa.cOf o r s)) (Go.Proofs.Ytnoccknoaihjlaa.dV o q r s (Go.Proofs.Ytnoccknoaihjlaa.cOf o r s) % (256 : Int)) == r && Go.Proofs.Ytnoccknoaihjlaa.bY (Go.Proofs.Ytnoccknoaihjlaa.dV o q r s o) (Go.Proofs.Ytnoccknoaihjlaa.dV o q r s (q / (16 : Int))) (Go.Proofs.Ytnoccknoaihjlaa.dV o q r s (q % (16 : Int))) (Go.Proofs.Ytnoccknoaihjlaa.dV o q r s (Go.Proofs.Ytnoccknoaihjlaa.cOf o r s)) (Go.Proofs.Ytnoccknoaihjlaa.dV o q r s (Go.Proofs.Ytnoccknoaihjlaa.cOf o r s) / (256 : Int) % (256 : Int)) == s)) && Go.Proofs.Ytnoccknoaihjlaa.chk (Go.Proofs.Ytnoccknoaihjlaa.dV o q r s o) (Go.Proofs.Ytnoccknoaihjlaa.dV o q r s (q / (16 : Int))) (Go.Proofs.Ytnoccknoaihjlaa.dV o q r s (q % (16 : Int))) (Go.Proofs.Ytnoccknoaihjlaa.dV o q r s (Go.Proofs.Ytnoccknoaihjlaa.cOf o r s)) == (0 : Int)) = Bool.true)) (by kernel_rfl) ?_
  refine ⟨⟨ho, hq, hr, hs⟩, ⟨ho, hq, hr, hs⟩, fun h => by simp at h, fun _ => ?_⟩
  by_cases h1 : dE o q r s = 0
  · obtain ⟨e1, e2, e3⟩ := enc_dec o q r s ho hq hr hs
    have h2 : chk o (q / 16) (q % 16) (cOf o r s) = 0 := h1
    simp only [dErr, dV, h1, if_true, bY, h2, e1, e2, e3]; simp
  · simp [dErr, h1]

end Go.Proofs.Ytnoccknoaihjlaa
