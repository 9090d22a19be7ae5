import Derived.Test.YtnoccknoaihjlaaEng12
import Derived.Test.YtnoccknoaihjlaaI2
set_option linter.unusedVariables false
set_option linter.unusedSimpArgs false
set_option linter.unnecessarySimpa false
/- What the reference calculates. -/
namespace Go.Proofs.Ytnoccknoaihjlaa
open Go.DE
set_option maxRecDepth 100000
set_option linter.unusedVariables false
set_option linter.unusedSimpArgs false

def bitI (x i : Int) : Int := (x / 2 ^ i.toNat) % 2
theorem wrap_u32_id (x : Int) (h : W32 x) : IntKind.u32.wrap x = x := by unfold W32 at h; rw [IntKind.wrap_u32]; omega
theorem wrap_i64_id (x : Int) (h : -9223372036854775808 ≤ x ∧ x ≤ 9223372036854775807) : IntKind.i64.wrap x = x := by rw [IntKind.wrap_i64]; omega
theorem w32_i64 (x : Int) (h : W32 x) : IntKind.i64.wrap x = x := wrap_i64_id x (by unfold W32 at h; omega)
theorem ofInt_nat (x : Int) (h : W32 x) : (BitVec.ofInt 32 x).toNat = x.toNat := by
  unfold W32 at h
  rw [BitVec.toNat_ofInt]; simp; omega
theorem bits_and (x y : Int) (hx : W32 x) (hy : W32 y) : bitsI .and .u32 x y = ((x.toNat &&& y.toNat : Nat) : Int) := by
  have h : bitsI .and .u32 x y = IntKind.u32.wrap (BitVec.ofInt 32 x &&& BitVec.ofInt 32 y).toNat := rfl
  rw [h, BitVec.toNat_and, ofInt_nat x hx, ofInt_nat y hy]
  have : x.toNat &&& y.toNat < 2 ^ 32 := Nat.and_lt_two_pow _ (by unfold W32 at hy; omega)
  exact wrap_u32_id _ ⟨by omega, by omega⟩
theorem bits_or (x y : Int) (hx : W32 x) (hy : W32 y) : bitsI .or .u32 x y = ((x.toNat ||| y.toNat : Nat) : Int) := by
  have h : bitsI .or .u32 x y = IntKind.u32.wrap (BitVec.ofInt 32 x ||| BitVec.ofInt 32 y).toNat := rfl
  rw [h, BitVec.toNat_or, ofInt_nat x hx, ofInt_nat y hy]
  have : x.toNat ||| y.toNat < 2 ^ 32 := Nat.or_lt_two_pow (by unfold W32 at hx; omega) (by unfold W32 at hy; omega)
  exact wrap_u32_id _ ⟨by omega, by omega⟩
theorem bits_xor (x y : Int) (hx : W32 x) (hy : W32 y) : bitsI .xor .u32 x y = ((x.toNat ^^^ y.toNat : Nat) : Int) := by
  have h : bitsI .xor .u32 x y = IntKind.u32.wrap (BitVec.ofInt 32 x ^^^ BitVec.ofInt 32 y).toNat := rfl
  rw [h, BitVec.toNat_xor, ofInt_nat x hx, ofInt_nat y hy]
  have : x.toNat ^^^ y.toNat < 2 ^ 32 := Nat.xor_lt_two_pow (by unfold W32 at hx; omega) (by unfold W32 at hy; omega)
  exact wrap_u32_id _ ⟨by omega, by omega⟩
theorem shr_eq (x i : Int) (h : 0 ≤ i ∧ i ≤ 31) : shrI .u32 x i = x / 2 ^ i.toNat := by
  have : shrI .u32 x i = x.fdiv (2 ^ (min i.toNat 32)) := rfl
  rw [this, Nat.min_eq_left (by omega), Int.fdiv_eq_ediv_of_nonneg]
  exact Int.le_of_lt (Int.pow_pos (by omega))
theorem div_w32 (x : Int) (n : Nat) (h : W32 x) : W32 (x / 2 ^ n) := by
  unfold W32 at *
  have h2 : (1 : Int) ≤ 2 ^ n := Int.pow_pos (by omega)
  refine ⟨Int.ediv_nonneg h.1 (by omega), ?_⟩
  have := Int.ediv_le_self (2 ^ n) h.1
  omega
theorem shr_nat (x : Int) (n : Nat) (h : W32 x) : x / 2 ^ n = ((x.toNat >>> n : Nat) : Int) := by
  have : x = (x.toNat : Int) := by unfold W32 at h; omega
  rw [Nat.shiftRight_eq_div_pow]
  conv => lhs; rw [this]
  simp
theorem bitI_nat (x i : Int) (h : W32 x) : bitI x i = (((x.toNat >>> i.toNat) % 2 : Nat) : Int) := by
  unfold bitI; rw [shr_nat x _ h]; simp
theorem and_step (a b : Nat) : a &&& b = 2 * (a / 2 &&& b / 2) + (if a % 2 + b % 2 = 2 then 1 else 0) := by
  have h1 := Nat.div_add_mod (a &&& b) 2
  have h2 : (a &&& b) % 2 ^ 1 = (a % 2 ^ 1) &&& (b % 2 ^ 1) := Nat.and_mod_two_pow
  rw [Nat.and_div_two] at h1
  rw [← h1]
  simp at h2
  rw [h2]
  rcases Nat.mod_two_eq_zero_or_one a with h | h <;> rcases Nat.mod_two_eq_zero_or_one b with h' | h' <;> simp [h, h']
theorem or_step (a b : Nat) : a ||| b = 2 * (a / 2 ||| b / 2) + (if 0 < a % 2 + b % 2 then 1 else 0) := by
  have h1 := Nat.div_add_mod (a ||| b) 2
  have h2 : (a ||| b) % 2 ^ 1 = (a % 2 ^ 1) ||| (b % 2 ^ 1) := Nat.or_mod_two_pow
  rw [Nat.or_div_two] at h1
  rw [← h1]
  simp at h2
  rw [h2]
  rcases Nat.mod_two_eq_zero_or_one a with h | h <;> rcases Nat.mod_two_eq_zero_or_one b with h' | h' <;> simp [h, h']
theorem xor_step (a b : Nat) : a ^^^ b = 2 * (a / 2 ^^^ b / 2) + (if a % 2 + b % 2 = 1 then 1 else 0) := by
  have h1 := Nat.div_add_mod (a ^^^ b) 2
  have h2 : (a ^^^ b) % 2 ^ 1 = (a % 2 ^ 1) ^^^ (b % 2 ^ 1) := Nat.xor_mod_two_pow
  rw [Nat.xor_div_two] at h1
  rw [← h1]
  simp at h2
  rw [h2]
  rcases Nat.mod_two_eq_zero_or_one a with h | h <;> rcases Nat.mod_two_eq_zero_or_one b with h' | h' <;> simp [h, h']
theorem shr_half (a n : Nat) : (a >>> n) / 2 = a >>> (n + 1) := by rw [Nat.shiftRight_succ]
theorem shr_lt (a n : Nat) (h : a < 2 ^ 32) : a >>> n < 2 ^ 32 := by
  rw [Nat.shiftRight_eq_div_pow]; exact Nat.lt_of_le_of_lt (Nat.div_le_self _ _) h
/-- What one round of the loop over the bits does. -/
structure BitF (f : Nat → Nat → Nat) (c : Nat → Bool) : Prop where
  step : ∀ a b, f a b = 2 * f (a / 2) (b / 2) + (if c (a % 2 + b % 2) then 1 else 0)
  lt : ∀ a b, a < 2 ^ 32 → b < 2 ^ 32 → f a b < 2 ^ 32
  zero : f 0 0 = 0
theorem bitF_and : BitF (fun a b => a &&& b) (fun s => s == 2) := ⟨fun a b => by simp only [beq_iff_eq]; exact and_step a b, fun a b h1 h2 => Nat.and_lt_two_pow _ h2, rfl⟩
theorem bitF_or : BitF (fun a b => a ||| b) (fun s => decide (0 < s)) := ⟨fun a b => by simp only [decide_eq_true_eq]; exact or_step a b, fun a b h1 h2 => Nat.or_lt_two_pow h1 h2, rfl⟩
theorem bitF_xor : BitF (fun a b => a ^^^ b) (fun s => s == 1) := ⟨fun a b => by simp only [beq_iff_eq]; exact xor_step a b, fun a b h1 h2 => Nat.xor_lt_two_pow h1 h2, rfl⟩
def upTo (f : Nat → Nat → Nat) (x y i : Int) : Int := (f (x.toNat >>> (i + 1).toNat) (y.toNat >>> (i + 1).toNat) : Nat)
theorem BitF.first {f c} (h : BitF f c) (x y : Int) (hx : W32 x) (hy : W32 y) : (0 : Int) = upTo f x y 31 := by
  unfold W32 at hx hy
  have e (z : Nat) (hz : z < 2 ^ 32) : z >>> ((31 : Int) + 1).toNat = 0 := by
    show z >>> 32 = 0
    rw [Nat.shiftRight_eq_div_pow]; exact Nat.div_eq_of_lt hz
  unfold upTo
  rw [e _ (by omega), e _ (by omega), h.zero]; rfl
theorem BitF.next {f c} (h : BitF f c) (x y i : Int) (hx : W32 x) (hy : W32 y) (hi : 0 ≤ i) : upTo f x y (i - 1) = 2 * upTo f x y i + (if c (bitI x i + bitI y i).toNat then 1 else 0) := by
  unfold upTo
  have e1 : (i - 1 + 1).toNat = i.toNat := by omega
  have e2 : (i + 1).toNat = i.toNat + 1 := by omega
  rw [e1, e2, h.step, shr_half, shr_half, bitI_nat x i hx, bitI_nat y i hy, ← Int.natCast_add, Int.toNat_natCast]
  split <;> simp
theorem BitF.last {f c} (h : BitF f c) (x y i : Int) (hi : i = -1) : upTo f x y i = (f x.toNat y.toNat : Nat) := by subst hi; rfl
theorem BitF.bound {f c} (h : BitF f c) (x y i : Int) (hx : W32 x) (hy : W32 y) : 0 ≤ upTo f x y i ∧ upTo f x y i < 4294967296 := by
  unfold W32 at hx hy
  have := h.lt _ _ (shr_lt x.toNat (i + 1).toNat (by omega)) (shr_lt y.toNat (i + 1).toNat (by omega))
  unfold upTo; omega
theorem bitI_01 (x i : Int) : 0 ≤ bitI x i ∧ bitI x i ≤ 1 := by unfold bitI; omega
theorem shl_eq (x y : Int) (h : 0 ≤ y) : shlI .u32 x (y % 32) = x * 2 ^ (y % 32).toNat % 4294967296 := by
  have : shlI .u32 x (y % 32) = IntKind.u32.wrap (x * 2 ^ (min (y % 32).toNat 32)) := rfl
  rw [this, Nat.min_eq_left (by omega), IntKind.wrap_u32]
theorem mul_uns (x y : Int) (hx : W32 x) (hy : W32 y) : ((x % 65536 * y) % 4294967296 + (x / 65536 * y) % 65536 * 65536) % 4294967296 = (x * y) % 4294967296 := by
  have h : x * y = 65536 * (x / 65536 * y) + x % 65536 * y := by
    conv => lhs; rw [← Int.mul_ediv_add_emod x 65536]
    rw [Int.add_mul, Int.mul_assoc]
  rw [h]; generalize x / 65536 * y = p; generalize x % 65536 * y = q; omega

theorem p56 (x i : Int) (h : W32 x) (hi : 0 ≤ i ∧ i ≤ 31) : Pure1 Try.prog 56 [.int .u32 (.sym x), .int .i64 (.sym i)] (.int .i64 (.sym (bitI x i))) := by
  refine pure_of_exec (ct := ⟨[], []⟩) [] Try.func56 rfl rfl rfl ?_
  refine cast_goal (p := (0 : Int) ≤ i ∧ Go.IntKind.wrap Go.IntKind.i64 (Go.DE.bitsI Go.BinOp.and Go.IntKind.u32 (Go.DE.shrI Go.IntKind.u32 x i) (1 : Int)) = Go.Proofs.Ytnoccknoaihjlaa.bitI x i) (by kernel_rfl) ?_
  refine ⟨hi.1, ?_⟩
  have hw := div_w32 x i.toNat h
  rw [shr_eq x i hi, bits_and _ _ hw ⟨by omega, by omega⟩]
  have : (x / 2 ^ i.toNat).toNat &&& (1 : Int).toNat = (x / 2 ^ i.toNat).toNat % 2 := Nat.and_one_is_mod _
  rw [this, wrap_i64_id _ (by omega)]
  unfold bitI; unfold W32 at hw; omega
def c56 : PureC Try.prog where
  f := 56
  spec := fun args => match args with
    | [.int .u32 x, .int .i64 i] => some (some (W32 x.v ∧ 0 ≤ i.v ∧ i.v ≤ 31), .int .i64 (asL [x, i] (bitI x.v i.v)))
    | _ => none
  body := hasBody_of Try.func56 (by kernel_rfl) (by kernel_rfl)
  ok := by
    intro args p d h hp
    split at h
    · rename_i x i; cases h; exact (p56 x.v i.v (hp _ rfl).1 (hp _ rfl).2).congr (by simp [deqL, deq]) (by simp [deq])
    · cases h
def inv23 (k x y : Int) (f : Nat → Nat → Nat) : LInv where
  α := Int × Int
  S := fun a => ⟨[(0, .int .i64 (.lit k)), (1, .int .u32 (.sym x)), (2, .int .u32 (.sym y)), (12, .int .i64 (.sym a.2)), (13, .int .i64 (.sym a.1))], [], 0⟩
  p := fun a => -1 ≤ a.1 ∧ a.1 ≤ 31 ∧ a.2 = upTo f x y a.1
  m := fun a => (a.1 + 1).toNat
def inv32 (x y : Int) : LInv where
  α := Int × Int
  S := fun a => ⟨[(9, .int .i64 (.sym y)), (12, .int .i64 (.sym a.2)), (15, .int .i64 (.sym a.1))], [], 0⟩
  p := fun a => 0 ≤ a.1 ∧ a.1 ≤ y % 32 ∧ a.2 = x * 2 ^ a.1.toNat % 4294967296
  m := fun a => (y % 32 - a.1).toNat
def inv38 (x y : Int) : LInv where
  α := Int × Int
  S := fun a => ⟨[(9, .int .i64 (.sym y)), (12, .int .i64 (.sym a.2)), (16, .int .i64 (.sym a.1))], [], 0⟩
  p := fun a => 0 ≤ a.1 ∧ a.1 ≤ y % 32 ∧ a.2 = x / 2 ^ a.1.toNat
  m := fun a => (y % 32 - a.1).toNat
theorem uns_id (x : Int) (h : W32 x) : uns x = x := wrap_u32_id x h
theorem sgn0 (y : Int) (h : W32 y) : (sgn y == 0) = (y == 0) := by
  rw [sgn_eq y h, Bool.eq_iff_iff]; simp only [beq_iff_eq]; unfold W32 at h; split <;> omega

theorem p18_4 (x y : Int) (hx : W32 x) (hy : W32 y) : Pure1 Try.prog 18 [.int .i64 (.lit 4), .int .u32 (.sym x), .int .u32 (.sym y)] (.tup [.int .u32 (.sym (calV 4 x y)), .int .i64 (.sym (calE 4 y))]) := by
  refine pure_of_exec (ct := ⟨[c21, c22, c56], []⟩) [] Try.func18 rfl rfl rfl ?_
  refine cast_goal (p := ((0 : Int) ≤ x ∧ x < (4294967296 : Int)) ∧ ((0 : Int) ≤ y ∧ y < (4294967296 : Int)) ∧ Go.DE.okI64 (Go.IntKind.wrap Go.IntKind.i64 x + Go.IntKind.wrap Go.IntKind.i64 y) ∧ Go.Proofs.Ytnoccknoaihjlaa.uns (Go.IntKind.wrap Go.IntKind.i64 x + Go.IntKind.wrap Go.IntKind.i64 y) = Go.Proofs.Ytnoccknoaihjlaa.calV (4 : Int) x y ∧ (0 : Int) = Go.Proofs.Ytnoccknoaihjlaa.calE (4 : Int) y) (by kernel_rfl) ?_
  refine ⟨hx, hy, ?_⟩
  have hx' := hx
  have hy' := hy
  unfold W32 at hx' hy'
  simp only [w32_i64 x hx, w32_i64 y hy]
  refine ⟨by unfold okI64; omega, ?_, ?_⟩ <;> simp [calV, calE, uns]
theorem p18_5 (x y : Int) (hx : W32 x) (hy : W32 y) : Pure1 Try.prog 18 [.int .i64 (.lit 5), .int .u32 (.sym x), .int .u32 (.sym y)] (.tup [.int .u32 (.sym (calV 5 x y)), .int .i64 (.sym (calE 5 y))]) := by
  refine pure_of_exec (ct := ⟨[c21, c22, c56], []⟩) [] Try.func18 rfl rfl rfl ?_
  refine cast_goal (p := ((0 : Int) ≤ x ∧ x < (4294967296 : Int)) ∧ ((0 : Int) ≤ y ∧ y < (4294967296 : Int)) ∧ Go.DE.okI64 (Go.IntKind.wrap Go.IntKind.i64 x - Go.IntKind.wrap Go.IntKind.i64 y) ∧ Go.Proofs.Ytnoccknoaihjlaa.uns (Go.IntKind.wrap Go.IntKind.i64 x - Go.IntKind.wrap Go.IntKind.i64 y) = Go.Proofs.Ytnoccknoaihjlaa.calV (5 : Int) x y ∧ (0 : Int) = Go.Proofs.Ytnoccknoaihjlaa.calE (5 : Int) y) (by kernel_rfl) ?_
  refine ⟨hx, hy, ?_⟩
  have hx' := hx
  have hy' := hy
  unfold W32 at hx' hy'
  simp only [w32_i64 x hx, w32_i64 y hy]
  refine ⟨by unfold okI64; omega, ?_, ?_⟩ <;> simp [calV, calE, uns]
theorem p18_6 (x y : Int) (hx : W32 x) (hy : W32 y) : Pure1 Try.prog 18 [.int .i64 (.lit 6), .int .u32 (.sym x), .int .u32 (.sym y)] (.tup [.int .u32 (.sym (calV 6 x y)), .int .i64 (.sym (calE 6 y))]) := by
  refine pure_of_exec (ct := ⟨[c21, c22, c56], []⟩) [] Try.func18 rfl rfl rfl ?_
  refine cast_goal (p := ((0 : Int) ≤ x ∧ x < (4294967296 : Int)) ∧ ((0 : Int) ≤ y ∧ y < (4294967296 : Int)) ∧ Go.DE.okI64 (Int.tmod (Go.IntKind.wrap Go.IntKind.i64 x) (65536 : Int) * Go.IntKind.wrap Go.IntKind.i64 y) ∧ Go.DE.okI64 (Int.tdiv (Go.IntKind.wrap Go.IntKind.i64 x) (65536 : Int)) ∧ Go.DE.okI64 (Int.tdiv (Go.IntKind.wrap Go.IntKind.i64 x) (65536 : Int) * Go.IntKind.wrap Go.IntKind.i64 y) ∧ Go.DE.okI64 (Int.tmod (Int.tdiv (Go.IntKind.wrap Go.IntKind.i64 x) (65536 : Int) * Go.IntKind.wrap Go.IntKind.i64 y) (65536 : Int) * (65536 : Int)) ∧ Go.DE.okI64 (Int.tmod (Int.tmod (Go.IntKind.wrap Go.IntKind.i64 x) (65536 : Int) * Go.IntKind.wrap Go.IntKind.i64 y) (4294967296 : Int) + Int.tmod (Int.tdiv (Go.IntKind.wrap Go.IntKind.i64 x) (65536 : Int) * Go.IntKind.wrap Go.IntKind.i64 y) (65536 : Int) * (65536 : Int)) ∧ Go.Proofs.Ytnoccknoaihjlaa.uns (Int.tmod (Int.tmod (Go.IntKind.wrap Go.IntKind.i64 x) (65536 : Int) * Go.IntKind.wrap Go.IntKind.i64 y) (4294967296 : Int) + Int.tmod (Int.tdiv (Go.IntKind.wrap Go.IntKind.i64 x) (65536 : Int) * Go.IntKind.wrap Go.IntKind.i64 y) (65536 : Int) * (65536 : Int)) = Go.Proofs.Ytnoccknoaihjlaa.calV (6 : Int) x y ∧ (0 : Int) = Go.Proofs.Ytnoccknoaihjlaa.calE (6 : Int) y) (by kernel_rfl) ?_
  refine ⟨hx, hy, ?_⟩
  have hx' := hx
  have hy' := hy
  unfold W32 at hx' hy'
  simp only [w32_i64 x hx, w32_i64 y hy]
  have h1 : 0 ≤ x % 65536 * y := Int.mul_nonneg (by omega) hy'.1
  have h2 : x % 65536 * y ≤ 65535 * y := Int.mul_le_mul_of_nonneg_right (by omega) hy'.1
  have h3 : 0 ≤ x / 65536 * y := Int.mul_nonneg (by omega) hy'.1
  have h4 : x / 65536 * y ≤ 65535 * y := Int.mul_le_mul_of_nonneg_right (by omega) hy'.1
  rw [Int.tmod_eq_emod_of_nonneg hx'.1, Int.tdiv_eq_ediv_of_nonneg hx'.1, Int.tmod_eq_emod_of_nonneg h1, Int.tmod_eq_emod_of_nonneg h3]
  refine ⟨by unfold okI64; omega, by unfold okI64; omega, by unfold okI64; omega, by unfold okI64; omega, by unfold okI64; omega, ?_, by simp [calE]⟩
  simp [calV, uns, IntKind.wrap_u32]
  simpa [IntKind.wrap_u32] using mul_uns x y hx hy
theorem p18_7 (x y : Int) (hx : W32 x) (hy : W32 y) : Pure1 Try.prog 18 [.int .i64 (.lit 7), .int .u32 (.sym x), .int .u32 (.sym y)] (.tup [.int .u32 (.sym (calV 7 x y)), .int .i64 (.sym (calE 7 y))]) := by
  refine pure_of_exec (ct := ⟨[c21, c22, c56], []⟩) [] Try.func18 rfl rfl rfl ?_
  refine cast_goal (p := ((0 : Int) ≤ x ∧ x < (4294967296 : Int)) ∧ ((0 : Int) ≤ y ∧ y < (4294967296 : Int)) ∧ ((Go.Proofs.Ytnoccknoaihjlaa.sgn y == (0 : Int)) = Bool.true → (0 : Int) = Go.Proofs.Ytnoccknoaihjlaa.calV (7 : Int) x y ∧ (38 : Int) = Go.Proofs.Ytnoccknoaihjlaa.calE (7 : Int) y) ∧ ((Go.Proofs.Ytnoccknoaihjlaa.sgn y == (0 : Int)) = Bool.false → Go.Proofs.Ytnoccknoaihjlaa.sgn y ≠ (0 : Int) ∧ Go.DE.okI64 (Int.tdiv (Go.Proofs.Ytnoccknoaihjlaa.sgn x) (Go.Proofs.Ytnoccknoaihjlaa.sgn y)) ∧ Go.Proofs.Ytnoccknoaihjlaa.uns (Int.tdiv (Go.Proofs.Ytnoccknoaihjlaa.sgn x) (Go.Proofs.Ytnoccknoaihjlaa.sgn y)) = Go.Proofs.Ytnoccknoaihjlaa.calV (7 : Int) x y ∧ (0 : Int) = Go.Proofs.Ytnoccknoaihjlaa.calE (7 : Int) y)) (by kernel_rfl) ?_
  refine ⟨hx, hy, ?_⟩
  have hx' := hx
  have hy' := hy
  unfold W32 at hx' hy'
  have hs := sgn_ok x hx
  have hd := tdiv_ok (sgn x) (sgn y) hs
  rw [sgn0 y hy]
  refine ⟨fun h => ?_, fun h => ?_⟩
  · have h : y = 0 := by simpa using h
    simp [calV, calE, h]
  have h : y ≠ 0 := by simpa using h
  have hn := sgn_ne y hy h
  refine ⟨hn, by unfold okI64; omega, ?_, ?_⟩ <;> simp [calV, calE, h]
theorem p18_8 (x y : Int) (hx : W32 x) (hy : W32 y) : Pure1 Try.prog 18 [.int .i64 (.lit 8), .int .u32 (.sym x), .int .u32 (.sym y)] (.tup [.int .u32 (.sym (calV 8 x y)), .int .i64 (.sym (calE 8 y))]) := by
  refine pure_of_exec (ct := ⟨[c21, c22, c56], []⟩) [] Try.func18 rfl rfl rfl ?_
  refine cast_goal (p := ((0 : Int) ≤ x ∧ x < (4294967296 : Int)) ∧ ((0 : Int) ≤ y ∧ y < (4294967296 : Int)) ∧ ((Go.Proofs.Ytnoccknoaihjlaa.sgn y == (0 : Int)) = Bool.true → (0 : Int) = Go.Proofs.Ytnoccknoaihjlaa.calV (8 : Int) x y ∧ (38 : Int) = Go.Proofs.Ytnoccknoaihjlaa.calE (8 : Int) y) ∧ ((Go.Proofs.Ytnoccknoaihjlaa.sgn y == (0 : Int)) = Bool.false → Go.Proofs.Ytnoccknoaihjlaa.sgn y ≠ (0 : Int) ∧ Go.DE.okI64 (Int.tdiv (Go.Proofs.Ytnoccknoaihjlaa.sgn x) (Go.Proofs.Ytnoccknoaihjlaa.sgn y)) ∧ Go.DE.okI64 (Go.Proofs.Ytnoccknoaihjlaa.sgn y * Int.tdiv (Go.Proofs.Ytnoccknoaihjlaa.sgn x) (Go.Proofs.Ytnoccknoaihjlaa.sgn y)) ∧ Go.DE.okI64 (Go.Proofs.Ytnoccknoaihjlaa.sgn x - Go.Proofs.Ytnoccknoaihjlaa.sgn y * Int.tdiv (Go.Proofs.Ytnoccknoaihjlaa.sgn x) (Go.Proofs.Ytnoccknoaihjlaa.sgn y)) ∧ Go.Proofs.Ytnoccknoaihjlaa.uns (Go.Proofs.Ytnoccknoaihjlaa.sgn x - Go.Proofs.Ytnoccknoaihjlaa.sgn y * Int.tdiv (Go.Proofs.Ytnoccknoaihjlaa.sgn x) (Go.Proofs.Ytnoccknoaihjlaa.sgn y)) = Go.Proofs.Ytnoccknoaihjlaa.calV (8 : Int) x y ∧ (0 : Int) = Go.Proofs.Ytnoccknoaihjlaa.calE (8 : Int) y)) (by kernel_rfl) ?_
  refine ⟨hx, hy, ?_⟩
  have hx' := hx
  have hy' := hy
  unfold W32 at hx' hy'
  have hs := sgn_ok x hx
  have hd := tdiv_ok (sgn x) (sgn y) hs
  rw [sgn0 y hy]
  refine ⟨fun h => ?_, fun h => ?_⟩
  · have h : y = 0 := by simpa using h
    simp [calV, calE, h]
  have h : y ≠ 0 := by simpa using h
  have hn := sgn_ne y hy h
  have hm := Int.tmod_def (sgn x) (sgn y)
  have hb : (sgn x).tmod (sgn y) = sgn x - sgn y * (sgn x).tdiv (sgn y) := hm
  have hl : ((sgn x).tmod (sgn y)).natAbs ≤ (sgn x).natAbs := by rw [Int.natAbs_tmod]; exact Nat.mod_le _ _
  refine ⟨hn, by unfold okI64; omega, by unfold okI64; omega, by unfold okI64; omega, ?_, ?_⟩
  · rw [← hb]; simp [calV, h]
  · simp [calE, h]
theorem p18_9 (x y : Int) (hx : W32 x) (hy : W32 y) : Pure1 Try.prog 18 [.int .i64 (.lit 9), .int .u32 (.sym x), .int .u32 (.sym y)] (.tup [.int .u32 (.sym (calV 9 x y)), .int .i64 (.sym (calE 9 y))]) := by
  refine pure_of_exec (ct := ⟨[c21, c22, c56], []⟩) [(23, inv23 9 x y (fun a b => a &&& b))] Try.func18 rfl rfl rfl ?_
  refine cast_goal (p := ((0 : Int) ≤ x ∧ x < (4294967296 : Int)) ∧ ((0 : Int) ≤ y ∧ y < (4294967296 : Int)) ∧ (∃ (a : Go.DE.LInv.α (Go.Proofs.Ytnoccknoaihjlaa.inv23 (9 : Int) x y fun (a b : Nat) => a &&& b)), (x = x ∧ y = y ∧ (0 : Int) = Prod.snd a ∧ (31 : Int) = Prod.fst a) ∧ (-1 : Int) ≤ Prod.fst a ∧ Prod.fst a ≤ (31 : Int) ∧ Prod.snd a = Go.Proofs.Ytnoccknoaihjlaa.upTo (fun (a b : Nat) => a &&& b) x y (Prod.fst a)) ∧ ∀ (a : Go.DE.LInv.α (Go.Proofs.Ytnoccknoaihjlaa.inv23 (9 : Int) x y fun (a b : Nat) => a &&& b)), (-1 : Int) ≤ Prod.fst a ∧ Prod.fst a ≤ (31 : Int) ∧ Prod.snd a = Go.Proofs.Ytnoccknoaihjlaa.upTo (fun (a b : Nat) => a &&& b) x y (Prod.fst a) → (Decidable.decide ((0 : Int) ≤ Prod.fst a) = Bool.true → (Go.Proofs.Ytnoccknoaihjlaa.W32 x ∧ (0 : Int) ≤ Prod.fst a ∧ Prod.fst a ≤ (31 : Int)) ∧ (Go.Proofs.Ytnoccknoaihjlaa.W32 y ∧ (0 : Int) ≤ Prod.fst a ∧ Prod.fst a ≤ (31 : Int)) ∧ Go.DE.okI64 (Go.Proofs.Ytnoccknoaihjlaa.bitI x (Prod.fst a) + Go.Proofs.Ytnoccknoaihjlaa.bitI y (Prod.fst a)) ∧ Go.DE.okI64 ((2 : Int) * Prod.snd a) ∧ ((Go.Proofs.Ytnoccknoaihjlaa.bitI x (Prod.fst a) + Go.Proofs.Ytnoccknoaihjlaa.bitI y (Prod.fst a) == (2 : Int)) = Bool.true → Go.DE.okI64 ((2 : Int) * Prod.snd a + (1 : Int)) ∧ Go.DE.okI64 (Prod.fst a - (1 : Int)) ∧ ∃ (a' : Go.DE.LInv.α (Go.Proofs.Ytnoccknoaihjlaa.inv23 (9 : Int) x y fun (a b : Nat) => a &&& b)), (x = x ∧ y = y ∧ (2 : Int) * Prod.snd a + (1 : Int) = Prod.snd a' ∧ Prod.fst a - (1 : Int) = Prod.fst a') ∧ ((-1 : Int) ≤ Prod.fst a' ∧ Prod.fst a' ≤ (31 : Int) ∧ Prod.snd a' = Go.Proofs.Ytnoccknoaihjlaa.upTo (fun (a b : Nat) => a &&& b) x y (Prod.fst a')) ∧ Int.toNat (Prod.fst a' + (1 : Int)) < Int.toNat (Prod.fst a + (1 : Int))) ∧ ((Go.Proofs.Ytnoccknoaihjlaa.bitI x (Prod.fst a) + Go.Proofs.Ytnoccknoaihjlaa.bitI y (Prod.fst a) == (2 : Int)) = Bool.false → Go.DE.okI64 (Prod.fst a - (1 : Int)) ∧ ∃ (a' : Go.DE.LInv.α (Go.Proofs.Ytnoccknoaihjlaa.inv23 (9 : Int) x y fun (a b : Nat) => a &&& b)), (x = x ∧ y = y ∧ (2 : Int) * Prod.snd a = Prod.snd a' ∧ Prod.fst a - (1 : Int) = Prod.fst a') ∧ ((-1 : Int) ≤ Prod.fst a' ∧ Prod.fst a' ≤ (31 : Int) ∧ Prod.snd a' = Go.Proofs.Ytnoccknoaihjlaa.upTo (fun (a b : Nat) => a &&& b) x y (Prod.fst a')) ∧ Int.toNat (Prod.fst a' + (1 : Int)) < Int.toNat (Prod.fst a + (1 : Int)))) ∧ (Decidable.decide ((0 : Int) ≤ Prod.fst a) = Bool.false → Go.Proofs.Ytnoccknoaihjlaa.uns (Prod.snd a) = Go.Proofs.Ytnoccknoaihjlaa.calV (9 : Int) x y ∧ (0 : Int) = Go.Proofs.Ytnoccknoaihjlaa.calE (9 : Int) y)) (by kernel_rfl) ?_
  refine ⟨hx, hy, ?_⟩
  have hx' := hx
  have hy' := hy
  unfold W32 at hx' hy'
  refine ⟨⟨(31, 0), ⟨rfl, rfl, rfl, rfl⟩, by omega, by omega, bitF_and.first x y hx hy⟩, ?_⟩
  rintro ⟨i, out⟩ ⟨h1, h2, h3⟩
  have h1 : -1 ≤ i := h1
  have h2 : i ≤ 31 := h2
  have h3 : out = upTo _ x y i := h3
  have hb := bitF_and.bound x y i hx hy
  rw [← h3] at hb
  have b1 := bitI_01 x i
  have b2 := bitI_01 y i
  refine ⟨fun h => ?_, fun h => ?_⟩
  · have h : 0 ≤ i := of_decide_eq_true h
    have hn := bitF_and.next x y i hx hy h
    rw [← h3] at hn
    refine ⟨⟨hx, h, h2⟩, ⟨hy, h, h2⟩, by unfold okI64; simp only; omega, by unfold okI64; simp only; omega, fun hc => ⟨by unfold okI64; simp only; omega, by unfold okI64; simp only; omega, (i - 1, 2 * out + 1), ⟨rfl, rfl, rfl, rfl⟩, ⟨by simp only; omega, by simp only; omega, ?_⟩, by simp only; omega⟩, fun hc => ⟨by unfold okI64; simp only; omega, (i - 1, 2 * out), ⟨rfl, rfl, rfl, rfl⟩, ⟨by simp only; omega, by simp only; omega, ?_⟩, by simp only; omega⟩⟩
    · show 2 * out + 1 = upTo _ x y (i - 1)
      rw [hn, if_pos]
      simp only [beq_iff_eq] at hc ⊢; omega
    · show 2 * out = upTo _ x y (i - 1)
      rw [hn, if_neg]
      · omega
      · simp only [beq_iff_eq, beq_eq_false_iff_ne, decide_eq_false_iff_not] at hc ⊢; omega
  · have h : i = -1 := by have := of_decide_eq_false h; simp only at this; omega
    have hl := bitF_and.last x y i h
    have e := bits_and x y hx hy
    refine ⟨?_, rfl⟩
    show uns out = _
    rw [uns_id out hb, h3, hl]
    simp [calV, e]
theorem p18_10 (x y : Int) (hx : W32 x) (hy : W32 y) : Pure1 Try.prog 18 [.int .i64 (.lit 10), .int .u32 (.sym x), .int .u32 (.sym y)] (.tup [.int .u32 (.sym (calV 10 x y)), .int .i64 (.sym (calE 10 y))]) := by
  refine pure_of_exec (ct := ⟨[c21, c22, c56], []⟩) [(23, inv23 10 x y (fun a b => a ||| b))] Try.func18 rfl rfl rfl ?_
  refine cast_goal (p := ((0 : Int) ≤ x ∧ x < (4294967296 : Int)) ∧ ((0 : Int) ≤ y ∧ y < (4294967296 : Int)) ∧ (∃ (a : Go.DE.LInv.α (Go.Proofs.Ytnoccknoaihjlaa.inv23 (10 : Int) x y fun (a b : Nat) => a ||| b)), (x = x ∧ y = y ∧ (0 : Int) = Prod.snd a ∧ (31 : Int) = Prod.fst a) ∧ (-1 : Int) ≤ Prod.fst a ∧ Prod.fst a ≤ (31 : Int) ∧ Prod.snd a = Go.Proofs.Ytnoccknoaihjlaa.upTo (fun (a b : Nat) => a ||| b) x y (Prod.fst a)) ∧ ∀ (a : Go.DE.LInv.α (Go.Proofs.Ytnoccknoaihjlaa.inv23 (10 : Int) x y fun (a b : Nat) => a ||| b)), (-1 : Int) ≤ Prod.fst a ∧ Prod.fst a ≤ (31 : Int) ∧ Prod.snd a = Go.Proofs.Ytnoccknoaihjlaa.upTo (fun (a b : Nat) => a ||| b) x y (Prod.fst a) → (Decidable.decide ((0 : Int) ≤ Prod.fst a) = Bool.true → (Go.Proofs.Ytnoccknoaihjlaa.W32 x ∧ (0 : Int) ≤ Prod.fst a ∧ Prod.fst a ≤ (31 : Int)) ∧ (Go.Proofs.Ytnoccknoaihjlaa.W32 y ∧ (0 : Int) ≤ Prod.fst a ∧ Prod.fst a ≤ (31 : Int)) ∧ Go.DE.okI64 (Go.Proofs.Ytnoccknoaihjlaa.bitI x (Prod.fst a) + Go.Proofs.Ytnoccknoaihjlaa.bitI y (Prod.fst a)) ∧ Go.DE.okI64 ((2 : Int) * Prod.snd a) ∧ (Decidable.decide ((0 : Int) < Go.Proofs.Ytnoccknoaihjlaa.bitI x (Prod.fst a) + Go.Proofs.Ytnoccknoaihjlaa.bitI y (Prod.fst a)) = Bool.true → Go.DE.okI64 ((2 : Int) * Prod.snd a + (1 : Int)) ∧ Go.DE.okI64 (Prod.fst a - (1 : Int)) ∧ ∃ (a' : Go.DE.LInv.α (Go.Proofs.Ytnoccknoaihjlaa.inv23 (10 : Int) x y fun (a b : Nat) => a ||| b)), (x = x ∧ y = y ∧ (2 : Int) * Prod.snd a + (1 : Int) = Prod.snd a' ∧ Prod.fst a - (1 : Int) = Prod.fst a') ∧ ((-1 : Int) ≤ Prod.fst a' ∧ Prod.fst a' ≤ (31 : Int) ∧ Prod.snd a' = Go.Proofs.Ytnoccknoaihjlaa.upTo (fun (a b : Nat) => a ||| b) x y (Prod.fst a')) ∧ Int.toNat (Prod.fst a' + (1 : Int)) < Int.toNat (Prod.fst a + (1 : Int))) ∧ (Decidable.decide ((0 : Int) < Go.Proofs.Ytnoccknoaihjlaa.bitI x (Prod.fst a) + Go.Proofs.Ytnoccknoaihjlaa.bitI y (Prod.fst a)) = Bool.false → Go.DE.okI64 (Prod.fst a - (1 : Int)) ∧ ∃ (a' : Go.DE.LInv.α (Go.Proofs.Ytnoccknoaihjlaa.inv23 (10 : Int) x y fun (a b : Nat) => a ||| b)), (x = x ∧ y = y ∧ (2 : Int) * Prod.snd a = Prod.snd a' ∧ Prod.fst a - (1 : Int) = Prod.fst a') ∧ ((-1 : Int) ≤ Prod.fst a' ∧ Prod.fst a' ≤ (31 : Int) ∧ Prod.snd a' = Go.Proofs.Ytnoccknoaihjlaa.upTo (fun (a b : Nat) => a ||| b) x y (Prod.fst a')) ∧ Int.toNat (Prod.fst a' + (1 : Int)) < Int.toNat (Prod.fst a + (1 : Int)))) ∧ (Decidable.decide ((0 : Int) ≤ Prod.fst a) = Bool.false → Go.Proofs.Ytnoccknoaihjlaa.uns (Prod.snd a) = Go.Proofs.Ytnoccknoaihjlaa.calV (10 : Int) x y ∧ (0 : Int) = Go.Proofs.Ytnoccknoaihjlaa.calE (10 : Int) y)) (by kernel_rfl) ?_
  refine ⟨hx, hy, ?_⟩
  have hx' := hx
  have hy' := hy
  unfold W32 at hx' hy'
  refine ⟨⟨(31, 0), ⟨rfl, rfl, rfl, rfl⟩, by omega, by omega, bitF_or.first x y hx hy⟩, ?_⟩
  rintro ⟨i, out⟩ ⟨h1, h2, h3⟩
  have h1 : -1 ≤ i := h1
  have h2 : i ≤ 31 := h2
  have h3 : out = upTo _ x y i := h3
  have hb := bitF_or.bound x y i hx hy
  rw [← h3] at hb
  have b1 := bitI_01 x i
  have b2 := bitI_01 y i
  refine ⟨fun h => ?_, fun h => ?_⟩
  · have h : 0 ≤ i := of_decide_eq_true h
    have hn := bitF_or.next x y i hx hy h
    rw [← h3] at hn
    refine ⟨⟨hx, h, h2⟩, ⟨hy, h, h2⟩, by unfold okI64; simp only; omega, by unfold okI64; simp only; omega, fun hc => ⟨by unfold okI64; simp only; omega, by unfold okI64; simp only; omega, (i - 1, 2 * out + 1), ⟨rfl, rfl, rfl, rfl⟩, ⟨by simp only; omega, by simp only; omega, ?_⟩, by simp only; omega⟩, fun hc => ⟨by unfold okI64; simp only; omega, (i - 1, 2 * out), ⟨rfl, rfl, rfl, rfl⟩, ⟨by simp only; omega, by simp only; omega, ?_⟩, by simp only; omega⟩⟩
    · show 2 * out + 1 = upTo _ x y (i - 1)
      rw [hn, if_pos]
      simp only [decide_eq_true_eq] at hc ⊢; omega
    · show 2 * out = upTo _ x y (i - 1)
      rw [hn, if_neg]
      · omega
      · simp only [decide_eq_true_eq, beq_eq_false_iff_ne, decide_eq_false_iff_not] at hc ⊢; omega
  · have h : i = -1 := by have := of_decide_eq_false h; simp only at this; omega
    have hl := bitF_or.last x y i h
    have e := bits_or x y hx hy
    refine ⟨?_, rfl⟩
    show uns out = _
    rw [uns_id out hb, h3, hl]
    simp [calV, e]
theorem p18_11 (x y : Int) (hx : W32 x) (hy : W32 y) : Pure1 Try.prog 18 [.int .i64 (.lit 11), .int .u32 (.sym x), .int .u32 (.sym y)] (.tup [.int .u32 (.sym (calV 11 x y)), .int .i64 (.sym (calE 11 y))]) := by
  refine pure_of_exec (ct := ⟨[c21, c22, c56], []⟩) [(23, inv23 11 x y (fun a b => a ^^^ b))] Try.func18 rfl rfl rfl ?_
  refine cast_goal (p := ((0 : Int) ≤ x ∧ x < (4294967296 : Int)) ∧ ((0 : Int) ≤ y ∧ y < (4294967296 : Int)) ∧ (∃ (a : Go.DE.LInv.α (Go.Proofs.Ytnoccknoaihjlaa.inv23 (11 : Int) x y fun (a b : Nat) => a ^^^ b)), (x = x ∧ y = y ∧ (0 : Int) = Prod.snd a ∧ (31 : Int) = Prod.fst a) ∧ (-1 : Int) ≤ Prod.fst a ∧ Prod.fst a ≤ (31 : Int) ∧ Prod.snd a = Go.Proofs.Ytnoccknoaihjlaa.upTo (fun (a b : Nat) => a ^^^ b) x y (Prod.fst a)) ∧ ∀ (a : Go.DE.LInv.α (Go.Proofs.Ytnoccknoaihjlaa.inv23 (11 : Int) x y fun (a b : Nat) => a ^^^ b)), (-1 : Int) ≤ Prod.fst a ∧ Prod.fst a ≤ (31 : Int) ∧ Prod.snd a = Go.Proofs.Ytnoccknoaihjlaa.upTo (fun (a b : Nat) => a ^^^ b) x y (Prod.fst a) → (Decidable.decide ((0 : Int) ≤ Prod.fst a) = Bool.true → (Go.Proofs.Ytnoccknoaihjlaa.W32 x ∧ (0 : Int) ≤ Prod.fst a ∧ Prod.fst a ≤ (31 : Int)) ∧ (Go.Proofs.Ytnoccknoaihjlaa.W32 y ∧ (0 : Int) ≤ Prod.fst a ∧ Prod.fst a ≤ (31 : Int)) ∧ Go.DE.okI64 (Go.Proofs.Ytnoccknoaihjlaa.bitI x (Prod.fst a) + Go.Proofs.Ytnoccknoaihjlaa.bitI y (Prod.fst a)) ∧ Go.DE.okI64 ((2 : Int) * Prod.snd a) ∧ ((Go.Proofs.Ytnoccknoaihjlaa.bitI x (Prod.fst a) + Go.Proofs.Ytnoccknoaihjlaa.bitI y (Prod.fst a) == (1 : Int)) = Bool.true → Go.DE.okI64 ((2 : Int) * Prod.snd a + (1 : Int)) ∧ Go.DE.okI64 (Prod.fst a - (1 : Int)) ∧ ∃ (a' : Go.DE.LInv.α (Go.Proofs.Ytnoccknoaihjlaa.inv23 (11 : Int) x y fun (a b : Nat) => a ^^^ b)), (x = x ∧ y = y ∧ (2 : Int) * Prod.snd a + (1 : Int) = Prod.snd a' ∧ Prod.fst a - (1 : Int) = Prod.fst a') ∧ ((-1 : Int) ≤ Prod.fst a' ∧ Prod.fst a' ≤ (31 : Int) ∧ Prod.snd a' = Go.Proofs.Ytnoccknoaihjlaa.upTo (fun (a b : Nat) => a ^^^ b) x y (Prod.fst a')) ∧ Int.toNat (Prod.fst a' + (1 : Int)) < Int.toNat (Prod.fst a + (1 : Int))) ∧ ((Go.Proofs.Ytnoccknoaihjlaa.bitI x (Prod.fst a) + Go.Proofs.Ytnoccknoaihjlaa.bitI y (Prod.fst a) == (1 : Int)) = Bool.false → Go.DE.okI64 (Prod.fst a - (1 : Int)) ∧ ∃ (a' : Go.DE.LInv.α (Go.Proofs.Ytnoccknoaihjlaa.inv23 (11 : Int) x y fun (a b : Nat) => a ^^^ b)), (x = x ∧ y = y ∧ (2 : Int) * Prod.snd a = Prod.snd a' ∧ Prod.fst a - (1 : Int) = Prod.fst a') ∧ ((-1 : Int) ≤ Prod.fst a' ∧ Prod.fst a' ≤ (31 : Int) ∧ Prod.snd a' = Go.Proofs.Ytnoccknoaihjlaa.upTo (fun (a b : Nat) => a ^^^ b) x y (Prod.fst a')) ∧ Int.toNat (Prod.fst a' + (1 : Int)) < Int.toNat (Prod.fst a + (1 : Int)))) ∧ (Decidable.decide ((0 : Int) ≤ Prod.fst a) = Bool.false → Go.Proofs.Ytnoccknoaihjlaa.uns (Prod.snd a) = Go.Proofs.Ytnoccknoaihjlaa.calV (11 : Int) x y ∧ (0 : Int) = Go.Proofs.Ytnoccknoaihjlaa.calE (11 : Int) y)) (by kernel_rfl) ?_
  refine ⟨hx, hy, ?_⟩
  have hx' := hx
  have hy' := hy
  unfold W32 at hx' hy'
  refine ⟨⟨(31, 0), ⟨rfl, rfl, rfl, rfl⟩, by omega, by omega, bitF_xor.first x y hx hy⟩, ?_⟩
  rintro ⟨i, out⟩ ⟨h1, h2, h3⟩
  have h1 : -1 ≤ i := h1
  have h2 : i ≤ 31 := h2
  have h3 : out = upTo _ x y i := h3
  have hb := bitF_xor.bound x y i hx hy
  rw [← h3] at hb
  have b1 := bitI_01 x i
  have b2 := bitI_01 y i
  refine ⟨fun h => ?_, fun h => ?_⟩
  · have h : 0 ≤ i := of_decide_eq_true h
    have hn := bitF_xor.next x y i hx hy h
    rw [← h3] at hn
    refine ⟨⟨hx, h, h2⟩, ⟨hy, h, h2⟩, by unfold okI64; simp only; omega, by unfold okI64; simp only; omega, fun hc => ⟨by unfold okI64; simp only; omega, by unfold okI64; simp only; omega, (i - 1, 2 * out + 1), ⟨rfl, rfl, rfl, rfl⟩, ⟨by simp only; omega, by simp only; omega, ?_⟩, by simp only; omega⟩, fun hc => ⟨by unfold okI64; simp only; omega, (i - 1, 2 * out), ⟨rfl, rfl, rfl, rfl⟩, ⟨by simp only; omega, by simp only; omega, ?_⟩, by simp only; omega⟩⟩
    · show 2 * out + 1 = upTo _ x y (i - 1)
      rw [hn, if_pos]
      simp only [beq_iff_eq] at hc ⊢; omega
    · show 2 * out = upTo _ x y (i - 1)
      rw [hn, if_neg]
      · omega
      · simp only [beq_iff_eq, beq_eq_false_iff_ne, decide_eq_false_iff_not] at hc ⊢; omega
  · have h : i = -1 := by have := of_decide_eq_false h; simp only at this; omega
    have hl := bitF_xor.last x y i h
    have e := bits_xor x y hx hy
    refine ⟨?_, rfl⟩
    show uns out = _
    rw [uns_id out hb, h3, hl]
    simp [calV, e]
theorem p18_12 (x y : Int) (hx : W32 x) (hy : W32 y) : Pure1 Try.prog 18 [.int .i64 (.lit 12), .int .u32 (.sym x), .int .u32 (.sym y)] (.tup [.int .u32 (.sym (calV 12 x y)), .int .i64 (.sym (calE 12 y))]) := by
  refine pure_of_exec (ct := ⟨[c21, c22, c56], []⟩) [(32, inv32 x y)] Try.func18 rfl rfl rfl ?_
  refine cast_goal (p := ((0 : Int) ≤ x ∧ x < (4294967296 : Int)) ∧ ((0 : Int) ≤ y ∧ y < (4294967296 : Int)) ∧ (∃ (a : Go.DE.LInv.α (Go.Proofs.Ytnoccknoaihjlaa.inv32 x y)), (Go.IntKind.wrap Go.IntKind.i64 y = y ∧ Go.IntKind.wrap Go.IntKind.i64 x = Prod.snd a ∧ (0 : Int) = Prod.fst a) ∧ (0 : Int) ≤ Prod.fst a ∧ Prod.fst a ≤ y % (32 : Int) ∧ Prod.snd a = x * (2 : Int) ^ Int.toNat (Prod.fst a) % (4294967296 : Int)) ∧ ∀ (a : Go.DE.LInv.α (Go.Proofs.Ytnoccknoaihjlaa.inv32 x y)), (0 : Int) ≤ Prod.fst a ∧ Prod.fst a ≤ y % (32 : Int) ∧ Prod.snd a = x * (2 : Int) ^ Int.toNat (Prod.fst a) % (4294967296 : Int) → (Decidable.decide (Prod.fst a < Int.tmod y (32 : Int)) = Bool.true → Go.DE.okI64 (Prod.snd a * (2 : Int)) ∧ Go.DE.okI64 (Prod.fst a + (1 : Int)) ∧ ∃ (a' : Go.DE.LInv.α (Go.Proofs.Ytnoccknoaihjlaa.inv32 x y)), (y = y ∧ Int.tmod (Prod.snd a * (2 : Int)) (4294967296 : Int) = Prod.snd a' ∧ Prod.fst a + (1 : Int) = Prod.fst a') ∧ ((0 : Int) ≤ Prod.fst a' ∧ Prod.fst a' ≤ y % (32 : Int) ∧ Prod.snd a' = x * (2 : Int) ^ Int.toNat (Prod.fst a') % (4294967296 : Int)) ∧ Int.toNat (y % (32 : Int) - Prod.fst a') < Int.toNat (y % (32 : Int) - Prod.fst a)) ∧ (Decidable.decide (Prod.fst a < Int.tmod y (32 : Int)) = Bool.false → Go.Proofs.Ytnoccknoaihjlaa.uns (Prod.snd a) = Go.Proofs.Ytnoccknoaihjlaa.calV (12 : Int) x y ∧ (0 : Int) = Go.Proofs.Ytnoccknoaihjlaa.calE (12 : Int) y)) (by kernel_rfl) ?_
  refine ⟨hx, hy, ?_⟩
  have hx' := hx
  have hy' := hy
  unfold W32 at hx' hy'
  simp only [w32_i64 x hx, w32_i64 y hy, Int.tmod_eq_emod_of_nonneg hy'.1]
  refine ⟨⟨(0, x), ⟨trivial, rfl, rfl⟩, by simp only; omega, by simp only; omega, by simp; omega⟩, ?_⟩
  rintro ⟨i, out⟩ ⟨h1, h2, h3⟩
  have h1 : 0 ≤ i := h1
  have h2 : i ≤ y % 32 := h2
  simp only at h3
  refine ⟨fun h => ?_, fun h => ?_⟩
  · have h : i < y % 32 := of_decide_eq_true h
    refine ⟨by unfold okI64; simp only; omega, by unfold okI64; simp only; omega, (i + 1, out * 2 % 4294967296), ⟨trivial, ?_, rfl⟩, ⟨by simp only; omega, by simp only; omega, ?_⟩, by simp only; omega⟩
    · simp only
      exact Int.tmod_eq_emod_of_nonneg (by omega)
    · simp only
      have e : (i + 1).toNat = i.toNat + 1 := by omega
      rw [e, Int.pow_succ, ← Int.mul_assoc, h3]; omega
  · have h : ¬ (i < y % 32) := of_decide_eq_false h
    have e : i = y % 32 := by omega
    refine ⟨?_, rfl⟩
    show uns out = _
    rw [uns_id out ⟨by omega, by omega⟩, h3, e]
    simp [calV, shl_eq x y hy'.1]
theorem p18_13 (x y : Int) (hx : W32 x) (hy : W32 y) : Pure1 Try.prog 18 [.int .i64 (.lit 13), .int .u32 (.sym x), .int .u32 (.sym y)] (.tup [.int .u32 (.sym (calV 13 x y)), .int .i64 (.sym (calE 13 y))]) := by
  refine pure_of_exec (ct := ⟨[c21, c22, c56], []⟩) [(38, inv38 x y)] Try.func18 rfl rfl rfl ?_
  refine cast_goal (p := ((0 : Int) ≤ x ∧ x < (4294967296 : Int)) ∧ ((0 : Int) ≤ y ∧ y < (4294967296 : Int)) ∧ (∃ (a : Go.DE.LInv.α (Go.Proofs.Ytnoccknoaihjlaa.inv38 x y)), (Go.IntKind.wrap Go.IntKind.i64 y = y ∧ Go.IntKind.wrap Go.IntKind.i64 x = Prod.snd a ∧ (0 : Int) = Prod.fst a) ∧ (0 : Int) ≤ Prod.fst a ∧ Prod.fst a ≤ y % (32 : Int) ∧ Prod.snd a = x / (2 : Int) ^ Int.toNat (Prod.fst a)) ∧ ∀ (a : Go.DE.LInv.α (Go.Proofs.Ytnoccknoaihjlaa.inv38 x y)), (0 : Int) ≤ Prod.fst a ∧ Prod.fst a ≤ y % (32 : Int) ∧ Prod.snd a = x / (2 : Int) ^ Int.toNat (Prod.fst a) → (Decidable.decide (Prod.fst a < Int.tmod y (32 : Int)) = Bool.true → Go.DE.okI64 (Int.tdiv (Prod.snd a) (2 : Int)) ∧ Go.DE.okI64 (Prod.fst a + (1 : Int)) ∧ ∃ (a' : Go.DE.LInv.α (Go.Proofs.Ytnoccknoaihjlaa.inv38 x y)), (y = y ∧ Int.tdiv (Prod.snd a) (2 : Int) = Prod.snd a' ∧ Prod.fst a + (1 : Int) = Prod.fst a') ∧ ((0 : Int) ≤ Prod.fst a' ∧ Prod.fst a' ≤ y % (32 : Int) ∧ Prod.snd a' = x / (2 : Int) ^ Int.toNat (Prod.fst a')) ∧ Int.toNat (y % (32 : Int) - Prod.fst a') < Int.toNat (y % (32 : Int) - Prod.fst a)) ∧ (Decidable.decide (Prod.fst a < Int.tmod y (32 : Int)) = Bool.false → Go.Proofs.Ytnoccknoaihjlaa.uns (Prod.snd a) = Go.Proofs.Ytnoccknoaihjlaa.calV (13 : Int) x y ∧ (0 : Int) = Go.Proofs.Ytnoccknoaihjlaa.calE (13 : Int) y)) (by kernel_rfl) ?_
  refine ⟨hx, hy, ?_⟩
  have hx' := hx
  have hy' := hy
  unfold W32 at hx' hy'
  simp only [w32_i64 x hx, w32_i64 y hy, Int.tmod_eq_emod_of_nonneg hy'.1]
  refine ⟨⟨(0, x), ⟨trivial, rfl, rfl⟩, by simp only; omega, by simp only; omega, by simp⟩, ?_⟩
  rintro ⟨i, out⟩ ⟨h1, h2, h3⟩
  have h1 : 0 ≤ i := h1
  have h2 : i ≤ y % 32 := h2
  simp only at h3
  have hw := div_w32 x i.toNat hx
  rw [← h3] at hw
  unfold W32 at hw
  refine ⟨fun h => ?_, fun h => ?_⟩
  · have h : i < y % 32 := of_decide_eq_true h
    have e2 : out.tdiv 2 = out / 2 := Int.tdiv_eq_ediv_of_nonneg hw.1
    refine ⟨by unfold okI64; simp only [e2]; omega, by unfold okI64; simp only; omega, (i + 1, out / 2), ⟨trivial, e2, rfl⟩, ⟨by simp only; omega, by simp only; omega, ?_⟩, by simp only; omega⟩
    have e : (i + 1).toNat = i.toNat + 1 := by omega
    simp only
    rw [e, Int.pow_succ, h3, Int.ediv_ediv_of_nonneg (Int.le_of_lt (Int.pow_pos (by omega)))]
  · have h : ¬ (i < y % 32) := of_decide_eq_false h
    have e : i = y % 32 := by omega
    refine ⟨?_, rfl⟩
    show uns out = _
    rw [uns_id out ⟨hw.1, hw.2⟩, h3, e]
    simp [calV, shr_eq x (y % 32) ⟨by omega, by omega⟩]
theorem p18_14 (x y : Int) (hx : W32 x) (hy : W32 y) : Pure1 Try.prog 18 [.int .i64 (.lit 14), .int .u32 (.sym x), .int .u32 (.sym y)] (.tup [.int .u32 (.sym (calV 14 x y)), .int .i64 (.sym (calE 14 y))]) := by
  refine pure_of_exec (ct := ⟨[c21, c22, c56], []⟩) [] Try.func18 rfl rfl rfl ?_
  refine cast_goal (p := ((0 : Int) ≤ x ∧ x < (4294967296 : Int)) ∧ ((0 : Int) ≤ y ∧ y < (4294967296 : Int)) ∧ (Decidable.decide (Go.Proofs.Ytnoccknoaihjlaa.sgn x < Go.Proofs.Ytnoccknoaihjlaa.sgn y) = Bool.true → (1 : Int) = Go.Proofs.Ytnoccknoaihjlaa.calV (14 : Int) x y ∧ (0 : Int) = Go.Proofs.Ytnoccknoaihjlaa.calE (14 : Int) y) ∧ (Decidable.decide (Go.Proofs.Ytnoccknoaihjlaa.sgn x < Go.Proofs.Ytnoccknoaihjlaa.sgn y) = Bool.false → (0 : Int) = Go.Proofs.Ytnoccknoaihjlaa.calV (14 : Int) x y ∧ (0 : Int) = Go.Proofs.Ytnoccknoaihjlaa.calE (14 : Int) y)) (by kernel_rfl) ?_
  refine ⟨hx, hy, ?_⟩
  have hx' := hx
  have hy' := hy
  unfold W32 at hx' hy'
  refine ⟨fun h => ?_, fun h => ?_⟩
  · simp [calV, calE, flagI, h] <;> decide
  · simp [calV, calE, flagI, h] <;> decide
theorem p18_15 (x y : Int) (hx : W32 x) (hy : W32 y) : Pure1 Try.prog 18 [.int .i64 (.lit 15), .int .u32 (.sym x), .int .u32 (.sym y)] (.tup [.int .u32 (.sym (calV 15 x y)), .int .i64 (.sym (calE 15 y))]) := by
  refine pure_of_exec (ct := ⟨[c21, c22, c56], []⟩) [] Try.func18 rfl rfl rfl ?_
  refine cast_goal (p := ((0 : Int) ≤ x ∧ x < (4294967296 : Int)) ∧ ((0 : Int) ≤ y ∧ y < (4294967296 : Int)) ∧ ((Go.IntKind.wrap Go.IntKind.i64 x == Go.IntKind.wrap Go.IntKind.i64 y) = Bool.true → (1 : Int) = Go.Proofs.Ytnoccknoaihjlaa.calV (15 : Int) x y ∧ (0 : Int) = Go.Proofs.Ytnoccknoaihjlaa.calE (15 : Int) y) ∧ ((Go.IntKind.wrap Go.IntKind.i64 x == Go.IntKind.wrap Go.IntKind.i64 y) = Bool.false → (0 : Int) = Go.Proofs.Ytnoccknoaihjlaa.calV (15 : Int) x y ∧ (0 : Int) = Go.Proofs.Ytnoccknoaihjlaa.calE (15 : Int) y)) (by kernel_rfl) ?_
  refine ⟨hx, hy, ?_⟩
  have hx' := hx
  have hy' := hy
  unfold W32 at hx' hy'
  simp only [w32_i64 x hx, w32_i64 y hy]
  refine ⟨fun h => ?_, fun h => ?_⟩
  · simp [calV, calE, flagI, h] <;> decide
  · simp [calV, calE, flagI, h] <;> decide
theorem p18_out (op x y : Int) (h : ¬ (4 ≤ op ∧ op ≤ 15)) (hx : W32 x) (hy : W32 y) : Pure1 Try.prog 18 [.int .i64 (.sym op), .int .u32 (.sym x), .int .u32 (.sym y)] (.tup [.int .u32 (.lit 0), .int .i64 (.lit 11)]) := by
  refine pure_of_exec (ct := ⟨[c21, c22, c56], []⟩) [] Try.func18 rfl rfl rfl ?_
  refine cast_goal (p := ((0 : Int) ≤ x ∧ x < (4294967296 : Int)) ∧ ((0 : Int) ≤ y ∧ y < (4294967296 : Int)) ∧ ((op == (4 : Int)) = Bool.true → Go.DE.okI64 (Go.IntKind.wrap Go.IntKind.i64 x + Go.IntKind.wrap Go.IntKind.i64 y) ∧ False) ∧ ((op == (4 : Int)) = Bool.false → ((op == (5 : Int)) = Bool.true → Go.DE.okI64 (Go.IntKind.wrap Go.IntKind.i64 x - Go.IntKind.wrap Go.IntKind.i64 y) ∧ False) ∧ ((op == (5 : Int)) = Bool.false → ((op == (6 : Int)) = Bool.true → Go.DE.okI64 (Int.tmod (Go.IntKind.wrap Go.IntKind.i64 x) (65536 : Int) * Go.IntKind.wrap Go.IntKind.i64 y) ∧ Go.DE.okI64 (Int.tdiv (Go.IntKind.wrap Go.IntKind.i64 x) (65536 : Int)) ∧ Go.DE.okI64 (Int.tdiv (Go.IntKind.wrap Go.IntKind.i64 x) (65536 : Int) * Go.IntKind.wrap Go.IntKind.i64 y) ∧ Go.DE.okI64 (Int.tmod (Int.tdiv (Go.IntKind.wrap Go.IntKind.i64 x) (65536 : Int) * Go.IntKind.wrap Go.IntKind.i64 y) (65536 : Int) * (65536 : Int)) ∧ Go.DE.okI64 (Int.tmod (Int.tmod (Go.IntKind.wrap Go.IntKind.i64 x) (65536 : Int) * Go.IntKind.wrap Go.IntKind.i64 y) (4294967296 : Int) + Int.tmod (Int.tdiv (Go.IntKind.wrap Go.IntKind.i64 x) (65536 : Int) * Go.IntKind.wrap Go.IntKind.i64 y) (65536 : Int) * (65536 : Int)) ∧ False) ∧ ((op == (6 : Int)) = Bool.false → ((op == (7 : Int)) = Bool.true → ((Go.Proofs.Ytnoccknoaihjlaa.sgn y == (0 : Int)) = Bool.true → False) ∧ ((Go.Proofs.Ytnoccknoaihjlaa.sgn y == (0 : Int)) = Bool.false → Go.Proofs.Ytnoccknoaihjlaa.sgn y ≠ (0 : Int) ∧ Go.DE.okI64 (Int.tdiv (Go.Proofs.Ytnoccknoaihjlaa.sgn x) (Go.Proofs.Ytnoccknoaihjlaa.sgn y)) ∧ ((op == (8 : Int)) = Bool.true → Go.DE.okI64 (Go.Proofs.Ytnoccknoaihjlaa.sgn y * Int.tdiv (Go.Proofs.Ytnoccknoaihjlaa.sgn x) (Go.Proofs.Ytnoccknoaihjlaa.sgn y)) ∧ Go.DE.okI64 (Go.Proofs.Ytnoccknoaihjlaa.sgn x - Go.Proofs.Ytnoccknoaihjlaa.sgn y * Int.tdiv (Go.Proofs.Ytnoccknoaihjlaa.sgn x) (Go.Proofs.Ytnoccknoaihjlaa.sgn y)) ∧ False) ∧ ((op == (8 : Int)) = Bool.false → False))) ∧ ((op == (7 : Int)) = Bool.false → ((op == (8 : Int)) = Bool.true → ((Go.Proofs.Ytnoccknoaihjlaa.sgn y == (0 : Int)) = Bool.true → False) ∧ ((Go.Proofs.Ytnoccknoaihjlaa.sgn y == (0 : Int)) = Bool.false → Go.Proofs.Ytnoccknoaihjlaa.sgn y ≠ (0 : Int) ∧ Go.DE.okI64 (Int.tdiv (Go.Proofs.Ytnoccknoaihjlaa.sgn x) (Go.Proofs.Ytnoccknoaihjlaa.sgn y)) ∧ ((op == (8 : Int)) = Bool.true → Go.DE.okI64 (Go.Proofs.Ytnoccknoaihjlaa.sgn y * Int.tdiv (Go.Proofs.Ytnoccknoaihjlaa.sgn x) (Go.Proofs.Ytnoccknoaihjlaa.sgn y)) ∧ Go.DE.okI64 (Go.Proofs.Ytnoccknoaihjlaa.sgn x - Go.Proofs.Ytnoccknoaihjlaa.sgn y * Int.tdiv (Go.Proofs.Ytnoccknoaihjlaa.sgn x) (Go.Proofs.Ytnoccknoaihjlaa.sgn y)) ∧ False) ∧ ((op == (8 : Int)) = Bool.false → False))) ∧ ((op == (8 : Int)) = Bool.false → ((op == (9 : Int)) = Bool.true → False) ∧ ((op == (9 : Int)) = Bool.false → ((op == (10 : Int)) = Bool.true → False) ∧ ((op == (10 : Int)) = Bool.false → ((op == (11 : Int)) = Bool.true → False) ∧ ((op == (11 : Int)) = Bool.false → ((op == (12 : Int)) = Bool.true → False) ∧ ((op == (12 : Int)) = Bool.false → ((op == (13 : Int)) = Bool.true → False) ∧ ((op == (13 : Int)) = Bool.false → ((op == (14 : Int)) = Bool.true → (Decidable.decide (Go.Proofs.Ytnoccknoaihjlaa.sgn x < Go.Proofs.Ytnoccknoaihjlaa.sgn y) = Bool.true → False) ∧ (Decidable.decide (Go.Proofs.Ytnoccknoaihjlaa.sgn x < Go.Proofs.Ytnoccknoaihjlaa.sgn y) = Bool.false → False)) ∧ ((op == (14 : Int)) = Bool.false → ((op == (15 : Int)) = Bool.true → ((Go.IntKind.wrap Go.IntKind.i64 x == Go.IntKind.wrap Go.IntKind.i64 y) = Bool.true → False) ∧ ((Go.IntKind.wrap Go.IntKind.i64 x == Go.IntKind.wrap Go.IntKind.i64 y) = Bool.false → False)) ∧ ((op == (15 : Int)) = Bool.false → True))))))))))))) (by kernel_rfl) ?_
  have e (k : Int) (hk : 4 ≤ k ∧ k ≤ 15) : (op == k) = false := by rw [beq_eq_false_iff_ne]; omega
  simp [e]; omega
theorem p18 (op x y : Int) (hx : W32 x) (hy : W32 y) : Pure1 Try.prog 18 [.int .i64 (.sym op), .int .u32 (.sym x), .int .u32 (.sym y)] (.tup [.int .u32 (.sym (calV op x y)), .int .i64 (.sym (calE op y))]) := by
  by_cases h : 4 ≤ op ∧ op ≤ 15
  · rcases op12 op h with rfl | rfl | rfl | rfl | rfl | rfl | rfl | rfl | rfl | rfl | rfl | rfl
    · exact (p18_4 x y hx hy).congr (by simp [deqL, deq]) (by simp [deq, deqL])
    · exact (p18_5 x y hx hy).congr (by simp [deqL, deq]) (by simp [deq, deqL])
    · exact (p18_6 x y hx hy).congr (by simp [deqL, deq]) (by simp [deq, deqL])
    · exact (p18_7 x y hx hy).congr (by simp [deqL, deq]) (by simp [deq, deqL])
    · exact (p18_8 x y hx hy).congr (by simp [deqL, deq]) (by simp [deq, deqL])
    · exact (p18_9 x y hx hy).congr (by simp [deqL, deq]) (by simp [deq, deqL])
    · exact (p18_10 x y hx hy).congr (by simp [deqL, deq]) (by simp [deq, deqL])
    · exact (p18_11 x y hx hy).congr (by simp [deqL, deq]) (by simp [deq, deqL])
    · exact (p18_12 x y hx hy).congr (by simp [deqL, deq]) (by simp [deq, deqL])
    · exact (p18_13 x y hx hy).congr (by simp [deqL, deq]) (by simp [deq, deqL])
    · exact (p18_14 x y hx hy).congr (by simp [deqL, deq]) (by simp [deq, deqL])
    · exact (p18_15 x y hx hy).congr (by simp [deqL, deq]) (by simp [deq, deqL])
  · refine (p18_out op x y h hx hy).congr (by simp [deqL, deq]) ?_
    have e (k : Int) (hk : 4 ≤ k ∧ k ≤ 15) : ¬ (op = k) := by omega
    simp [deq, deqL, calV, calE, h, e]
def c18 : PureC Try.prog where
  f := 18
  spec := fun args => match args with
    | [.int .i64 op, .int .u32 x, .int .u32 y] => some (some (W32 x.v ∧ W32 y.v), .tup [.int .u32 (asL [op, x, y] (calV op.v x.v y.v)), .int .i64 (asL [op, y] (calE op.v y.v))])
    | _ => none
  body := hasBody_of Try.func18 (by kernel_rfl) (by kernel_rfl)
  ok := by
    intro args p d h hp
    split at h
    · rename_i op x y; cases h; exact (p18 op.v x.v y.v (hp _ rfl).1 (hp _ rfl).2).congr (by simp [deqL, deq]) (by simp [deq, deqL])
    · cases h

end Go.Proofs.Ytnoccknoaihjlaa
