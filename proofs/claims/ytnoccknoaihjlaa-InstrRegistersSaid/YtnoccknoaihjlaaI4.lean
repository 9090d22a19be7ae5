import Derived.Test.YtnoccknoaihjlaaEng12
import Derived.Test.YtnoccknoaihjlaaI3
set_option linter.unusedVariables false
set_option linter.unusedSimpArgs false
set_option linter.unnecessarySimpa false
/- What Encode and Decode return. -/
namespace Go.Proofs.Ytnoccknoaihjlaa
open Go.DE
set_option maxRecDepth 100000
set_option linter.unusedVariables false
set_option linter.unusedSimpArgs false

structure Good (op a b c : Int) : Prop where
  o : inO op = true
  op0 : 0 ≤ op
  op1 : op < 27
  a0 : 0 ≤ a
  a1 : a < 8
  b0 : 0 ≤ b
  b1 : b < 8
  c0 : -32768 ≤ c
  c1 : c ≤ 65535
  lo : lowI op < 0 → c ≤ 32767
  lo2 : ¬ lowI op < 0 → 0 ≤ c
theorem lims (op : Int) (h : inO op = true) : -32768 ≤ lowI op ∧ highI op ≤ 65535 ∧ (lowI op < 0 → highI op ≤ 32767 ∧ hN (formI op) = true) := by
  rcases in27 op h with rfl | rfl | rfl | rfl | rfl | rfl | rfl | rfl | rfl | rfl | rfl | rfl | rfl | rfl | rfl | rfl | rfl | rfl | rfl | rfl | rfl | rfl | rfl | rfl | rfl | rfl | rfl <;> decide
theorem good (op a b c : Int) (h : chk op a b c = 0) : Good op a b c := by
  unfold chk at h
  split at h
  · rename_i h0
    have hl := lims op h0
    split at h
    · cases h
    · split at h
      · cases h
      · rename_i h1 h2
        have hh := h0
        simp only [inO, Bool.and_eq_true, decide_eq_true_eq] at hh
        have hc : 0 ≤ a ∧ a < 8 ∧ 0 ≤ b ∧ b < 8 := by
          simp only [rngE, rg, Bool.or_eq_true, not_or, Bool.not_eq_true', Bool.not_eq_true, Bool.and_eq_false_iff, decide_eq_false_iff_not] at h2
          have := h2.1; have := h2.2.1; simp at *; omega
        by_cases h4 : 4 ≤ formI op
        · rw [rng_high _ _ _ _ _ _ h4] at h2
          have h5 : hC (formI op) = true := by simp [hC]; omega
          simp [h5] at h2
          exact ⟨h0, by omega, by omega, by omega, by omega, by omega, by omega, by omega, by omega, by omega, by omega⟩
        · rw [rng_low _ _ _ _ _ _ (by omega)] at h2
          have hn : hN (formI op) = false := by simp [hN]; omega
          have hlo : ¬ (lowI op < 0) := fun hx => by have := (hl.2.2 hx).2; rw [hn] at this; cases this
          cases h5 : hC (formI op)
          · have : c = 0 := by
              apply Decidable.byContradiction; intro hcn; apply h1
              have : (c != 0) = true := by simpa using hcn
              simp only [argE, h5, this]; cases hA (formI op) <;> cases hB (formI op) <;> simp
            exact ⟨h0, by omega, by omega, by omega, by omega, by omega, by omega, by omega, by omega, by omega, by omega⟩
          · simp [h5] at h2
            exact ⟨h0, by omega, by omega, by omega, by omega, by omega, by omega, by omega, by omega, by omega, by omega⟩
  · cases h
def bY (op a b c v : Int) : Int := if chk op a b c = 0 then v else 0
def encV (op a b c : Int) : DV := .tup [.agg [.int .u8 (.sym (bY op a b c op)), .int .u8 (.sym (bY op a b c (16 * a + b))), .int .u8 (.sym (bY op a b c (c % 256))), .int .u8 (.sym (bY op a b c (c / 256 % 256)))], .int .i64 (.sym (chk op a b c))]
theorem ab_bits : ∀ a b : Fin 8, bitsI .or .i64 (shlI .i64 (a.val : Int) 4) (b.val : Int) = 16 * (a.val : Int) + (b.val : Int) := by decide
theorem ab_bits' (a b : Int) (ha : 0 ≤ a ∧ a < 8) (hb : 0 ≤ b ∧ b < 8) : bitsI .or .i64 (shlI .i64 a 4) b = 16 * a + b := by
  have := ab_bits ⟨a.toNat, by omega⟩ ⟨b.toNat, by omega⟩
  simp only [Int.toNat_of_nonneg ha.1, Int.toNat_of_nonneg hb.1] at this
  exact this
theorem wrap_u8 (x : Int) : IntKind.u8.wrap x = x % 256 := by rw [IntKind.wrap_u8]
theorem shr8 (c : Int) : shrI .i64 c 8 = c / 256 := by
  have : shrI .i64 c 8 = c.fdiv 256 := rfl
  rw [this, Int.fdiv_eq_ediv_of_nonneg _ (by omega)]

theorem p23 (op a b c : Int) : Pure1 Try.prog 23 [sI op a b c] (encV op a b c) := by
  refine pure_of_exec (ct := ⟨[c15], []⟩) [] Try.func23 rfl rfl rfl ?_
  refine cast_goal (p := ((Go.Proofs.Ytnoccknoaihjlaa.chk op a b c != (0 : Int)) = Bool.true → (0 : Int) = Go.Proofs.Ytnoccknoaihjlaa.bY op a b c op ∧ (0 : Int) = Go.Proofs.Ytnoccknoaihjlaa.bY op a b c ((16 : Int) * a + b) ∧ (0 : Int) = Go.Proofs.Ytnoccknoaihjlaa.bY op a b c (c % (256 : Int)) ∧ (0 : Int) = Go.Proofs.Ytnoccknoaihjlaa.bY op a b c (c / (256 : Int) % (256 : Int)) ∧ Go.Proofs.Ytnoccknoaihjlaa.chk op a b c = Go.Proofs.Ytnoccknoaihjlaa.chk op a b c) ∧ ((Go.Proofs.Ytnoccknoaihjlaa.chk op a b c != (0 : Int)) = Bool.false → Go.IntKind.wrap Go.IntKind.u8 op = Go.Proofs.Ytnoccknoaihjlaa.bY op a b c op ∧ Go.IntKind.wrap Go.IntKind.u8 (Go.DE.bitsI Go.BinOp.or Go.IntKind.i64 (Go.DE.shlI Go.IntKind.i64 a (4 : Int)) b) = Go.Proofs.Ytnoccknoaihjlaa.bY op a b c ((16 : Int) * a + b) ∧ Go.IntKind.wrap Go.IntKind.u8 c = Go.Proofs.Ytnoccknoaihjlaa.bY op a b c (c % (256 : Int)) ∧ Go.IntKind.wrap Go.IntKind.u8 (Go.DE.shrI Go.IntKind.i64 c (8 : Int)) = Go.Proofs.Ytnoccknoaihjlaa.bY op a b c (c / (256 : Int) % (256 : Int)) ∧ (0 : Int) = Go.Proofs.Ytnoccknoaihjlaa.chk op a b c)) (by kernel_rfl) ?_
  refine ⟨fun h => ?_, fun h => ?_⟩
  · have h : chk op a b c ≠ 0 := by simpa using h
    simp [bY, h]
  · have h : chk op a b c = 0 := by simpa using h
    have g := good op a b c h
    obtain ⟨g0, g1, g2, g3, g4, g5, g6, g7, g8, g9, g10⟩ := g
    rw [ab_bits' a b ⟨g3, g4⟩ ⟨g5, g6⟩, shr8]
    simp only [bY, h, if_true, wrap_u8]
    refine ⟨?_, ?_, ?_, ?_, ?_⟩ <;> first | trivial | omega
theorem p24 (op a b c : Int) : Pure1 Try.prog 24 [sI op a b c] (encV op a b c) := by
  refine pure_of_exec (ct := ⟨[c16], []⟩) [] Try.func24 rfl rfl rfl ?_
  refine cast_goal (p := ((Go.Proofs.Ytnoccknoaihjlaa.chk op a b c != (0 : Int)) = Bool.true → (0 : Int) = Go.Proofs.Ytnoccknoaihjlaa.bY op a b c op ∧ (0 : Int) = Go.Proofs.Ytnoccknoaihjlaa.bY op a b c ((16 : Int) * a + b) ∧ (0 : Int) = Go.Proofs.Ytnoccknoaihjlaa.bY op a b c (c % (256 : Int)) ∧ (0 : Int) = Go.Proofs.Ytnoccknoaihjlaa.bY op a b c (c / (256 : Int) % (256 : Int)) ∧ Go.Proofs.Ytnoccknoaihjlaa.chk op a b c = Go.Proofs.Ytnoccknoaihjlaa.chk op a b c) ∧ ((Go.Proofs.Ytnoccknoaihjlaa.chk op a b c != (0 : Int)) = Bool.false → (Decidable.decide (c < (0 : Int)) = Bool.true → Go.DE.okI64 (c + (65536 : Int)) ∧ Go.DE.okI64 ((16 : Int) * a) ∧ Go.DE.okI64 ((16 : Int) * a + b) ∧ Go.DE.okI64 (Int.tdiv (c + (65536 : Int)) (256 : Int)) ∧ Go.IntKind.wrap Go.IntKind.u8 op = Go.Proofs.Ytnoccknoaihjlaa.bY op a b c op ∧ Go.IntKind.wrap Go.IntKind.u8 ((16 : Int) * a + b) = Go.Proofs.Ytnoccknoaihjlaa.bY op a b c ((16 : Int) * a + b) ∧ Go.IntKind.wrap Go.IntKind.u8 (Int.tmod (c + (65536 : Int)) (256 : Int)) = Go.Proofs.Ytnoccknoaihjlaa.bY op a b c (c % (256 : Int)) ∧ Go.IntKind.wrap Go.IntKind.u8 (Int.tdiv (c + (65536 : Int)) (256 : Int)) = Go.Proofs.Ytnoccknoaihjlaa.bY op a b c (c / (256 : Int) % (256 : Int)) ∧ (0 : Int) = Go.Proofs.Ytnoccknoaihjlaa.chk op a b c) ∧ (Decidable.decide (c < (0 : Int)) = Bool.false → Go.DE.okI64 ((16 : Int) * a) ∧ Go.DE.okI64 ((16 : Int) * a + b) ∧ Go.DE.okI64 (Int.tdiv c (256 : Int)) ∧ Go.IntKind.wrap Go.IntKind.u8 op = Go.Proofs.Ytnoccknoaihjlaa.bY op a b c op ∧ Go.IntKind.wrap Go.IntKind.u8 ((16 : Int) * a + b) = Go.Proofs.Ytnoccknoaihjlaa.bY op a b c ((16 : Int) * a + b) ∧ Go.IntKind.wrap Go.IntKind.u8 (Int.tmod c (256 : Int)) = Go.Proofs.Ytnoccknoaihjlaa.bY op a b c (c % (256 : Int)) ∧ Go.IntKind.wrap Go.IntKind.u8 (Int.tdiv c (256 : Int)) = Go.Proofs.Ytnoccknoaihjlaa.bY op a b c (c / (256 : Int) % (256 : Int)) ∧ (0 : Int) = Go.Proofs.Ytnoccknoaihjlaa.chk op a b c))) (by kernel_rfl) ?_
  refine ⟨fun h => ?_, fun h => ?_⟩
  · have h : chk op a b c ≠ 0 := by simpa using h
    simp [bY, h]
  · have h : chk op a b c = 0 := by simpa using h
    have g := good op a b c h
    obtain ⟨g0, g1, g2, g3, g4, g5, g6, g7, g8, g9, g10⟩ := g
    simp only [bY, h, if_true, wrap_u8]
    refine ⟨fun hc => ?_, fun hc => ?_⟩
    · have hc : c < 0 := of_decide_eq_true hc
      rw [Int.tmod_eq_emod_of_nonneg (by omega), Int.tdiv_eq_ediv_of_nonneg (by omega)]
      refine ⟨by unfold okI64; omega, by unfold okI64; omega, by unfold okI64; omega, by unfold okI64; omega, ?_, ?_, ?_, ?_, ?_⟩ <;> first | trivial | omega
    · have hc : ¬ c < 0 := of_decide_eq_false hc
      rw [Int.tmod_eq_emod_of_nonneg (by omega), Int.tdiv_eq_ediv_of_nonneg (by omega)]
      refine ⟨by unfold okI64; omega, by unfold okI64; omega, by unfold okI64; omega, ?_, ?_, ?_, ?_, ?_⟩ <;> first | trivial | omega
def c23 : PureC Try.prog where
  f := 23
  spec := fun args => match args with
    | [.agg [.int .i64 op, .int .i64 a, .int .i64 b, .int .i64 c]] =>
      let l := [op, a, b, c]
      let e := fun v => DV.int .u8 (asL l (bY op.v a.v b.v c.v v))
      some (none, .tup [.agg [e op.v, e (16 * a.v + b.v), e (c.v % 256), e (c.v / 256 % 256)], .int .i64 (asL l (chk op.v a.v b.v c.v))])
    | _ => none
  body := hasBody_of Try.func23 (by kernel_rfl) (by kernel_rfl)
  ok := by
    intro args p d h hp
    split at h
    · rename_i op a b c; cases h; exact (p23 op.v a.v b.v c.v).congr (by simp [deqL, deq, sI]) (by simp [deq, deqL, encV])
    · cases h

def c24 : PureC Try.prog where
  f := 24
  spec := fun args => match args with
    | [.agg [.int .i64 op, .int .i64 a, .int .i64 b, .int .i64 c]] =>
      let l := [op, a, b, c]
      let e := fun v => DV.int .u8 (asL l (bY op.v a.v b.v c.v v))
      some (none, .tup [.agg [e op.v, e (16 * a.v + b.v), e (c.v % 256), e (c.v / 256 % 256)], .int .i64 (asL l (chk op.v a.v b.v c.v))])
    | _ => none
  body := hasBody_of Try.func24 (by kernel_rfl) (by kernel_rfl)
  ok := by
    intro args p d h hp
    split at h
    · rename_i op a b c; cases h; exact (p24 op.v a.v b.v c.v).congr (by simp [deqL, deq, sI]) (by simp [deq, deqL, encV])
    · cases h

theorem p13 : Pure1 Try.prog 13 [] (.bool (.lit true)) := by
  refine pure_of_exec (ct := ⟨[c17, c19, c20, c23], []⟩) [] Try.func13 rfl rfl rfl ?_
  refine cast_goal (p := (Go.Proofs.Ytnoccknoaihjlaa.W32 (Go.Proofs.Ytnoccknoaihjlaa.uns (-7 : Int)) ∧ Go.Proofs.Ytnoccknoaihjlaa.W32 (2 : Int)) ∧ (Go.Proofs.Ytnoccknoaihjlaa.W32 (Go.Proofs.Ytnoccknoaihjlaa.uns (-7 : Int)) ∧ Go.Proofs.Ytnoccknoaihjlaa.W32 (2 : Int)) ∧ (Go.Proofs.Ytnoccknoaihjlaa.W32 (2147483648 : Int) ∧ Go.Proofs.Ytnoccknoaihjlaa.W32 (Go.Proofs.Ytnoccknoaihjlaa.uns (-1 : Int))) ∧ True) (by kernel_rfl) ?_
  decide
def c13 : PureC Try.prog where
  f := 13
  spec := fun args => match args with
    | [] => some (none, .bool (.lit true))
    | _ => none
  body := hasBody_of Try.func13 (by kernel_rfl) (by kernel_rfl)
  ok := by
    intro args p d h hp
    split at h
    · cases h; exact p13
    · cases h

theorem p6 (x n : Int) (hx : W32 x) : Pure1 Try.prog 6 [.int .u32 (.sym x), .int .i64 (.sym n)] (.bool (.sym true)) := by
  refine pure_of_exec (ct := ⟨[c13, c19, c20, c21, c22], []⟩) [] Try.func6 rfl rfl rfl ?_
  refine cast_goal (p := (((0 : Int) ≤ x ∧ x < (4294967296 : Int)) ∧ ((Go.Proofs.Ytnoccknoaihjlaa.sgn x == Go.Proofs.Ytnoccknoaihjlaa.sgn x) = Bool.true → True) ∧ ((Go.Proofs.Ytnoccknoaihjlaa.sgn x == Go.Proofs.Ytnoccknoaihjlaa.sgn x) = Bool.false → True)) ∧ (Go.Proofs.Ytnoccknoaihjlaa.sgn x == Go.Proofs.Ytnoccknoaihjlaa.sgn x && Go.Proofs.Ytnoccknoaihjlaa.uns n == Go.Proofs.Ytnoccknoaihjlaa.uns n) = Bool.true) (by kernel_rfl) ?_
  simp; exact hx
theorem p3 (op a b c : Int) : Pure1 Try.prog 3 [sI op a b c] (.bool (.sym true)) := by
  refine pure_of_exec (ct := ⟨[c13, c14, c15, c16], []⟩) [] Try.func3 rfl rfl rfl ?_
  refine cast_goal (p := (Go.Proofs.Ytnoccknoaihjlaa.chk op a b c == Go.Proofs.Ytnoccknoaihjlaa.chk op a b c) = Bool.true) (by kernel_rfl) ?_
  simp
theorem p4 (op x y : Int) (hx : W32 x) (hy : W32 y) : Pure1 Try.prog 4 [.int .i64 (.sym op), .int .u32 (.sym x), .int .u32 (.sym y)] (.bool (.sym true)) := by
  refine pure_of_exec (ct := ⟨[c13, c17, c18], []⟩) [] Try.func4 rfl rfl rfl ?_
  refine cast_goal (p := (Go.Proofs.Ytnoccknoaihjlaa.W32 x ∧ Go.Proofs.Ytnoccknoaihjlaa.W32 y) ∧ (Go.Proofs.Ytnoccknoaihjlaa.W32 x ∧ Go.Proofs.Ytnoccknoaihjlaa.W32 y) ∧ (Go.Proofs.Ytnoccknoaihjlaa.calV op x y == Go.Proofs.Ytnoccknoaihjlaa.calV op x y && Go.Proofs.Ytnoccknoaihjlaa.calE op y == Go.Proofs.Ytnoccknoaihjlaa.calE op y) = Bool.true) (by kernel_rfl) ?_
  simp; exact ⟨hx, hy⟩

theorem w32_wrap (x : Int) : W32 (IntKind.u32.wrap x) := by unfold W32; rw [IntKind.wrap_u32]; omega
theorem v4 (x y : Int) : calV 4 x y = IntKind.u32.wrap (x + y) := rfl
theorem v5 (x y : Int) : calV 5 x y = IntKind.u32.wrap (x - y) := rfl
theorem v6 (x y : Int) : calV 6 x y = IntKind.u32.wrap (x * y) := rfl
theorem v7 (x y : Int) : calV 7 x y = if y = 0 then 0 else uns ((sgn x).tdiv (sgn y)) := rfl
theorem v8 (x y : Int) : calV 8 x y = if y = 0 then 0 else uns ((sgn x).tmod (sgn y)) := rfl
theorem v11 (x y : Int) : calV 11 x y = bitsI .xor .u32 x y := rfl
theorem v14 (x y : Int) : calV 14 x y = flagI (decide (sgn x < sgn y)) := rfl
theorem sub_add (x y : Int) (hx : W32 x) : calV 5 (calV 4 x y) y = x := by
  unfold W32 at hx; rw [v5, v4, IntKind.wrap_u32, IntKind.wrap_u32]; omega
theorem w32_xor (x y : Int) (hx : W32 x) (hy : W32 y) : W32 (calV 11 x y) := by
  rw [v11, bits_xor x y hx hy]; unfold W32 at *
  have : x.toNat ^^^ y.toNat < 2 ^ 32 := Nat.xor_lt_two_pow (by omega) (by omega)
  omega
theorem xor_xor (x y : Int) (hx : W32 x) (hy : W32 y) : calV 11 (calV 11 x y) y = x := by
  have h := w32_xor x y hx hy
  rw [v11] at h ⊢
  rw [bits_xor _ y (by exact h) hy, v11, bits_xor x y hx hy, Int.toNat_natCast, Nat.xor_assoc, Nat.xor_self, Nat.xor_zero]
  unfold W32 at hx; omega
theorem uns_sgn (x : Int) (hx : W32 x) : uns (sgn x) = x := by
  rw [sgn_eq x hx]; unfold W32 at hx; simp only [uns, IntKind.wrap_u32]; split <;> omega
theorem quo_rem (x y : Int) (hx : W32 x) (hy : W32 y) (h : y ≠ 0) : calV 4 (calV 6 (calV 7 x y) y) (calV 8 x y) = x := by
  rw [v4, v6, v7, v8, if_neg h, if_neg h]
  have e1 := uns_sgn x hx
  have e2 := uns_sgn y hy
  conv => lhs; rw [← e2]
  rw [e2]
  conv => rhs; rw [← e1]
  have e3 := Int.mul_tdiv_add_tmod (sgn x) (sgn y)
  generalize sgn x = a at *
  have e4 : (uns (a.tdiv (sgn y)) * uns (sgn y)) % 4294967296 = (a.tdiv (sgn y) * sgn y) % 4294967296 := by
    simp only [uns, IntKind.wrap_u32]; exact (Int.mul_emod _ _ _).symm
  rw [e2] at e4
  rw [Int.mul_comm] at e3
  simp only [IntKind.wrap_u32, uns] at *
  generalize a.tdiv (sgn y) * sgn y = p at *
  generalize (a.tdiv (sgn y) % 4294967296) * y = q at *
  omega
theorem p5 (x y : Int) (hx : W32 x) (hy : W32 y) : Pure1 Try.prog 5 [.int .u32 (.sym x), .int .u32 (.sym y)] (.bool (.sym true)) := by
  refine pure_of_exec (ct := ⟨[c13, c17, c19, c20], []⟩) [] Try.func5 rfl rfl rfl ?_
  refine cast_goal (p := (Go.Proofs.Ytnoccknoaihjlaa.W32 x ∧ Go.Proofs.Ytnoccknoaihjlaa.W32 y) ∧ (Go.Proofs.Ytnoccknoaihjlaa.W32 (Go.Proofs.Ytnoccknoaihjlaa.calV (4 : Int) x y) ∧ Go.Proofs.Ytnoccknoaihjlaa.W32 y) ∧ (Go.Proofs.Ytnoccknoaihjlaa.W32 x ∧ Go.Proofs.Ytnoccknoaihjlaa.W32 y) ∧ (Go.Proofs.Ytnoccknoaihjlaa.W32 (Go.Proofs.Ytnoccknoaihjlaa.calV (11 : Int) x y) ∧ Go.Proofs.Ytnoccknoaihjlaa.W32 y) ∧ (Go.Proofs.Ytnoccknoaihjlaa.W32 x ∧ Go.Proofs.Ytnoccknoaihjlaa.W32 y) ∧ ((Go.Proofs.Ytnoccknoaihjlaa.calE (4 : Int) y != (0 : Int) || (Go.Proofs.Ytnoccknoaihjlaa.calE (5 : Int) y != (0 : Int) || (Go.Proofs.Ytnoccknoaihjlaa.calE (11 : Int) y != (0 : Int) || (Go.Proofs.Ytnoccknoaihjlaa.calE (11 : Int) y != (0 : Int) || (Go.Proofs.Ytnoccknoaihjlaa.calE (14 : Int) y != (0 : Int) || (Go.Proofs.Ytnoccknoaihjlaa.calV (5 : Int) (Go.Proofs.Ytnoccknoaihjlaa.calV (4 : Int) x y) y != x || (Go.Proofs.Ytnoccknoaihjlaa.calV (11 : Int) (Go.Proofs.Ytnoccknoaihjlaa.calV (11 : Int) x y) y != x || (!(Go.Proofs.Ytnoccknoaihjlaa.calV (14 : Int) x y == (1 : Int)) == Decidable.decide (Go.Proofs.Ytnoccknoaihjlaa.sgn x < Go.Proofs.Ytnoccknoaihjlaa.sgn y) || (Decidable.decide ((1 : Int) < Go.Proofs.Ytnoccknoaihjlaa.calV (14 : Int) x y) || Go.Proofs.Ytnoccknoaihjlaa.uns (Go.Proofs.Ytnoccknoaihjlaa.sgn x) != x))))))))) = Bool.true → Bool.false = Bool.true) ∧ ((Go.Proofs.Ytnoccknoaihjlaa.calE (4 : Int) y != (0 : Int) || (Go.Proofs.Ytnoccknoaihjlaa.calE (5 : Int) y != (0 : Int) || (Go.Proofs.Ytnoccknoaihjlaa.calE (11 : Int) y != (0 : Int) || (Go.Proofs.Ytnoccknoaihjlaa.calE (11 : Int) y != (0 : Int) || (Go.Proofs.Ytnoccknoaihjlaa.calE (14 : Int) y != (0 : Int) || (Go.Proofs.Ytnoccknoaihjlaa.calV (5 : Int) (Go.Proofs.Ytnoccknoaihjlaa.calV (4 : Int) x y) y != x || (Go.Proofs.Ytnoccknoaihjlaa.calV (11 : Int) (Go.Proofs.Ytnoccknoaihjlaa.calV (11 : Int) x y) y != x || (!(Go.Proofs.Ytnoccknoaihjlaa.calV (14 : Int) x y == (1 : Int)) == Decidable.decide (Go.Proofs.Ytnoccknoaihjlaa.sgn x < Go.Proofs.Ytnoccknoaihjlaa.sgn y) || (Decidable.decide ((1 : Int) < Go.Proofs.Ytnoccknoaihjlaa.calV (14 : Int) x y) || Go.Proofs.Ytnoccknoaihjlaa.uns (Go.Proofs.Ytnoccknoaihjlaa.sgn x) != x))))))))) = Bool.false → (Go.Proofs.Ytnoccknoaihjlaa.W32 x ∧ Go.Proofs.Ytnoccknoaihjlaa.W32 y) ∧ (Go.Proofs.Ytnoccknoaihjlaa.W32 x ∧ Go.Proofs.Ytnoccknoaihjlaa.W32 y) ∧ ((y == (0 : Int)) = Bool.true → (Go.Proofs.Ytnoccknoaihjlaa.calE (7 : Int) y == (38 : Int) && Go.Proofs.Ytnoccknoaihjlaa.calE (8 : Int) y == (38 : Int)) = Bool.true) ∧ ((y == (0 : Int)) = Bool.false → (Go.Proofs.Ytnoccknoaihjlaa.W32 (Go.Proofs.Ytnoccknoaihjlaa.calV (7 : Int) x y) ∧ Go.Proofs.Ytnoccknoaihjlaa.W32 y) ∧ (Go.Proofs.Ytnoccknoaihjlaa.W32 (Go.Proofs.Ytnoccknoaihjlaa.calV (6 : Int) (Go.Proofs.Ytnoccknoaihjlaa.calV (7 : Int) x y) y) ∧ Go.Proofs.Ytnoccknoaihjlaa.W32 (Go.Proofs.Ytnoccknoaihjlaa.calV (8 : Int) x y)) ∧ (Go.Proofs.Ytnoccknoaihjlaa.calE (7 : Int) y == (0 : Int) && (Go.Proofs.Ytnoccknoaihjlaa.calE (8 : Int) y == (0 : Int) && (Go.Proofs.Ytnoccknoaihjlaa.calE (6 : Int) y == (0 : Int) && (Go.Proofs.Ytnoccknoaihjlaa.calE (4 : Int) (Go.Proofs.Ytnoccknoaihjlaa.calV (8 : Int) x y) == (0 : Int) && Go.Proofs.Ytnoccknoaihjlaa.calV (4 : Int) (Go.Proofs.Ytnoccknoaihjlaa.calV (6 : Int) (Go.Proofs.Ytnoccknoaihjlaa.calV (7 : Int) x y) y) (Go.Proofs.Ytnoccknoaihjlaa.calV (8 : Int) x y) == x)))) = Bool.true))) (by kernel_rfl) ?_
  refine ⟨⟨hx, hy⟩, ⟨w32_wrap _, hy⟩, ⟨hx, hy⟩, ⟨w32_xor x y hx hy, hy⟩, ⟨hx, hy⟩, fun h => ?_, fun h => ⟨⟨hx, hy⟩, ⟨hx, hy⟩, fun h2 => ?_, fun h2 => ?_⟩⟩
  · exfalso
    rw [sub_add x y hx, xor_xor x y hx hy, uns_sgn x hx, v14] at h
    cases h14 : decide (sgn x < sgn y) <;> simp [calE, flagI, h14] at h
  · have h2 : y = 0 := by simpa using h2
    simp [calE, h2]
  · have h2 : y ≠ 0 := by simpa using h2
    refine ⟨⟨?_, hy⟩, ⟨w32_wrap _, ?_⟩, ?_⟩
    · rw [v7, if_neg h2]; exact w32_wrap _
    · rw [v8, if_neg h2]; exact w32_wrap _
    · rw [quo_rem x y hx hy h2]; simp [calE, h2]

end Go.Proofs.Ytnoccknoaihjlaa
