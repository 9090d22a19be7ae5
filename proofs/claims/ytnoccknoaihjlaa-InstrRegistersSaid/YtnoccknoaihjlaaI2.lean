import Derived.Test.YtnoccknoaihjlaaEng12
import Derived.Test.YtnoccknoaihjlaaI1
set_option linter.unusedVariables false
set_option linter.unusedSimpArgs false
set_option linter.unnecessarySimpa false
/- The check of an instruction, and what the operations calculate. -/
namespace Go.Proofs.Ytnoccknoaihjlaa
open Go.DE
set_option maxRecDepth 100000
set_option linter.unusedVariables false
set_option linter.unusedSimpArgs false

def asL (l : List DI) (v : Int) : DI := match l.all (fun d => match d with | .lit _ => true | .sym _ => false) with | true => .lit v | false => .sym v
@[simp] theorem asL_v (l : List DI) (v : Int) : (asL l v).v = v := by unfold asL; split <;> rfl
def sI (op a b c : Int) : DV := .agg [.int .i64 (.sym op), .int .i64 (.sym a), .int .i64 (.sym b), .int .i64 (.sym c)]
def argE (f a b c : Int) : Bool := bif !hA f then
            a != 0 || bif !hB f then b != 0 || !hC f && c != 0 else !hC f && c != 0
          else bif !hB f then b != 0 || !hC f && c != 0 else !hC f && c != 0
def rngE (f lo hi a b c : Int) : Bool := !rg a || (!rg b || bif f == 3 then !rg c || hN f && (decide (c < lo) || decide (hi < c)) else hN f && (decide (c < lo) || decide (hi < c)))
def chk (op a b c : Int) : Int := if inO op then (if argE (formI op) a b c then 1 else if rngE (formI op) (lowI op) (highI op) a b c then 2 else 0) else 11

theorem p15 (op a b c : Int) : Pure1 Try.prog 15 [sI op a b c] (.int .i64 (.sym (chk op a b c))) := by
  refine pure_of_exec (ct := ⟨[c46, c47, c48, c49, c50, c51], []⟩) [] Try.func15 rfl rfl rfl ?_
  refine cast_goal (p := ((!Go.Proofs.Ytnoccknoaihjlaa.inO op) = Bool.true → (11 : Int) = Go.Proofs.Ytnoccknoaihjlaa.chk op a b c) ∧ ((!Go.Proofs.Ytnoccknoaihjlaa.inO op) = Bool.false → ((bif !Go.Proofs.Ytnoccknoaihjlaa.hA (Go.Proofs.Ytnoccknoaihjlaa.formI op) then a != (0 : Int) || bif !Go.Proofs.Ytnoccknoaihjlaa.hB (Go.Proofs.Ytnoccknoaihjlaa.formI op) then b != (0 : Int) || !Go.Proofs.Ytnoccknoaihjlaa.hC (Go.Proofs.Ytnoccknoaihjlaa.formI op) && c != (0 : Int) else !Go.Proofs.Ytnoccknoaihjlaa.hC (Go.Proofs.Ytnoccknoaihjlaa.formI op) && c != (0 : Int) else bif !Go.Proofs.Ytnoccknoaihjlaa.hB (Go.Proofs.Ytnoccknoaihjlaa.formI op) then b != (0 : Int) || !Go.Proofs.Ytnoccknoaihjlaa.hC (Go.Proofs.Ytnoccknoaihjlaa.formI op) && c != (0 : Int) else !Go.Proofs.Ytnoccknoaihjlaa.hC (Go.Proofs.Ytnoccknoaihjlaa.formI op) && c != (0 : Int)) = Bool.true → (1 : Int) = Go.Proofs.Ytnoccknoaihjlaa.chk op a b c) ∧ ((bif !Go.Proofs.Ytnoccknoaihjlaa.hA (Go.Proofs.Ytnoccknoaihjlaa.formI op) then a != (0 : Int) || bif !Go.Proofs.Ytnoccknoaihjlaa.hB (Go.Proofs.Ytnoccknoaihjlaa.formI op) then b != (0 : Int) || !Go.Proofs.Ytnoccknoaihjlaa.hC (Go.Proofs.Ytnoccknoaihjlaa.formI op) && c != (0 : Int) else !Go.Proofs.Ytnoccknoaihjlaa.hC (Go.Proofs.Ytnoccknoaihjlaa.formI op) && c != (0 : Int) else bif !Go.Proofs.Ytnoccknoaihjlaa.hB (Go.Proofs.Ytnoccknoaihjlaa.formI op) then b != (0 : Int) || !Go.Proofs.Ytnoccknoaihjlaa.hC (Go.Proofs.Ytnoccknoaihjlaa.formI op) && c != (0 : Int) else !Go.Proofs.Ytnoccknoaihjlaa.hC (Go.Proofs.Ytnoccknoaihjlaa.formI op) && c != (0 : Int)) = Bool.false → ((!Go.Proofs.Ytnoccknoaihjlaa.rg a || (!Go.Proofs.Ytnoccknoaihjlaa.rg b || bif Go.Proofs.Ytnoccknoaihjlaa.formI op == (3 : Int) then !Go.Proofs.Ytnoccknoaihjlaa.rg c || Go.Proofs.Ytnoccknoaihjlaa.hN (Go.Proofs.Ytnoccknoaihjlaa.formI op) && (Decidable.decide (c < Go.Proofs.Ytnoccknoaihjlaa.lowI op) || Decidable.decide (Go.Proofs.Ytnoccknoaihjlaa.highI op < c)) else Go.Proofs.Ytnoccknoaihjlaa.hN (Go.Proofs.Ytnoccknoaihjlaa.formI op) && (Decidable.decide (c < Go.Proofs.Ytnoccknoaihjlaa.lowI op) || Decidable.decide (Go.Proofs.Ytnoccknoaihjlaa.highI op < c)))) = Bool.true → (2 : Int) = Go.Proofs.Ytnoccknoaihjlaa.chk op a b c) ∧ ((!Go.Proofs.Ytnoccknoaihjlaa.rg a || (!Go.Proofs.Ytnoccknoaihjlaa.rg b || bif Go.Proofs.Ytnoccknoaihjlaa.formI op == (3 : Int) then !Go.Proofs.Ytnoccknoaihjlaa.rg c || Go.Proofs.Ytnoccknoaihjlaa.hN (Go.Proofs.Ytnoccknoaihjlaa.formI op) && (Decidable.decide (c < Go.Proofs.Ytnoccknoaihjlaa.lowI op) || Decidable.decide (Go.Proofs.Ytnoccknoaihjlaa.highI op < c)) else Go.Proofs.Ytnoccknoaihjlaa.hN (Go.Proofs.Ytnoccknoaihjlaa.formI op) && (Decidable.decide (c < Go.Proofs.Ytnoccknoaihjlaa.lowI op) || Decidable.decide (Go.Proofs.Ytnoccknoaihjlaa.highI op < c)))) = Bool.false → (0 : Int) = Go.Proofs.Ytnoccknoaihjlaa.chk op a b c)))) (by kernel_rfl) ?_
  refine ⟨fun h => ?_, fun h => ⟨fun h1 => ?_, fun h1 => ⟨fun h2 => ?_, fun h2 => ?_⟩⟩⟩
  · rw [Bool.not_eq_true'] at h; simp [chk, h]
  all_goals rw [Bool.not_eq_false'] at h
  · have h1 : argE (formI op) a b c = true := h1
    simp [chk, h, h1]
  all_goals have h1 : argE (formI op) a b c = false := h1
  · have h2 : rngE (formI op) (lowI op) (highI op) a b c = true := h2
    simp [chk, h, h1, h2]
  · have h2 : rngE (formI op) (lowI op) (highI op) a b c = false := h2
    simp [chk, h, h1, h2]
theorem rng_low (f lo hi a b c : Int) (h : f < 4) : rngE f lo hi a b c = (decide (a < 0) || (decide (7 < a) || (decide (b < 0) || (decide (7 < b) || hC f && (decide (c < 0) || decide (7 < c)))))) := by
  have : hN f = false := by simp [hN]; omega
  have h3 : (f == 3) = hC f := by simp [hC]; rw [Bool.eq_iff_iff]; simp; omega
  rw [Bool.eq_iff_iff]; simp only [rngE, this, h3, rg]; cases hC f <;> simp <;> omega
theorem rng_high (f lo hi a b c : Int) (h : 4 ≤ f) : rngE f lo hi a b c = (decide (a < 0) || (decide (7 < a) || (decide (b < 0) || (decide (7 < b) || hC f && (decide (c < lo) || decide (hi < c)))))) := by
  have : hN f = true := by simp [hN]; omega
  have h3 : (f == 3) = false := by simp; omega
  have h4 : hC f = true := by simp [hC]; omega
  rw [Bool.eq_iff_iff]; simp only [rngE, this, h3, h4, rg]; simp; omega
theorem p16 (op a b c : Int) : Pure1 Try.prog 16 [sI op a b c] (.int .i64 (.sym (chk op a b c))) := by
  refine pure_of_exec (ct := ⟨[c31, c52, c53, c54, c33], []⟩) [] Try.func16 rfl rfl rfl ?_
  refine cast_goal (p := ((Go.Proofs.Ytnoccknoaihjlaa.errO op != (0 : Int)) = Bool.true → Go.Proofs.Ytnoccknoaihjlaa.errO op = Go.Proofs.Ytnoccknoaihjlaa.chk op a b c) ∧ ((Go.Proofs.Ytnoccknoaihjlaa.errO op != (0 : Int)) = Bool.false → ((bif !Go.Proofs.Ytnoccknoaihjlaa.hA (Go.Proofs.Ytnoccknoaihjlaa.formI op) then a != (0 : Int) || bif !Go.Proofs.Ytnoccknoaihjlaa.hB (Go.Proofs.Ytnoccknoaihjlaa.formI op) then b != (0 : Int) || !Go.Proofs.Ytnoccknoaihjlaa.hC (Go.Proofs.Ytnoccknoaihjlaa.formI op) && c != (0 : Int) else !Go.Proofs.Ytnoccknoaihjlaa.hC (Go.Proofs.Ytnoccknoaihjlaa.formI op) && c != (0 : Int) else bif !Go.Proofs.Ytnoccknoaihjlaa.hB (Go.Proofs.Ytnoccknoaihjlaa.formI op) then b != (0 : Int) || !Go.Proofs.Ytnoccknoaihjlaa.hC (Go.Proofs.Ytnoccknoaihjlaa.formI op) && c != (0 : Int) else !Go.Proofs.Ytnoccknoaihjlaa.hC (Go.Proofs.Ytnoccknoaihjlaa.formI op) && c != (0 : Int)) = Bool.true → (1 : Int) = Go.Proofs.Ytnoccknoaihjlaa.chk op a b c) ∧ ((bif !Go.Proofs.Ytnoccknoaihjlaa.hA (Go.Proofs.Ytnoccknoaihjlaa.formI op) then a != (0 : Int) || bif !Go.Proofs.Ytnoccknoaihjlaa.hB (Go.Proofs.Ytnoccknoaihjlaa.formI op) then b != (0 : Int) || !Go.Proofs.Ytnoccknoaihjlaa.hC (Go.Proofs.Ytnoccknoaihjlaa.formI op) && c != (0 : Int) else !Go.Proofs.Ytnoccknoaihjlaa.hC (Go.Proofs.Ytnoccknoaihjlaa.formI op) && c != (0 : Int) else bif !Go.Proofs.Ytnoccknoaihjlaa.hB (Go.Proofs.Ytnoccknoaihjlaa.formI op) then b != (0 : Int) || !Go.Proofs.Ytnoccknoaihjlaa.hC (Go.Proofs.Ytnoccknoaihjlaa.formI op) && c != (0 : Int) else !Go.Proofs.Ytnoccknoaihjlaa.hC (Go.Proofs.Ytnoccknoaihjlaa.formI op) && c != (0 : Int)) = Bool.false → (Decidable.decide ((4 : Int) ≤ Go.Proofs.Ytnoccknoaihjlaa.formI op) = Bool.true → ((Decidable.decide (a < (0 : Int)) || (Decidable.decide ((7 : Int) < a) || (Decidable.decide (b < (0 : Int)) || (Decidable.decide ((7 : Int) < b) || Go.Proofs.Ytnoccknoaihjlaa.hC (Go.Proofs.Ytnoccknoaihjlaa.formI op) && (Decidable.decide (c < Go.Proofs.Ytnoccknoaihjlaa.lowI op) || Decidable.decide (Go.Proofs.Ytnoccknoaihjlaa.highI op < c)))))) = Bool.true → (2 : Int) = Go.Proofs.Ytnoccknoaihjlaa.chk op a b c) ∧ ((Decidable.decide (a < (0 : Int)) || (Decidable.decide ((7 : Int) < a) || (Decidable.decide (b < (0 : Int)) || (Decidable.decide ((7 : Int) < b) || Go.Proofs.Ytnoccknoaihjlaa.hC (Go.Proofs.Ytnoccknoaihjlaa.formI op) && (Decidable.decide (c < Go.Proofs.Ytnoccknoaihjlaa.lowI op) || Decidable.decide (Go.Proofs.Ytnoccknoaihjlaa.highI op < c)))))) = Bool.false → (0 : Int) = Go.Proofs.Ytnoccknoaihjlaa.chk op a b c)) ∧ (Decidable.decide ((4 : Int) ≤ Go.Proofs.Ytnoccknoaihjlaa.formI op) = Bool.false → ((Decidable.decide (a < (0 : Int)) || (Decidable.decide ((7 : Int) < a) || (Decidable.decide (b < (0 : Int)) || (Decidable.decide ((7 : Int) < b) || Go.Proofs.Ytnoccknoaihjlaa.hC (Go.Proofs.Ytnoccknoaihjlaa.formI op) && (Decidable.decide (c < (0 : Int)) || Decidable.decide ((7 : Int) < c)))))) = Bool.true → (2 : Int) = Go.Proofs.Ytnoccknoaihjlaa.chk op a b c) ∧ ((Decidable.decide (a < (0 : Int)) || (Decidable.decide ((7 : Int) < a) || (Decidable.decide (b < (0 : Int)) || (Decidable.decide ((7 : Int) < b) || Go.Proofs.Ytnoccknoaihjlaa.hC (Go.Proofs.Ytnoccknoaihjlaa.formI op) && (Decidable.decide (c < (0 : Int)) || Decidable.decide ((7 : Int) < c)))))) = Bool.false → (0 : Int) = Go.Proofs.Ytnoccknoaihjlaa.chk op a b c))))) (by kernel_rfl) ?_
  refine ⟨fun h => ?_, fun h => ⟨fun h1 => ?_, fun h1 => ⟨fun h2 => ⟨fun h3 => ?_, fun h3 => ?_⟩, fun h2 => ⟨fun h3 => ?_, fun h3 => ?_⟩⟩⟩⟩
  · cases h0 : inO op <;> simp [errO, chk, h0] at h ⊢
  all_goals have h : inO op = true := by cases h0 : inO op <;> simp [errO, h0] at h ⊢
  · have h1 : argE (formI op) a b c = true := h1
    simp [chk, h, h1]
  all_goals have h1 : argE (formI op) a b c = false := h1
  · rw [← rng_high (formI op) (lowI op) (highI op) a b c (by simpa using h2)] at h3
    simp [chk, h, h1, h3]
  · rw [← rng_high (formI op) (lowI op) (highI op) a b c (by simpa using h2)] at h3
    simp [chk, h, h1, h3]
  · rw [← rng_low (formI op) (lowI op) (highI op) a b c (by simpa using h2)] at h3
    simp [chk, h, h1, h3]
  · rw [← rng_low (formI op) (lowI op) (highI op) a b c (by simpa using h2)] at h3
    simp [chk, h, h1, h3]
def c15 : PureC Try.prog where
  f := 15
  spec := fun args => match args with
    | [.agg [.int .i64 op, .int .i64 a, .int .i64 b, .int .i64 c]] => some (none, .int .i64 (asL [op, a, b, c] (chk op.v a.v b.v c.v)))
    | _ => none
  body := hasBody_of Try.func15 (by kernel_rfl) (by kernel_rfl)
  ok := by
    intro args p d h hp
    split at h
    · rename_i op a b c; cases h; exact (p15 op.v a.v b.v c.v).congr (by simp [deqL, deq, sI]) (by simp [deq])
    · cases h

def c16 : PureC Try.prog where
  f := 16
  spec := fun args => match args with
    | [.agg [.int .i64 op, .int .i64 a, .int .i64 b, .int .i64 c]] => some (none, .int .i64 (asL [op, a, b, c] (chk op.v a.v b.v c.v)))
    | _ => none
  body := hasBody_of Try.func16 (by kernel_rfl) (by kernel_rfl)
  ok := by
    intro args p d h hp
    split at h
    · rename_i op a b c; cases h; exact (p16 op.v a.v b.v c.v).congr (by simp [deqL, deq, sI]) (by simp [deq])
    · cases h

theorem p14 (op a b c : Int) : Pure1 Try.prog 14 [sI op a b c] (sI op a b c) := by
  refine pure_of_exec (ct := ⟨[], []⟩) [] Try.func14 rfl rfl rfl ?_
  refine cast_goal (p := op = op ∧ a = a ∧ b = b ∧ c = c) (by kernel_rfl) ?_
  exact ⟨rfl, rfl, rfl, rfl⟩
def c14 : PureC Try.prog where
  f := 14
  spec := fun args => match args with
    | [.agg [.int .i64 op, .int .i64 a, .int .i64 b, .int .i64 c]] => some (none, .agg [.int .i64 op, .int .i64 a, .int .i64 b, .int .i64 c])
    | _ => none
  body := hasBody_of Try.func14 (by kernel_rfl) (by kernel_rfl)
  ok := by
    intro args p d h hp
    split at h
    · rename_i op a b c; cases h; exact (p14 op.v a.v b.v c.v).congr (by simp [deqL, deq, sI]) (by simp [deq, deqL, sI])
    · cases h

theorem p26 (op a b c : Int) : Pure1 Try.prog 26 [sI op a b c] (sI op a b c) := by
  refine pure_of_exec (ct := ⟨[], []⟩) [] Try.func26 rfl rfl rfl ?_
  refine cast_goal (p := op = op ∧ a = a ∧ b = b ∧ c = c) (by kernel_rfl) ?_
  exact ⟨rfl, rfl, rfl, rfl⟩
def c26 : PureC Try.prog where
  f := 26
  spec := fun args => match args with
    | [.agg [.int .i64 op, .int .i64 a, .int .i64 b, .int .i64 c]] => some (none, .agg [.int .i64 op, .int .i64 a, .int .i64 b, .int .i64 c])
    | _ => none
  body := hasBody_of Try.func26 (by kernel_rfl) (by kernel_rfl)
  ok := by
    intro args p d h hp
    split at h
    · rename_i op a b c; cases h; exact (p26 op.v a.v b.v c.v).congr (by simp [deqL, deq, sI]) (by simp [deq, deqL, sI])
    · cases h

def flagI (b : Bool) : Int := if b then 1 else 0
def asBI (b : DB) (v : Int) : DI := match b with | .lit _ => .lit v | .sym _ => .sym v
@[simp] theorem asBI_v (b : DB) (v : Int) : (asBI b v).v = v := by cases b <;> rfl
theorem p73 (b : Bool) : Pure1 Try.prog 73 [.bool (.sym b)] (.int .u32 (.sym (flagI b))) := by
  refine pure_of_exec (ct := ⟨[], []⟩) [] Try.func73 rfl rfl rfl ?_
  refine cast_goal (p := (b = Bool.true → (1 : Int) = Go.Proofs.Ytnoccknoaihjlaa.flagI b) ∧ (b = Bool.false → (0 : Int) = Go.Proofs.Ytnoccknoaihjlaa.flagI b)) (by kernel_rfl) ?_
  cases b <;> simp [flagI]
def c73 : PureC Try.prog where
  f := 73
  spec := fun args => match args with
    | [.bool b] => some (none, .int .u32 (asBI b (flagI b.v)))
    | _ => none
  body := hasBody_of Try.func73 (by kernel_rfl) (by kernel_rfl)
  ok := by
    intro args p d h hp
    split at h
    · rename_i b; cases h; exact (p73 b.v).congr (by simp [deqL, deq]) (by simp [deq])
    · cases h

abbrev W32 (x : Int) : Prop := 0 ≤ x ∧ x < 4294967296
theorem sgn_eq (x : Int) (h : W32 x) : sgn x = if x < 2147483648 then x else x - 4294967296 := by
  unfold W32 at h; simp only [sgn, IntKind.wrap_i32]; split <;> omega
theorem sgn_ne (x : Int) (h : W32 x) (h0 : x ≠ 0) : sgn x ≠ 0 := by rw [sgn_eq x h]; unfold W32 at h; split <;> omega
theorem sgn_ok (x : Int) (h : W32 x) : -2147483648 ≤ sgn x ∧ sgn x ≤ 2147483647 := by rw [sgn_eq x h]; unfold W32 at h; split <;> omega
theorem tdiv_ok (a b : Int) (h : -2147483648 ≤ a ∧ a ≤ 2147483647) : -2147483648 ≤ a.tdiv b ∧ a.tdiv b ≤ 2147483648 := by
  have h1 : (a.tdiv b).natAbs ≤ a.natAbs := by rw [Int.natAbs_tdiv]; exact Nat.div_le_self _ _
  omega

theorem p64 (x y : Int) : Pure1 Try.prog 64 [.int .u32 (.sym x), .int .u32 (.sym y)] (.int .u32 (.sym (IntKind.u32.wrap (x + y)))) := by
  refine pure_of_exec (ct := ⟨[c19, c20, c73], []⟩) [] Try.func64 rfl rfl rfl ?_
  refine cast_goal (p := Go.IntKind.wrap Go.IntKind.u32 (x + y) = Go.IntKind.wrap Go.IntKind.u32 (x + y)) (by kernel_rfl) ?_
  rfl
def c64 : PureC Try.prog where
  f := 64
  spec := fun args => match args with
    | [.int .u32 x, .int .u32 y] => some (none, .int .u32 (asL [x, y] (IntKind.u32.wrap (x.v + y.v))))
    | _ => none
  body := hasBody_of Try.func64 (by kernel_rfl) (by kernel_rfl)
  ok := by
    intro args p d h hp
    split at h
    · rename_i x y; cases h; exact (p64 x.v y.v).congr (by simp [deqL, deq]) (by simp [deq])
    · cases h

theorem p65 (x y : Int) : Pure1 Try.prog 65 [.int .u32 (.sym x), .int .u32 (.sym y)] (.int .u32 (.sym (IntKind.u32.wrap (x - y)))) := by
  refine pure_of_exec (ct := ⟨[c19, c20, c73], []⟩) [] Try.func65 rfl rfl rfl ?_
  refine cast_goal (p := Go.IntKind.wrap Go.IntKind.u32 (x - y) = Go.IntKind.wrap Go.IntKind.u32 (x - y)) (by kernel_rfl) ?_
  rfl
def c65 : PureC Try.prog where
  f := 65
  spec := fun args => match args with
    | [.int .u32 x, .int .u32 y] => some (none, .int .u32 (asL [x, y] (IntKind.u32.wrap (x.v - y.v))))
    | _ => none
  body := hasBody_of Try.func65 (by kernel_rfl) (by kernel_rfl)
  ok := by
    intro args p d h hp
    split at h
    · rename_i x y; cases h; exact (p65 x.v y.v).congr (by simp [deqL, deq]) (by simp [deq])
    · cases h

theorem p66 (x y : Int) : Pure1 Try.prog 66 [.int .u32 (.sym x), .int .u32 (.sym y)] (.int .u32 (.sym (IntKind.u32.wrap (x * y)))) := by
  refine pure_of_exec (ct := ⟨[c19, c20, c73], []⟩) [] Try.func66 rfl rfl rfl ?_
  refine cast_goal (p := Go.IntKind.wrap Go.IntKind.u32 (x * y) = Go.IntKind.wrap Go.IntKind.u32 (x * y)) (by kernel_rfl) ?_
  rfl
def c66 : PureC Try.prog where
  f := 66
  spec := fun args => match args with
    | [.int .u32 x, .int .u32 y] => some (none, .int .u32 (asL [x, y] (IntKind.u32.wrap (x.v * y.v))))
    | _ => none
  body := hasBody_of Try.func66 (by kernel_rfl) (by kernel_rfl)
  ok := by
    intro args p d h hp
    split at h
    · rename_i x y; cases h; exact (p66 x.v y.v).congr (by simp [deqL, deq]) (by simp [deq])
    · cases h

theorem p67 (x y : Int) : Pure1 Try.prog 67 [.int .u32 (.sym x), .int .u32 (.sym y)] (.int .u32 (.sym (bitsI BinOp.and IntKind.u32 x y))) := by
  refine pure_of_exec (ct := ⟨[c19, c20, c73], []⟩) [] Try.func67 rfl rfl rfl ?_
  refine cast_goal (p := Go.DE.bitsI Go.BinOp.and Go.IntKind.u32 x y = Go.DE.bitsI Go.BinOp.and Go.IntKind.u32 x y) (by kernel_rfl) ?_
  rfl
def c67 : PureC Try.prog where
  f := 67
  spec := fun args => match args with
    | [.int .u32 x, .int .u32 y] => some (none, .int .u32 (asL [x, y] (bitsI BinOp.and IntKind.u32 x.v y.v)))
    | _ => none
  body := hasBody_of Try.func67 (by kernel_rfl) (by kernel_rfl)
  ok := by
    intro args p d h hp
    split at h
    · rename_i x y; cases h; exact (p67 x.v y.v).congr (by simp [deqL, deq]) (by simp [deq])
    · cases h

theorem p68 (x y : Int) : Pure1 Try.prog 68 [.int .u32 (.sym x), .int .u32 (.sym y)] (.int .u32 (.sym (bitsI BinOp.or IntKind.u32 x y))) := by
  refine pure_of_exec (ct := ⟨[c19, c20, c73], []⟩) [] Try.func68 rfl rfl rfl ?_
  refine cast_goal (p := Go.DE.bitsI Go.BinOp.or Go.IntKind.u32 x y = Go.DE.bitsI Go.BinOp.or Go.IntKind.u32 x y) (by kernel_rfl) ?_
  rfl
def c68 : PureC Try.prog where
  f := 68
  spec := fun args => match args with
    | [.int .u32 x, .int .u32 y] => some (none, .int .u32 (asL [x, y] (bitsI BinOp.or IntKind.u32 x.v y.v)))
    | _ => none
  body := hasBody_of Try.func68 (by kernel_rfl) (by kernel_rfl)
  ok := by
    intro args p d h hp
    split at h
    · rename_i x y; cases h; exact (p68 x.v y.v).congr (by simp [deqL, deq]) (by simp [deq])
    · cases h

theorem p69 (x y : Int) : Pure1 Try.prog 69 [.int .u32 (.sym x), .int .u32 (.sym y)] (.int .u32 (.sym (bitsI BinOp.xor IntKind.u32 x y))) := by
  refine pure_of_exec (ct := ⟨[c19, c20, c73], []⟩) [] Try.func69 rfl rfl rfl ?_
  refine cast_goal (p := Go.DE.bitsI Go.BinOp.xor Go.IntKind.u32 x y = Go.DE.bitsI Go.BinOp.xor Go.IntKind.u32 x y) (by kernel_rfl) ?_
  rfl
def c69 : PureC Try.prog where
  f := 69
  spec := fun args => match args with
    | [.int .u32 x, .int .u32 y] => some (none, .int .u32 (asL [x, y] (bitsI BinOp.xor IntKind.u32 x.v y.v)))
    | _ => none
  body := hasBody_of Try.func69 (by kernel_rfl) (by kernel_rfl)
  ok := by
    intro args p d h hp
    split at h
    · rename_i x y; cases h; exact (p69 x.v y.v).congr (by simp [deqL, deq]) (by simp [deq])
    · cases h

theorem p70 (x y : Int) (hy : 0 ≤ y) : Pure1 Try.prog 70 [.int .u32 (.sym x), .int .u32 (.sym y)] (.int .u32 (.sym (shlI IntKind.u32 x (y % 32)))) := by
  refine pure_of_exec (ct := ⟨[c19, c20, c73], []⟩) [] Try.func70 rfl rfl rfl ?_
  refine cast_goal (p := (0 : Int) ≤ Int.tmod y (32 : Int) ∧ Go.DE.shlI Go.IntKind.u32 x (Int.tmod y (32 : Int)) = Go.DE.shlI Go.IntKind.u32 x (y % (32 : Int))) (by kernel_rfl) ?_
  rw [Int.tmod_eq_emod_of_nonneg hy]
  exact ⟨by omega, rfl⟩
def c70 : PureC Try.prog where
  f := 70
  spec := fun args => match args with
    | [.int .u32 x, .int .u32 y] => some (some (0 ≤ y.v), .int .u32 (asL [x, y] (shlI IntKind.u32 x.v (y.v % 32))))
    | _ => none
  body := hasBody_of Try.func70 (by kernel_rfl) (by kernel_rfl)
  ok := by
    intro args p d h hp
    split at h
    · rename_i x y; cases h; exact (p70 x.v y.v (hp _ rfl)).congr (by simp [deqL, deq]) (by simp [deq])
    · cases h

theorem p71 (x y : Int) (hy : 0 ≤ y) : Pure1 Try.prog 71 [.int .u32 (.sym x), .int .u32 (.sym y)] (.int .u32 (.sym (shrI IntKind.u32 x (y % 32)))) := by
  refine pure_of_exec (ct := ⟨[c19, c20, c73], []⟩) [] Try.func71 rfl rfl rfl ?_
  refine cast_goal (p := (0 : Int) ≤ Int.tmod y (32 : Int) ∧ Go.DE.shrI Go.IntKind.u32 x (Int.tmod y (32 : Int)) = Go.DE.shrI Go.IntKind.u32 x (y % (32 : Int))) (by kernel_rfl) ?_
  rw [Int.tmod_eq_emod_of_nonneg hy]
  exact ⟨by omega, rfl⟩
def c71 : PureC Try.prog where
  f := 71
  spec := fun args => match args with
    | [.int .u32 x, .int .u32 y] => some (some (0 ≤ y.v), .int .u32 (asL [x, y] (shrI IntKind.u32 x.v (y.v % 32))))
    | _ => none
  body := hasBody_of Try.func71 (by kernel_rfl) (by kernel_rfl)
  ok := by
    intro args p d h hp
    split at h
    · rename_i x y; cases h; exact (p71 x.v y.v (hp _ rfl)).congr (by simp [deqL, deq]) (by simp [deq])
    · cases h

theorem p72 (x y : Int) : Pure1 Try.prog 72 [.int .u32 (.sym x), .int .u32 (.sym y)] (.int .u32 (.sym (flagI (decide (sgn x < sgn y))))) := by
  refine pure_of_exec (ct := ⟨[c19, c20, c73], []⟩) [] Try.func72 rfl rfl rfl ?_
  refine cast_goal (p := Go.Proofs.Ytnoccknoaihjlaa.flagI (Decidable.decide (Go.IntKind.wrap Go.IntKind.i32 x < Go.IntKind.wrap Go.IntKind.i32 y)) = Go.Proofs.Ytnoccknoaihjlaa.flagI (Decidable.decide (Go.Proofs.Ytnoccknoaihjlaa.sgn x < Go.Proofs.Ytnoccknoaihjlaa.sgn y))) (by kernel_rfl) ?_
  first | rfl | simp [flagI]
def c72 : PureC Try.prog where
  f := 72
  spec := fun args => match args with
    | [.int .u32 x, .int .u32 y] => some (none, .int .u32 (asL [x, y] (flagI (decide (sgn x.v < sgn y.v)))))
    | _ => none
  body := hasBody_of Try.func72 (by kernel_rfl) (by kernel_rfl)
  ok := by
    intro args p d h hp
    split at h
    · rename_i x y; cases h; exact (p72 x.v y.v).congr (by simp [deqL, deq]) (by simp [deq])
    · cases h

theorem p74 (x y : Int) : Pure1 Try.prog 74 [.int .u32 (.sym x), .int .u32 (.sym y)] (.int .u32 (.sym (flagI (x == y)))) := by
  refine pure_of_exec (ct := ⟨[c19, c20, c73], []⟩) [] Try.func74 rfl rfl rfl ?_
  refine cast_goal (p := Go.Proofs.Ytnoccknoaihjlaa.flagI (x == y) = Go.Proofs.Ytnoccknoaihjlaa.flagI (x == y)) (by kernel_rfl) ?_
  rfl
def c74 : PureC Try.prog where
  f := 74
  spec := fun args => match args with
    | [.int .u32 x, .int .u32 y] => some (none, .int .u32 (asL [x, y] (flagI (x.v == y.v))))
    | _ => none
  body := hasBody_of Try.func74 (by kernel_rfl) (by kernel_rfl)
  ok := by
    intro args p d h hp
    split at h
    · rename_i x y; cases h; exact (p74 x.v y.v).congr (by simp [deqL, deq]) (by simp [deq])
    · cases h

theorem p75 (x y : Int) (hx : W32 x) (hy : W32 y) (h : y ≠ 0) : Pure1 Try.prog 75 [.int .u32 (.sym x), .int .u32 (.sym y)] (.int .u32 (.sym (uns ((sgn x).tdiv (sgn y))))) := by
  refine pure_of_exec (ct := ⟨[c19, c20, c73], []⟩) [] Try.func75 rfl rfl rfl ?_
  refine cast_goal (p := Go.Proofs.Ytnoccknoaihjlaa.sgn y ≠ (0 : Int) ∧ Go.DE.okI64 (Int.tdiv (Go.Proofs.Ytnoccknoaihjlaa.sgn x) (Go.Proofs.Ytnoccknoaihjlaa.sgn y)) ∧ Go.Proofs.Ytnoccknoaihjlaa.uns (Int.tdiv (Go.Proofs.Ytnoccknoaihjlaa.sgn x) (Go.Proofs.Ytnoccknoaihjlaa.sgn y)) = Go.Proofs.Ytnoccknoaihjlaa.uns (Int.tdiv (Go.Proofs.Ytnoccknoaihjlaa.sgn x) (Go.Proofs.Ytnoccknoaihjlaa.sgn y))) (by kernel_rfl) ?_
  refine ⟨sgn_ne y hy h, ?_, rfl⟩
  have := tdiv_ok (sgn x) (sgn y) (sgn_ok x hx)
  unfold okI64; omega
def c75 : PureC Try.prog where
  f := 75
  spec := fun args => match args with
    | [.int .u32 x, .int .u32 y] => some (some (W32 x.v ∧ W32 y.v ∧ y.v ≠ 0), .int .u32 (asL [x, y] (uns ((sgn x.v).tdiv (sgn y.v)))))
    | _ => none
  body := hasBody_of Try.func75 (by kernel_rfl) (by kernel_rfl)
  ok := by
    intro args p d h hp
    split at h
    · rename_i x y; cases h; exact (p75 x.v y.v (hp _ rfl).1 (hp _ rfl).2.1 (hp _ rfl).2.2).congr (by simp [deqL, deq]) (by simp [deq])
    · cases h

theorem p76 (x y : Int) (hx : W32 x) (hy : W32 y) (h : y ≠ 0) : Pure1 Try.prog 76 [.int .u32 (.sym x), .int .u32 (.sym y)] (.int .u32 (.sym (uns ((sgn x).tmod (sgn y))))) := by
  refine pure_of_exec (ct := ⟨[c19, c20, c73], []⟩) [] Try.func76 rfl rfl rfl ?_
  refine cast_goal (p := Go.Proofs.Ytnoccknoaihjlaa.sgn y ≠ (0 : Int) ∧ Go.Proofs.Ytnoccknoaihjlaa.uns (Int.tmod (Go.Proofs.Ytnoccknoaihjlaa.sgn x) (Go.Proofs.Ytnoccknoaihjlaa.sgn y)) = Go.Proofs.Ytnoccknoaihjlaa.uns (Int.tmod (Go.Proofs.Ytnoccknoaihjlaa.sgn x) (Go.Proofs.Ytnoccknoaihjlaa.sgn y))) (by kernel_rfl) ?_
  exact ⟨sgn_ne y hy h, rfl⟩
def c76 : PureC Try.prog where
  f := 76
  spec := fun args => match args with
    | [.int .u32 x, .int .u32 y] => some (some (W32 x.v ∧ W32 y.v ∧ y.v ≠ 0), .int .u32 (asL [x, y] (uns ((sgn x.v).tmod (sgn y.v)))))
    | _ => none
  body := hasBody_of Try.func76 (by kernel_rfl) (by kernel_rfl)
  ok := by
    intro args p d h hp
    split at h
    · rename_i x y; cases h; exact (p76 x.v y.v (hp _ rfl).1 (hp _ rfl).2.1 (hp _ rfl).2.2).congr (by simp [deqL, deq]) (by simp [deq])
    · cases h

def mapA : DO := .map [(.int .i64 (.lit 4), .func 64 []), (.int .i64 (.lit 5), .func 65 []), (.int .i64 (.lit 6), .func 66 []), (.int .i64 (.lit 9), .func 67 []), (.int .i64 (.lit 10), .func 68 []), (.int .i64 (.lit 11), .func 69 []), (.int .i64 (.lit 12), .func 70 []), (.int .i64 (.lit 13), .func 71 []), (.int .i64 (.lit 14), .func 72 []), (.int .i64 (.lit 15), .func 74 []), (.int .i64 (.lit 7), .func 75 []), (.int .i64 (.lit 8), .func 76 [])]
def c55 : CanC Try.prog where
  f := 55
  α := Unit
  args := fun _ => []
  hp := fun _ => []
  n := 0
  rb := 0
  infer := fun a _ => match a with | [] => some () | _ => none
  pre := fun _ => True
  res := fun _ => .map 0
  hp' := fun _ => [(0, mapA)]
  n' := 1
  rbn := rfl
  nn := rfl
  body := hasBody_of Try.func55 (by kernel_rfl) (by kernel_rfl)
  ok := fun _ _ => can_of_exec (ct := ⟨[], []⟩) [] Try.func55 rfl rfl (by
    refine cast_goal (p := True ∧ True) (by kernel_rfl) ?_
    trivial)

def calV (op x y : Int) : Int :=
  if op = 4 then IntKind.u32.wrap (x + y) else
  if op = 5 then IntKind.u32.wrap (x - y) else
  if op = 6 then IntKind.u32.wrap (x * y) else
  if op = 7 then (if y = 0 then 0 else uns ((sgn x).tdiv (sgn y))) else
  if op = 8 then (if y = 0 then 0 else uns ((sgn x).tmod (sgn y))) else
  if op = 9 then bitsI BinOp.and IntKind.u32 x y else
  if op = 10 then bitsI BinOp.or IntKind.u32 x y else
  if op = 11 then bitsI BinOp.xor IntKind.u32 x y else
  if op = 12 then shlI IntKind.u32 x (y % 32) else
  if op = 13 then shrI IntKind.u32 x (y % 32) else
  if op = 14 then flagI (decide (sgn x < sgn y)) else
  if op = 15 then flagI (x == y) else 0
def calE (op y : Int) : Int := if 4 ≤ op ∧ op ≤ 15 then (if (op = 7 ∨ op = 8) ∧ y = 0 then 38 else 0) else 11
theorem p17_4 (x y : Int) : Pure1 Try.prog 17 [.int .i64 (.lit 4), .int .u32 (.sym x), .int .u32 (.sym y)] (.tup [.int .u32 (.sym (IntKind.u32.wrap (x + y))), .int .i64 (.lit 0)]) := by
  refine pure_of_exec (ct := ⟨[c64], [c55]⟩) [] Try.func17 rfl rfl rfl ?_
  refine cast_goal (p := True ∧ Go.IntKind.wrap Go.IntKind.u32 (x + y) = Go.IntKind.wrap Go.IntKind.u32 (x + y)) (by kernel_rfl) ?_
  simp
theorem p17_5 (x y : Int) : Pure1 Try.prog 17 [.int .i64 (.lit 5), .int .u32 (.sym x), .int .u32 (.sym y)] (.tup [.int .u32 (.sym (IntKind.u32.wrap (x - y))), .int .i64 (.lit 0)]) := by
  refine pure_of_exec (ct := ⟨[c65], [c55]⟩) [] Try.func17 rfl rfl rfl ?_
  refine cast_goal (p := True ∧ Go.IntKind.wrap Go.IntKind.u32 (x - y) = Go.IntKind.wrap Go.IntKind.u32 (x - y)) (by kernel_rfl) ?_
  simp
theorem p17_6 (x y : Int) : Pure1 Try.prog 17 [.int .i64 (.lit 6), .int .u32 (.sym x), .int .u32 (.sym y)] (.tup [.int .u32 (.sym (IntKind.u32.wrap (x * y))), .int .i64 (.lit 0)]) := by
  refine pure_of_exec (ct := ⟨[c66], [c55]⟩) [] Try.func17 rfl rfl rfl ?_
  refine cast_goal (p := True ∧ Go.IntKind.wrap Go.IntKind.u32 (x * y) = Go.IntKind.wrap Go.IntKind.u32 (x * y)) (by kernel_rfl) ?_
  simp
theorem p17_7 (x y : Int) (hx : W32 x) (hy : W32 y) : Pure1 Try.prog 17 [.int .i64 (.lit 7), .int .u32 (.sym x), .int .u32 (.sym y)] (.tup [.int .u32 (.sym (calV 7 x y)), .int .i64 (.sym (calE 7 y))]) := by
  refine pure_of_exec (ct := ⟨[c75], [c55]⟩) [] Try.func17 rfl rfl rfl ?_
  refine cast_goal (p := True ∧ ((y == (0 : Int)) = Bool.true → (0 : Int) = Go.Proofs.Ytnoccknoaihjlaa.calV (7 : Int) x y ∧ (38 : Int) = Go.Proofs.Ytnoccknoaihjlaa.calE (7 : Int) y) ∧ ((y == (0 : Int)) = Bool.false → (Go.Proofs.Ytnoccknoaihjlaa.W32 x ∧ Go.Proofs.Ytnoccknoaihjlaa.W32 y ∧ y ≠ (0 : Int)) ∧ Go.Proofs.Ytnoccknoaihjlaa.uns (Int.tdiv (Go.Proofs.Ytnoccknoaihjlaa.sgn x) (Go.Proofs.Ytnoccknoaihjlaa.sgn y)) = Go.Proofs.Ytnoccknoaihjlaa.calV (7 : Int) x y ∧ (0 : Int) = Go.Proofs.Ytnoccknoaihjlaa.calE (7 : Int) y)) (by kernel_rfl) ?_
  refine ⟨trivial, fun h => ?_, fun h => ?_⟩
  · have h : y = 0 := by simpa using h
    simp [calV, calE, h]
  · have h : y ≠ 0 := by simpa using h
    simp [calV, calE, h]; exact ⟨hx, hy⟩
theorem p17_8 (x y : Int) (hx : W32 x) (hy : W32 y) : Pure1 Try.prog 17 [.int .i64 (.lit 8), .int .u32 (.sym x), .int .u32 (.sym y)] (.tup [.int .u32 (.sym (calV 8 x y)), .int .i64 (.sym (calE 8 y))]) := by
  refine pure_of_exec (ct := ⟨[c76], [c55]⟩) [] Try.func17 rfl rfl rfl ?_
  refine cast_goal (p := True ∧ ((y == (0 : Int)) = Bool.true → (0 : Int) = Go.Proofs.Ytnoccknoaihjlaa.calV (8 : Int) x y ∧ (38 : Int) = Go.Proofs.Ytnoccknoaihjlaa.calE (8 : Int) y) ∧ ((y == (0 : Int)) = Bool.false → (Go.Proofs.Ytnoccknoaihjlaa.W32 x ∧ Go.Proofs.Ytnoccknoaihjlaa.W32 y ∧ y ≠ (0 : Int)) ∧ Go.Proofs.Ytnoccknoaihjlaa.uns (Int.tmod (Go.Proofs.Ytnoccknoaihjlaa.sgn x) (Go.Proofs.Ytnoccknoaihjlaa.sgn y)) = Go.Proofs.Ytnoccknoaihjlaa.calV (8 : Int) x y ∧ (0 : Int) = Go.Proofs.Ytnoccknoaihjlaa.calE (8 : Int) y)) (by kernel_rfl) ?_
  refine ⟨trivial, fun h => ?_, fun h => ?_⟩
  · have h : y = 0 := by simpa using h
    simp [calV, calE, h]
  · have h : y ≠ 0 := by simpa using h
    simp [calV, calE, h]; exact ⟨hx, hy⟩
theorem p17_9 (x y : Int) : Pure1 Try.prog 17 [.int .i64 (.lit 9), .int .u32 (.sym x), .int .u32 (.sym y)] (.tup [.int .u32 (.sym (bitsI BinOp.and IntKind.u32 x y)), .int .i64 (.lit 0)]) := by
  refine pure_of_exec (ct := ⟨[c67], [c55]⟩) [] Try.func17 rfl rfl rfl ?_
  refine cast_goal (p := True ∧ Go.DE.bitsI Go.BinOp.and Go.IntKind.u32 x y = Go.DE.bitsI Go.BinOp.and Go.IntKind.u32 x y) (by kernel_rfl) ?_
  simp
theorem p17_10 (x y : Int) : Pure1 Try.prog 17 [.int .i64 (.lit 10), .int .u32 (.sym x), .int .u32 (.sym y)] (.tup [.int .u32 (.sym (bitsI BinOp.or IntKind.u32 x y)), .int .i64 (.lit 0)]) := by
  refine pure_of_exec (ct := ⟨[c68], [c55]⟩) [] Try.func17 rfl rfl rfl ?_
  refine cast_goal (p := True ∧ Go.DE.bitsI Go.BinOp.or Go.IntKind.u32 x y = Go.DE.bitsI Go.BinOp.or Go.IntKind.u32 x y) (by kernel_rfl) ?_
  simp
theorem p17_11 (x y : Int) : Pure1 Try.prog 17 [.int .i64 (.lit 11), .int .u32 (.sym x), .int .u32 (.sym y)] (.tup [.int .u32 (.sym (bitsI BinOp.xor IntKind.u32 x y)), .int .i64 (.lit 0)]) := by
  refine pure_of_exec (ct := ⟨[c69], [c55]⟩) [] Try.func17 rfl rfl rfl ?_
  refine cast_goal (p := True ∧ Go.DE.bitsI Go.BinOp.xor Go.IntKind.u32 x y = Go.DE.bitsI Go.BinOp.xor Go.IntKind.u32 x y) (by kernel_rfl) ?_
  simp
theorem p17_12 (x y : Int) (hy : 0 ≤ y) : Pure1 Try.prog 17 [.int .i64 (.lit 12), .int .u32 (.sym x), .int .u32 (.sym y)] (.tup [.int .u32 (.sym (shlI IntKind.u32 x (y % 32))), .int .i64 (.lit 0)]) := by
  refine pure_of_exec (ct := ⟨[c70], [c55]⟩) [] Try.func17 rfl rfl rfl ?_
  refine cast_goal (p := True ∧ (0 : Int) ≤ y ∧ Go.DE.shlI Go.IntKind.u32 x (y % (32 : Int)) = Go.DE.shlI Go.IntKind.u32 x (y % (32 : Int))) (by kernel_rfl) ?_
  simp [hy]
theorem p17_13 (x y : Int) (hy : 0 ≤ y) : Pure1 Try.prog 17 [.int .i64 (.lit 13), .int .u32 (.sym x), .int .u32 (.sym y)] (.tup [.int .u32 (.sym (shrI IntKind.u32 x (y % 32))), .int .i64 (.lit 0)]) := by
  refine pure_of_exec (ct := ⟨[c71], [c55]⟩) [] Try.func17 rfl rfl rfl ?_
  refine cast_goal (p := True ∧ (0 : Int) ≤ y ∧ Go.DE.shrI Go.IntKind.u32 x (y % (32 : Int)) = Go.DE.shrI Go.IntKind.u32 x (y % (32 : Int))) (by kernel_rfl) ?_
  simp [hy]
theorem p17_14 (x y : Int) : Pure1 Try.prog 17 [.int .i64 (.lit 14), .int .u32 (.sym x), .int .u32 (.sym y)] (.tup [.int .u32 (.sym (flagI (decide (sgn x < sgn y)))), .int .i64 (.lit 0)]) := by
  refine pure_of_exec (ct := ⟨[c72], [c55]⟩) [] Try.func17 rfl rfl rfl ?_
  refine cast_goal (p := True ∧ Go.Proofs.Ytnoccknoaihjlaa.flagI (Decidable.decide (Go.Proofs.Ytnoccknoaihjlaa.sgn x < Go.Proofs.Ytnoccknoaihjlaa.sgn y)) = Go.Proofs.Ytnoccknoaihjlaa.flagI (Decidable.decide (Go.Proofs.Ytnoccknoaihjlaa.sgn x < Go.Proofs.Ytnoccknoaihjlaa.sgn y))) (by kernel_rfl) ?_
  simp
theorem p17_15 (x y : Int) : Pure1 Try.prog 17 [.int .i64 (.lit 15), .int .u32 (.sym x), .int .u32 (.sym y)] (.tup [.int .u32 (.sym (flagI (x == y))), .int .i64 (.lit 0)]) := by
  refine pure_of_exec (ct := ⟨[c74], [c55]⟩) [] Try.func17 rfl rfl rfl ?_
  refine cast_goal (p := True ∧ Go.Proofs.Ytnoccknoaihjlaa.flagI (x == y) = Go.Proofs.Ytnoccknoaihjlaa.flagI (x == y)) (by kernel_rfl) ?_
  simp
theorem p17_out (op x y : Int) (h : ¬ (4 ≤ op ∧ op ≤ 15)) : Pure1 Try.prog 17 [.int .i64 (.sym op), .int .u32 (.sym x), .int .u32 (.sym y)] (.tup [.int .u32 (.lit 0), .int .i64 (.lit 11)]) := by
  refine pure_of_exec (ct := ⟨[c64, c65, c66, c67, c68, c69, c70, c71, c72, c74, c75, c76], [c55]⟩) [] Try.func17 rfl rfl rfl ?_
  refine cast_goal (p := True ∧ ((op == (4 : Int)) = Bool.true → ((bif op == (7 : Int) then y == (0 : Int) else op == (8 : Int) && y == (0 : Int)) = Bool.true → False) ∧ ((bif op == (7 : Int) then y == (0 : Int) else op == (8 : Int) && y == (0 : Int)) = Bool.false → False)) ∧ ((op == (4 : Int)) = Bool.false → ((op == (5 : Int)) = Bool.true → ((bif op == (7 : Int) then y == (0 : Int) else op == (8 : Int) && y == (0 : Int)) = Bool.true → False) ∧ ((bif op == (7 : Int) then y == (0 : Int) else op == (8 : Int) && y == (0 : Int)) = Bool.false → False)) ∧ ((op == (5 : Int)) = Bool.false → ((op == (6 : Int)) = Bool.true → ((bif op == (7 : Int) then y == (0 : Int) else op == (8 : Int) && y == (0 : Int)) = Bool.true → False) ∧ ((bif op == (7 : Int) then y == (0 : Int) else op == (8 : Int) && y == (0 : Int)) = Bool.false → False)) ∧ ((op == (6 : Int)) = Bool.false → ((op == (9 : Int)) = Bool.true → ((bif op == (7 : Int) then y == (0 : Int) else op == (8 : Int) && y == (0 : Int)) = Bool.true → False) ∧ ((bif op == (7 : Int) then y == (0 : Int) else op == (8 : Int) && y == (0 : Int)) = Bool.false → False)) ∧ ((op == (9 : Int)) = Bool.false → ((op == (10 : Int)) = Bool.true → ((bif op == (7 : Int) then y == (0 : Int) else op == (8 : Int) && y == (0 : Int)) = Bool.true → False) ∧ ((bif op == (7 : Int) then y == (0 : Int) else op == (8 : Int) && y == (0 : Int)) = Bool.false → False)) ∧ ((op == (10 : Int)) = Bool.false → ((op == (11 : Int)) = Bool.true → ((bif op == (7 : Int) then y == (0 : Int) else op == (8 : Int) && y == (0 : Int)) = Bool.true → False) ∧ ((bif op == (7 : Int) then y == (0 : Int) else op == (8 : Int) && y == (0 : Int)) = Bool.false → False)) ∧ ((op == (11 : Int)) = Bool.false → ((op == (12 : Int)) = Bool.true → ((bif op == (7 : Int) then y == (0 : Int) else op == (8 : Int) && y == (0 : Int)) = Bool.true → False) ∧ ((bif op == (7 : Int) then y == (0 : Int) else op == (8 : Int) && y == (0 : Int)) = Bool.false → (0 : Int) ≤ y ∧ False)) ∧ ((op == (12 : Int)) = Bool.false → ((op == (13 : Int)) = Bool.true → ((bif op == (7 : Int) then y == (0 : Int) else op == (8 : Int) && y == (0 : Int)) = Bool.true → False) ∧ ((bif op == (7 : Int) then y == (0 : Int) else op == (8 : Int) && y == (0 : Int)) = Bool.false → (0 : Int) ≤ y ∧ False)) ∧ ((op == (13 : Int)) = Bool.false → ((op == (14 : Int)) = Bool.true → ((bif op == (7 : Int) then y == (0 : Int) else op == (8 : Int) && y == (0 : Int)) = Bool.true → False) ∧ ((bif op == (7 : Int) then y == (0 : Int) else op == (8 : Int) && y == (0 : Int)) = Bool.false → False)) ∧ ((op == (14 : Int)) = Bool.false → ((op == (15 : Int)) = Bool.true → ((bif op == (7 : Int) then y == (0 : Int) else op == (8 : Int) && y == (0 : Int)) = Bool.true → False) ∧ ((bif op == (7 : Int) then y == (0 : Int) else op == (8 : Int) && y == (0 : Int)) = Bool.false → False)) ∧ ((op == (15 : Int)) = Bool.false → ((op == (7 : Int)) = Bool.true → ((bif op == (7 : Int) then y == (0 : Int) else op == (8 : Int) && y == (0 : Int)) = Bool.true → False) ∧ ((bif op == (7 : Int) then y == (0 : Int) else op == (8 : Int) && y == (0 : Int)) = Bool.false → (Go.Proofs.Ytnoccknoaihjlaa.W32 x ∧ Go.Proofs.Ytnoccknoaihjlaa.W32 y ∧ y ≠ (0 : Int)) ∧ False)) ∧ ((op == (7 : Int)) = Bool.false → ((op == (8 : Int)) = Bool.true → ((bif op == (7 : Int) then y == (0 : Int) else op == (8 : Int) && y == (0 : Int)) = Bool.true → False) ∧ ((bif op == (7 : Int) then y == (0 : Int) else op == (8 : Int) && y == (0 : Int)) = Bool.false → (Go.Proofs.Ytnoccknoaihjlaa.W32 x ∧ Go.Proofs.Ytnoccknoaihjlaa.W32 y ∧ y ≠ (0 : Int)) ∧ False)) ∧ ((op == (8 : Int)) = Bool.false → True))))))))))))) (by kernel_rfl) ?_
  have e (k : Int) (hk : 4 ≤ k ∧ k ≤ 15) : (op == k) = false := by rw [beq_eq_false_iff_ne]; omega
  simp [e]
theorem op12 (op : Int) (h : 4 ≤ op ∧ op ≤ 15) : op = 4 ∨ op = 5 ∨ op = 6 ∨ op = 7 ∨ op = 8 ∨ op = 9 ∨ op = 10 ∨ op = 11 ∨ op = 12 ∨ op = 13 ∨ op = 14 ∨ op = 15 := by omega
theorem p17 (op x y : Int) (hx : W32 x) (hy : W32 y) : Pure1 Try.prog 17 [.int .i64 (.sym op), .int .u32 (.sym x), .int .u32 (.sym y)] (.tup [.int .u32 (.sym (calV op x y)), .int .i64 (.sym (calE op y))]) := by
  by_cases h : 4 ≤ op ∧ op ≤ 15
  · rcases op12 op h with rfl | rfl | rfl | rfl | rfl | rfl | rfl | rfl | rfl | rfl | rfl | rfl
    · exact (p17_4 x y).congr (by simp [deqL, deq]) (by simp [deq, deqL, calV, calE])
    · exact (p17_5 x y).congr (by simp [deqL, deq]) (by simp [deq, deqL, calV, calE])
    · exact (p17_6 x y).congr (by simp [deqL, deq]) (by simp [deq, deqL, calV, calE])
    · exact (p17_7 x y hx hy).congr (by simp [deqL, deq]) (by simp [deq, deqL, calV, calE])
    · exact (p17_8 x y hx hy).congr (by simp [deqL, deq]) (by simp [deq, deqL, calV, calE])
    · exact (p17_9 x y).congr (by simp [deqL, deq]) (by simp [deq, deqL, calV, calE])
    · exact (p17_10 x y).congr (by simp [deqL, deq]) (by simp [deq, deqL, calV, calE])
    · exact (p17_11 x y).congr (by simp [deqL, deq]) (by simp [deq, deqL, calV, calE])
    · exact (p17_12 x y hy.1).congr (by simp [deqL, deq]) (by simp [deq, deqL, calV, calE])
    · exact (p17_13 x y hy.1).congr (by simp [deqL, deq]) (by simp [deq, deqL, calV, calE])
    · exact (p17_14 x y).congr (by simp [deqL, deq]) (by simp [deq, deqL, calV, calE])
    · exact (p17_15 x y).congr (by simp [deqL, deq]) (by simp [deq, deqL, calV, calE])
  · refine (p17_out op x y h).congr (by simp [deqL, deq]) ?_
    have e (k : Int) (hk : 4 ≤ k ∧ k ≤ 15) : ¬ (op = k) := by omega
    simp [deq, deqL, calV, calE, h, e]
def c17 : PureC Try.prog where
  f := 17
  spec := fun args => match args with
    | [.int .i64 op, .int .u32 x, .int .u32 y] => some (some (W32 x.v ∧ W32 y.v), .tup [.int .u32 (asL [op, x, y] (calV op.v x.v y.v)), .int .i64 (asL [op, y] (calE op.v y.v))])
    | _ => none
  body := hasBody_of Try.func17 (by kernel_rfl) (by kernel_rfl)
  ok := by
    intro args p d h hp
    split at h
    · rename_i op x y; cases h; exact (p17 op.v x.v y.v (hp _ rfl).1 (hp _ rfl).2).congr (by simp [deqL, deq]) (by simp [deq, deqL])
    · cases h

end Go.Proofs.Ytnoccknoaihjlaa
