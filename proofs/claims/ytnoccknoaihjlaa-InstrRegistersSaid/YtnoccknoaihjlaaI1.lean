import Derived.Test.YtnoccknoaihjlaaEng12
import Derived.Test.YtnoccknoaihjlaaRows
set_option linter.unusedVariables false
set_option linter.unusedSimpArgs false
set_option linter.unnecessarySimpa false
/- The instructions' table and the functions that look into it: what each returns, for every argument. -/
namespace Go.Proofs.Ytnoccknoaihjlaa
open Go.DE
set_option maxRecDepth 100000
set_option linter.unusedVariables false
set_option linter.unusedSimpArgs false

def words : List (List UInt8) := [[104, 97, 108, 116], [109, 111, 118, 101], [115, 101, 116], [104, 105, 103, 104], [97, 100, 100], [115, 117, 98], [109, 117, 108], [100, 105, 118], [109, 111, 100], [97, 110, 100], [111, 114], [120, 111, 114], [115, 104, 108], [115, 104, 114], [108, 101, 115, 115], [101, 113, 117, 97, 108], [97, 100, 100, 105], [108, 111, 97, 100], [115, 116, 111, 114, 101], [108, 111, 97, 100, 98], [115, 116, 111, 114, 101, 98], [106, 117, 109, 112], [106, 117, 109, 112, 122], [106, 117, 109, 112, 110, 122], [99, 97, 108, 108], [98, 97, 99, 107], [116, 114, 97, 112]]
def forms : List Int := [0, 2, 4, 4, 3, 3, 3, 3, 3, 3, 3, 3, 3, 3, 3, 3, 5, 5, 5, 5, 5, 6, 4, 4, 4, 1, 6]
def lows : List Int := [0, 0, -32768, 0, 0, 0, 0, 0, 0, 0, 0, 0, 0, 0, 0, 0, -32768, -32768, -32768, -32768, -32768, 0, 0, 0, 0, 0, 0]
def highs : List Int := [0, 0, 32767, 65535, 0, 0, 0, 0, 0, 0, 0, 0, 0, 0, 0, 0, 32767, 32767, 32767, 32767, 32767, 4095, 4095, 4095, 4095, 0, 255]
def inO (op : Int) : Bool := decide (0 ≤ op) && decide (op < 27)
def wordI (op : Int) : ByteArray := if inO op then ⟨(words.getD op.toNat []).toArray⟩ else ⟨#[]⟩
def formI (op : Int) : Int := if inO op then forms.getD op.toNat 0 else 0
def lowI (op : Int) : Int := if inO op then lows.getD op.toNat 0 else 0
def highI (op : Int) : Int := if inO op then highs.getD op.toNat 0 else 0
def hA (f : Int) : Bool := decide (1 ≤ f) && decide (f ≤ 5)
def hB (f : Int) : Bool := (f == 2 || (f == 3 || f == 5))
def hC (f : Int) : Bool := decide (3 ≤ f)
def hN (f : Int) : Bool := decide (4 ≤ f)
def rg (f : Int) : Bool := decide (0 ≤ f) && decide (f < 8)
def sgn (x : Int) : Int := IntKind.i32.wrap x
def uns (n : Int) : Int := IntKind.u32.wrap n

def d57 : DV := .agg [.str (DS.lit ⟨#[104, 97, 108, 116]⟩), .int .i64 (.lit (0)), .int .i64 (.lit (0)), .int .i64 (.lit (0)), .str (DS.lit ⟨#[109, 111, 118, 101]⟩), .int .i64 (.lit (2)), .int .i64 (.lit (0)), .int .i64 (.lit (0)), .str (DS.lit ⟨#[115, 101, 116]⟩), .int .i64 (.lit (4)), .int .i64 (.lit (-32768)), .int .i64 (.lit (32767)), .str (DS.lit ⟨#[104, 105, 103, 104]⟩), .int .i64 (.lit (4)), .int .i64 (.lit (0)), .int .i64 (.lit (65535)), .str (DS.lit ⟨#[97, 100, 100]⟩), .int .i64 (.lit (3)), .int .i64 (.lit (0)), .int .i64 (.lit (0)), .str (DS.lit ⟨#[115, 117, 98]⟩), .int .i64 (.lit (3)), .int .i64 (.lit (0)), .int .i64 (.lit (0)), .str (DS.lit ⟨#[109, 117, 108]⟩), .int .i64 (.lit (3)), .int .i64 (.lit (0)), .int .i64 (.lit (0)), .str (DS.lit ⟨#[100, 105, 118]⟩), .int .i64 (.lit (3)), .int .i64 (.lit (0)), .int .i64 (.lit (0)), .str (DS.lit ⟨#[109, 111, 100]⟩), .int .i64 (.lit (3)), .int .i64 (.lit (0)), .int .i64 (.lit (0)), .str (DS.lit ⟨#[97, 110, 100]⟩), .int .i64 (.lit (3)), .int .i64 (.lit (0)), .int .i64 (.lit (0)), .str (DS.lit ⟨#[111, 114]⟩), .int .i64 (.lit (3)), .int .i64 (.lit (0)), .int .i64 (.lit (0)), .str (DS.lit ⟨#[120, 111, 114]⟩), .int .i64 (.lit (3)), .int .i64 (.lit (0)), .int .i64 (.lit (0)), .str (DS.lit ⟨#[115, 104, 108]⟩), .int .i64 (.lit (3)), .int .i64 (.lit (0)), .int .i64 (.lit (0)), .str (DS.lit ⟨#[115, 104, 114]⟩), .int .i64 (.lit (3)), .int .i64 (.lit (0)), .int .i64 (.lit (0)), .str (DS.lit ⟨#[108, 101, 115, 115]⟩), .int .i64 (.lit (3)), .int .i64 (.lit (0)), .int .i64 (.lit (0)), .str (DS.lit ⟨#[101, 113, 117, 97, 108]⟩), .int .i64 (.lit (3)), .int .i64 (.lit (0)), .int .i64 (.lit (0)), .str (DS.lit ⟨#[97, 100, 100, 105]⟩), .int .i64 (.lit (5)), .int .i64 (.lit (-32768)), .int .i64 (.lit (32767)), .str (DS.lit ⟨#[108, 111, 97, 100]⟩), .int .i64 (.lit (5)), .int .i64 (.lit (-32768)), .int .i64 (.lit (32767)), .str (DS.lit ⟨#[115, 116, 111, 114, 101]⟩), .int .i64 (.lit (5)), .int .i64 (.lit (-32768)), .int .i64 (.lit (32767)), .str (DS.lit ⟨#[108, 111, 97, 100, 98]⟩), .int .i64 (.lit (5)), .int .i64 (.lit (-32768)), .int .i64 (.lit (32767)), .str (DS.lit ⟨#[115, 116, 111, 114, 101, 98]⟩), .int .i64 (.lit (5)), .int .i64 (.lit (-32768)), .int .i64 (.lit (32767)), .str (DS.lit ⟨#[106, 117, 109, 112]⟩), .int .i64 (.lit (6)), .int .i64 (.lit (0)), .int .i64 (.lit (4095)), .str (DS.lit ⟨#[106, 117, 109, 112, 122]⟩), .int .i64 (.lit (4)), .int .i64 (.lit (0)), .int .i64 (.lit (4095)), .str (DS.lit ⟨#[106, 117, 109, 112, 110, 122]⟩), .int .i64 (.lit (4)), .int .i64 (.lit (0)), .int .i64 (.lit (4095)), .str (DS.lit ⟨#[99, 97, 108, 108]⟩), .int .i64 (.lit (4)), .int .i64 (.lit (0)), .int .i64 (.lit (4095)), .str (DS.lit ⟨#[98, 97, 99, 107]⟩), .int .i64 (.lit (1)), .int .i64 (.lit (0)), .int .i64 (.lit (0)), .str (DS.lit ⟨#[116, 114, 97, 112]⟩), .int .i64 (.lit (6)), .int .i64 (.lit (0)), .int .i64 (.lit (255))]
theorem p19 (x : Int) : Pure1 Try.prog 19 [.int .u32 (.sym x)] (.int .i64 (.sym (sgn x))) := by
  refine pure_of_exec (ct := ⟨[], []⟩) [] Try.func19 rfl rfl rfl ?_
  refine cast_goal (p := Go.IntKind.wrap Go.IntKind.i64 (Go.IntKind.wrap Go.IntKind.i32 x) = Go.Proofs.Ytnoccknoaihjlaa.sgn x) (by kernel_rfl) ?_
  simp only [sgn, IntKind.wrap_i64, IntKind.wrap_i32]; omega
theorem p20 (x : Int) : Pure1 Try.prog 20 [.int .i64 (.sym x)] (.int .u32 (.sym (uns x))) := by
  refine pure_of_exec (ct := ⟨[], []⟩) [] Try.func20 rfl rfl rfl ?_
  refine cast_goal (p := Go.IntKind.wrap Go.IntKind.u32 x = Go.Proofs.Ytnoccknoaihjlaa.uns x) (by kernel_rfl) ?_
  rfl
theorem p21 (x : Int) (h : 0 ≤ x ∧ x < 4294967296) : Pure1 Try.prog 21 [.int .u32 (.sym x)] (.int .i64 (.sym (sgn x))) := by
  refine pure_of_exec (ct := ⟨[], []⟩) [] Try.func21 rfl rfl rfl ?_
  refine cast_goal (p := (Decidable.decide ((2147483648 : Int) ≤ x) = Bool.true → Go.DE.okI64 (Go.IntKind.wrap Go.IntKind.i64 x - (4294967296 : Int)) ∧ Go.IntKind.wrap Go.IntKind.i64 x - (4294967296 : Int) = Go.Proofs.Ytnoccknoaihjlaa.sgn x) ∧ (Decidable.decide ((2147483648 : Int) ≤ x) = Bool.false → Go.IntKind.wrap Go.IntKind.i64 x = Go.Proofs.Ytnoccknoaihjlaa.sgn x)) (by kernel_rfl) ?_
  simp only [sgn, IntKind.wrap_i64, IntKind.wrap_i32, okI64, decide_eq_true_eq, decide_eq_false_iff_not]; omega
theorem tmod_if (x y : Int) (hy : 0 < y) : x.tmod y = if 0 ≤ x then x % y else -((-x) % y) := by
  split
  · exact Int.tmod_eq_emod_of_nonneg ‹_›
  · have h : x = -(-x) := by omega
    rw [h, Int.neg_tmod, Int.tmod_eq_emod_of_nonneg (by omega)]; simp
theorem p22 (x : Int) : Pure1 Try.prog 22 [.int .i64 (.sym x)] (.int .u32 (.sym (uns x))) := by
  refine pure_of_exec (ct := ⟨[], []⟩) [] Try.func22 rfl rfl rfl ?_
  refine cast_goal (p := (Decidable.decide (Int.tmod x (4294967296 : Int) < (0 : Int)) = Bool.true → Go.DE.okI64 (Int.tmod x (4294967296 : Int) + (4294967296 : Int)) ∧ Go.IntKind.wrap Go.IntKind.u32 (Int.tmod x (4294967296 : Int) + (4294967296 : Int)) = Go.Proofs.Ytnoccknoaihjlaa.uns x) ∧ (Decidable.decide (Int.tmod x (4294967296 : Int) < (0 : Int)) = Bool.false → Go.IntKind.wrap Go.IntKind.u32 (Int.tmod x (4294967296 : Int)) = Go.Proofs.Ytnoccknoaihjlaa.uns x)) (by kernel_rfl) ?_
  simp only [uns, IntKind.wrap_u32, decide_eq_true_eq, decide_eq_false_iff_not, okI64, tmod_if x 4294967296 (by omega)]; omega
def c19 : PureC Try.prog where
  f := 19
  spec := fun args => match args with
    | [.int .u32 x] => some (none, .int .i64 (as1 x (sgn x.v)))
    | _ => none
  body := hasBody_of Try.func19 (by kernel_rfl) (by kernel_rfl)
  ok := by
    intro args p d h hp
    split at h
    · rename_i x; cases h; exact (p19 x.v).congr (by simp [deqL, deq]) (by simp [deq])
    · cases h

def c20 : PureC Try.prog where
  f := 20
  spec := fun args => match args with
    | [.int .i64 x] => some (none, .int .u32 (as1 x (uns x.v)))
    | _ => none
  body := hasBody_of Try.func20 (by kernel_rfl) (by kernel_rfl)
  ok := by
    intro args p d h hp
    split at h
    · rename_i x; cases h; exact (p20 x.v).congr (by simp [deqL, deq]) (by simp [deq])
    · cases h

def c21 : PureC Try.prog where
  f := 21
  spec := fun args => match args with
    | [.int .u32 x] => some (some (0 ≤ x.v ∧ x.v < 4294967296), .int .i64 (as1 x (sgn x.v)))
    | _ => none
  body := hasBody_of Try.func21 (by kernel_rfl) (by kernel_rfl)
  ok := by
    intro args p d h hp
    split at h
    · rename_i x; cases h; exact (p21 x.v (hp _ rfl)).congr (by simp [deqL, deq]) (by simp [deq])
    · cases h

def c22 : PureC Try.prog where
  f := 22
  spec := fun args => match args with
    | [.int .i64 x] => some (none, .int .u32 (as1 x (uns x.v)))
    | _ => none
  body := hasBody_of Try.func22 (by kernel_rfl) (by kernel_rfl)
  ok := by
    intro args p d h hp
    split at h
    · rename_i x; cases h; exact (p22 x.v).congr (by simp [deqL, deq]) (by simp [deq])
    · cases h

theorem p47 (s : ByteArray) (f lo hi : Int) : Pure1 Try.prog 47 [.agg [.str (.sym s), .int .i64 (.sym f), .int .i64 (.sym lo), .int .i64 (.sym hi)]] (.bool (.sym (hA f))) := by
  refine pure_of_exec (ct := ⟨[], []⟩) [] Try.func47 rfl rfl rfl ?_
  refine cast_goal (p := (Decidable.decide ((1 : Int) ≤ f) && Decidable.decide (f ≤ (5 : Int))) = Go.Proofs.Ytnoccknoaihjlaa.hA f) (by kernel_rfl) ?_
  rfl
def c47 : PureC Try.prog where
  f := 47
  spec := fun args => match args with
    | [.agg [.str s, .int .i64 f, .int .i64 lo, .int .i64 hi]] => some (none, .bool (as1B f (hA f.v)))
    | _ => none
  body := hasBody_of Try.func47 (by kernel_rfl) (by kernel_rfl)
  ok := by
    intro args p d h hp
    split at h
    · rename_i s f lo hi; cases h; exact (p47 s.v f.v lo.v hi.v).congr (by simp [deqL, deq]) (by simp [deq])
    · cases h

theorem p48 (s : ByteArray) (f lo hi : Int) : Pure1 Try.prog 48 [.agg [.str (.sym s), .int .i64 (.sym f), .int .i64 (.sym lo), .int .i64 (.sym hi)]] (.bool (.sym (hB f))) := by
  refine pure_of_exec (ct := ⟨[], []⟩) [] Try.func48 rfl rfl rfl ?_
  refine cast_goal (p := (f == (2 : Int) || (f == (3 : Int) || f == (5 : Int))) = Go.Proofs.Ytnoccknoaihjlaa.hB f) (by kernel_rfl) ?_
  rfl
def c48 : PureC Try.prog where
  f := 48
  spec := fun args => match args with
    | [.agg [.str s, .int .i64 f, .int .i64 lo, .int .i64 hi]] => some (none, .bool (as1B f (hB f.v)))
    | _ => none
  body := hasBody_of Try.func48 (by kernel_rfl) (by kernel_rfl)
  ok := by
    intro args p d h hp
    split at h
    · rename_i s f lo hi; cases h; exact (p48 s.v f.v lo.v hi.v).congr (by simp [deqL, deq]) (by simp [deq])
    · cases h

theorem p49 (s : ByteArray) (f lo hi : Int) : Pure1 Try.prog 49 [.agg [.str (.sym s), .int .i64 (.sym f), .int .i64 (.sym lo), .int .i64 (.sym hi)]] (.bool (.sym (hC f))) := by
  refine pure_of_exec (ct := ⟨[], []⟩) [] Try.func49 rfl rfl rfl ?_
  refine cast_goal (p := Decidable.decide ((3 : Int) ≤ f) = Go.Proofs.Ytnoccknoaihjlaa.hC f) (by kernel_rfl) ?_
  rfl
def c49 : PureC Try.prog where
  f := 49
  spec := fun args => match args with
    | [.agg [.str s, .int .i64 f, .int .i64 lo, .int .i64 hi]] => some (none, .bool (as1B f (hC f.v)))
    | _ => none
  body := hasBody_of Try.func49 (by kernel_rfl) (by kernel_rfl)
  ok := by
    intro args p d h hp
    split at h
    · rename_i s f lo hi; cases h; exact (p49 s.v f.v lo.v hi.v).congr (by simp [deqL, deq]) (by simp [deq])
    · cases h

theorem p51 (s : ByteArray) (f lo hi : Int) : Pure1 Try.prog 51 [.agg [.str (.sym s), .int .i64 (.sym f), .int .i64 (.sym lo), .int .i64 (.sym hi)]] (.bool (.sym (hN f))) := by
  refine pure_of_exec (ct := ⟨[], []⟩) [] Try.func51 rfl rfl rfl ?_
  refine cast_goal (p := Decidable.decide ((4 : Int) ≤ f) = Go.Proofs.Ytnoccknoaihjlaa.hN f) (by kernel_rfl) ?_
  rfl
def c51 : PureC Try.prog where
  f := 51
  spec := fun args => match args with
    | [.agg [.str s, .int .i64 f, .int .i64 lo, .int .i64 hi]] => some (none, .bool (as1B f (hN f.v)))
    | _ => none
  body := hasBody_of Try.func51 (by kernel_rfl) (by kernel_rfl)
  ok := by
    intro args p d h hp
    split at h
    · rename_i s f lo hi; cases h; exact (p51 s.v f.v lo.v hi.v).congr (by simp [deqL, deq]) (by simp [deq])
    · cases h

theorem p52 (f : Int) : Pure1 Try.prog 52 [.int .i64 (.sym f)] (.bool (.sym (hA f))) := by
  refine pure_of_exec (ct := ⟨[], []⟩) [] Try.func52 rfl rfl rfl ?_
  refine cast_goal (p := (Decidable.decide ((1 : Int) ≤ f) && Decidable.decide (f ≤ (5 : Int))) = Go.Proofs.Ytnoccknoaihjlaa.hA f) (by kernel_rfl) ?_
  rfl
def c52 : PureC Try.prog where
  f := 52
  spec := fun args => match args with
    | [.int .i64 f] => some (none, .bool (as1B f (hA f.v)))
    | _ => none
  body := hasBody_of Try.func52 (by kernel_rfl) (by kernel_rfl)
  ok := by
    intro args p d h hp
    split at h
    · rename_i f; cases h; exact (p52 f.v).congr (by simp [deqL, deq]) (by simp [deq])
    · cases h

theorem p53 (f : Int) : Pure1 Try.prog 53 [.int .i64 (.sym f)] (.bool (.sym (hB f))) := by
  refine pure_of_exec (ct := ⟨[], []⟩) [] Try.func53 rfl rfl rfl ?_
  refine cast_goal (p := (f == (2 : Int) || (f == (3 : Int) || f == (5 : Int))) = Go.Proofs.Ytnoccknoaihjlaa.hB f) (by kernel_rfl) ?_
  rfl
def c53 : PureC Try.prog where
  f := 53
  spec := fun args => match args with
    | [.int .i64 f] => some (none, .bool (as1B f (hB f.v)))
    | _ => none
  body := hasBody_of Try.func53 (by kernel_rfl) (by kernel_rfl)
  ok := by
    intro args p d h hp
    split at h
    · rename_i f; cases h; exact (p53 f.v).congr (by simp [deqL, deq]) (by simp [deq])
    · cases h

theorem p54 (f : Int) : Pure1 Try.prog 54 [.int .i64 (.sym f)] (.bool (.sym (hC f))) := by
  refine pure_of_exec (ct := ⟨[], []⟩) [] Try.func54 rfl rfl rfl ?_
  refine cast_goal (p := Decidable.decide ((3 : Int) ≤ f) = Go.Proofs.Ytnoccknoaihjlaa.hC f) (by kernel_rfl) ?_
  rfl
def c54 : PureC Try.prog where
  f := 54
  spec := fun args => match args with
    | [.int .i64 f] => some (none, .bool (as1B f (hC f.v)))
    | _ => none
  body := hasBody_of Try.func54 (by kernel_rfl) (by kernel_rfl)
  ok := by
    intro args p d h hp
    split at h
    · rename_i f; cases h; exact (p54 f.v).congr (by simp [deqL, deq]) (by simp [deq])
    · cases h

theorem p50 (f : Int) : Pure1 Try.prog 50 [.int .i64 (.sym f)] (.bool (.sym (rg f))) := by
  refine pure_of_exec (ct := ⟨[], []⟩) [] Try.func50 rfl rfl rfl ?_
  refine cast_goal (p := (Decidable.decide ((0 : Int) ≤ f) && Decidable.decide (f < (8 : Int))) = Go.Proofs.Ytnoccknoaihjlaa.rg f) (by kernel_rfl) ?_
  rfl
def c50 : PureC Try.prog where
  f := 50
  spec := fun args => match args with
    | [.int .i64 f] => some (none, .bool (as1B f (rg f.v)))
    | _ => none
  body := hasBody_of Try.func50 (by kernel_rfl) (by kernel_rfl)
  ok := by
    intro args p d h hp
    split at h
    · rename_i f; cases h; exact (p50 f.v).congr (by simp [deqL, deq]) (by simp [deq])
    · cases h

theorem p57 : Pure1 Try.prog 57 [] (d57) := by
  refine pure_of_exec (ct := ⟨[], []⟩) [] Try.func57 rfl rfl rfl ?_
  refine cast_goal (p := True) (by kernel_rfl) ?_
  trivial
def c57 : PureC Try.prog where
  f := 57
  spec := fun args => match args with
    | [] => some (none, d57)
    | _ => none
  body := hasBody_of Try.func57 (by kernel_rfl) (by kernel_rfl)
  ok := by
    intro args p d h hp
    split at h
    · cases h; exact p57
    · cases h

theorem in27 (op : Int) (h : inO op = true) : op = 0 ∨ op = 1 ∨ op = 2 ∨ op = 3 ∨ op = 4 ∨ op = 5 ∨ op = 6 ∨ op = 7 ∨ op = 8 ∨ op = 9 ∨ op = 10 ∨ op = 11 ∨ op = 12 ∨ op = 13 ∨ op = 14 ∨ op = 15 ∨ op = 16 ∨ op = 17 ∨ op = 18 ∨ op = 19 ∨ op = 20 ∨ op = 21 ∨ op = 22 ∨ op = 23 ∨ op = 24 ∨ op = 25 ∨ op = 26 := by
  simp only [inO, Bool.and_eq_true, decide_eq_true_eq] at h; omega
def errO (op : Int) : Int := if inO op then 0 else 11
def limE (op : Int) : Int := if inO op then (if hN (formI op) then 0 else 1) else 11
theorem p46_0 : Pure1 Try.prog 46 [.int .i64 (.lit 0)] (.tup [.agg [.str (DS.lit ⟨#[104, 97, 108, 116]⟩), .int .i64 (.lit (0)), .int .i64 (.lit (0)), .int .i64 (.lit (0))], .bool (.lit true)]) := by
  refine pure_of_exec (ct := ⟨[c57], []⟩) [] Try.func46 rfl rfl rfl ?_
  refine cast_goal (p := True) (by kernel_rfl) ?_
  trivial
theorem p46_1 : Pure1 Try.prog 46 [.int .i64 (.lit 1)] (.tup [.agg [.str (DS.lit ⟨#[109, 111, 118, 101]⟩), .int .i64 (.lit (2)), .int .i64 (.lit (0)), .int .i64 (.lit (0))], .bool (.lit true)]) := by
  refine pure_of_exec (ct := ⟨[c57], []⟩) [] Try.func46 rfl rfl rfl ?_
  refine cast_goal (p := True) (by kernel_rfl) ?_
  trivial
theorem p46_2 : Pure1 Try.prog 46 [.int .i64 (.lit 2)] (.tup [.agg [.str (DS.lit ⟨#[115, 101, 116]⟩), .int .i64 (.lit (4)), .int .i64 (.lit (-32768)), .int .i64 (.lit (32767))], .bool (.lit true)]) := by
  refine pure_of_exec (ct := ⟨[c57], []⟩) [] Try.func46 rfl rfl rfl ?_
  refine cast_goal (p := True) (by kernel_rfl) ?_
  trivial
theorem p46_3 : Pure1 Try.prog 46 [.int .i64 (.lit 3)] (.tup [.agg [.str (DS.lit ⟨#[104, 105, 103, 104]⟩), .int .i64 (.lit (4)), .int .i64 (.lit (0)), .int .i64 (.lit (65535))], .bool (.lit true)]) := by
  refine pure_of_exec (ct := ⟨[c57], []⟩) [] Try.func46 rfl rfl rfl ?_
  refine cast_goal (p := True) (by kernel_rfl) ?_
  trivial
theorem p46_4 : Pure1 Try.prog 46 [.int .i64 (.lit 4)] (.tup [.agg [.str (DS.lit ⟨#[97, 100, 100]⟩), .int .i64 (.lit (3)), .int .i64 (.lit (0)), .int .i64 (.lit (0))], .bool (.lit true)]) := by
  refine pure_of_exec (ct := ⟨[c57], []⟩) [] Try.func46 rfl rfl rfl ?_
  refine cast_goal (p := True) (by kernel_rfl) ?_
  trivial
theorem p46_5 : Pure1 Try.prog 46 [.int .i64 (.lit 5)] (.tup [.agg [.str (DS.lit ⟨#[115, 117, 98]⟩), .int .i64 (.lit (3)), .int .i64 (.lit (0)), .int .i64 (.lit (0))], .bool (.lit true)]) := by
  refine pure_of_exec (ct := ⟨[c57], []⟩) [] Try.func46 rfl rfl rfl ?_
  refine cast_goal (p := True) (by kernel_rfl) ?_
  trivial
theorem p46_6 : Pure1 Try.prog 46 [.int .i64 (.lit 6)] (.tup [.agg [.str (DS.lit ⟨#[109, 117, 108]⟩), .int .i64 (.lit (3)), .int .i64 (.lit (0)), .int .i64 (.lit (0))], .bool (.lit true)]) := by
  refine pure_of_exec (ct := ⟨[c57], []⟩) [] Try.func46 rfl rfl rfl ?_
  refine cast_goal (p := True) (by kernel_rfl) ?_
  trivial
theorem p46_7 : Pure1 Try.prog 46 [.int .i64 (.lit 7)] (.tup [.agg [.str (DS.lit ⟨#[100, 105, 118]⟩), .int .i64 (.lit (3)), .int .i64 (.lit (0)), .int .i64 (.lit (0))], .bool (.lit true)]) := by
  refine pure_of_exec (ct := ⟨[c57], []⟩) [] Try.func46 rfl rfl rfl ?_
  refine cast_goal (p := True) (by kernel_rfl) ?_
  trivial
theorem p46_8 : Pure1 Try.prog 46 [.int .i64 (.lit 8)] (.tup [.agg [.str (DS.lit ⟨#[109, 111, 100]⟩), .int .i64 (.lit (3)), .int .i64 (.lit (0)), .int .i64 (.lit (0))], .bool (.lit true)]) := by
  refine pure_of_exec (ct := ⟨[c57], []⟩) [] Try.func46 rfl rfl rfl ?_
  refine cast_goal (p := True) (by kernel_rfl) ?_
  trivial
theorem p46_9 : Pure1 Try.prog 46 [.int .i64 (.lit 9)] (.tup [.agg [.str (DS.lit ⟨#[97, 110, 100]⟩), .int .i64 (.lit (3)), .int .i64 (.lit (0)), .int .i64 (.lit (0))], .bool (.lit true)]) := by
  refine pure_of_exec (ct := ⟨[c57], []⟩) [] Try.func46 rfl rfl rfl ?_
  refine cast_goal (p := True) (by kernel_rfl) ?_
  trivial
theorem p46_10 : Pure1 Try.prog 46 [.int .i64 (.lit 10)] (.tup [.agg [.str (DS.lit ⟨#[111, 114]⟩), .int .i64 (.lit (3)), .int .i64 (.lit (0)), .int .i64 (.lit (0))], .bool (.lit true)]) := by
  refine pure_of_exec (ct := ⟨[c57], []⟩) [] Try.func46 rfl rfl rfl ?_
  refine cast_goal (p := True) (by kernel_rfl) ?_
  trivial
theorem p46_11 : Pure1 Try.prog 46 [.int .i64 (.lit 11)] (.tup [.agg [.str (DS.lit ⟨#[120, 111, 114]⟩), .int .i64 (.lit (3)), .int .i64 (.lit (0)), .int .i64 (.lit (0))], .bool (.lit true)]) := by
  refine pure_of_exec (ct := ⟨[c57], []⟩) [] Try.func46 rfl rfl rfl ?_
  refine cast_goal (p := True) (by kernel_rfl) ?_
  trivial
theorem p46_12 : Pure1 Try.prog 46 [.int .i64 (.lit 12)] (.tup [.agg [.str (DS.lit ⟨#[115, 104, 108]⟩), .int .i64 (.lit (3)), .int .i64 (.lit (0)), .int .i64 (.lit (0))], .bool (.lit true)]) := by
  refine pure_of_exec (ct := ⟨[c57], []⟩) [] Try.func46 rfl rfl rfl ?_
  refine cast_goal (p := True) (by kernel_rfl) ?_
  trivial
theorem p46_13 : Pure1 Try.prog 46 [.int .i64 (.lit 13)] (.tup [.agg [.str (DS.lit ⟨#[115, 104, 114]⟩), .int .i64 (.lit (3)), .int .i64 (.lit (0)), .int .i64 (.lit (0))], .bool (.lit true)]) := by
  refine pure_of_exec (ct := ⟨[c57], []⟩) [] Try.func46 rfl rfl rfl ?_
  refine cast_goal (p := True) (by kernel_rfl) ?_
  trivial
theorem p46_14 : Pure1 Try.prog 46 [.int .i64 (.lit 14)] (.tup [.agg [.str (DS.lit ⟨#[108, 101, 115, 115]⟩), .int .i64 (.lit (3)), .int .i64 (.lit (0)), .int .i64 (.lit (0))], .bool (.lit true)]) := by
  refine pure_of_exec (ct := ⟨[c57], []⟩) [] Try.func46 rfl rfl rfl ?_
  refine cast_goal (p := True) (by kernel_rfl) ?_
  trivial
theorem p46_15 : Pure1 Try.prog 46 [.int .i64 (.lit 15)] (.tup [.agg [.str (DS.lit ⟨#[101, 113, 117, 97, 108]⟩), .int .i64 (.lit (3)), .int .i64 (.lit (0)), .int .i64 (.lit (0))], .bool (.lit true)]) := by
  refine pure_of_exec (ct := ⟨[c57], []⟩) [] Try.func46 rfl rfl rfl ?_
  refine cast_goal (p := True) (by kernel_rfl) ?_
  trivial
theorem p46_16 : Pure1 Try.prog 46 [.int .i64 (.lit 16)] (.tup [.agg [.str (DS.lit ⟨#[97, 100, 100, 105]⟩), .int .i64 (.lit (5)), .int .i64 (.lit (-32768)), .int .i64 (.lit (32767))], .bool (.lit true)]) := by
  refine pure_of_exec (ct := ⟨[c57], []⟩) [] Try.func46 rfl rfl rfl ?_
  refine cast_goal (p := True) (by kernel_rfl) ?_
  trivial
theorem p46_17 : Pure1 Try.prog 46 [.int .i64 (.lit 17)] (.tup [.agg [.str (DS.lit ⟨#[108, 111, 97, 100]⟩), .int .i64 (.lit (5)), .int .i64 (.lit (-32768)), .int .i64 (.lit (32767))], .bool (.lit true)]) := by
  refine pure_of_exec (ct := ⟨[c57], []⟩) [] Try.func46 rfl rfl rfl ?_
  refine cast_goal (p := True) (by kernel_rfl) ?_
  trivial
theorem p46_18 : Pure1 Try.prog 46 [.int .i64 (.lit 18)] (.tup [.agg [.str (DS.lit ⟨#[115, 116, 111, 114, 101]⟩), .int .i64 (.lit (5)), .int .i64 (.lit (-32768)), .int .i64 (.lit (32767))], .bool (.lit true)]) := by
  refine pure_of_exec (ct := ⟨[c57], []⟩) [] Try.func46 rfl rfl rfl ?_
  refine cast_goal (p := True) (by kernel_rfl) ?_
  trivial
theorem p46_19 : Pure1 Try.prog 46 [.int .i64 (.lit 19)] (.tup [.agg [.str (DS.lit ⟨#[108, 111, 97, 100, 98]⟩), .int .i64 (.lit (5)), .int .i64 (.lit (-32768)), .int .i64 (.lit (32767))], .bool (.lit true)]) := by
  refine pure_of_exec (ct := ⟨[c57], []⟩) [] Try.func46 rfl rfl rfl ?_
  refine cast_goal (p := True) (by kernel_rfl) ?_
  trivial
theorem p46_20 : Pure1 Try.prog 46 [.int .i64 (.lit 20)] (.tup [.agg [.str (DS.lit ⟨#[115, 116, 111, 114, 101, 98]⟩), .int .i64 (.lit (5)), .int .i64 (.lit (-32768)), .int .i64 (.lit (32767))], .bool (.lit true)]) := by
  refine pure_of_exec (ct := ⟨[c57], []⟩) [] Try.func46 rfl rfl rfl ?_
  refine cast_goal (p := True) (by kernel_rfl) ?_
  trivial
theorem p46_21 : Pure1 Try.prog 46 [.int .i64 (.lit 21)] (.tup [.agg [.str (DS.lit ⟨#[106, 117, 109, 112]⟩), .int .i64 (.lit (6)), .int .i64 (.lit (0)), .int .i64 (.lit (4095))], .bool (.lit true)]) := by
  refine pure_of_exec (ct := ⟨[c57], []⟩) [] Try.func46 rfl rfl rfl ?_
  refine cast_goal (p := True) (by kernel_rfl) ?_
  trivial
theorem p46_22 : Pure1 Try.prog 46 [.int .i64 (.lit 22)] (.tup [.agg [.str (DS.lit ⟨#[106, 117, 109, 112, 122]⟩), .int .i64 (.lit (4)), .int .i64 (.lit (0)), .int .i64 (.lit (4095))], .bool (.lit true)]) := by
  refine pure_of_exec (ct := ⟨[c57], []⟩) [] Try.func46 rfl rfl rfl ?_
  refine cast_goal (p := True) (by kernel_rfl) ?_
  trivial
theorem p46_23 : Pure1 Try.prog 46 [.int .i64 (.lit 23)] (.tup [.agg [.str (DS.lit ⟨#[106, 117, 109, 112, 110, 122]⟩), .int .i64 (.lit (4)), .int .i64 (.lit (0)), .int .i64 (.lit (4095))], .bool (.lit true)]) := by
  refine pure_of_exec (ct := ⟨[c57], []⟩) [] Try.func46 rfl rfl rfl ?_
  refine cast_goal (p := True) (by kernel_rfl) ?_
  trivial
theorem p46_24 : Pure1 Try.prog 46 [.int .i64 (.lit 24)] (.tup [.agg [.str (DS.lit ⟨#[99, 97, 108, 108]⟩), .int .i64 (.lit (4)), .int .i64 (.lit (0)), .int .i64 (.lit (4095))], .bool (.lit true)]) := by
  refine pure_of_exec (ct := ⟨[c57], []⟩) [] Try.func46 rfl rfl rfl ?_
  refine cast_goal (p := True) (by kernel_rfl) ?_
  trivial
theorem p46_25 : Pure1 Try.prog 46 [.int .i64 (.lit 25)] (.tup [.agg [.str (DS.lit ⟨#[98, 97, 99, 107]⟩), .int .i64 (.lit (1)), .int .i64 (.lit (0)), .int .i64 (.lit (0))], .bool (.lit true)]) := by
  refine pure_of_exec (ct := ⟨[c57], []⟩) [] Try.func46 rfl rfl rfl ?_
  refine cast_goal (p := True) (by kernel_rfl) ?_
  trivial
theorem p46_26 : Pure1 Try.prog 46 [.int .i64 (.lit 26)] (.tup [.agg [.str (DS.lit ⟨#[116, 114, 97, 112]⟩), .int .i64 (.lit (6)), .int .i64 (.lit (0)), .int .i64 (.lit (255))], .bool (.lit true)]) := by
  refine pure_of_exec (ct := ⟨[c57], []⟩) [] Try.func46 rfl rfl rfl ?_
  refine cast_goal (p := True) (by kernel_rfl) ?_
  trivial
theorem p46_out (op : Int) (h : inO op = false) : Pure1 Try.prog 46 [.int .i64 (.sym op)] (.tup [.agg [.str (.lit ⟨#[]⟩), .int .i64 (.lit 0), .int .i64 (.lit 0), .int .i64 (.lit 0)], .bool (.lit false)]) := by
  refine pure_of_exec (ct := ⟨[c57], []⟩) [] Try.func46 rfl rfl rfl ?_
  refine cast_goal (p := ((Decidable.decide (op < (0 : Int)) || Decidable.decide ((27 : Int) ≤ op)) = Bool.true → True) ∧ ((Decidable.decide (op < (0 : Int)) || Decidable.decide ((27 : Int) ≤ op)) = Bool.false → False)) (by kernel_rfl) ?_
  have h0 := h
  simp [inO] at h0
  simp [inO, errO, limE, formI, lowI, highI, wordI, hN, h] at *; try omega
theorem p46 (op : Int) : Pure1 Try.prog 46 [.int .i64 (.sym op)] (.tup [.agg [.str (.sym (wordI op)), .int .i64 (.sym (formI op)), .int .i64 (.sym (lowI op)), .int .i64 (.sym (highI op))], .bool (.sym (inO op))]) := by
  cases h : inO op
  · exact (p46_out op h).congr (by simp [deqL, deq]) (by simp [deq, deqL, wordI, formI, lowI, highI, errO, limE, h])
  · rcases in27 op h with rfl | rfl | rfl | rfl | rfl | rfl | rfl | rfl | rfl | rfl | rfl | rfl | rfl | rfl | rfl | rfl | rfl | rfl | rfl | rfl | rfl | rfl | rfl | rfl | rfl | rfl | rfl
    · exact p46_0.congr (by simp [deqL, deq]) (by simp [deq, deqL]; decide)
    · exact p46_1.congr (by simp [deqL, deq]) (by simp [deq, deqL]; decide)
    · exact p46_2.congr (by simp [deqL, deq]) (by simp [deq, deqL]; decide)
    · exact p46_3.congr (by simp [deqL, deq]) (by simp [deq, deqL]; decide)
    · exact p46_4.congr (by simp [deqL, deq]) (by simp [deq, deqL]; decide)
    · exact p46_5.congr (by simp [deqL, deq]) (by simp [deq, deqL]; decide)
    · exact p46_6.congr (by simp [deqL, deq]) (by simp [deq, deqL]; decide)
    · exact p46_7.congr (by simp [deqL, deq]) (by simp [deq, deqL]; decide)
    · exact p46_8.congr (by simp [deqL, deq]) (by simp [deq, deqL]; decide)
    · exact p46_9.congr (by simp [deqL, deq]) (by simp [deq, deqL]; decide)
    · exact p46_10.congr (by simp [deqL, deq]) (by simp [deq, deqL]; decide)
    · exact p46_11.congr (by simp [deqL, deq]) (by simp [deq, deqL]; decide)
    · exact p46_12.congr (by simp [deqL, deq]) (by simp [deq, deqL]; decide)
    · exact p46_13.congr (by simp [deqL, deq]) (by simp [deq, deqL]; decide)
    · exact p46_14.congr (by simp [deqL, deq]) (by simp [deq, deqL]; decide)
    · exact p46_15.congr (by simp [deqL, deq]) (by simp [deq, deqL]; decide)
    · exact p46_16.congr (by simp [deqL, deq]) (by simp [deq, deqL]; decide)
    · exact p46_17.congr (by simp [deqL, deq]) (by simp [deq, deqL]; decide)
    · exact p46_18.congr (by simp [deqL, deq]) (by simp [deq, deqL]; decide)
    · exact p46_19.congr (by simp [deqL, deq]) (by simp [deq, deqL]; decide)
    · exact p46_20.congr (by simp [deqL, deq]) (by simp [deq, deqL]; decide)
    · exact p46_21.congr (by simp [deqL, deq]) (by simp [deq, deqL]; decide)
    · exact p46_22.congr (by simp [deqL, deq]) (by simp [deq, deqL]; decide)
    · exact p46_23.congr (by simp [deqL, deq]) (by simp [deq, deqL]; decide)
    · exact p46_24.congr (by simp [deqL, deq]) (by simp [deq, deqL]; decide)
    · exact p46_25.congr (by simp [deqL, deq]) (by simp [deq, deqL]; decide)
    · exact p46_26.congr (by simp [deqL, deq]) (by simp [deq, deqL]; decide)
def c46 : PureC Try.prog where
  f := 46
  spec := fun args => match args with
    | [.int .i64 op] => some (none, .tup [.agg [.str (as1S op (wordI op.v)), .int .i64 (as1 op (formI op.v)), .int .i64 (as1 op (lowI op.v)), .int .i64 (as1 op (highI op.v))], .bool (as1B op (inO op.v))])
    | _ => none
  body := hasBody_of Try.func46 (by kernel_rfl) (by kernel_rfl)
  ok := by
    intro args p d h hp
    split at h
    · rename_i op; cases h; exact (p46 op.v).congr (by simp [deqL, deq]) (by simp [deq, deqL])
    · cases h

theorem p30_0 : Pure1 Try.prog 30 [.int .i64 (.lit 0)] (.tup [.int .i64 (.lit (0)), .int .i64 (.lit (0))]) := by
  refine pure_of_exec (ct := ⟨[c46], []⟩) [] Try.func30 rfl rfl rfl ?_
  refine cast_goal (p := True) (by kernel_rfl) ?_
  trivial
theorem p30_1 : Pure1 Try.prog 30 [.int .i64 (.lit 1)] (.tup [.int .i64 (.lit (2)), .int .i64 (.lit (0))]) := by
  refine pure_of_exec (ct := ⟨[c46], []⟩) [] Try.func30 rfl rfl rfl ?_
  refine cast_goal (p := True) (by kernel_rfl) ?_
  trivial
theorem p30_2 : Pure1 Try.prog 30 [.int .i64 (.lit 2)] (.tup [.int .i64 (.lit (4)), .int .i64 (.lit (0))]) := by
  refine pure_of_exec (ct := ⟨[c46], []⟩) [] Try.func30 rfl rfl rfl ?_
  refine cast_goal (p := True) (by kernel_rfl) ?_
  trivial
theorem p30_3 : Pure1 Try.prog 30 [.int .i64 (.lit 3)] (.tup [.int .i64 (.lit (4)), .int .i64 (.lit (0))]) := by
  refine pure_of_exec (ct := ⟨[c46], []⟩) [] Try.func30 rfl rfl rfl ?_
  refine cast_goal (p := True) (by kernel_rfl) ?_
  trivial
theorem p30_4 : Pure1 Try.prog 30 [.int .i64 (.lit 4)] (.tup [.int .i64 (.lit (3)), .int .i64 (.lit (0))]) := by
  refine pure_of_exec (ct := ⟨[c46], []⟩) [] Try.func30 rfl rfl rfl ?_
  refine cast_goal (p := True) (by kernel_rfl) ?_
  trivial
theorem p30_5 : Pure1 Try.prog 30 [.int .i64 (.lit 5)] (.tup [.int .i64 (.lit (3)), .int .i64 (.lit (0))]) := by
  refine pure_of_exec (ct := ⟨[c46], []⟩) [] Try.func30 rfl rfl rfl ?_
  refine cast_goal (p := True) (by kernel_rfl) ?_
  trivial
theorem p30_6 : Pure1 Try.prog 30 [.int .i64 (.lit 6)] (.tup [.int .i64 (.lit (3)), .int .i64 (.lit (0))]) := by
  refine pure_of_exec (ct := ⟨[c46], []⟩) [] Try.func30 rfl rfl rfl ?_
  refine cast_goal (p := True) (by kernel_rfl) ?_
  trivial
theorem p30_7 : Pure1 Try.prog 30 [.int .i64 (.lit 7)] (.tup [.int .i64 (.lit (3)), .int .i64 (.lit (0))]) := by
  refine pure_of_exec (ct := ⟨[c46], []⟩) [] Try.func30 rfl rfl rfl ?_
  refine cast_goal (p := True) (by kernel_rfl) ?_
  trivial
theorem p30_8 : Pure1 Try.prog 30 [.int .i64 (.lit 8)] (.tup [.int .i64 (.lit (3)), .int .i64 (.lit (0))]) := by
  refine pure_of_exec (ct := ⟨[c46], []⟩) [] Try.func30 rfl rfl rfl ?_
  refine cast_goal (p := True) (by kernel_rfl) ?_
  trivial
theorem p30_9 : Pure1 Try.prog 30 [.int .i64 (.lit 9)] (.tup [.int .i64 (.lit (3)), .int .i64 (.lit (0))]) := by
  refine pure_of_exec (ct := ⟨[c46], []⟩) [] Try.func30 rfl rfl rfl ?_
  refine cast_goal (p := True) (by kernel_rfl) ?_
  trivial
theorem p30_10 : Pure1 Try.prog 30 [.int .i64 (.lit 10)] (.tup [.int .i64 (.lit (3)), .int .i64 (.lit (0))]) := by
  refine pure_of_exec (ct := ⟨[c46], []⟩) [] Try.func30 rfl rfl rfl ?_
  refine cast_goal (p := True) (by kernel_rfl) ?_
  trivial
theorem p30_11 : Pure1 Try.prog 30 [.int .i64 (.lit 11)] (.tup [.int .i64 (.lit (3)), .int .i64 (.lit (0))]) := by
  refine pure_of_exec (ct := ⟨[c46], []⟩) [] Try.func30 rfl rfl rfl ?_
  refine cast_goal (p := True) (by kernel_rfl) ?_
  trivial
theorem p30_12 : Pure1 Try.prog 30 [.int .i64 (.lit 12)] (.tup [.int .i64 (.lit (3)), .int .i64 (.lit (0))]) := by
  refine pure_of_exec (ct := ⟨[c46], []⟩) [] Try.func30 rfl rfl rfl ?_
  refine cast_goal (p := True) (by kernel_rfl) ?_
  trivial
theorem p30_13 : Pure1 Try.prog 30 [.int .i64 (.lit 13)] (.tup [.int .i64 (.lit (3)), .int .i64 (.lit (0))]) := by
  refine pure_of_exec (ct := ⟨[c46], []⟩) [] Try.func30 rfl rfl rfl ?_
  refine cast_goal (p := True) (by kernel_rfl) ?_
  trivial
theorem p30_14 : Pure1 Try.prog 30 [.int .i64 (.lit 14)] (.tup [.int .i64 (.lit (3)), .int .i64 (.lit (0))]) := by
  refine pure_of_exec (ct := ⟨[c46], []⟩) [] Try.func30 rfl rfl rfl ?_
  refine cast_goal (p := True) (by kernel_rfl) ?_
  trivial
theorem p30_15 : Pure1 Try.prog 30 [.int .i64 (.lit 15)] (.tup [.int .i64 (.lit (3)), .int .i64 (.lit (0))]) := by
  refine pure_of_exec (ct := ⟨[c46], []⟩) [] Try.func30 rfl rfl rfl ?_
  refine cast_goal (p := True) (by kernel_rfl) ?_
  trivial
theorem p30_16 : Pure1 Try.prog 30 [.int .i64 (.lit 16)] (.tup [.int .i64 (.lit (5)), .int .i64 (.lit (0))]) := by
  refine pure_of_exec (ct := ⟨[c46], []⟩) [] Try.func30 rfl rfl rfl ?_
  refine cast_goal (p := True) (by kernel_rfl) ?_
  trivial
theorem p30_17 : Pure1 Try.prog 30 [.int .i64 (.lit 17)] (.tup [.int .i64 (.lit (5)), .int .i64 (.lit (0))]) := by
  refine pure_of_exec (ct := ⟨[c46], []⟩) [] Try.func30 rfl rfl rfl ?_
  refine cast_goal (p := True) (by kernel_rfl) ?_
  trivial
theorem p30_18 : Pure1 Try.prog 30 [.int .i64 (.lit 18)] (.tup [.int .i64 (.lit (5)), .int .i64 (.lit (0))]) := by
  refine pure_of_exec (ct := ⟨[c46], []⟩) [] Try.func30 rfl rfl rfl ?_
  refine cast_goal (p := True) (by kernel_rfl) ?_
  trivial
theorem p30_19 : Pure1 Try.prog 30 [.int .i64 (.lit 19)] (.tup [.int .i64 (.lit (5)), .int .i64 (.lit (0))]) := by
  refine pure_of_exec (ct := ⟨[c46], []⟩) [] Try.func30 rfl rfl rfl ?_
  refine cast_goal (p := True) (by kernel_rfl) ?_
  trivial
theorem p30_20 : Pure1 Try.prog 30 [.int .i64 (.lit 20)] (.tup [.int .i64 (.lit (5)), .int .i64 (.lit (0))]) := by
  refine pure_of_exec (ct := ⟨[c46], []⟩) [] Try.func30 rfl rfl rfl ?_
  refine cast_goal (p := True) (by kernel_rfl) ?_
  trivial
theorem p30_21 : Pure1 Try.prog 30 [.int .i64 (.lit 21)] (.tup [.int .i64 (.lit (6)), .int .i64 (.lit (0))]) := by
  refine pure_of_exec (ct := ⟨[c46], []⟩) [] Try.func30 rfl rfl rfl ?_
  refine cast_goal (p := True) (by kernel_rfl) ?_
  trivial
theorem p30_22 : Pure1 Try.prog 30 [.int .i64 (.lit 22)] (.tup [.int .i64 (.lit (4)), .int .i64 (.lit (0))]) := by
  refine pure_of_exec (ct := ⟨[c46], []⟩) [] Try.func30 rfl rfl rfl ?_
  refine cast_goal (p := True) (by kernel_rfl) ?_
  trivial
theorem p30_23 : Pure1 Try.prog 30 [.int .i64 (.lit 23)] (.tup [.int .i64 (.lit (4)), .int .i64 (.lit (0))]) := by
  refine pure_of_exec (ct := ⟨[c46], []⟩) [] Try.func30 rfl rfl rfl ?_
  refine cast_goal (p := True) (by kernel_rfl) ?_
  trivial
theorem p30_24 : Pure1 Try.prog 30 [.int .i64 (.lit 24)] (.tup [.int .i64 (.lit (4)), .int .i64 (.lit (0))]) := by
  refine pure_of_exec (ct := ⟨[c46], []⟩) [] Try.func30 rfl rfl rfl ?_
  refine cast_goal (p := True) (by kernel_rfl) ?_
  trivial
theorem p30_25 : Pure1 Try.prog 30 [.int .i64 (.lit 25)] (.tup [.int .i64 (.lit (1)), .int .i64 (.lit (0))]) := by
  refine pure_of_exec (ct := ⟨[c46], []⟩) [] Try.func30 rfl rfl rfl ?_
  refine cast_goal (p := True) (by kernel_rfl) ?_
  trivial
theorem p30_26 : Pure1 Try.prog 30 [.int .i64 (.lit 26)] (.tup [.int .i64 (.lit (6)), .int .i64 (.lit (0))]) := by
  refine pure_of_exec (ct := ⟨[c46], []⟩) [] Try.func30 rfl rfl rfl ?_
  refine cast_goal (p := True) (by kernel_rfl) ?_
  trivial
theorem p30_out (op : Int) (h : inO op = false) : Pure1 Try.prog 30 [.int .i64 (.sym op)] (.tup [.int .i64 (.lit (0)), .int .i64 (.lit (11))]) := by
  refine pure_of_exec (ct := ⟨[c46], []⟩) [] Try.func30 rfl rfl rfl ?_
  refine cast_goal (p := ((!Go.Proofs.Ytnoccknoaihjlaa.inO op) = Bool.true → True) ∧ ((!Go.Proofs.Ytnoccknoaihjlaa.inO op) = Bool.false → False)) (by kernel_rfl) ?_
  have h0 := h
  simp [inO] at h0
  simp [inO, errO, limE, formI, lowI, highI, wordI, hN, h] at *; try omega
theorem p30 (op : Int) : Pure1 Try.prog 30 [.int .i64 (.sym op)] (.tup [.int .i64 (.sym (formI op)), .int .i64 (.sym (errO op))]) := by
  cases h : inO op
  · exact (p30_out op h).congr (by simp [deqL, deq]) (by simp [deq, deqL, wordI, formI, lowI, highI, errO, limE, h])
  · rcases in27 op h with rfl | rfl | rfl | rfl | rfl | rfl | rfl | rfl | rfl | rfl | rfl | rfl | rfl | rfl | rfl | rfl | rfl | rfl | rfl | rfl | rfl | rfl | rfl | rfl | rfl | rfl | rfl
    · exact p30_0.congr (by simp [deqL, deq]) (by simp [deq, deqL]; decide)
    · exact p30_1.congr (by simp [deqL, deq]) (by simp [deq, deqL]; decide)
    · exact p30_2.congr (by simp [deqL, deq]) (by simp [deq, deqL]; decide)
    · exact p30_3.congr (by simp [deqL, deq]) (by simp [deq, deqL]; decide)
    · exact p30_4.congr (by simp [deqL, deq]) (by simp [deq, deqL]; decide)
    · exact p30_5.congr (by simp [deqL, deq]) (by simp [deq, deqL]; decide)
    · exact p30_6.congr (by simp [deqL, deq]) (by simp [deq, deqL]; decide)
    · exact p30_7.congr (by simp [deqL, deq]) (by simp [deq, deqL]; decide)
    · exact p30_8.congr (by simp [deqL, deq]) (by simp [deq, deqL]; decide)
    · exact p30_9.congr (by simp [deqL, deq]) (by simp [deq, deqL]; decide)
    · exact p30_10.congr (by simp [deqL, deq]) (by simp [deq, deqL]; decide)
    · exact p30_11.congr (by simp [deqL, deq]) (by simp [deq, deqL]; decide)
    · exact p30_12.congr (by simp [deqL, deq]) (by simp [deq, deqL]; decide)
    · exact p30_13.congr (by simp [deqL, deq]) (by simp [deq, deqL]; decide)
    · exact p30_14.congr (by simp [deqL, deq]) (by simp [deq, deqL]; decide)
    · exact p30_15.congr (by simp [deqL, deq]) (by simp [deq, deqL]; decide)
    · exact p30_16.congr (by simp [deqL, deq]) (by simp [deq, deqL]; decide)
    · exact p30_17.congr (by simp [deqL, deq]) (by simp [deq, deqL]; decide)
    · exact p30_18.congr (by simp [deqL, deq]) (by simp [deq, deqL]; decide)
    · exact p30_19.congr (by simp [deqL, deq]) (by simp [deq, deqL]; decide)
    · exact p30_20.congr (by simp [deqL, deq]) (by simp [deq, deqL]; decide)
    · exact p30_21.congr (by simp [deqL, deq]) (by simp [deq, deqL]; decide)
    · exact p30_22.congr (by simp [deqL, deq]) (by simp [deq, deqL]; decide)
    · exact p30_23.congr (by simp [deqL, deq]) (by simp [deq, deqL]; decide)
    · exact p30_24.congr (by simp [deqL, deq]) (by simp [deq, deqL]; decide)
    · exact p30_25.congr (by simp [deqL, deq]) (by simp [deq, deqL]; decide)
    · exact p30_26.congr (by simp [deqL, deq]) (by simp [deq, deqL]; decide)
def c30 : PureC Try.prog where
  f := 30
  spec := fun args => match args with
    | [.int .i64 op] => some (none, .tup [.int .i64 (as1 op (formI op.v)), .int .i64 (as1 op (errO op.v))])
    | _ => none
  body := hasBody_of Try.func30 (by kernel_rfl) (by kernel_rfl)
  ok := by
    intro args p d h hp
    split at h
    · rename_i op; cases h; exact (p30 op.v).congr (by simp [deqL, deq]) (by simp [deq, deqL])
    · cases h

theorem p31_0 : Pure1 Try.prog 31 [.int .i64 (.lit 0)] (.tup [.int .i64 (.lit (0)), .int .i64 (.lit (0))]) := by
  refine pure_of_exec (ct := ⟨[], []⟩) [] Try.func31 rfl rfl rfl ?_
  refine cast_goal (p := True) (by kernel_rfl) ?_
  trivial
theorem p31_1 : Pure1 Try.prog 31 [.int .i64 (.lit 1)] (.tup [.int .i64 (.lit (2)), .int .i64 (.lit (0))]) := by
  refine pure_of_exec (ct := ⟨[], []⟩) [] Try.func31 rfl rfl rfl ?_
  refine cast_goal (p := True) (by kernel_rfl) ?_
  trivial
theorem p31_2 : Pure1 Try.prog 31 [.int .i64 (.lit 2)] (.tup [.int .i64 (.lit (4)), .int .i64 (.lit (0))]) := by
  refine pure_of_exec (ct := ⟨[], []⟩) [] Try.func31 rfl rfl rfl ?_
  refine cast_goal (p := True) (by kernel_rfl) ?_
  trivial
theorem p31_3 : Pure1 Try.prog 31 [.int .i64 (.lit 3)] (.tup [.int .i64 (.lit (4)), .int .i64 (.lit (0))]) := by
  refine pure_of_exec (ct := ⟨[], []⟩) [] Try.func31 rfl rfl rfl ?_
  refine cast_goal (p := True) (by kernel_rfl) ?_
  trivial
theorem p31_4 : Pure1 Try.prog 31 [.int .i64 (.lit 4)] (.tup [.int .i64 (.lit (3)), .int .i64 (.lit (0))]) := by
  refine pure_of_exec (ct := ⟨[], []⟩) [] Try.func31 rfl rfl rfl ?_
  refine cast_goal (p := True) (by kernel_rfl) ?_
  trivial
theorem p31_5 : Pure1 Try.prog 31 [.int .i64 (.lit 5)] (.tup [.int .i64 (.lit (3)), .int .i64 (.lit (0))]) := by
  refine pure_of_exec (ct := ⟨[], []⟩) [] Try.func31 rfl rfl rfl ?_
  refine cast_goal (p := True) (by kernel_rfl) ?_
  trivial
theorem p31_6 : Pure1 Try.prog 31 [.int .i64 (.lit 6)] (.tup [.int .i64 (.lit (3)), .int .i64 (.lit (0))]) := by
  refine pure_of_exec (ct := ⟨[], []⟩) [] Try.func31 rfl rfl rfl ?_
  refine cast_goal (p := True) (by kernel_rfl) ?_
  trivial
theorem p31_7 : Pure1 Try.prog 31 [.int .i64 (.lit 7)] (.tup [.int .i64 (.lit (3)), .int .i64 (.lit (0))]) := by
  refine pure_of_exec (ct := ⟨[], []⟩) [] Try.func31 rfl rfl rfl ?_
  refine cast_goal (p := True) (by kernel_rfl) ?_
  trivial
theorem p31_8 : Pure1 Try.prog 31 [.int .i64 (.lit 8)] (.tup [.int .i64 (.lit (3)), .int .i64 (.lit (0))]) := by
  refine pure_of_exec (ct := ⟨[], []⟩) [] Try.func31 rfl rfl rfl ?_
  refine cast_goal (p := True) (by kernel_rfl) ?_
  trivial
theorem p31_9 : Pure1 Try.prog 31 [.int .i64 (.lit 9)] (.tup [.int .i64 (.lit (3)), .int .i64 (.lit (0))]) := by
  refine pure_of_exec (ct := ⟨[], []⟩) [] Try.func31 rfl rfl rfl ?_
  refine cast_goal (p := True) (by kernel_rfl) ?_
  trivial
theorem p31_10 : Pure1 Try.prog 31 [.int .i64 (.lit 10)] (.tup [.int .i64 (.lit (3)), .int .i64 (.lit (0))]) := by
  refine pure_of_exec (ct := ⟨[], []⟩) [] Try.func31 rfl rfl rfl ?_
  refine cast_goal (p := True) (by kernel_rfl) ?_
  trivial
theorem p31_11 : Pure1 Try.prog 31 [.int .i64 (.lit 11)] (.tup [.int .i64 (.lit (3)), .int .i64 (.lit (0))]) := by
  refine pure_of_exec (ct := ⟨[], []⟩) [] Try.func31 rfl rfl rfl ?_
  refine cast_goal (p := True) (by kernel_rfl) ?_
  trivial
theorem p31_12 : Pure1 Try.prog 31 [.int .i64 (.lit 12)] (.tup [.int .i64 (.lit (3)), .int .i64 (.lit (0))]) := by
  refine pure_of_exec (ct := ⟨[], []⟩) [] Try.func31 rfl rfl rfl ?_
  refine cast_goal (p := True) (by kernel_rfl) ?_
  trivial
theorem p31_13 : Pure1 Try.prog 31 [.int .i64 (.lit 13)] (.tup [.int .i64 (.lit (3)), .int .i64 (.lit (0))]) := by
  refine pure_of_exec (ct := ⟨[], []⟩) [] Try.func31 rfl rfl rfl ?_
  refine cast_goal (p := True) (by kernel_rfl) ?_
  trivial
theorem p31_14 : Pure1 Try.prog 31 [.int .i64 (.lit 14)] (.tup [.int .i64 (.lit (3)), .int .i64 (.lit (0))]) := by
  refine pure_of_exec (ct := ⟨[], []⟩) [] Try.func31 rfl rfl rfl ?_
  refine cast_goal (p := True) (by kernel_rfl) ?_
  trivial
theorem p31_15 : Pure1 Try.prog 31 [.int .i64 (.lit 15)] (.tup [.int .i64 (.lit (3)), .int .i64 (.lit (0))]) := by
  refine pure_of_exec (ct := ⟨[], []⟩) [] Try.func31 rfl rfl rfl ?_
  refine cast_goal (p := True) (by kernel_rfl) ?_
  trivial
theorem p31_16 : Pure1 Try.prog 31 [.int .i64 (.lit 16)] (.tup [.int .i64 (.lit (5)), .int .i64 (.lit (0))]) := by
  refine pure_of_exec (ct := ⟨[], []⟩) [] Try.func31 rfl rfl rfl ?_
  refine cast_goal (p := True) (by kernel_rfl) ?_
  trivial
theorem p31_17 : Pure1 Try.prog 31 [.int .i64 (.lit 17)] (.tup [.int .i64 (.lit (5)), .int .i64 (.lit (0))]) := by
  refine pure_of_exec (ct := ⟨[], []⟩) [] Try.func31 rfl rfl rfl ?_
  refine cast_goal (p := True) (by kernel_rfl) ?_
  trivial
theorem p31_18 : Pure1 Try.prog 31 [.int .i64 (.lit 18)] (.tup [.int .i64 (.lit (5)), .int .i64 (.lit (0))]) := by
  refine pure_of_exec (ct := ⟨[], []⟩) [] Try.func31 rfl rfl rfl ?_
  refine cast_goal (p := True) (by kernel_rfl) ?_
  trivial
theorem p31_19 : Pure1 Try.prog 31 [.int .i64 (.lit 19)] (.tup [.int .i64 (.lit (5)), .int .i64 (.lit (0))]) := by
  refine pure_of_exec (ct := ⟨[], []⟩) [] Try.func31 rfl rfl rfl ?_
  refine cast_goal (p := True) (by kernel_rfl) ?_
  trivial
theorem p31_20 : Pure1 Try.prog 31 [.int .i64 (.lit 20)] (.tup [.int .i64 (.lit (5)), .int .i64 (.lit (0))]) := by
  refine pure_of_exec (ct := ⟨[], []⟩) [] Try.func31 rfl rfl rfl ?_
  refine cast_goal (p := True) (by kernel_rfl) ?_
  trivial
theorem p31_21 : Pure1 Try.prog 31 [.int .i64 (.lit 21)] (.tup [.int .i64 (.lit (6)), .int .i64 (.lit (0))]) := by
  refine pure_of_exec (ct := ⟨[], []⟩) [] Try.func31 rfl rfl rfl ?_
  refine cast_goal (p := True) (by kernel_rfl) ?_
  trivial
theorem p31_22 : Pure1 Try.prog 31 [.int .i64 (.lit 22)] (.tup [.int .i64 (.lit (4)), .int .i64 (.lit (0))]) := by
  refine pure_of_exec (ct := ⟨[], []⟩) [] Try.func31 rfl rfl rfl ?_
  refine cast_goal (p := True) (by kernel_rfl) ?_
  trivial
theorem p31_23 : Pure1 Try.prog 31 [.int .i64 (.lit 23)] (.tup [.int .i64 (.lit (4)), .int .i64 (.lit (0))]) := by
  refine pure_of_exec (ct := ⟨[], []⟩) [] Try.func31 rfl rfl rfl ?_
  refine cast_goal (p := True) (by kernel_rfl) ?_
  trivial
theorem p31_24 : Pure1 Try.prog 31 [.int .i64 (.lit 24)] (.tup [.int .i64 (.lit (4)), .int .i64 (.lit (0))]) := by
  refine pure_of_exec (ct := ⟨[], []⟩) [] Try.func31 rfl rfl rfl ?_
  refine cast_goal (p := True) (by kernel_rfl) ?_
  trivial
theorem p31_25 : Pure1 Try.prog 31 [.int .i64 (.lit 25)] (.tup [.int .i64 (.lit (1)), .int .i64 (.lit (0))]) := by
  refine pure_of_exec (ct := ⟨[], []⟩) [] Try.func31 rfl rfl rfl ?_
  refine cast_goal (p := True) (by kernel_rfl) ?_
  trivial
theorem p31_26 : Pure1 Try.prog 31 [.int .i64 (.lit 26)] (.tup [.int .i64 (.lit (6)), .int .i64 (.lit (0))]) := by
  refine pure_of_exec (ct := ⟨[], []⟩) [] Try.func31 rfl rfl rfl ?_
  refine cast_goal (p := True) (by kernel_rfl) ?_
  trivial
theorem p31_out (op : Int) (h : inO op = false) : Pure1 Try.prog 31 [.int .i64 (.sym op)] (.tup [.int .i64 (.lit (0)), .int .i64 (.lit (11))]) := by
  refine pure_of_exec (ct := ⟨[], []⟩) [] Try.func31 rfl rfl rfl ?_
  refine cast_goal (p := ((Decidable.decide (op < (0 : Int)) || Decidable.decide ((26 : Int) < op)) = Bool.true → True) ∧ ((Decidable.decide (op < (0 : Int)) || Decidable.decide ((26 : Int) < op)) = Bool.false → ((op == (0 : Int)) = Bool.true → False) ∧ ((op == (0 : Int)) = Bool.false → ((op == (1 : Int)) = Bool.true → False) ∧ ((op == (1 : Int)) = Bool.false → ((op == (2 : Int) || (op == (3 : Int) || Decidable.decide ((22 : Int) ≤ op) && Decidable.decide (op ≤ (24 : Int)))) = Bool.true → False) ∧ ((op == (2 : Int) || (op == (3 : Int) || Decidable.decide ((22 : Int) ≤ op) && Decidable.decide (op ≤ (24 : Int)))) = Bool.false → (Decidable.decide (op ≤ (15 : Int)) = Bool.true → False) ∧ (Decidable.decide (op ≤ (15 : Int)) = Bool.false → (Decidable.decide (op ≤ (20 : Int)) = Bool.true → False) ∧ (Decidable.decide (op ≤ (20 : Int)) = Bool.false → ((op == (25 : Int)) = Bool.true → False) ∧ ((op == (25 : Int)) = Bool.false → False)))))))) (by kernel_rfl) ?_
  have h0 := h
  simp [inO] at h0
  simp [inO, errO, limE, formI, lowI, highI, wordI, hN, h] at *; try omega
theorem p31 (op : Int) : Pure1 Try.prog 31 [.int .i64 (.sym op)] (.tup [.int .i64 (.sym (formI op)), .int .i64 (.sym (errO op))]) := by
  cases h : inO op
  · exact (p31_out op h).congr (by simp [deqL, deq]) (by simp [deq, deqL, wordI, formI, lowI, highI, errO, limE, h])
  · rcases in27 op h with rfl | rfl | rfl | rfl | rfl | rfl | rfl | rfl | rfl | rfl | rfl | rfl | rfl | rfl | rfl | rfl | rfl | rfl | rfl | rfl | rfl | rfl | rfl | rfl | rfl | rfl | rfl
    · exact p31_0.congr (by simp [deqL, deq]) (by simp [deq, deqL]; decide)
    · exact p31_1.congr (by simp [deqL, deq]) (by simp [deq, deqL]; decide)
    · exact p31_2.congr (by simp [deqL, deq]) (by simp [deq, deqL]; decide)
    · exact p31_3.congr (by simp [deqL, deq]) (by simp [deq, deqL]; decide)
    · exact p31_4.congr (by simp [deqL, deq]) (by simp [deq, deqL]; decide)
    · exact p31_5.congr (by simp [deqL, deq]) (by simp [deq, deqL]; decide)
    · exact p31_6.congr (by simp [deqL, deq]) (by simp [deq, deqL]; decide)
    · exact p31_7.congr (by simp [deqL, deq]) (by simp [deq, deqL]; decide)
    · exact p31_8.congr (by simp [deqL, deq]) (by simp [deq, deqL]; decide)
    · exact p31_9.congr (by simp [deqL, deq]) (by simp [deq, deqL]; decide)
    · exact p31_10.congr (by simp [deqL, deq]) (by simp [deq, deqL]; decide)
    · exact p31_11.congr (by simp [deqL, deq]) (by simp [deq, deqL]; decide)
    · exact p31_12.congr (by simp [deqL, deq]) (by simp [deq, deqL]; decide)
    · exact p31_13.congr (by simp [deqL, deq]) (by simp [deq, deqL]; decide)
    · exact p31_14.congr (by simp [deqL, deq]) (by simp [deq, deqL]; decide)
    · exact p31_15.congr (by simp [deqL, deq]) (by simp [deq, deqL]; decide)
    · exact p31_16.congr (by simp [deqL, deq]) (by simp [deq, deqL]; decide)
    · exact p31_17.congr (by simp [deqL, deq]) (by simp [deq, deqL]; decide)
    · exact p31_18.congr (by simp [deqL, deq]) (by simp [deq, deqL]; decide)
    · exact p31_19.congr (by simp [deqL, deq]) (by simp [deq, deqL]; decide)
    · exact p31_20.congr (by simp [deqL, deq]) (by simp [deq, deqL]; decide)
    · exact p31_21.congr (by simp [deqL, deq]) (by simp [deq, deqL]; decide)
    · exact p31_22.congr (by simp [deqL, deq]) (by simp [deq, deqL]; decide)
    · exact p31_23.congr (by simp [deqL, deq]) (by simp [deq, deqL]; decide)
    · exact p31_24.congr (by simp [deqL, deq]) (by simp [deq, deqL]; decide)
    · exact p31_25.congr (by simp [deqL, deq]) (by simp [deq, deqL]; decide)
    · exact p31_26.congr (by simp [deqL, deq]) (by simp [deq, deqL]; decide)
def c31 : PureC Try.prog where
  f := 31
  spec := fun args => match args with
    | [.int .i64 op] => some (none, .tup [.int .i64 (as1 op (formI op.v)), .int .i64 (as1 op (errO op.v))])
    | _ => none
  body := hasBody_of Try.func31 (by kernel_rfl) (by kernel_rfl)
  ok := by
    intro args p d h hp
    split at h
    · rename_i op; cases h; exact (p31 op.v).congr (by simp [deqL, deq]) (by simp [deq, deqL])
    · cases h

theorem p32_0 : Pure1 Try.prog 32 [.int .i64 (.lit 0)] (.tup [.int .i64 (.lit (0)), .int .i64 (.lit (0)), .int .i64 (.lit (1))]) := by
  refine pure_of_exec (ct := ⟨[c46, c51], []⟩) [] Try.func32 rfl rfl rfl ?_
  refine cast_goal (p := True) (by kernel_rfl) ?_
  trivial
theorem p32_1 : Pure1 Try.prog 32 [.int .i64 (.lit 1)] (.tup [.int .i64 (.lit (0)), .int .i64 (.lit (0)), .int .i64 (.lit (1))]) := by
  refine pure_of_exec (ct := ⟨[c46, c51], []⟩) [] Try.func32 rfl rfl rfl ?_
  refine cast_goal (p := True) (by kernel_rfl) ?_
  trivial
theorem p32_2 : Pure1 Try.prog 32 [.int .i64 (.lit 2)] (.tup [.int .i64 (.lit (-32768)), .int .i64 (.lit (32767)), .int .i64 (.lit (0))]) := by
  refine pure_of_exec (ct := ⟨[c46, c51], []⟩) [] Try.func32 rfl rfl rfl ?_
  refine cast_goal (p := True) (by kernel_rfl) ?_
  trivial
theorem p32_3 : Pure1 Try.prog 32 [.int .i64 (.lit 3)] (.tup [.int .i64 (.lit (0)), .int .i64 (.lit (65535)), .int .i64 (.lit (0))]) := by
  refine pure_of_exec (ct := ⟨[c46, c51], []⟩) [] Try.func32 rfl rfl rfl ?_
  refine cast_goal (p := True) (by kernel_rfl) ?_
  trivial
theorem p32_4 : Pure1 Try.prog 32 [.int .i64 (.lit 4)] (.tup [.int .i64 (.lit (0)), .int .i64 (.lit (0)), .int .i64 (.lit (1))]) := by
  refine pure_of_exec (ct := ⟨[c46, c51], []⟩) [] Try.func32 rfl rfl rfl ?_
  refine cast_goal (p := True) (by kernel_rfl) ?_
  trivial
theorem p32_5 : Pure1 Try.prog 32 [.int .i64 (.lit 5)] (.tup [.int .i64 (.lit (0)), .int .i64 (.lit (0)), .int .i64 (.lit (1))]) := by
  refine pure_of_exec (ct := ⟨[c46, c51], []⟩) [] Try.func32 rfl rfl rfl ?_
  refine cast_goal (p := True) (by kernel_rfl) ?_
  trivial
theorem p32_6 : Pure1 Try.prog 32 [.int .i64 (.lit 6)] (.tup [.int .i64 (.lit (0)), .int .i64 (.lit (0)), .int .i64 (.lit (1))]) := by
  refine pure_of_exec (ct := ⟨[c46, c51], []⟩) [] Try.func32 rfl rfl rfl ?_
  refine cast_goal (p := True) (by kernel_rfl) ?_
  trivial
theorem p32_7 : Pure1 Try.prog 32 [.int .i64 (.lit 7)] (.tup [.int .i64 (.lit (0)), .int .i64 (.lit (0)), .int .i64 (.lit (1))]) := by
  refine pure_of_exec (ct := ⟨[c46, c51], []⟩) [] Try.func32 rfl rfl rfl ?_
  refine cast_goal (p := True) (by kernel_rfl) ?_
  trivial
theorem p32_8 : Pure1 Try.prog 32 [.int .i64 (.lit 8)] (.tup [.int .i64 (.lit (0)), .int .i64 (.lit (0)), .int .i64 (.lit (1))]) := by
  refine pure_of_exec (ct := ⟨[c46, c51], []⟩) [] Try.func32 rfl rfl rfl ?_
  refine cast_goal (p := True) (by kernel_rfl) ?_
  trivial
theorem p32_9 : Pure1 Try.prog 32 [.int .i64 (.lit 9)] (.tup [.int .i64 (.lit (0)), .int .i64 (.lit (0)), .int .i64 (.lit (1))]) := by
  refine pure_of_exec (ct := ⟨[c46, c51], []⟩) [] Try.func32 rfl rfl rfl ?_
  refine cast_goal (p := True) (by kernel_rfl) ?_
  trivial
theorem p32_10 : Pure1 Try.prog 32 [.int .i64 (.lit 10)] (.tup [.int .i64 (.lit (0)), .int .i64 (.lit (0)), .int .i64 (.lit (1))]) := by
  refine pure_of_exec (ct := ⟨[c46, c51], []⟩) [] Try.func32 rfl rfl rfl ?_
  refine cast_goal (p := True) (by kernel_rfl) ?_
  trivial
theorem p32_11 : Pure1 Try.prog 32 [.int .i64 (.lit 11)] (.tup [.int .i64 (.lit (0)), .int .i64 (.lit (0)), .int .i64 (.lit (1))]) := by
  refine pure_of_exec (ct := ⟨[c46, c51], []⟩) [] Try.func32 rfl rfl rfl ?_
  refine cast_goal (p := True) (by kernel_rfl) ?_
  trivial
theorem p32_12 : Pure1 Try.prog 32 [.int .i64 (.lit 12)] (.tup [.int .i64 (.lit (0)), .int .i64 (.lit (0)), .int .i64 (.lit (1))]) := by
  refine pure_of_exec (ct := ⟨[c46, c51], []⟩) [] Try.func32 rfl rfl rfl ?_
  refine cast_goal (p := True) (by kernel_rfl) ?_
  trivial
theorem p32_13 : Pure1 Try.prog 32 [.int .i64 (.lit 13)] (.tup [.int .i64 (.lit (0)), .int .i64 (.lit (0)), .int .i64 (.lit (1))]) := by
  refine pure_of_exec (ct := ⟨[c46, c51], []⟩) [] Try.func32 rfl rfl rfl ?_
  refine cast_goal (p := True) (by kernel_rfl) ?_
  trivial
theorem p32_14 : Pure1 Try.prog 32 [.int .i64 (.lit 14)] (.tup [.int .i64 (.lit (0)), .int .i64 (.lit (0)), .int .i64 (.lit (1))]) := by
  refine pure_of_exec (ct := ⟨[c46, c51], []⟩) [] Try.func32 rfl rfl rfl ?_
  refine cast_goal (p := True) (by kernel_rfl) ?_
  trivial
theorem p32_15 : Pure1 Try.prog 32 [.int .i64 (.lit 15)] (.tup [.int .i64 (.lit (0)), .int .i64 (.lit (0)), .int .i64 (.lit (1))]) := by
  refine pure_of_exec (ct := ⟨[c46, c51], []⟩) [] Try.func32 rfl rfl rfl ?_
  refine cast_goal (p := True) (by kernel_rfl) ?_
  trivial
theorem p32_16 : Pure1 Try.prog 32 [.int .i64 (.lit 16)] (.tup [.int .i64 (.lit (-32768)), .int .i64 (.lit (32767)), .int .i64 (.lit (0))]) := by
  refine pure_of_exec (ct := ⟨[c46, c51], []⟩) [] Try.func32 rfl rfl rfl ?_
  refine cast_goal (p := True) (by kernel_rfl) ?_
  trivial
theorem p32_17 : Pure1 Try.prog 32 [.int .i64 (.lit 17)] (.tup [.int .i64 (.lit (-32768)), .int .i64 (.lit (32767)), .int .i64 (.lit (0))]) := by
  refine pure_of_exec (ct := ⟨[c46, c51], []⟩) [] Try.func32 rfl rfl rfl ?_
  refine cast_goal (p := True) (by kernel_rfl) ?_
  trivial
theorem p32_18 : Pure1 Try.prog 32 [.int .i64 (.lit 18)] (.tup [.int .i64 (.lit (-32768)), .int .i64 (.lit (32767)), .int .i64 (.lit (0))]) := by
  refine pure_of_exec (ct := ⟨[c46, c51], []⟩) [] Try.func32 rfl rfl rfl ?_
  refine cast_goal (p := True) (by kernel_rfl) ?_
  trivial
theorem p32_19 : Pure1 Try.prog 32 [.int .i64 (.lit 19)] (.tup [.int .i64 (.lit (-32768)), .int .i64 (.lit (32767)), .int .i64 (.lit (0))]) := by
  refine pure_of_exec (ct := ⟨[c46, c51], []⟩) [] Try.func32 rfl rfl rfl ?_
  refine cast_goal (p := True) (by kernel_rfl) ?_
  trivial
theorem p32_20 : Pure1 Try.prog 32 [.int .i64 (.lit 20)] (.tup [.int .i64 (.lit (-32768)), .int .i64 (.lit (32767)), .int .i64 (.lit (0))]) := by
  refine pure_of_exec (ct := ⟨[c46, c51], []⟩) [] Try.func32 rfl rfl rfl ?_
  refine cast_goal (p := True) (by kernel_rfl) ?_
  trivial
theorem p32_21 : Pure1 Try.prog 32 [.int .i64 (.lit 21)] (.tup [.int .i64 (.lit (0)), .int .i64 (.lit (4095)), .int .i64 (.lit (0))]) := by
  refine pure_of_exec (ct := ⟨[c46, c51], []⟩) [] Try.func32 rfl rfl rfl ?_
  refine cast_goal (p := True) (by kernel_rfl) ?_
  trivial
theorem p32_22 : Pure1 Try.prog 32 [.int .i64 (.lit 22)] (.tup [.int .i64 (.lit (0)), .int .i64 (.lit (4095)), .int .i64 (.lit (0))]) := by
  refine pure_of_exec (ct := ⟨[c46, c51], []⟩) [] Try.func32 rfl rfl rfl ?_
  refine cast_goal (p := True) (by kernel_rfl) ?_
  trivial
theorem p32_23 : Pure1 Try.prog 32 [.int .i64 (.lit 23)] (.tup [.int .i64 (.lit (0)), .int .i64 (.lit (4095)), .int .i64 (.lit (0))]) := by
  refine pure_of_exec (ct := ⟨[c46, c51], []⟩) [] Try.func32 rfl rfl rfl ?_
  refine cast_goal (p := True) (by kernel_rfl) ?_
  trivial
theorem p32_24 : Pure1 Try.prog 32 [.int .i64 (.lit 24)] (.tup [.int .i64 (.lit (0)), .int .i64 (.lit (4095)), .int .i64 (.lit (0))]) := by
  refine pure_of_exec (ct := ⟨[c46, c51], []⟩) [] Try.func32 rfl rfl rfl ?_
  refine cast_goal (p := True) (by kernel_rfl) ?_
  trivial
theorem p32_25 : Pure1 Try.prog 32 [.int .i64 (.lit 25)] (.tup [.int .i64 (.lit (0)), .int .i64 (.lit (0)), .int .i64 (.lit (1))]) := by
  refine pure_of_exec (ct := ⟨[c46, c51], []⟩) [] Try.func32 rfl rfl rfl ?_
  refine cast_goal (p := True) (by kernel_rfl) ?_
  trivial
theorem p32_26 : Pure1 Try.prog 32 [.int .i64 (.lit 26)] (.tup [.int .i64 (.lit (0)), .int .i64 (.lit (255)), .int .i64 (.lit (0))]) := by
  refine pure_of_exec (ct := ⟨[c46, c51], []⟩) [] Try.func32 rfl rfl rfl ?_
  refine cast_goal (p := True) (by kernel_rfl) ?_
  trivial
theorem p32_out (op : Int) (h : inO op = false) : Pure1 Try.prog 32 [.int .i64 (.sym op)] (.tup [.int .i64 (.lit (0)), .int .i64 (.lit (0)), .int .i64 (.lit (11))]) := by
  refine pure_of_exec (ct := ⟨[c46, c51], []⟩) [] Try.func32 rfl rfl rfl ?_
  refine cast_goal (p := ((!Go.Proofs.Ytnoccknoaihjlaa.inO op) = Bool.true → True) ∧ ((!Go.Proofs.Ytnoccknoaihjlaa.inO op) = Bool.false → ((!Go.Proofs.Ytnoccknoaihjlaa.hN (Go.Proofs.Ytnoccknoaihjlaa.formI op)) = Bool.true → False) ∧ ((!Go.Proofs.Ytnoccknoaihjlaa.hN (Go.Proofs.Ytnoccknoaihjlaa.formI op)) = Bool.false → False))) (by kernel_rfl) ?_
  have h0 := h
  simp [inO] at h0
  simp [inO, errO, limE, formI, lowI, highI, wordI, hN, h] at *; try omega
theorem p32 (op : Int) : Pure1 Try.prog 32 [.int .i64 (.sym op)] (.tup [.int .i64 (.sym (lowI op)), .int .i64 (.sym (highI op)), .int .i64 (.sym (limE op))]) := by
  cases h : inO op
  · exact (p32_out op h).congr (by simp [deqL, deq]) (by simp [deq, deqL, wordI, formI, lowI, highI, errO, limE, h])
  · rcases in27 op h with rfl | rfl | rfl | rfl | rfl | rfl | rfl | rfl | rfl | rfl | rfl | rfl | rfl | rfl | rfl | rfl | rfl | rfl | rfl | rfl | rfl | rfl | rfl | rfl | rfl | rfl | rfl
    · exact p32_0.congr (by simp [deqL, deq]) (by simp [deq, deqL]; decide)
    · exact p32_1.congr (by simp [deqL, deq]) (by simp [deq, deqL]; decide)
    · exact p32_2.congr (by simp [deqL, deq]) (by simp [deq, deqL]; decide)
    · exact p32_3.congr (by simp [deqL, deq]) (by simp [deq, deqL]; decide)
    · exact p32_4.congr (by simp [deqL, deq]) (by simp [deq, deqL]; decide)
    · exact p32_5.congr (by simp [deqL, deq]) (by simp [deq, deqL]; decide)
    · exact p32_6.congr (by simp [deqL, deq]) (by simp [deq, deqL]; decide)
    · exact p32_7.congr (by simp [deqL, deq]) (by simp [deq, deqL]; decide)
    · exact p32_8.congr (by simp [deqL, deq]) (by simp [deq, deqL]; decide)
    · exact p32_9.congr (by simp [deqL, deq]) (by simp [deq, deqL]; decide)
    · exact p32_10.congr (by simp [deqL, deq]) (by simp [deq, deqL]; decide)
    · exact p32_11.congr (by simp [deqL, deq]) (by simp [deq, deqL]; decide)
    · exact p32_12.congr (by simp [deqL, deq]) (by simp [deq, deqL]; decide)
    · exact p32_13.congr (by simp [deqL, deq]) (by simp [deq, deqL]; decide)
    · exact p32_14.congr (by simp [deqL, deq]) (by simp [deq, deqL]; decide)
    · exact p32_15.congr (by simp [deqL, deq]) (by simp [deq, deqL]; decide)
    · exact p32_16.congr (by simp [deqL, deq]) (by simp [deq, deqL]; decide)
    · exact p32_17.congr (by simp [deqL, deq]) (by simp [deq, deqL]; decide)
    · exact p32_18.congr (by simp [deqL, deq]) (by simp [deq, deqL]; decide)
    · exact p32_19.congr (by simp [deqL, deq]) (by simp [deq, deqL]; decide)
    · exact p32_20.congr (by simp [deqL, deq]) (by simp [deq, deqL]; decide)
    · exact p32_21.congr (by simp [deqL, deq]) (by simp [deq, deqL]; decide)
    · exact p32_22.congr (by simp [deqL, deq]) (by simp [deq, deqL]; decide)
    · exact p32_23.congr (by simp [deqL, deq]) (by simp [deq, deqL]; decide)
    · exact p32_24.congr (by simp [deqL, deq]) (by simp [deq, deqL]; decide)
    · exact p32_25.congr (by simp [deqL, deq]) (by simp [deq, deqL]; decide)
    · exact p32_26.congr (by simp [deqL, deq]) (by simp [deq, deqL]; decide)
def c32 : PureC Try.prog where
  f := 32
  spec := fun args => match args with
    | [.int .i64 op] => some (none, .tup [.int .i64 (as1 op (lowI op.v)), .int .i64 (as1 op (highI op.v)), .int .i64 (as1 op (limE op.v))])
    | _ => none
  body := hasBody_of Try.func32 (by kernel_rfl) (by kernel_rfl)
  ok := by
    intro args p d h hp
    split at h
    · rename_i op; cases h; exact (p32 op.v).congr (by simp [deqL, deq]) (by simp [deq, deqL])
    · cases h

theorem p33_0 : Pure1 Try.prog 33 [.int .i64 (.lit 0)] (.tup [.int .i64 (.lit (0)), .int .i64 (.lit (0)), .int .i64 (.lit (1))]) := by
  refine pure_of_exec (ct := ⟨[c31], []⟩) [] Try.func33 rfl rfl rfl ?_
  refine cast_goal (p := True) (by kernel_rfl) ?_
  trivial
theorem p33_1 : Pure1 Try.prog 33 [.int .i64 (.lit 1)] (.tup [.int .i64 (.lit (0)), .int .i64 (.lit (0)), .int .i64 (.lit (1))]) := by
  refine pure_of_exec (ct := ⟨[c31], []⟩) [] Try.func33 rfl rfl rfl ?_
  refine cast_goal (p := True) (by kernel_rfl) ?_
  trivial
theorem p33_2 : Pure1 Try.prog 33 [.int .i64 (.lit 2)] (.tup [.int .i64 (.lit (-32768)), .int .i64 (.lit (32767)), .int .i64 (.lit (0))]) := by
  refine pure_of_exec (ct := ⟨[c31], []⟩) [] Try.func33 rfl rfl rfl ?_
  refine cast_goal (p := True) (by kernel_rfl) ?_
  trivial
theorem p33_3 : Pure1 Try.prog 33 [.int .i64 (.lit 3)] (.tup [.int .i64 (.lit (0)), .int .i64 (.lit (65535)), .int .i64 (.lit (0))]) := by
  refine pure_of_exec (ct := ⟨[c31], []⟩) [] Try.func33 rfl rfl rfl ?_
  refine cast_goal (p := True) (by kernel_rfl) ?_
  trivial
theorem p33_4 : Pure1 Try.prog 33 [.int .i64 (.lit 4)] (.tup [.int .i64 (.lit (0)), .int .i64 (.lit (0)), .int .i64 (.lit (1))]) := by
  refine pure_of_exec (ct := ⟨[c31], []⟩) [] Try.func33 rfl rfl rfl ?_
  refine cast_goal (p := True) (by kernel_rfl) ?_
  trivial
theorem p33_5 : Pure1 Try.prog 33 [.int .i64 (.lit 5)] (.tup [.int .i64 (.lit (0)), .int .i64 (.lit (0)), .int .i64 (.lit (1))]) := by
  refine pure_of_exec (ct := ⟨[c31], []⟩) [] Try.func33 rfl rfl rfl ?_
  refine cast_goal (p := True) (by kernel_rfl) ?_
  trivial
theorem p33_6 : Pure1 Try.prog 33 [.int .i64 (.lit 6)] (.tup [.int .i64 (.lit (0)), .int .i64 (.lit (0)), .int .i64 (.lit (1))]) := by
  refine pure_of_exec (ct := ⟨[c31], []⟩) [] Try.func33 rfl rfl rfl ?_
  refine cast_goal (p := True) (by kernel_rfl) ?_
  trivial
theorem p33_7 : Pure1 Try.prog 33 [.int .i64 (.lit 7)] (.tup [.int .i64 (.lit (0)), .int .i64 (.lit (0)), .int .i64 (.lit (1))]) := by
  refine pure_of_exec (ct := ⟨[c31], []⟩) [] Try.func33 rfl rfl rfl ?_
  refine cast_goal (p := True) (by kernel_rfl) ?_
  trivial
theorem p33_8 : Pure1 Try.prog 33 [.int .i64 (.lit 8)] (.tup [.int .i64 (.lit (0)), .int .i64 (.lit (0)), .int .i64 (.lit (1))]) := by
  refine pure_of_exec (ct := ⟨[c31], []⟩) [] Try.func33 rfl rfl rfl ?_
  refine cast_goal (p := True) (by kernel_rfl) ?_
  trivial
theorem p33_9 : Pure1 Try.prog 33 [.int .i64 (.lit 9)] (.tup [.int .i64 (.lit (0)), .int .i64 (.lit (0)), .int .i64 (.lit (1))]) := by
  refine pure_of_exec (ct := ⟨[c31], []⟩) [] Try.func33 rfl rfl rfl ?_
  refine cast_goal (p := True) (by kernel_rfl) ?_
  trivial
theorem p33_10 : Pure1 Try.prog 33 [.int .i64 (.lit 10)] (.tup [.int .i64 (.lit (0)), .int .i64 (.lit (0)), .int .i64 (.lit (1))]) := by
  refine pure_of_exec (ct := ⟨[c31], []⟩) [] Try.func33 rfl rfl rfl ?_
  refine cast_goal (p := True) (by kernel_rfl) ?_
  trivial
theorem p33_11 : Pure1 Try.prog 33 [.int .i64 (.lit 11)] (.tup [.int .i64 (.lit (0)), .int .i64 (.lit (0)), .int .i64 (.lit (1))]) := by
  refine pure_of_exec (ct := ⟨[c31], []⟩) [] Try.func33 rfl rfl rfl ?_
  refine cast_goal (p := True) (by kernel_rfl) ?_
  trivial
theorem p33_12 : Pure1 Try.prog 33 [.int .i64 (.lit 12)] (.tup [.int .i64 (.lit (0)), .int .i64 (.lit (0)), .int .i64 (.lit (1))]) := by
  refine pure_of_exec (ct := ⟨[c31], []⟩) [] Try.func33 rfl rfl rfl ?_
  refine cast_goal (p := True) (by kernel_rfl) ?_
  trivial
theorem p33_13 : Pure1 Try.prog 33 [.int .i64 (.lit 13)] (.tup [.int .i64 (.lit (0)), .int .i64 (.lit (0)), .int .i64 (.lit (1))]) := by
  refine pure_of_exec (ct := ⟨[c31], []⟩) [] Try.func33 rfl rfl rfl ?_
  refine cast_goal (p := True) (by kernel_rfl) ?_
  trivial
theorem p33_14 : Pure1 Try.prog 33 [.int .i64 (.lit 14)] (.tup [.int .i64 (.lit (0)), .int .i64 (.lit (0)), .int .i64 (.lit (1))]) := by
  refine pure_of_exec (ct := ⟨[c31], []⟩) [] Try.func33 rfl rfl rfl ?_
  refine cast_goal (p := True) (by kernel_rfl) ?_
  trivial
theorem p33_15 : Pure1 Try.prog 33 [.int .i64 (.lit 15)] (.tup [.int .i64 (.lit (0)), .int .i64 (.lit (0)), .int .i64 (.lit (1))]) := by
  refine pure_of_exec (ct := ⟨[c31], []⟩) [] Try.func33 rfl rfl rfl ?_
  refine cast_goal (p := True) (by kernel_rfl) ?_
  trivial
theorem p33_16 : Pure1 Try.prog 33 [.int .i64 (.lit 16)] (.tup [.int .i64 (.lit (-32768)), .int .i64 (.lit (32767)), .int .i64 (.lit (0))]) := by
  refine pure_of_exec (ct := ⟨[c31], []⟩) [] Try.func33 rfl rfl rfl ?_
  refine cast_goal (p := True) (by kernel_rfl) ?_
  trivial
theorem p33_17 : Pure1 Try.prog 33 [.int .i64 (.lit 17)] (.tup [.int .i64 (.lit (-32768)), .int .i64 (.lit (32767)), .int .i64 (.lit (0))]) := by
  refine pure_of_exec (ct := ⟨[c31], []⟩) [] Try.func33 rfl rfl rfl ?_
  refine cast_goal (p := True) (by kernel_rfl) ?_
  trivial
theorem p33_18 : Pure1 Try.prog 33 [.int .i64 (.lit 18)] (.tup [.int .i64 (.lit (-32768)), .int .i64 (.lit (32767)), .int .i64 (.lit (0))]) := by
  refine pure_of_exec (ct := ⟨[c31], []⟩) [] Try.func33 rfl rfl rfl ?_
  refine cast_goal (p := True) (by kernel_rfl) ?_
  trivial
theorem p33_19 : Pure1 Try.prog 33 [.int .i64 (.lit 19)] (.tup [.int .i64 (.lit (-32768)), .int .i64 (.lit (32767)), .int .i64 (.lit (0))]) := by
  refine pure_of_exec (ct := ⟨[c31], []⟩) [] Try.func33 rfl rfl rfl ?_
  refine cast_goal (p := True) (by kernel_rfl) ?_
  trivial
theorem p33_20 : Pure1 Try.prog 33 [.int .i64 (.lit 20)] (.tup [.int .i64 (.lit (-32768)), .int .i64 (.lit (32767)), .int .i64 (.lit (0))]) := by
  refine pure_of_exec (ct := ⟨[c31], []⟩) [] Try.func33 rfl rfl rfl ?_
  refine cast_goal (p := True) (by kernel_rfl) ?_
  trivial
theorem p33_21 : Pure1 Try.prog 33 [.int .i64 (.lit 21)] (.tup [.int .i64 (.lit (0)), .int .i64 (.lit (4095)), .int .i64 (.lit (0))]) := by
  refine pure_of_exec (ct := ⟨[c31], []⟩) [] Try.func33 rfl rfl rfl ?_
  refine cast_goal (p := True) (by kernel_rfl) ?_
  trivial
theorem p33_22 : Pure1 Try.prog 33 [.int .i64 (.lit 22)] (.tup [.int .i64 (.lit (0)), .int .i64 (.lit (4095)), .int .i64 (.lit (0))]) := by
  refine pure_of_exec (ct := ⟨[c31], []⟩) [] Try.func33 rfl rfl rfl ?_
  refine cast_goal (p := True) (by kernel_rfl) ?_
  trivial
theorem p33_23 : Pure1 Try.prog 33 [.int .i64 (.lit 23)] (.tup [.int .i64 (.lit (0)), .int .i64 (.lit (4095)), .int .i64 (.lit (0))]) := by
  refine pure_of_exec (ct := ⟨[c31], []⟩) [] Try.func33 rfl rfl rfl ?_
  refine cast_goal (p := True) (by kernel_rfl) ?_
  trivial
theorem p33_24 : Pure1 Try.prog 33 [.int .i64 (.lit 24)] (.tup [.int .i64 (.lit (0)), .int .i64 (.lit (4095)), .int .i64 (.lit (0))]) := by
  refine pure_of_exec (ct := ⟨[c31], []⟩) [] Try.func33 rfl rfl rfl ?_
  refine cast_goal (p := True) (by kernel_rfl) ?_
  trivial
theorem p33_25 : Pure1 Try.prog 33 [.int .i64 (.lit 25)] (.tup [.int .i64 (.lit (0)), .int .i64 (.lit (0)), .int .i64 (.lit (1))]) := by
  refine pure_of_exec (ct := ⟨[c31], []⟩) [] Try.func33 rfl rfl rfl ?_
  refine cast_goal (p := True) (by kernel_rfl) ?_
  trivial
theorem p33_26 : Pure1 Try.prog 33 [.int .i64 (.lit 26)] (.tup [.int .i64 (.lit (0)), .int .i64 (.lit (255)), .int .i64 (.lit (0))]) := by
  refine pure_of_exec (ct := ⟨[c31], []⟩) [] Try.func33 rfl rfl rfl ?_
  refine cast_goal (p := True) (by kernel_rfl) ?_
  trivial
theorem p33_out (op : Int) (h : inO op = false) : Pure1 Try.prog 33 [.int .i64 (.sym op)] (.tup [.int .i64 (.lit (0)), .int .i64 (.lit (0)), .int .i64 (.lit (11))]) := by
  refine pure_of_exec (ct := ⟨[c31], []⟩) [] Try.func33 rfl rfl rfl ?_
  refine cast_goal (p := ((Go.Proofs.Ytnoccknoaihjlaa.errO op != (0 : Int)) = Bool.true → Go.Proofs.Ytnoccknoaihjlaa.errO op = (11 : Int)) ∧ ((Go.Proofs.Ytnoccknoaihjlaa.errO op != (0 : Int)) = Bool.false → (Decidable.decide (Go.Proofs.Ytnoccknoaihjlaa.formI op < (4 : Int)) = Bool.true → False) ∧ (Decidable.decide (Go.Proofs.Ytnoccknoaihjlaa.formI op < (4 : Int)) = Bool.false → ((op == (3 : Int)) = Bool.true → False) ∧ ((op == (3 : Int)) = Bool.false → ((op == (26 : Int)) = Bool.true → False) ∧ ((op == (26 : Int)) = Bool.false → (Decidable.decide ((20 : Int) < op) = Bool.true → False) ∧ (Decidable.decide ((20 : Int) < op) = Bool.false → False)))))) (by kernel_rfl) ?_
  have h0 := h
  simp [inO] at h0
  simp [inO, errO, limE, formI, lowI, highI, wordI, hN, h] at *; try omega
theorem p33 (op : Int) : Pure1 Try.prog 33 [.int .i64 (.sym op)] (.tup [.int .i64 (.sym (lowI op)), .int .i64 (.sym (highI op)), .int .i64 (.sym (limE op))]) := by
  cases h : inO op
  · exact (p33_out op h).congr (by simp [deqL, deq]) (by simp [deq, deqL, wordI, formI, lowI, highI, errO, limE, h])
  · rcases in27 op h with rfl | rfl | rfl | rfl | rfl | rfl | rfl | rfl | rfl | rfl | rfl | rfl | rfl | rfl | rfl | rfl | rfl | rfl | rfl | rfl | rfl | rfl | rfl | rfl | rfl | rfl | rfl
    · exact p33_0.congr (by simp [deqL, deq]) (by simp [deq, deqL]; decide)
    · exact p33_1.congr (by simp [deqL, deq]) (by simp [deq, deqL]; decide)
    · exact p33_2.congr (by simp [deqL, deq]) (by simp [deq, deqL]; decide)
    · exact p33_3.congr (by simp [deqL, deq]) (by simp [deq, deqL]; decide)
    · exact p33_4.congr (by simp [deqL, deq]) (by simp [deq, deqL]; decide)
    · exact p33_5.congr (by simp [deqL, deq]) (by simp [deq, deqL]; decide)
    · exact p33_6.congr (by simp [deqL, deq]) (by simp [deq, deqL]; decide)
    · exact p33_7.congr (by simp [deqL, deq]) (by simp [deq, deqL]; decide)
    · exact p33_8.congr (by simp [deqL, deq]) (by simp [deq, deqL]; decide)
    · exact p33_9.congr (by simp [deqL, deq]) (by simp [deq, deqL]; decide)
    · exact p33_10.congr (by simp [deqL, deq]) (by simp [deq, deqL]; decide)
    · exact p33_11.congr (by simp [deqL, deq]) (by simp [deq, deqL]; decide)
    · exact p33_12.congr (by simp [deqL, deq]) (by simp [deq, deqL]; decide)
    · exact p33_13.congr (by simp [deqL, deq]) (by simp [deq, deqL]; decide)
    · exact p33_14.congr (by simp [deqL, deq]) (by simp [deq, deqL]; decide)
    · exact p33_15.congr (by simp [deqL, deq]) (by simp [deq, deqL]; decide)
    · exact p33_16.congr (by simp [deqL, deq]) (by simp [deq, deqL]; decide)
    · exact p33_17.congr (by simp [deqL, deq]) (by simp [deq, deqL]; decide)
    · exact p33_18.congr (by simp [deqL, deq]) (by simp [deq, deqL]; decide)
    · exact p33_19.congr (by simp [deqL, deq]) (by simp [deq, deqL]; decide)
    · exact p33_20.congr (by simp [deqL, deq]) (by simp [deq, deqL]; decide)
    · exact p33_21.congr (by simp [deqL, deq]) (by simp [deq, deqL]; decide)
    · exact p33_22.congr (by simp [deqL, deq]) (by simp [deq, deqL]; decide)
    · exact p33_23.congr (by simp [deqL, deq]) (by simp [deq, deqL]; decide)
    · exact p33_24.congr (by simp [deqL, deq]) (by simp [deq, deqL]; decide)
    · exact p33_25.congr (by simp [deqL, deq]) (by simp [deq, deqL]; decide)
    · exact p33_26.congr (by simp [deqL, deq]) (by simp [deq, deqL]; decide)
def c33 : PureC Try.prog where
  f := 33
  spec := fun args => match args with
    | [.int .i64 op] => some (none, .tup [.int .i64 (as1 op (lowI op.v)), .int .i64 (as1 op (highI op.v)), .int .i64 (as1 op (limE op.v))])
    | _ => none
  body := hasBody_of Try.func33 (by kernel_rfl) (by kernel_rfl)
  ok := by
    intro args p d h hp
    split at h
    · rename_i op; cases h; exact (p33 op.v).congr (by simp [deqL, deq]) (by simp [deq, deqL])
    · cases h

theorem p36_0 : Pure1 Try.prog 36 [.int .i64 (.lit 0)] (.str (DS.lit ⟨#[104, 97, 108, 116]⟩)) := by
  refine pure_of_exec (ct := ⟨[c46], []⟩) [] Try.func36 rfl rfl rfl ?_
  refine cast_goal (p := True) (by kernel_rfl) ?_
  trivial
theorem p36_1 : Pure1 Try.prog 36 [.int .i64 (.lit 1)] (.str (DS.lit ⟨#[109, 111, 118, 101]⟩)) := by
  refine pure_of_exec (ct := ⟨[c46], []⟩) [] Try.func36 rfl rfl rfl ?_
  refine cast_goal (p := True) (by kernel_rfl) ?_
  trivial
theorem p36_2 : Pure1 Try.prog 36 [.int .i64 (.lit 2)] (.str (DS.lit ⟨#[115, 101, 116]⟩)) := by
  refine pure_of_exec (ct := ⟨[c46], []⟩) [] Try.func36 rfl rfl rfl ?_
  refine cast_goal (p := True) (by kernel_rfl) ?_
  trivial
theorem p36_3 : Pure1 Try.prog 36 [.int .i64 (.lit 3)] (.str (DS.lit ⟨#[104, 105, 103, 104]⟩)) := by
  refine pure_of_exec (ct := ⟨[c46], []⟩) [] Try.func36 rfl rfl rfl ?_
  refine cast_goal (p := True) (by kernel_rfl) ?_
  trivial
theorem p36_4 : Pure1 Try.prog 36 [.int .i64 (.lit 4)] (.str (DS.lit ⟨#[97, 100, 100]⟩)) := by
  refine pure_of_exec (ct := ⟨[c46], []⟩) [] Try.func36 rfl rfl rfl ?_
  refine cast_goal (p := True) (by kernel_rfl) ?_
  trivial
theorem p36_5 : Pure1 Try.prog 36 [.int .i64 (.lit 5)] (.str (DS.lit ⟨#[115, 117, 98]⟩)) := by
  refine pure_of_exec (ct := ⟨[c46], []⟩) [] Try.func36 rfl rfl rfl ?_
  refine cast_goal (p := True) (by kernel_rfl) ?_
  trivial
theorem p36_6 : Pure1 Try.prog 36 [.int .i64 (.lit 6)] (.str (DS.lit ⟨#[109, 117, 108]⟩)) := by
  refine pure_of_exec (ct := ⟨[c46], []⟩) [] Try.func36 rfl rfl rfl ?_
  refine cast_goal (p := True) (by kernel_rfl) ?_
  trivial
theorem p36_7 : Pure1 Try.prog 36 [.int .i64 (.lit 7)] (.str (DS.lit ⟨#[100, 105, 118]⟩)) := by
  refine pure_of_exec (ct := ⟨[c46], []⟩) [] Try.func36 rfl rfl rfl ?_
  refine cast_goal (p := True) (by kernel_rfl) ?_
  trivial
theorem p36_8 : Pure1 Try.prog 36 [.int .i64 (.lit 8)] (.str (DS.lit ⟨#[109, 111, 100]⟩)) := by
  refine pure_of_exec (ct := ⟨[c46], []⟩) [] Try.func36 rfl rfl rfl ?_
  refine cast_goal (p := True) (by kernel_rfl) ?_
  trivial
theorem p36_9 : Pure1 Try.prog 36 [.int .i64 (.lit 9)] (.str (DS.lit ⟨#[97, 110, 100]⟩)) := by
  refine pure_of_exec (ct := ⟨[c46], []⟩) [] Try.func36 rfl rfl rfl ?_
  refine cast_goal (p := True) (by kernel_rfl) ?_
  trivial
theorem p36_10 : Pure1 Try.prog 36 [.int .i64 (.lit 10)] (.str (DS.lit ⟨#[111, 114]⟩)) := by
  refine pure_of_exec (ct := ⟨[c46], []⟩) [] Try.func36 rfl rfl rfl ?_
  refine cast_goal (p := True) (by kernel_rfl) ?_
  trivial
theorem p36_11 : Pure1 Try.prog 36 [.int .i64 (.lit 11)] (.str (DS.lit ⟨#[120, 111, 114]⟩)) := by
  refine pure_of_exec (ct := ⟨[c46], []⟩) [] Try.func36 rfl rfl rfl ?_
  refine cast_goal (p := True) (by kernel_rfl) ?_
  trivial
theorem p36_12 : Pure1 Try.prog 36 [.int .i64 (.lit 12)] (.str (DS.lit ⟨#[115, 104, 108]⟩)) := by
  refine pure_of_exec (ct := ⟨[c46], []⟩) [] Try.func36 rfl rfl rfl ?_
  refine cast_goal (p := True) (by kernel_rfl) ?_
  trivial
theorem p36_13 : Pure1 Try.prog 36 [.int .i64 (.lit 13)] (.str (DS.lit ⟨#[115, 104, 114]⟩)) := by
  refine pure_of_exec (ct := ⟨[c46], []⟩) [] Try.func36 rfl rfl rfl ?_
  refine cast_goal (p := True) (by kernel_rfl) ?_
  trivial
theorem p36_14 : Pure1 Try.prog 36 [.int .i64 (.lit 14)] (.str (DS.lit ⟨#[108, 101, 115, 115]⟩)) := by
  refine pure_of_exec (ct := ⟨[c46], []⟩) [] Try.func36 rfl rfl rfl ?_
  refine cast_goal (p := True) (by kernel_rfl) ?_
  trivial
theorem p36_15 : Pure1 Try.prog 36 [.int .i64 (.lit 15)] (.str (DS.lit ⟨#[101, 113, 117, 97, 108]⟩)) := by
  refine pure_of_exec (ct := ⟨[c46], []⟩) [] Try.func36 rfl rfl rfl ?_
  refine cast_goal (p := True) (by kernel_rfl) ?_
  trivial
theorem p36_16 : Pure1 Try.prog 36 [.int .i64 (.lit 16)] (.str (DS.lit ⟨#[97, 100, 100, 105]⟩)) := by
  refine pure_of_exec (ct := ⟨[c46], []⟩) [] Try.func36 rfl rfl rfl ?_
  refine cast_goal (p := True) (by kernel_rfl) ?_
  trivial
theorem p36_17 : Pure1 Try.prog 36 [.int .i64 (.lit 17)] (.str (DS.lit ⟨#[108, 111, 97, 100]⟩)) := by
  refine pure_of_exec (ct := ⟨[c46], []⟩) [] Try.func36 rfl rfl rfl ?_
  refine cast_goal (p := True) (by kernel_rfl) ?_
  trivial
theorem p36_18 : Pure1 Try.prog 36 [.int .i64 (.lit 18)] (.str (DS.lit ⟨#[115, 116, 111, 114, 101]⟩)) := by
  refine pure_of_exec (ct := ⟨[c46], []⟩) [] Try.func36 rfl rfl rfl ?_
  refine cast_goal (p := True) (by kernel_rfl) ?_
  trivial
theorem p36_19 : Pure1 Try.prog 36 [.int .i64 (.lit 19)] (.str (DS.lit ⟨#[108, 111, 97, 100, 98]⟩)) := by
  refine pure_of_exec (ct := ⟨[c46], []⟩) [] Try.func36 rfl rfl rfl ?_
  refine cast_goal (p := True) (by kernel_rfl) ?_
  trivial
theorem p36_20 : Pure1 Try.prog 36 [.int .i64 (.lit 20)] (.str (DS.lit ⟨#[115, 116, 111, 114, 101, 98]⟩)) := by
  refine pure_of_exec (ct := ⟨[c46], []⟩) [] Try.func36 rfl rfl rfl ?_
  refine cast_goal (p := True) (by kernel_rfl) ?_
  trivial
theorem p36_21 : Pure1 Try.prog 36 [.int .i64 (.lit 21)] (.str (DS.lit ⟨#[106, 117, 109, 112]⟩)) := by
  refine pure_of_exec (ct := ⟨[c46], []⟩) [] Try.func36 rfl rfl rfl ?_
  refine cast_goal (p := True) (by kernel_rfl) ?_
  trivial
theorem p36_22 : Pure1 Try.prog 36 [.int .i64 (.lit 22)] (.str (DS.lit ⟨#[106, 117, 109, 112, 122]⟩)) := by
  refine pure_of_exec (ct := ⟨[c46], []⟩) [] Try.func36 rfl rfl rfl ?_
  refine cast_goal (p := True) (by kernel_rfl) ?_
  trivial
theorem p36_23 : Pure1 Try.prog 36 [.int .i64 (.lit 23)] (.str (DS.lit ⟨#[106, 117, 109, 112, 110, 122]⟩)) := by
  refine pure_of_exec (ct := ⟨[c46], []⟩) [] Try.func36 rfl rfl rfl ?_
  refine cast_goal (p := True) (by kernel_rfl) ?_
  trivial
theorem p36_24 : Pure1 Try.prog 36 [.int .i64 (.lit 24)] (.str (DS.lit ⟨#[99, 97, 108, 108]⟩)) := by
  refine pure_of_exec (ct := ⟨[c46], []⟩) [] Try.func36 rfl rfl rfl ?_
  refine cast_goal (p := True) (by kernel_rfl) ?_
  trivial
theorem p36_25 : Pure1 Try.prog 36 [.int .i64 (.lit 25)] (.str (DS.lit ⟨#[98, 97, 99, 107]⟩)) := by
  refine pure_of_exec (ct := ⟨[c46], []⟩) [] Try.func36 rfl rfl rfl ?_
  refine cast_goal (p := True) (by kernel_rfl) ?_
  trivial
theorem p36_26 : Pure1 Try.prog 36 [.int .i64 (.lit 26)] (.str (DS.lit ⟨#[116, 114, 97, 112]⟩)) := by
  refine pure_of_exec (ct := ⟨[c46], []⟩) [] Try.func36 rfl rfl rfl ?_
  refine cast_goal (p := True) (by kernel_rfl) ?_
  trivial
theorem p36_out (op : Int) (h : inO op = false) : Pure1 Try.prog 36 [.int .i64 (.sym op)] (.str (.lit ⟨#[]⟩)) := by
  refine pure_of_exec (ct := ⟨[c46], []⟩) [] Try.func36 rfl rfl rfl ?_
  refine cast_goal (p := Go.Proofs.Ytnoccknoaihjlaa.wordI op = Go.DE.DS.v (Go.DE.DS.lit (ByteArray.mk #[]))) (by kernel_rfl) ?_
  have h0 := h
  simp [inO] at h0
  simp [inO, errO, limE, formI, lowI, highI, wordI, hN, h] at *; try omega
theorem p36 (op : Int) : Pure1 Try.prog 36 [.int .i64 (.sym op)] (.str (.sym (wordI op))) := by
  cases h : inO op
  · exact (p36_out op h).congr (by simp [deqL, deq]) (by simp [deq, deqL, wordI, formI, lowI, highI, errO, limE, h])
  · rcases in27 op h with rfl | rfl | rfl | rfl | rfl | rfl | rfl | rfl | rfl | rfl | rfl | rfl | rfl | rfl | rfl | rfl | rfl | rfl | rfl | rfl | rfl | rfl | rfl | rfl | rfl | rfl | rfl
    · exact p36_0.congr (by simp [deqL, deq]) (by simp [deq, deqL]; decide)
    · exact p36_1.congr (by simp [deqL, deq]) (by simp [deq, deqL]; decide)
    · exact p36_2.congr (by simp [deqL, deq]) (by simp [deq, deqL]; decide)
    · exact p36_3.congr (by simp [deqL, deq]) (by simp [deq, deqL]; decide)
    · exact p36_4.congr (by simp [deqL, deq]) (by simp [deq, deqL]; decide)
    · exact p36_5.congr (by simp [deqL, deq]) (by simp [deq, deqL]; decide)
    · exact p36_6.congr (by simp [deqL, deq]) (by simp [deq, deqL]; decide)
    · exact p36_7.congr (by simp [deqL, deq]) (by simp [deq, deqL]; decide)
    · exact p36_8.congr (by simp [deqL, deq]) (by simp [deq, deqL]; decide)
    · exact p36_9.congr (by simp [deqL, deq]) (by simp [deq, deqL]; decide)
    · exact p36_10.congr (by simp [deqL, deq]) (by simp [deq, deqL]; decide)
    · exact p36_11.congr (by simp [deqL, deq]) (by simp [deq, deqL]; decide)
    · exact p36_12.congr (by simp [deqL, deq]) (by simp [deq, deqL]; decide)
    · exact p36_13.congr (by simp [deqL, deq]) (by simp [deq, deqL]; decide)
    · exact p36_14.congr (by simp [deqL, deq]) (by simp [deq, deqL]; decide)
    · exact p36_15.congr (by simp [deqL, deq]) (by simp [deq, deqL]; decide)
    · exact p36_16.congr (by simp [deqL, deq]) (by simp [deq, deqL]; decide)
    · exact p36_17.congr (by simp [deqL, deq]) (by simp [deq, deqL]; decide)
    · exact p36_18.congr (by simp [deqL, deq]) (by simp [deq, deqL]; decide)
    · exact p36_19.congr (by simp [deqL, deq]) (by simp [deq, deqL]; decide)
    · exact p36_20.congr (by simp [deqL, deq]) (by simp [deq, deqL]; decide)
    · exact p36_21.congr (by simp [deqL, deq]) (by simp [deq, deqL]; decide)
    · exact p36_22.congr (by simp [deqL, deq]) (by simp [deq, deqL]; decide)
    · exact p36_23.congr (by simp [deqL, deq]) (by simp [deq, deqL]; decide)
    · exact p36_24.congr (by simp [deqL, deq]) (by simp [deq, deqL]; decide)
    · exact p36_25.congr (by simp [deqL, deq]) (by simp [deq, deqL]; decide)
    · exact p36_26.congr (by simp [deqL, deq]) (by simp [deq, deqL]; decide)
def c36 : PureC Try.prog where
  f := 36
  spec := fun args => match args with
    | [.int .i64 op] => some (none, .str (as1S op (wordI op.v)))
    | _ => none
  body := hasBody_of Try.func36 (by kernel_rfl) (by kernel_rfl)
  ok := by
    intro args p d h hp
    split at h
    · rename_i op; cases h; exact (p36 op.v).congr (by simp [deqL, deq]) (by simp [deq, deqL])
    · cases h

end Go.Proofs.Ytnoccknoaihjlaa
