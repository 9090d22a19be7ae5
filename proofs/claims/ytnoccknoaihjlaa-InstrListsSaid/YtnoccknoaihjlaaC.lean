import Derived.Test.YtnoccknoaihjlaaF11
import Derived.Test.YtnoccknoaihjlaaB
set_option linter.unusedVariables false
set_option linter.unusedSimpArgs false
set_option linter.unnecessarySimpa false
set_option linter.unusedVariables false
set_option linter.unusedSimpArgs false
/- The instructions' functions of plain data, as contracts of the newer engine. -/
namespace Go.Proofs.Ytnoccknoaihjlaa.N
open Go.DF
set_option maxRecDepth 100000
instance famI : Fam := noFam

abbrev iC : CT := .pair (.int .i64) (.pair (.int .i64) (.pair (.int .i64) (.int .i64)))
abbrev bC : CT := .pair (.int .u8) (.pair (.int .u8) (.pair (.int .u8) (.int .u8)))
abbrev Ins := Int × Int × Int × Int
def insV (i : Ins) : DV := .agg [.int .i64 (.sym i.1), .int .i64 (.sym i.2.1), .int .i64 (.sym i.2.2.1), .int .i64 (.sym i.2.2.2)]
def c13 : PureC Try.prog where
  f := 13
  sig := []
  per := false
  spec := fun _ => .leaf (.bool (.lit true))
  body := hasBody_of Try.func13 (by kernel_rfl) (by kernel_rfl)
  ok := fun x d h => by obtain rfl : d = _ := h; exact bridge p13 (by simp [sameL, encAL]) (by simp [same, DE.DB.v, DB.v])
def c14 : PureC Try.prog where
  f := 14
  sig := [.dat true iC]
  per := false
  spec := fun x => .leaf (insV x.1)
  body := hasBody_of Try.func14 (by kernel_rfl) (by kernel_rfl)
  ok := fun x d h => by
    obtain rfl : d = _ := h
    exact bridge (p14 x.1.1 x.1.2.1 x.1.2.2.1 x.1.2.2.2) (by simp [sameL, same, encAL, AS.enc, toV, CT.enc, sI, DE.DI.v, DI.v]; exact ⟨rfl, rfl, rfl, rfl⟩) (by simp [same, sameL, insV, sI, DE.DI.v, DI.v]; exact ⟨rfl, rfl, rfl, rfl⟩)
def c26 : PureC Try.prog where
  f := 26
  sig := [.dat true iC]
  per := false
  spec := fun x => .leaf (insV x.1)
  body := hasBody_of Try.func26 (by kernel_rfl) (by kernel_rfl)
  ok := fun x d h => by
    obtain rfl : d = _ := h
    exact bridge (p26 x.1.1 x.1.2.1 x.1.2.2.1 x.1.2.2.2) (by simp [sameL, same, encAL, AS.enc, toV, CT.enc, sI, DE.DI.v, DI.v]; exact ⟨rfl, rfl, rfl, rfl⟩) (by simp [same, sameL, insV, sI, DE.DI.v, DI.v]; exact ⟨rfl, rfl, rfl, rfl⟩)
def decI (b : Ins) : Ins := (dV b.1 b.2.1 b.2.2.1 b.2.2.2 b.1, dV b.1 b.2.1 b.2.2.1 b.2.2.2 (b.2.1 / 16), dV b.1 b.2.1 b.2.2.1 b.2.2.2 (b.2.1 % 16), dV b.1 b.2.1 b.2.2.1 b.2.2.2 (cOf b.1 b.2.2.1 b.2.2.2))
def decE (b : Ins) : Int := dErr b.1 b.2.1 b.2.2.1 b.2.2.2
def W8s (b : Ins) : Prop := W8 b.1 ∧ W8 b.2.1 ∧ W8 b.2.2.1 ∧ W8 b.2.2.2
def c25 : PureC Try.prog where
  f := 25
  sig := [.dat true bC]
  per := false
  spec := fun x => .ob (W8s x.1) (.leaf (.tup [insV (decI x.1), .int .i64 (.sym (decE x.1))]))
  body := hasBody_of Try.func25 (by kernel_rfl) (by kernel_rfl)
  ok := fun x d h => by
    obtain ⟨⟨h1, h2, h3, h4⟩, h⟩ := h
    obtain rfl : d = _ := h
    exact bridge (p25 x.1.1 x.1.2.1 x.1.2.2.1 x.1.2.2.2 h1 h2 h3 h4) (by simp [sameL, same, encAL, AS.enc, toV, CT.enc, s4, DE.DI.v, DI.v]; exact ⟨rfl, rfl, rfl, rfl⟩) (by simp [same, sameL, insV, decV, decI, decE, DE.DI.v, DI.v])
def c27 : PureC Try.prog where
  f := 27
  sig := [.dat true bC]
  per := false
  spec := fun x => .ob (W8s x.1) (.leaf (.tup [insV (decI x.1), .int .i64 (.sym (decE x.1))]))
  body := hasBody_of Try.func27 (by kernel_rfl) (by kernel_rfl)
  ok := fun x d h => by
    obtain ⟨⟨h1, h2, h3, h4⟩, h⟩ := h
    obtain rfl : d = _ := h
    exact bridge (p27 x.1.1 x.1.2.1 x.1.2.2.1 x.1.2.2.2 h1 h2 h3 h4) (by simp [sameL, same, encAL, AS.enc, toV, CT.enc, s4, DE.DI.v, DI.v]; exact ⟨rfl, rfl, rfl, rfl⟩) (by simp [same, sameL, insV, decV, decI, decE, DE.DI.v, DI.v])
end Go.Proofs.Ytnoccknoaihjlaa.N
