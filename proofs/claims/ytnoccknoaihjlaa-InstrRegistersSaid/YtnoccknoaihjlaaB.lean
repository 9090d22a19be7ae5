import Derived.Test.YtnoccknoaihjlaaI5
import Derived.Test.YtnoccknoaihjlaaF12
set_option linter.unusedVariables false
set_option linter.unusedSimpArgs false
set_option linter.unnecessarySimpa false
set_option linter.unusedVariables false
set_option linter.unusedSimpArgs false
/- What the older engine has shown of functions of plain data, in the words of the newer. -/
namespace Go.DF

/-- No types of one's own. -/
@[reducible] def noFam : Fam where
  D := fun _ => Unit
  dflt := fun _ => ()
  ct := fun _ => .bool
  get := fun _ _ => none
  fold := fun _ _ => none
  rep := fun _ _ _ _ _ => False
  one := fun _ _ _ _ _ h => h.elim
  mono := fun _ _ _ _ _ _ _ _ _ h => h.elim
  opn := fun _ _ _ _ _ h => h.elim
  cls := fun _ _ _ _ _ _ h => by simp at h

section
variable [Fam]
mutual
def same : DE.DV → DV → Prop
  | .bool b, .bool b' => b.v = b'.v
  | .int k n, .int k' n' => k = k' ∧ n.v = n'.v
  | .str s, .str s' => s.v = s'.v
  | .agg l, .agg l' => sameL l l'
  | .tup l, .tup l' => sameL l l'
  | _, _ => False
def sameL : List DE.DV → List DV → Prop
  | [], [] => True
  | d :: l, d' :: l' => same d d' ∧ sameL l l'
  | _, _ => False
end
omit [Fam] in
theorem oneC_eq (v : Value) : DE.oneC v = oneC v := by cases v <;> rfl
mutual
theorem same_to {g : DE.G} {g' : G} {w w' : World} : ∀ (d : DE.DV) (d' : DV) (v : Value), same d d' → (DE.Rep g w d v ↔ Rep g' w' d' v)
  | .bool b, d', v, h => by
    cases d' <;> simp only [same] at h
    simp only [DE.Rep, Rep, h]
  | .int k n, d', v, h => by
    cases d' <;> simp only [same] at h
    simp only [DE.Rep, Rep, h.1, h.2]
  | .str s, d', v, h => by
    cases d' <;> simp only [same] at h
    simp only [DE.Rep, Rep, h]
  | .agg l, d', v, h => by
    cases d' <;> simp only [same] at h
    rename_i l'
    simp only [DE.Rep, Rep]
    constructor
    · rintro ⟨vs, rfl, r, o⟩; exact ⟨vs, rfl, (sameL_to l l' vs h).1 r, fun u hu => by rw [← oneC_eq]; exact o u hu⟩
    · rintro ⟨vs, rfl, r, o⟩; exact ⟨vs, rfl, (sameL_to l l' vs h).2 r, fun u hu => by rw [oneC_eq]; exact o u hu⟩
  | .tup l, d', v, h => by
    cases d' <;> simp only [same] at h
    rename_i l'
    simp only [DE.Rep, Rep]
    constructor
    · rintro ⟨vs, rfl, r⟩; exact ⟨vs, rfl, (sameL_to l l' vs h).1 r⟩
    · rintro ⟨vs, rfl, r⟩; exact ⟨vs, rfl, (sameL_to l l' vs h).2 r⟩
  | .ptr _, d', v, h => by cases d' <;> simp only [same] at h
  | .nilptr, d', v, h => by cases d' <;> simp only [same] at h
  | .slice _ _, d', v, h => by cases d' <;> simp only [same] at h
  | .nilslice, d', v, h => by cases d' <;> simp only [same] at h
  | .map _, d', v, h => by cases d' <;> simp only [same] at h
  | .nilmap, d', v, h => by cases d' <;> simp only [same] at h
  | .func _ _, d', v, h => by cases d' <;> simp only [same] at h
  | .nilfunc, d', v, h => by cases d' <;> simp only [same] at h
  | .nilif, d', v, h => by cases d' <;> simp only [same] at h
  | .imm _, d', v, h => by cases d' <;> simp only [same] at h
  | .any, d', v, h => by cases d' <;> simp only [same] at h
theorem sameL_to {g : DE.G} {g' : G} {w w' : World} : ∀ (l : List DE.DV) (l' : List DV) (vs : List Value), sameL l l' → (DE.RepL g w l vs ↔ RepL g' w' l' vs)
  | [], l', vs, h => by
    cases l' <;> simp only [sameL] at h
    simp only [DE.RepL, RepL]
  | d :: l, l', vs, h => by
    cases l' <;> simp only [sameL] at h
    rename_i d' l'
    simp only [DE.RepL, RepL]
    constructor
    · rintro ⟨v, us, rfl, r1, r2⟩; exact ⟨v, us, rfl, (same_to d d' v h.1).1 r1, (sameL_to l l' us h.2).1 r2⟩
    · rintro ⟨v, us, rfl, r1, r2⟩; exact ⟨v, us, rfl, (same_to d d' v h.1).2 r1, (sameL_to l l' us h.2).2 r2⟩
end
theorem bridge {P : Program} {f : FuncId} {args : List DE.DV} {d : DE.DV} {args' : List DV} {d' : DV} (h : DE.Pure1 P f args d) (ha : sameL args args') (hd : same d d') : Pure1 P f args' d' := by
  intro g w vs r hpr
  refine (h ⟨fun _ => none, fun _ => False, fun _ => 0⟩ w vs ((sameL_to _ _ _ ha).2 r) (fun b hb => hb.elim)).mono ?_
  rintro e w' ⟨v, rfl, hs, hr⟩
  exact ⟨v, g, rfl, ⟨hs.os, hs.tape, hs.output, hs.size, hs.kept⟩, GX.refl (fun b hb => Nat.lt_of_lt_of_le (hpr b hb) hs.size), (same_to _ _ _ hd).1 hr⟩
end
end Go.DF

set_option linter.unusedVariables false
set_option linter.unusedSimpArgs false
/- The instructions' functions of plain data, as contracts of the newer engine. -/
namespace Go.Proofs.Ytnoccknoaihjlaa.N
open Go.DF
set_option maxRecDepth 100000
instance famI : Fam := noFam

abbrev iC : CT := .pair (.int .i64) (.pair (.int .i64) (.pair (.int .i64) (.int .i64)))
abbrev bC : CT := .pair (.int .u8) (.pair (.int .u8) (.pair (.int .u8) (.int .u8)))
abbrev Ins := Int × Int × Int × Int
def insV (i : Ins) : DV := .agg [.int .i64 (.sym i.1), .int .i64 (.sym i.2.1), .int .i64 (.sym i.2.2.1), .int .i64 (.sym i.2.2.2)]
def c13 : PureC Try.prog where
  f := 13
  sig := []
  per := false
  spec := fun _ => .leaf (.bool (.lit true))
  body := hasBody_of Try.func13 (by kernel_rfl) (by kernel_rfl)
  ok := fun x d h => by obtain rfl : d = _ := h; exact bridge p13 (by simp [sameL, encAL]) (by simp [same, DE.DB.v, DB.v])
def c14 : PureC Try.prog where
  f := 14
  sig := [.dat true iC]
  per := false
  spec := fun x => .leaf (insV x.1)
  body := hasBody_of Try.func14 (by kernel_rfl) (by kernel_rfl)
  ok := fun x d h => by
    obtain rfl : d = _ := h
    exact bridge (p14 x.1.1 x.1.2.1 x.1.2.2.1 x.1.2.2.2) (by simp [sameL, same, encAL, AS.enc, toV, CT.enc, sI, DE.DI.v, DI.v]; exact ⟨rfl, rfl, rfl, rfl⟩) (by simp [same, sameL, insV, sI, DE.DI.v, DI.v]; exact ⟨rfl, rfl, rfl, rfl⟩)
def c26 : PureC Try.prog where
  f := 26
  sig := [.dat true iC]
  per := false
  spec := fun x => .leaf (insV x.1)
  body := hasBody_of Try.func26 (by kernel_rfl) (by kernel_rfl)
  ok := fun x d h => by
    obtain rfl : d = _ := h
    exact bridge (p26 x.1.1 x.1.2.1 x.1.2.2.1 x.1.2.2.2) (by simp [sameL, same, encAL, AS.enc, toV, CT.enc, sI, DE.DI.v, DI.v]; exact ⟨rfl, rfl, rfl, rfl⟩) (by simp [same, sameL, insV, sI, DE.DI.v, DI.v]; exact ⟨rfl, rfl, rfl, rfl⟩)
def decI (b : Ins) : Ins := (dV b.1 b.2.1 b.2.2.1 b.2.2.2 b.1, dV b.1 b.2.1 b.2.2.1 b.2.2.2 (b.2.1 / 16), dV b.1 b.2.1 b.2.2.1 b.2.2.2 (b.2.1 % 16), dV b.1 b.2.1 b.2.2.1 b.2.2.2 (cOf b.1 b.2.2.1 b.2.2.2))
def decE (b : Ins) : Int := dErr b.1 b.2.1 b.2.2.1 b.2.2.2
def W8s (b : Ins) : Prop := W8 b.1 ∧ W8 b.2.1 ∧ W8 b.2.2.1 ∧ W8 b.2.2.2
def c25 : PureC Try.prog where
  f := 25
  sig := [.dat true bC]
  per := false
  spec := fun x => .ob (W8s x.1) none (.leaf (.tup [insV (decI x.1), .int .i64 (.sym (decE x.1))]))
  body := hasBody_of Try.func25 (by kernel_rfl) (by kernel_rfl)
  ok := fun x d h => by
    obtain ⟨⟨h1, h2, h3, h4⟩, h⟩ := h
    obtain rfl : d = _ := h
    exact bridge (p25 x.1.1 x.1.2.1 x.1.2.2.1 x.1.2.2.2 h1 h2 h3 h4) (by simp [sameL, same, encAL, AS.enc, toV, CT.enc, s4, DE.DI.v, DI.v]; exact ⟨rfl, rfl, rfl, rfl⟩) (by simp [same, sameL, insV, decV, decI, decE, DE.DI.v, DI.v])
def c27 : PureC Try.prog where
  f := 27
  sig := [.dat true bC]
  per := false
  spec := fun x => .ob (W8s x.1) none (.leaf (.tup [insV (decI x.1), .int .i64 (.sym (decE x.1))]))
  body := hasBody_of Try.func27 (by kernel_rfl) (by kernel_rfl)
  ok := fun x d h => by
    obtain ⟨⟨h1, h2, h3, h4⟩, h⟩ := h
    obtain rfl : d = _ := h
    exact bridge (p27 x.1.1 x.1.2.1 x.1.2.2.1 x.1.2.2.2 h1 h2 h3 h4) (by simp [sameL, same, encAL, AS.enc, toV, CT.enc, s4, DE.DI.v, DI.v]; exact ⟨rfl, rfl, rfl, rfl⟩) (by simp [same, sameL, insV, decV, decI, decE, DE.DI.v, DI.v])
end Go.Proofs.Ytnoccknoaihjlaa.N
