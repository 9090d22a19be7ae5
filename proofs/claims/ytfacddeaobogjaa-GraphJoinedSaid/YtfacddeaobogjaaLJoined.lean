import Derived.Test.YtfacddeaobogjaaRows
import Derived.WalkKit
import Derived.ProofKit
import Derived.OpenShut
import Derived.Test.YtfacddeaobogjaaK5
import Derived.Test.YtfacddeaobogjaaG20
set_option linter.unusedVariables false
set_option linter.unusedSimpArgs false
set_option linter.unnecessarySimpa false
/- 'replevin law GraphJoined' returns true, whatever its arguments are; what was there before the call is as it was. -/
set_option linter.unusedVariables false
set_option linter.unusedSimpArgs false
set_option linter.unnecessarySimpa false
namespace Go.Proofs.Ytfacddeaobogjaa.graphJoined
open Go.DF Go.ChangeShapes Go.WideShapes Go.ChangeAt Go.RowKit
open N
set_option linter.unusedVariables false

theorem own : ownKnob Try.prog.godebug = none := by kernel_rfl

theorem walk (a0 : Int) (a1 : Es) (a2 : Int × Int) (w0 : CT.wf (.int .u8) a0) (w1 : CT.wf (.sl eC) a1) (w2 : CT.wf (.pair (.int .u8) (.int .u8)) a2) (v0 v1 v2 : Value) (w : World) (hr0 : Rep (gIn w) w (toV false (.int .u8) a0) v0) (hr1 : Rep (gIn w) w (toV false (.sl eC) a1) v1) (hr2 : Rep (gIn w) w (toV true (.pair (.int .u8) (.int .u8)) a2) v2) :
    Calls Try.prog 7 #[v0, v1, v2] w fun e w' => e = .returned (.bool true) ∧ Silent w w' := by
  have w0' : (Lit.int .u8 a0).wf = true := w0
  exact calls_true (p7 a0 a1 a2.1 a2.2 (lit_u8 w0') (lit_u8 w2.1) (lit_u8 w2.2)) w [v0, v1, v2] (by simp only [RepL]; exact ⟨v0, [v1, v2], rfl, hr0, ⟨v1, [v2], rfl, hr1, ⟨v2, [], rfl, hr2, rfl⟩⟩⟩)

set_option maxRecDepth 100000 in
theorem lifted (os : Os) (started : os.Started) (H : Type) (enc : TypeId × Value → H) :
    ReturnsInHanded {} Try.checked os 7 .any (Rows.graphJoinedSpec.pre6 enc Try.prog Try.f7 Rows.graphJoinedRow.domain false) (Rows.graphJoinedSpec.post enc Try.prog Try.f7 false true false false) := by
  refine returnsInHanded_of_change (C := Try.checked) own started (by kernel_rfl) Try.func7
    (ChangeSpec.witness6 (enc := enc) (C := Try.checked) false ⟨#[], #[.int .u8 0, .slice none 0 0, .agg #[.int .u8 0, .int .u8 0]], []⟩ 8 (by kernel_rfl) (by kernel_rfl) (by kernel_rfl) (by kernel_rfl)) ?_
  intro W base args ds gs before hval0 hW hcnd _
  have hval : ∀ (j : Nat) t v, Try.f7.params[j]? = some t → args[j]? = some v → Value.okWide Try.prog W .any base t v := hval0
  have hW' := hW
  obtain ⟨p, q, hA0, hV, rfl, hfz, hnd⟩ := hW
  have hA : DataW.TrodAll enc Try.prog W 0 (fun _ => true) true Try.f7.params.toList args.toList ds p := hA0
  rw [Try.params7] at hA hval
  obtain ⟨v0, vs0, d0, ds0, p0, q0, hargs, rfl, rfl, h0, r0⟩ := trodAll_cons hA
  obtain ⟨v1, vs1, d1, ds1, p1, q1, rfl, rfl, rfl, h1, r1⟩ := trodAll_cons r0
  obtain ⟨v2, vs2, d2, ds2, p2, q2, rfl, rfl, rfl, h2, r2⟩ := trodAll_cons r1
  obtain ⟨rfl, rfl, rfl⟩ := trodAll_nil r2
  obtain rfl : args = #[v0, v1, v2] := by cases args; simp_all
  obtain ⟨rfl, rfl⟩ := trodVars_none hV
  obtain ⟨a0, w0, hr0⟩ := open_dat (agg := false) (c := (.int .u8)) (by kernel_rfl) (by kernel_rfl) (hval 0 5 v0 rfl rfl) h0
  obtain ⟨a1, w1, hr1⟩ := open_dat (agg := false) (c := (.sl eC)) (by kernel_rfl) (by kernel_rfl) (hval 1 22 v1 rfl rfl) h1
  obtain ⟨a2, w2, hr2⟩ := open_dat (agg := true) (c := (.pair (.int .u8) (.int .u8))) (by kernel_rfl) (by kernel_rfl) (hval 2 59 v2 rfl rfl) h2
  clear hA0 hval0
  refine (walk a0 a1 a2 w0 w1 w2 _ _ _ W hr0 hr1 hr2).mono fun e W' ⟨he, hg⟩ => ?_
  subst he
  exact ⟨_, rfl, law_post (tb := 4) (by kernel_rfl) (by kernel_rfl) rfl rfl Try.underlying4 hW' rfl hg⟩

theorem over : Rows.graphJoinedRow.holds Try.pinned (OpenSpec.ofChange Rows.graphJoinedSpec) :=
  OpenClaim.holds_of_wide 7 Try.f7 rfl rfl rfl rfl rfl rfl rfl ⟨rfl, rfl, rfl, rfl, rfl⟩ rfl rfl rfl rfl rfl (by kernel_rfl) Try.func7 (by kernel_rfl)
    (of_decide_eq_true (by kernel_rfl)) (by unfold Func.isWrapper; first | (rw [if_pos (by decide +kernel)]; kernel_rfl) | (rw [if_neg (by decide +kernel)]; exact ⟨rfl, rfl⟩))
    (fun os started H enc _ => lifted os started H enc)

/-- THE STATEMENT -/
theorem proved : Rows.GraphJoinedSaid :=
  over
#print axioms proved
end Go.Proofs.Ytfacddeaobogjaa.graphJoined
