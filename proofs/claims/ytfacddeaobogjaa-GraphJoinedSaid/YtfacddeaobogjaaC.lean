import Derived.Test.YtfacddeaobogjaaF12
set_option linter.unusedVariables false
set_option linter.unusedSimpArgs false
set_option linter.unnecessarySimpa false
set_option linter.unusedVariables false
set_option linter.unusedSimpArgs false
/- What comes in as a slice's datum: nil, or not nil. -/
namespace Go.DF
open Go
variable [Fam]
theorem nil_split {P : Program} {f : FuncId} {c : CT} {l : List c.D} {n : Nat} {K : DV → St → Prop} (h0 : l = [] → DCall P f [.nilslice] [] n K) (h1 : DCall P f [.nn c l] [] n K) : DCall P f [.per (.sl c) l] [] n K := by
  intro g w vs hR hfr ha
  simp only [RepL] at ha
  obtain ⟨v, us, rfl, rv, rfl⟩ := ha
  simp only [Rep] at rv
  have rv0 := rv
  obtain ⟨v', hv', rv⟩ := rv
  simp only [List.cons.injEq, and_true] at hv'
  subst hv'
  have nn : (∃ a m cap, v = .slice (some a) m cap) → DRun (Calls P f [v].toArray w) g w [] n K := fun h =>
    h1 g w [v] hR hfr (RepL.cons (by simp only [Rep]; exact ⟨h, rv0⟩) RepL.nil)
  rcases rv with ⟨q, rfl, hl⟩ | ⟨b, o, cap, cs, t, fr, rfl, _⟩
  · cases q with
    | none => exact h0 hl g w [.slice none 0 0] hR hfr (RepL.cons (by simp only [Rep]) RepL.nil)
    | some a => exact nn ⟨a, 0, 0, rfl⟩
  · exact nn ⟨_, _, _, rfl⟩
end Go.DF
