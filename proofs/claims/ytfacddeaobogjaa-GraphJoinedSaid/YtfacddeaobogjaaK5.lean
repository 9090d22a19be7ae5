import Derived.Test.YtfacddeaobogjaaK4
set_option linter.unusedVariables false
set_option linter.unusedSimpArgs false
set_option linter.unnecessarySimpa false
set_option linter.unusedVariables false
set_option linter.unusedSimpArgs false
set_option linter.unnecessarySimpa false
/- What comes in, whatever its type's code. -/
namespace Go.DF
open Go.ChangeShapes Go.WideShapes Go.ChangeAt Go.RowKit Go.Deep
variable {H : Type} {P : Program} {enc : TypeId × Value → H} [Fam]
theorem open_dat {W w : World} {r : Reach} {base : Nat} {held agg : Bool} {t : TypeId} {c : CT} {v : Value} {d : DataW H} {p : List MemPlace} (ha : isAggT P t = agg) (hl : lay P 20 t c = true) (hv : Value.okWide P W r base t v)
    (h : DataW.Trod enc P w 0 (fun _ => true) held t v d p) : ∃ a : c.D, c.wf a ∧ Rep (gIn w) w (toV agg c a) v := by
  obtain ⟨fuel, h⟩ := h
  obtain ⟨a, h1, h2⟩ := trod_rp 20 t c hl fuel _ _ h
  refine ⟨a, h1, Rp.toV (g := gIn w) ?_⟩
  cases agg with
  | true =>
    have hv' : ∃ cs, v = .agg cs := by
      unfold isAggT at ha
      unfold Value.okWide at hv
      split at ha <;> rename_i hu
      · simp only [underD] at hu; simp only [hu] at hv; obtain ⟨cs, e, _⟩ := hv; exact ⟨cs, e⟩
      · simp only [underD] at hu; simp only [hu] at hv; obtain ⟨cs, e, _⟩ := hv; exact ⟨cs, e⟩
      · cases ha
    obtain ⟨cs, rfl⟩ := hv'
    exact ⟨cs.toList, by simp, h2⟩
  | false =>
    have hv' : v.cells.toList = [v] := by
      unfold isAggT at ha
      have hc : Cell.okWide P W r base t v := by
        unfold Value.okWide at hv
        split at ha
        · cases ha
        · cases ha
        · rename_i x h1 h2
          simp only [underD] at h1 h2
          split at hv
          · rename_i hu; exact absurd hu (h1 _)
          · rename_i hu; exact absurd hu (h2 _ _)
          · exact hv
      cases v with
      | agg cs =>
        unfold lay at hl
        unfold Cell.okWide at hc
        split at hc
        all_goals first
          | (rename_i h1 h2; cases h2)
          | skip
        unfold Cell.ok at hc
        split at hc <;> first | exact hc.elim | (rename_i h1 h2; cases h2)
      | _ => rfl
    show Rp w (gIn w).pr c a [v]
    rw [← hv']; exact h2
end Go.DF
