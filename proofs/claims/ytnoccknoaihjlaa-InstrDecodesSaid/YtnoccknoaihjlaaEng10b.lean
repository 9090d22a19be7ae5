import Derived.Test.YtnoccknoaihjlaaEng10
set_option linter.unusedVariables false
set_option linter.unusedSimpArgs false
set_option linter.unnecessarySimpa false
/- The engine, part 10b: a state taken for another one, at a loop's head. -/
namespace Go.DE
universe u v

theorem subS_ok {g0 : G} {w0 : World} {M : Nat → Prop} {rb N n0 : Nat} {g : G} {s' s : St} {a : Act} {w : World} {k : Prop} (hO : Ok g0 w0 M rb N g s' a w) (h0 : ∀ i, n0 ≤ i → g0.ρ i = none) (hrb : rb ≤ n0)
    (h : subS n0 s' s k) : ∃ g', Ok g0 w0 M rb N g' s a w ∧ k := by
  obtain ⟨σ, t1, t2, t3, hk, t4, t5⟩ := subS_core h
  have hid : ∀ i, i < n0 → look σ i = some i := fun i hi => t1 _ _ (idS_ok n0 i hi)
  refine ⟨ren g σ, ⟨hO.rel.ren t2 t5, ⟨?_, hO.frm.size, hO.frm.dfr⟩, ?_, ?_, ⟨?_, hO.ext.pr, hO.ext.at'⟩, hO.kept, hO.prg⟩, hk⟩
  · intro t d hd
    obtain ⟨d', hd', hr⟩ := t4 t d hd
    obtain ⟨v, hv, hrv⟩ := hO.frm.frm t d' hd'
    exact ⟨v, hv, hr g w v hrv⟩
  · intro i o b hi hl hb
    obtain ⟨j, o', hj, ho', _⟩ := t5 i o hl
    simp only [ren, hj, Option.bind_some] at hb
    refine hO.own j o' b ?_ ho' hb
    rcases Nat.lt_or_ge j n0 with hlt | hge
    · have := t2 i j j hj (hid j hlt)
      omega
    · omega
  · intro i hi
    simp [ren, t3 i hi]
  · intro i b hb
    have hlt : i < n0 := by
      rcases Nat.lt_or_ge i n0 with h | h
      · exact h
      · rw [h0 i h] at hb; simp at hb
    simp [ren, hid i hlt, hO.ext.rho i b hb]

end Go.DE
