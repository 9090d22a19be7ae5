import Derived.Test.YtnoccknoaihjlaaEng10
set_option linter.unusedVariables false
set_option linter.unusedSimpArgs false
set_option linter.unnecessarySimpa false
/- The engine, part 10b: a state taken for another one, at a loop's head. -/
namespace Go.DE
universe u v

theorem subS_ok {g0 : G} {w0 : World} {M : Nat → Prop} {rb N n0 : Nat} {g : G} {s' s : St} {a : Act} {w : World} {k : Prop} (hO : Ok g0 w0 M n0 rb N g s' a w) (h0 : ∀ i, n0 ≤ i → g0.ρ i = none) (hrb : rb ≤ n0)
    (h : subS n0 s' s k) : ∃ g', Ok g0 w0 M n0 rb N g' s a w ∧ k := by
  obtain ⟨σ, tnb, t1, t2, t3, hk, t4, t5⟩ := subS_core h
  have hid : ∀ i, i < n0 → look σ i = some i := fun i hi => t1 _ _ (idS_ok n0 i hi)
  have hnb : ∀ i, noBlock ≤ i → g.ρ i = none := fun i hi => hO.fresh i (Nat.le_trans tnb hi)
  have hlo : n0 ≤ s.nx := by
    rcases Nat.lt_or_ge s.nx n0 with hlt | hge
    · have h1 := hid s.nx hlt
      rw [t3 s.nx (Nat.le_refl _)] at h1; simp at h1
    · exact hge
  have hlt0 : ∀ i b, g0.ρ i = some b → i < n0 := by
    intro i b hb
    rcases Nat.lt_or_ge i n0 with h | h
    · exact h
    · rw [h0 i h] at hb; simp at hb
  refine ⟨ren g σ, ⟨hO.rel.ren t2 (fun _ j _ h _ => hnb j h) t5, ⟨?_, hO.frm.size, hO.frm.dfr⟩, ?_, ?_, ⟨?_, hO.ext.pr, hO.ext.at', ?_, hO.ext.shape⟩, hO.kept, hO.prg, ?_, hlo⟩, hk⟩
  · intro t d hd
    obtain ⟨d', hd', hr⟩ := t4 t d hd
    obtain ⟨v, hv, hrv⟩ := hO.frm.frm t d' hd'
    exact ⟨v, hv, hr g w v hrv⟩
  · intro i o b hi hl hro hb
    obtain ⟨j, hj, hx⟩ := t5 i o hl
    simp only [ren, hj, Option.bind_some] at hb
    rcases hx with ⟨o', ho', hro', _⟩ | ⟨k1, _⟩
    · refine hO.own j o' b ?_ ho' (by rw [← hro']; exact hro) hb
      rcases Nat.lt_or_ge j n0 with hlt | hge
      · have := t2 i j j hj (hid j hlt)
        omega
      · omega
    · rw [hnb j k1] at hb; simp at hb
  · intro i hi
    simp [ren, t3 i hi]
  · intro i b hb
    simp [ren, hid i (hlt0 i b hb), hO.ext.rho i b hb]
  · intro i b hb
    have := hO.ext.base i b hb
    simpa [ren, hid i (hlt0 i b hb)] using this
  · intro i hi
    simp [ren, hid i hi, hO.same i hi]

end Go.DE
