import Derived.Test.YtfacddeaobogjaaS
set_option linter.unusedVariables false
set_option linter.unusedSimpArgs false
set_option linter.unnecessarySimpa false
set_option linter.unusedVariables false
set_option linter.unusedSimpArgs false
/- What sorted numbers without equal neighbours are. -/
namespace Go.DF
open Go Go.Lib

/-- Two rising lists with the same members are the same. -/
theorem rise_ext : ∀ {l m : List Int}, l.Pairwise (· < ·) → m.Pairwise (· < ·) → (∀ x, x ∈ l ↔ x ∈ m) → l = m
  | [], [], _, _, _ => rfl
  | [], b :: m, _, _, h => absurd ((h b).2 (List.mem_cons_self ..)) (by simp)
  | a :: l, [], _, _, h => absurd ((h a).1 (List.mem_cons_self ..)) (by simp)
  | a :: l, b :: m, hl, hm, h => by
    rw [List.pairwise_cons] at hl hm
    have hab : a = b := by
      have h1 : a ∈ b :: m := (h a).1 (List.mem_cons_self ..)
      have h2 : b ∈ a :: l := (h b).2 (List.mem_cons_self ..)
      rcases List.mem_cons.1 h1 with h1 | h1
      · exact h1
      · rcases List.mem_cons.1 h2 with h2 | h2
        · exact h2.symm
        · have := hl.1 b h2; have := hm.1 a h1; omega
    subst hab
    rw [rise_ext hl.2 hm.2 fun x => ⟨fun hx => ?_, fun hx => ?_⟩]
    · rcases List.mem_cons.1 ((h x).1 (List.mem_cons_of_mem _ hx)) with h' | h'
      · have := hl.1 x hx; omega
      · exact h'
    · rcases List.mem_cons.1 ((h x).2 (List.mem_cons_of_mem _ hx)) with h' | h'
      · have := hm.1 x hx; omega
      · exact h'
theorem srt_sorted (l : List Int) : (srt l).Pairwise (· ≤ ·) := by
  have h := List.pairwise_mergeSort (le := fun (x y : Int) => decide (x ≤ y)) (fun a b c h1 h2 => by simp only [decide_eq_true_eq] at *; omega) (fun a b => by simp only [Bool.or_eq_true, decide_eq_true_eq]; omega) l
  exact h.imp fun h => by simpa using h
theorem srt_mem (l : List Int) (x : Int) : x ∈ srt l ↔ x ∈ l := List.mem_mergeSort
theorem getB {l : List Int} {j : Nat} (h : j < l.length) : l.toArray[j]! = l[j] := by
  rw [getElem!_pos l.toArray j (by simpa using h)]; simp
/-- Of sorted numbers: a rising list with the same members. -/
theorem compact_rise {l : List Int} (h : l.Pairwise (· ≤ ·)) : (compact l).Pairwise (· < ·) := by
  rw [List.pairwise_iff_getElem] at h
  unfold compact compactUpTo
  rw [List.pairwise_map]
  have hr : (List.range l.length).Pairwise (· < ·) := List.pairwise_lt_range
  refine (hr.filter (keeps l.toArray)).imp_of_mem ?_
  intro i j hi hj hij
  obtain ⟨hi1, hi2⟩ := List.mem_filter.1 hi
  obtain ⟨hj1, hj2⟩ := List.mem_filter.1 hj
  have hjl : j < l.length := List.mem_range.1 hj1
  have hk : j = 0 ∨ l.toArray[j]! ≠ l.toArray[j - 1]! := by simpa [keeps] using hj2
  rcases hk with hk | hk
  · omega
  · rw [getB hjl, getB (by omega)] at hk
    rw [getB hjl, getB (by omega)]
    have h1 : l[j - 1] ≤ l[j] := h (j - 1) j (by omega) hjl (by omega)
    rcases Nat.lt_or_ge i (j - 1) with hh | hh
    · have := h i (j - 1) (by omega) (by omega) hh; omega
    · have : i = j - 1 := by omega
      subst this; omega
theorem compact_mem (l : List Int) (x : Int) : x ∈ compact l ↔ x ∈ l := by
  unfold compact compactUpTo
  rw [List.mem_map]
  constructor
  · rintro ⟨i, hi, rfl⟩
    have hi := List.mem_range.1 (List.mem_filter.1 hi).1
    rw [getB hi]; exact List.getElem_mem hi
  · intro hx
    obtain ⟨i, hi, rfl⟩ := List.mem_iff_getElem.1 hx
    clear hx
    -- the first place that holds it
    induction i with
    | zero => exact ⟨0, List.mem_filter.2 ⟨List.mem_range.2 hi, by simp [keeps]⟩, getB hi⟩
    | succ i ih =>
      by_cases he : l[i + 1] = l[i]
      · obtain ⟨j, h1, h2⟩ := ih (by omega)
        exact ⟨j, h1, by rw [h2, he]⟩
      · refine ⟨i + 1, List.mem_filter.2 ⟨List.mem_range.2 hi, ?_⟩, getB hi⟩
        simp only [keeps, decide_eq_true_eq]
        right
        rw [getB hi, show i + 1 - 1 = i from rfl, getB (by omega)]
        exact he
/-- Sorted, without doubles. -/
def uniq (l : List Int) : List Int := compact (srt l)
theorem uniq_rise (l : List Int) : (uniq l).Pairwise (· < ·) := compact_rise (srt_sorted l)
theorem uniq_mem (l : List Int) (x : Int) : x ∈ uniq l ↔ x ∈ l := by unfold uniq; rw [compact_mem, srt_mem]
end Go.DF
