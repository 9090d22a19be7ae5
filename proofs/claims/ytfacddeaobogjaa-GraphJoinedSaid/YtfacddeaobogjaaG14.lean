import Derived.Test.YtfacddeaobogjaaF12
import Derived.Test.YtfacddeaobogjaaG13
set_option linter.unusedVariables false
set_option linter.unusedSimpArgs false
set_option linter.unnecessarySimpa false
set_option linter.unusedVariables false
set_option linter.unusedSimpArgs false
/- How far a node is from another one: in plain words. -/
namespace Go.Proofs.Ytfacddeaobogjaa.N
open Go.DF
/-- A walk of d edges leads from it to t. -/
inductive Wk (es : Es) (t : Int) : Nat → Int → Prop
  | zero : Wk es t 0 t
  | step {d : Nat} {a b : Int} : (a, b) ∈ es → Wk es t d b → Wk es t (d + 1) a
def Mn (es : Es) (t v : Int) (d : Nat) : Prop := Wk es t d v ∧ ∀ e, e < d → ¬ Wk es t e v
theorem Mn.uniq {es : Es} {t v : Int} {d e : Nat} (h : Mn es t v d) (k : Mn es t v e) : d = e := by
  rcases Nat.lt_trichotomy d e with h1 | h1 | h1
  · exact absurd h.1 (k.2 d h1)
  · exact h1
  · exact absurd k.1 (h.2 e h1)
theorem Mn.of {es : Es} {t v : Int} : ∀ {d : Nat}, Wk es t d v → ∃ e, e ≤ d ∧ Mn es t v e := by
  intro d
  induction d using Nat.strongRecOn with
  | _ d ih =>
    intro h
    by_cases hx : ∃ e, e < d ∧ Wk es t e v
    · obtain ⟨e, h1, h2⟩ := hx
      obtain ⟨f, h3, h4⟩ := ih e h1 h2
      exact ⟨f, by omega, h4⟩
    · exact ⟨d, Nat.le_refl _, h, fun e h1 h2 => hx ⟨e, h1, h2⟩⟩
theorem Mn.next {es : Es} {t v : Int} {d : Nat} (h : Mn es t v (d + 1)) : ∃ b, (v, b) ∈ es ∧ Mn es t b d := by
  obtain ⟨h1, h2⟩ := h
  cases h1 with
  | step he hw =>
    rename_i b
    exact ⟨b, he, hw, fun e hlt hk => h2 (e + 1) (by omega) (.step he hk)⟩
/-- Different numbers below n are no more than n. -/
theorem nodup_len : ∀ (n : Nat) (l : List Int), l.Nodup → (∀ x ∈ l, 0 ≤ x ∧ x < (n : Int)) → l.length ≤ n
  | 0, l, _, h => by
    cases l with
    | nil => simp
    | cons a l => have := h a (List.mem_cons_self ..); omega
  | n + 1, l, hn, h => by
    by_cases hm : (n : Int) ∈ l
    · have h1 := nodup_len n (l.erase (n : Int)) (hn.erase _) (fun x hx => by
        have h2 := (List.Nodup.mem_erase_iff hn).1 hx
        have := h x h2.2
        have h3 := h2.1
        omega)
      rw [List.length_erase_of_mem hm] at h1
      omega
    · have h1 := nodup_len n l hn (fun x hx => by
        have := h x hx
        have h3 : x ≠ (n : Int) := fun e => hm (e ▸ hx)
        omega)
      omega
/-- The nodes of a shortest walk: all at different distances. -/
theorem Mn.chain {es : Es} {t : Int} {n : Nat} (hE : ∀ x ∈ es, 0 ≤ x.1 ∧ x.1 < (n : Int) ∧ 0 ≤ x.2 ∧ x.2 < (n : Int)) (ht : 0 ≤ t ∧ t < (n : Int)) :
    ∀ (d : Nat) (v : Int), Mn es t v d → ∃ l : List Int, l.length = d + 1 ∧ l.Nodup ∧ ∀ x ∈ l, (0 ≤ x ∧ x < (n : Int)) ∧ ∃ e, e ≤ d ∧ Mn es t x e
  | 0, v, h => by
    refine ⟨[v], rfl, by simp, fun x hx => ?_⟩
    rw [List.mem_singleton] at hx
    subst hx
    have hv : x = t := by cases h.1; rfl
    exact ⟨by rw [hv]; exact ht, 0, Nat.le_refl _, h⟩
  | d + 1, v, h => by
    obtain ⟨b, he, hb⟩ := h.next
    obtain ⟨l, h1, h2, h3⟩ := Mn.chain hE ht d b hb
    refine ⟨v :: l, by simp [h1], List.nodup_cons.2 ⟨fun hm => ?_, h2⟩, fun x hx => ?_⟩
    · obtain ⟨_, e, h4, h5⟩ := h3 v hm
      have := h.uniq h5
      omega
    · rcases List.mem_cons.1 hx with e | hx
      · rw [e]
        have := hE _ he
        exact ⟨⟨this.1, this.2.1⟩, d + 1, Nat.le_refl _, h⟩
      · obtain ⟨h4, e, h5, h6⟩ := h3 x hx
        exact ⟨h4, e, by omega, h6⟩
theorem Mn.lt {es : Es} {t v : Int} {n d : Nat} (hE : ∀ x ∈ es, 0 ≤ x.1 ∧ x.1 < (n : Int) ∧ 0 ≤ x.2 ∧ x.2 < (n : Int)) (ht : 0 ≤ t ∧ t < (n : Int)) (h : Mn es t v d) : d < n := by
  obtain ⟨l, h1, h2, h3⟩ := Mn.chain hE ht d v h
  have := nodup_len n l h2 (fun x hx => (h3 x hx).1)
  omega
/-- The distances of the nodes: -1 where no walk leads. -/
def IsFar (es : Es) (t : Int) (n : Nat) (F : List Int) : Prop := F.length = n ∧ ∀ v, v < n → (F.getD v 0 = -1 ∧ ∀ d, ¬ Wk es t d (v : Int)) ∨ ∃ d : Nat, F.getD v 0 = d ∧ Mn es t (v : Int) d
theorem IsFar.uniq {es : Es} {t : Int} {n : Nat} {F G : List Int} (h : IsFar es t n F) (k : IsFar es t n G) : F = G := by
  refine list_ext (d := 0) (by rw [h.1, k.1]) fun v hv => ?_
  rw [h.1] at hv
  rcases h.2 v hv with ⟨h1, h2⟩ | ⟨d, h1, h2⟩ <;> rcases k.2 v hv with ⟨k1, k2⟩ | ⟨e, k1, k2⟩
  · rw [h1, k1]
  · exact absurd k2.1 (h2 e)
  · exact absurd h2.1 (k2 d)
  · rw [h1, k1, h2.uniq k2]
open Classical in
noncomputable def farL (es : Es) (t : Int) (n : Nat) : List Int := (List.range n).map fun (v : Nat) => if h : ∃ d : Nat, Mn es t (v : Int) d then ((Classical.choose h : Nat) : Int) else -1
open Classical in
theorem farL_is (es : Es) (t : Int) (n : Nat) : IsFar es t n (farL es t n) := by
  refine ⟨by simp [farL], fun v hv => ?_⟩
  have e : (farL es t n).getD v 0 = if h : ∃ d : Nat, Mn es t (v : Int) d then ((Classical.choose h : Nat) : Int) else -1 := by
    unfold farL
    rw [List.getD_eq_getElem?_getD, List.getElem?_map, List.getElem?_eq_getElem (by simpa using hv)]
    simp
  rw [e]
  by_cases h : ∃ d : Nat, Mn es t (v : Int) d
  · rw [dif_pos h]
    exact .inr ⟨_, rfl, Classical.choose_spec h⟩
  · rw [dif_neg h]
    exact .inl ⟨rfl, fun d hd => h (let ⟨e, _, k⟩ := Mn.of hd; ⟨e, k⟩)⟩
theorem far_of {es : Es} {t : Int} {n : Nat} {F : List Int} (h : IsFar es t n F) : F = farL es t n := h.uniq (farL_is es t n)
end Go.Proofs.Ytfacddeaobogjaa.N
