import Derived.Test.YtfacddeaobogjaaF12
import Derived.Test.YtfacddeaobogjaaG9
set_option linter.unusedVariables false
set_option linter.unusedSimpArgs false
set_option linter.unnecessarySimpa false
set_option linter.unusedVariables false
set_option linter.unusedSimpArgs false
/- What can be reached: the plain words, and the recursive closure. -/
namespace Go.Proofs.Ytfacddeaobogjaa.N
open Go.DF
set_option maxRecDepth 100000
abbrev Bs := List Bool
/-- A path leads from a to it. -/
inductive Rch (es : Es) (a : Int) : Int → Prop
  | refl : Rch es a a
  | step {b c : Int} : Rch es a b → (b, c) ∈ es → Rch es a c
theorem Rch.trans {es : Es} {a b c : Int} (h : Rch es a b) (k : Rch es b c) : Rch es a c := by
  induction k with
  | refl => exact h
  | step _ he ih => exact .step ih he
def Hit (es : Es) (N : Int) (fr : List Int) (v : Int) : Prop := ∃ u ∈ fr, (0 ≤ u ∧ u < N) ∧ Rch es u v
open Classical in
noncomputable def marksL (es : Es) (N : Int) (fr : List Int) : Bs := (List.range N.toNat).map fun (v : Nat) => decide (Hit es N fr (v : Int))
theorem marksL_len (es : Es) (N : Int) (fr : List Int) : (marksL es N fr).length = N.toNat := by simp [marksL]
theorem bs_ext {l m : Bs} (h : l.length = m.length) (hv : ∀ v : Nat, v < l.length → (l.getD v false = true ↔ m.getD v false = true)) : l = m :=
  list_ext (d := false) h.symm fun j hj => Bool.eq_iff_iff.2 (hv j hj)
theorem marksL_get (es : Es) (N : Int) (fr : List Int) (v : Nat) : (marksL es N fr).getD v false = true ↔ v < N.toNat ∧ Hit es N fr (v : Int) := by
  unfold marksL
  rw [List.getD_eq_getElem?_getD, List.getElem?_map]
  by_cases h : v < N.toNat
  · rw [List.getElem?_eq_getElem (by simpa using h)]
    simp [h]
  · rw [List.getElem?_eq_none (by simp; omega)]
    simp [h]
/-- What is marked, if nothing is left to mark. -/
theorem marks_of {es : Es} {N : Int} {fr : List Int} {l : Bs} (hE : ∀ x ∈ es, 0 ≤ x.1 ∧ x.1 < N ∧ 0 ≤ x.2 ∧ x.2 < N) (hl : l.length = N.toNat) (hB : ∀ u ∈ fr, 0 ≤ u → u < N → l.getD u.toNat false = true)
    (hC : ∀ v : Nat, l.getD v false = true → Hit es N fr (v : Int)) (hD : ∀ x ∈ es, l.getD x.1.toNat false = true → l.getD x.2.toNat false = true) : l = marksL es N fr := by
  refine bs_ext (by rw [marksL_len, hl]) fun v hv => ?_
  rw [marksL_get]
  constructor
  · exact fun h => ⟨by omega, hC v h⟩
  · rintro ⟨h1, u, hu, ⟨h2, h3⟩, hr⟩
    have key : ∀ w, Rch es u w → l.getD w.toNat false = true := fun w h => by
      induction h with
      | refl => exact hB u hu h2 h3
      | step h he ih => exact hD _ he ih
    have := key _ hr
    rwa [show Int.toNat (v : Int) = v from by omega] at this
theorem cnt_set {s : Bs} {i : Nat} (h : i < s.length) (hf : s.getD i false = false) : (s.set i true).count false + 1 = s.count false := by
  have hg : s[i] = false := by rw [List.getD_eq_getElem?_getD, List.getElem?_eq_getElem h] at hf; exact hf
  have hp : 0 < s.count false := List.count_pos_iff.2 (by rw [← hg]; exact List.getElem_mem h)
  rw [List.count_set h, hg]
  simp; omega
theorem getD_set {s : Bs} {i v : Nat} (h : i < s.length) : (s.set i true).getD v false = true ↔ v = i ∨ s.getD v false = true := by
  rw [List.getD_eq_getElem?_getD, List.getElem?_set]
  by_cases e : i = v
  · subst e; simp [h]
  · rw [if_neg e, List.getD_eq_getElem?_getD]
    constructor
    · exact fun h => .inr h
    · rintro (h | h)
      · exact absurd h.symm e
      · exact h
theorem getD_lt {s : Bs} {v : Nat} (h : s.getD v false = true) : v < s.length := by
  rw [List.getD_eq_getElem?_getD] at h
  rcases Nat.lt_or_ge v s.length with h1 | h1
  · exact h1
  · rw [List.getElem?_eq_none h1] at h; simp at h
/-- Visit a node, then what is behind it. -/
def dfs (A : Rows) : Nat → Bs → Int → Bs
  | 0, s, _ => s
  | f + 1, s, n => bif s.getD n.toNat false then s else (A.getD n.toNat []).foldl (fun s t => dfs A f s t) (s.set n.toNat true)
structure Vis (A : Rows) (s s' : Bs) (R : Int → Prop) : Prop where
  len : s'.length = s.length
  mono : ∀ v : Nat, s.getD v false = true → s'.getD v false = true
  sound : ∀ v : Nat, s'.getD v false = true → s.getD v false = true ∨ ∃ t, R t ∧ Rch (edgesTo A A.length) t v
  clos : ∀ v : Nat, s'.getD v false = true → s.getD v false = true ∨ ∀ w ∈ A.getD v [], s'.getD w.toNat false = true
  cnt : s'.count false ≤ s.count false
theorem Vis.rfl' {A : Rows} {s : Bs} {R : Int → Prop} : Vis A s s R := ⟨rfl, fun _ h => h, fun _ h => .inl h, fun _ h => .inl h, Nat.le_refl _⟩
theorem Vis.imp {A : Rows} {s s' : Bs} {R R' : Int → Prop} (h : Vis A s s' R) (k : ∀ t, R t → R' t) : Vis A s s' R' :=
  ⟨h.len, h.mono, fun v hv => (h.sound v hv).imp_right fun ⟨t, h1, h2⟩ => ⟨t, k t h1, h2⟩, h.clos, h.cnt⟩
theorem Vis.trans {A : Rows} {s s1 s2 : Bs} {R : Int → Prop} (h : Vis A s s1 R) (k : Vis A s1 s2 R) : Vis A s s2 R :=
  ⟨k.len.trans h.len, fun v hv => k.mono v (h.mono v hv), fun v hv => (k.sound v hv).elim (h.sound v) .inr,
    fun v hv => (k.clos v hv).elim (fun h1 => (h.clos v h1).imp_right fun h2 w hw => k.mono _ (h2 w hw)) .inr, Nat.le_trans k.cnt h.cnt⟩
/-- Rows of nodes. -/
def okV (A : Rows) : Prop := A.length ≤ 4096 ∧ ∀ i, (A.getD i []).length ≤ 1000000 ∧ ∀ y ∈ A.getD i [], 0 ≤ y ∧ y < (A.length : Int)
theorem fold_vis {A : Rows} {f : Nat} (ih : ∀ s n, s.length = A.length → 0 ≤ n → n < (A.length : Int) → s.count false ≤ f → Vis A s (dfs A (f + 1) s n) (· = n) ∧ (dfs A (f + 1) s n).getD n.toNat false = true) :
    ∀ (L : List Int) (s : Bs), (∀ y ∈ L, 0 ≤ y ∧ y < (A.length : Int)) → s.length = A.length → s.count false ≤ f →
      Vis A s (L.foldl (fun s t => dfs A (f + 1) s t) s) (· ∈ L) ∧ ∀ t ∈ L, (L.foldl (fun s t => dfs A (f + 1) s t) s).getD t.toNat false = true
  | [], s, _, _, _ => ⟨Vis.rfl', fun t ht => absurd ht (by simp)⟩
  | a :: L, s, hL, hs, hc => by
    obtain ⟨h1, h2⟩ := ih s a hs (hL a (List.mem_cons_self ..)).1 (hL a (List.mem_cons_self ..)).2 hc
    obtain ⟨k1, k2⟩ := fold_vis ih L (dfs A (f + 1) s a) (fun y hy => hL y (List.mem_cons_of_mem _ hy)) (h1.len.trans hs) (Nat.le_trans h1.cnt hc)
    refine ⟨(h1.imp fun t e => by rw [e]; exact List.mem_cons_self ..).trans (k1.imp fun t ht => List.mem_cons_of_mem _ ht), fun t ht => ?_⟩
    rcases List.mem_cons.1 ht with e | ht
    · rw [e]; exact k1.mono _ h2
    · exact k2 t ht
theorem dfs_vis {A : Rows} (hA : okV A) : ∀ (f : Nat) (s : Bs) (n : Int), s.length = A.length → 0 ≤ n → n < (A.length : Int) → s.count false ≤ f → Vis A s (dfs A (f + 1) s n) (· = n) ∧ (dfs A (f + 1) s n).getD n.toNat false = true
  | f, s, n, hs, h0, h1, hc => by
    have hns : n.toNat < s.length := by omega
    rw [dfs]
    cases hb : s.getD n.toNat false with
    | true => exact ⟨Vis.rfl', hb⟩
    | false =>
      have hcs := cnt_set hns hb
      match f, hc with
      | 0, hc => omega
      | f + 1, hc =>
        obtain ⟨k1, k2⟩ := fold_vis (dfs_vis hA f) (A.getD n.toNat []) (s.set n.toNat true) (hA.2 n.toNat).2 (by rw [List.length_set, hs]) (by omega)
        simp only [cond_false]
        generalize (A.getD n.toNat []).foldl (fun s t => dfs A (f + 1) s t) (s.set n.toNat true) = r at k1 k2
        have hn : r.getD n.toNat false = true := k1.mono _ ((getD_set hns).2 (.inl rfl))
        have en : ((n.toNat : Nat) : Int) = n := by omega
        refine ⟨⟨by rw [k1.len, List.length_set], fun v hv => k1.mono v ((getD_set hns).2 (.inr hv)), fun v hv => ?_, fun v hv => ?_, by have := k1.cnt; omega⟩, hn⟩
        · rcases k1.sound v hv with h | ⟨t, ht, hr⟩
          · rcases (getD_set hns).1 h with e | h
            · exact .inr ⟨n, rfl, by rw [e, en]; exact .refl⟩
            · exact .inl h
          · refine .inr ⟨n, rfl, Rch.trans (.step .refl ?_) hr⟩
            rw [edgesTo_mem]
            exact ⟨n.toNat, by omega, en.symm, ht⟩
        · rcases k1.clos v hv with h | h
          · rcases (getD_set hns).1 h with e | h
            · exact .inr fun w hw => k2 w (by rw [e] at hw; exact hw)
            · exact .inl h
          · exact .inr h
end Go.Proofs.Ytfacddeaobogjaa.N
