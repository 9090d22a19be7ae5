import Derived.Test.YtfacddeaobogjaaF12
import Derived.Test.YtfacddeaobogjaaG16
set_option linter.unusedVariables false
set_option linter.unusedSimpArgs false
set_option linter.unnecessarySimpa false
set_option linter.unusedVariables false
set_option linter.unusedSimpArgs false
/- Breadth first, in plain words. -/
namespace Go.Proofs.Ytfacddeaobogjaa.N
open Go.DF
structure Bfs (W : Es) (t : Int) (n : Nat) (F Q : List Int) : Prop where
  len : F.length = n
  tz : 0 ≤ F.getD t.toNat 0
  val : ∀ v : Nat, v < n → F.getD v 0 = -1 ∨ ∃ e : Nat, F.getD v 0 = e ∧ Mn W t (v : Int) e
  q0 : ∀ x ∈ Q, (0 ≤ x ∧ x < (n : Int)) ∧ 0 ≤ F.getD x.toNat 0
  sorted : Q.Pairwise fun x y => F.getD x.toNat 0 ≤ F.getD y.toNat 0
  near : ∀ h tl, Q = h :: tl → ∀ x ∈ tl, F.getD x.toNat 0 ≤ F.getD h.toNat 0 + 1
  done : ∀ v : Nat, v < n → 0 ≤ F.getD v 0 → (v : Int) ∉ Q → ∀ a, (a, (v : Int)) ∈ W → 0 ≤ F.getD a.toNat 0
  low : ∀ h tl, Q = h :: tl → ∀ v : Nat, v < n → F.getD v 0 = -1 → ∀ e : Nat, (e : Int) ≤ F.getD h.toNat 0 → ¬ Wk W t e (v : Int)
section
variable {W : Es} {t : Int} {n : Nat} (hE : ∀ x ∈ W, 0 ≤ x.1 ∧ x.1 < (n : Int) ∧ 0 ≤ x.2 ∧ x.2 < (n : Int))
theorem Bfs.at {F Q : List Int} (h : Bfs W t n F Q) {x : Int} (hx : 0 ≤ x ∧ x < (n : Int)) (h0 : 0 ≤ F.getD x.toNat 0) : ∃ d : Nat, F.getD x.toNat 0 = d ∧ Mn W t x d := by
  have := h.val x.toNat (by omega)
  rw [show ((x.toNat : Nat) : Int) = x from by omega] at this
  rcases this with h1 | h1
  · omega
  · exact h1
theorem Bfs.start (ht : 0 ≤ t ∧ t < (n : Int)) : Bfs W t n ((List.replicate n (-1 : Int)).set t.toNat 0) [t] := by
  have hl : (List.replicate n (-1 : Int)).length = n := List.length_replicate
  have hg : ∀ v : Nat, v < n → ((List.replicate n (-1 : Int)).set t.toNat 0).getD v 0 = if v = t.toNat then 0 else -1 := fun v hv => by
    rw [getD_setI (by omega)]
    congr 1
    rw [List.getD_eq_getElem?_getD, List.getElem?_replicate, if_pos hv]; rfl
  have htt := hg t.toNat (by omega)
  rw [if_pos rfl] at htt
  refine ⟨by rw [List.length_set, hl], by rw [htt]; decide, fun v hv => ?_, fun x hx => ?_, by simp, fun h tl e x hx => ?_, fun v hv h0 hm => ?_, fun h tl e v hv h1 d hd => ?_⟩
  · rw [hg v hv]
    split
    · rename_i e
      exact .inr ⟨0, rfl, by rw [show (v : Int) = t from by omega]; exact ⟨.zero, fun e he => absurd he (Nat.not_lt_zero e)⟩⟩
    · exact .inl rfl
  · rw [List.mem_singleton] at hx
    subst hx
    exact ⟨ht, by rw [htt]; decide⟩
  · simp only [List.cons.injEq] at e
    rw [← e.2] at hx; simp at hx
  · rw [hg v hv] at h0
    split at h0
    · exact absurd (by rw [List.mem_singleton]; omega) hm
    · omega
  · simp only [List.cons.injEq] at e
    rw [← e.1, htt] at hd
    have : d = 0 := by omega
    subst this
    intro hw
    have ev : (v : Int) = t := by cases hw; rfl
    rw [show v = t.toNat from by omega, htt] at h1
    omega
include hE
theorem Bfs.add {F : List Int} {h : Int} {tl : List Int} {x : Int} (k : Bfs W t n F (h :: tl)) (hx : (x, h) ∈ W) (hn : F.getD x.toNat 0 < 0) : Bfs W t n (F.set x.toNat (F.getD h.toNat 0 + 1)) (h :: tl ++ [x]) := by
  have hxv := hE _ hx
  simp only at hxv
  have hl := k.len
  obtain ⟨d, hd, hm⟩ := k.at (k.q0 h (List.mem_cons_self ..)).1 (k.q0 h (List.mem_cons_self ..)).2
  have hg : ∀ v : Nat, (F.set x.toNat (F.getD h.toNat 0 + 1)).getD v 0 = if v = x.toNat then F.getD h.toNat 0 + 1 else F.getD v 0 := fun v => getD_setI (by omega)
  have hx1 : F.getD x.toNat 0 = -1 := by
    rcases k.val x.toNat (by omega) with h1 | ⟨e, h1, _⟩
    · exact h1
    · omega
  have hne : ∀ y : Int, 0 ≤ y → 0 ≤ F.getD y.toNat 0 → y.toNat ≠ x.toNat := fun y hy h1 e => by rw [e, hx1] at h1; omega
  have hgq : ∀ y ∈ h :: tl, (F.set x.toNat (F.getD h.toNat 0 + 1)).getD y.toNat 0 = F.getD y.toNat 0 := fun y hy => by
    rw [hg, if_neg (hne y (k.q0 y hy).1.1 (k.q0 y hy).2)]
  have hle : ∀ y ∈ h :: tl, F.getD y.toNat 0 ≤ F.getD h.toNat 0 + 1 := fun y hy => by
    rcases List.mem_cons.1 hy with e | hy
    · rw [e]; omega
    · exact k.near h tl rfl y hy
  have hmono : ∀ v : Nat, 0 ≤ F.getD v 0 → 0 ≤ (F.set x.toNat (F.getD h.toNat 0 + 1)).getD v 0 := fun v hv => by
    rw [hg]; split <;> omega
  refine ⟨by rw [List.length_set, hl], hmono _ k.tz, fun v hv => ?_, fun y hy => ?_, ?_, fun h' tl' e y hy => ?_, fun v hv h0 hm' a ha => ?_, fun h' tl' e v hv h1 e' he' => ?_⟩
  · rw [hg]
    split
    · rename_i ev
      have ev' : (v : Int) = x := by omega
      rw [ev']
      refine .inr ⟨d + 1, by omega, .step hx hm.1, fun e he hw => ?_⟩
      exact k.low h tl rfl x.toNat (by omega) hx1 e (by omega) (by rw [show ((x.toNat : Nat) : Int) = x from by omega]; exact hw)
    · exact k.val v hv
  · rcases List.mem_append.1 hy with hy | hy
    · exact ⟨(k.q0 y hy).1, hmono _ (k.q0 y hy).2⟩
    · rw [List.mem_singleton] at hy
      rw [hy, hg, if_pos rfl]
      exact ⟨by omega, by omega⟩
  · rw [List.pairwise_append]
    refine ⟨k.sorted.imp_of_mem fun {a b} ha hb hab => by rw [hgq a ha, hgq b hb]; exact hab, by simp, fun a ha b hb => ?_⟩
    rw [List.mem_singleton] at hb
    rw [hb, hgq a ha, hg, if_pos rfl]
    exact hle a ha
  · simp only [List.cons_append, List.cons.injEq] at e
    obtain ⟨rfl, rfl⟩ := e
    rw [hgq h (List.mem_cons_self ..)]
    rcases List.mem_append.1 hy with hy | hy
    · rw [hgq y (List.mem_cons_of_mem _ hy)]
      exact k.near h tl rfl y hy
    · rw [List.mem_singleton] at hy
      rw [hy, hg, if_pos rfl]; omega
  · have hvx : v ≠ x.toNat := fun e => hm' (List.mem_append.2 (.inr (by rw [List.mem_singleton]; omega)))
    rw [hg, if_neg hvx] at h0
    exact hmono _ (k.done v hv h0 (fun hh => hm' (List.mem_append.2 (.inl hh))) a ha)
  · simp only [List.cons_append, List.cons.injEq] at e
    obtain ⟨rfl, rfl⟩ := e
    rw [hgq h (List.mem_cons_self ..)] at he'
    rw [hg] at h1
    split at h1
    · omega
    · exact k.low h tl rfl v hv h1 e' he'
theorem Bfs.pop {F : List Int} {h : Int} {tl : List Int} (k : Bfs W t n F (h :: tl)) (hp : ∀ a, (a, h) ∈ W → 0 ≤ F.getD a.toNat 0) : Bfs W t n F tl := by
  have hs := List.pairwise_cons.1 k.sorted
  refine ⟨k.len, k.tz, k.val, fun y hy => k.q0 y (List.mem_cons_of_mem _ hy), hs.2, fun h' tl' e y hy => ?_, fun v hv h0 hm a ha => ?_, fun h' tl' e v hv h1 e' he' hw => ?_⟩
  · subst e
    have h1 := k.near h _ rfl y (List.mem_cons_of_mem _ hy)
    have h2 := hs.1 h' (List.mem_cons_self ..)
    omega
  · by_cases e : (v : Int) = h
    · rw [e] at ha; exact hp a ha
    · exact k.done v hv h0 (fun hh => (List.mem_cons.1 hh).elim e hm) a ha
  · subst e
    have h2 := hs.1 h' (List.mem_cons_self ..)
    have h3 := k.near h _ rfl h' (List.mem_cons_self ..)
    by_cases hle : (e' : Int) ≤ F.getD h.toNat 0
    · exact k.low h _ rfl v hv h1 e' hle hw
    · cases e' with
      | zero => have := (k.q0 h (List.mem_cons_self ..)).2; omega
      | succ d =>
        cases hw with
        | step he hwb =>
          rename_i b
          have hbv := hE _ he
          simp only at hbv
          have hFb : F.getD b.toNat 0 ≠ -1 := fun hb => k.low h _ rfl b.toNat (by omega) hb d (by omega) (by rw [show ((b.toNat : Nat) : Int) = b from by omega]; exact hwb)
          have hb0 : 0 ≤ F.getD b.toNat 0 := by
            rcases k.val b.toNat (by omega) with q | ⟨e, q, _⟩
            · exact absurd q hFb
            · omega
          obtain ⟨f, hf, hmf⟩ := k.at ⟨hbv.2.2.1, hbv.2.2.2⟩ hb0
          have hfd : f ≤ d := by
            rcases Nat.lt_or_ge d f with q | q
            · exact absurd hwb (hmf.2 d q)
            · exact q
          rcases Nat.lt_or_ge f d with hlt | hge
          · exact k.low h _ rfl v hv h1 (f + 1) (by omega) (.step he hmf.1)
          · have hfe : f = d := by omega
            by_cases hbh : b = h
            · rw [hbh] at he
              have := hp _ he
              rw [show ((v : Int)).toNat = v from by omega] at this
              omega
            · have hbQ : ((b.toNat : Nat) : Int) ∉ h :: h' :: tl' := fun hh => by
                rw [show ((b.toNat : Nat) : Int) = b from by omega] at hh
                rcases List.mem_cons.1 hh with q | hh
                · exact hbh q
                · rcases List.mem_cons.1 hh with q | hh
                  · rw [← q] at h2 h3 he'
                    omega
                  · have := (List.pairwise_cons.1 hs.2).1 b hh
                    omega
              have := k.done b.toNat (by omega) hb0 hbQ (v : Int) (by rw [show ((b.toNat : Nat) : Int) = b from by omega]; exact he)
              rw [show ((v : Int)).toNat = v from by omega] at this
              omega
omit hE in
theorem Bfs.far (hE : ∀ x ∈ W, 0 ≤ x.1 ∧ x.1 < (n : Int) ∧ 0 ≤ x.2 ∧ x.2 < (n : Int)) {F : List Int} (k : Bfs W t n F []) : F = farL W t n := by
  refine far_of ⟨k.len, fun v hv => ?_⟩
  rcases k.val v hv with h | h
  · refine .inl ⟨h, fun d hd => ?_⟩
    have key : ∀ (d : Nat) (x : Int), Wk W t d x → 0 ≤ F.getD x.toNat 0 := fun d x hw => by
      induction hw with
      | zero => exact k.tz
      | step he _ ih =>
        rename_i d' a b hw'
        have hv := hE _ he
        simp only at hv
        exact k.done b.toNat (by omega) ih (by simp) a (by rw [show ((b.toNat : Nat) : Int) = b from by omega]; exact he)
    have := key d _ hd
    rw [show ((v : Int)).toNat = v from by omega] at this
    omega
  · exact .inr h
end
end Go.Proofs.Ytfacddeaobogjaa.N
