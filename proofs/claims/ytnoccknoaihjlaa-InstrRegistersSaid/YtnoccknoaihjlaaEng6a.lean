import Derived.Test.YtnoccknoaihjlaaEng5d
set_option linter.unusedVariables false
set_option linter.unusedSimpArgs false
set_option linter.unnecessarySimpa false
/- The engine, part 6a: parts of slices, arrays and strings. -/
namespace Go.DE
universe u v

theorem dnI_v (n : DN) : (dnI n).v = n.v := by cases n <;> rfl
theorem subN_v (a b : DN) : (subN a b).v = a.v - b.v := by
  unfold subN
  split <;> simp [DN.v]
theorem cut3_ok {α : Type u} {l h : DI} {n : DN} {t : T α} {x : α} (hh : (cut3 l h n t).Path x) : (0 ≤ l.v ∧ l.v ≤ h.v ∧ h.v ≤ n.v) ∧ t.Path x := by
  unfold cut3 at hh
  split at hh
  · split at hh
    · rename_i h0 h1 h2
      exact ⟨⟨of_decide_eq_true h0, of_decide_eq_true h1, of_decide_eq_true h2⟩, hh⟩
    · exact hh.elim
  · exact hh

/-- A bound, as Go reads it. -/
structure Bnd (g : G) (w : World) (d : Option DV) (v : Option Value) : Prop where
  rep : ∀ e, d = some e → ∃ u, v = some u ∧ Rep g w e u
  none : d = none → v = none
theorem bnd_lo {g : G} {w : World} {d : Option DV} {v : Option Value} {l : DI} (h : Bnd g w d v) (hl : loI d = some l) : (v = none ∧ l.v = 0) ∨ ∃ k, v = some (.int k l.v) := by
  unfold loI at hl
  split at hl
  · obtain rfl := Option.some.inj hl
    exact .inl ⟨h.none rfl, rfl⟩
  · obtain rfl := Option.some.inj hl
    obtain ⟨u, rfl, r⟩ := h.rep _ rfl
    simp only [Rep] at r
    exact .inr ⟨_, by rw [r]⟩
  · simp at hl
theorem bnd_hi {g : G} {w : World} {d : Option DV} {v : Option Value} {n : DN} {l : DI} (h : Bnd g w d v) (hl : hiI n d = some l) : (v = none ∧ l.v = n.v) ∨ ∃ k, v = some (.int k l.v) := by
  unfold hiI at hl
  split at hl
  · obtain rfl := Option.some.inj hl
    exact .inl ⟨h.none rfl, dnI_v n⟩
  · obtain rfl := Option.some.inj hl
    obtain ⟨u, rfl, r⟩ := h.rep _ rfl
    simp only [Rep] at r
    exact .inr ⟨_, by rw [r]⟩
  · simp at hl
theorem run_bounds {P : Program} {s : Bool} {len cap : Nat} {lo hi : Option Value} {l h : Int} (h1 : (lo = none ∧ l = 0) ∨ ∃ k, lo = some (.int k l)) (h2 : (hi = none ∧ h = len) ∨ ∃ k, hi = some (.int k h))
    (h0 : 0 ≤ l) (hlh : l ≤ h) (hc : h ≤ cap) (w : World) : (Instr.sliceBounds s len cap lo hi none).run P w = .ok (l.toNat, h.toNat, cap) w := by
  have hh : 0 ≤ h := by omega
  have hlh' : l ≤ (h.toNat : Int) := by omega
  rcases h1 with ⟨rfl, rfl⟩ | ⟨k, rfl⟩ <;> rcases h2 with ⟨rfl, rfl⟩ | ⟨k', rfl⟩ <;>
    simp_all [Instr.sliceBounds, Instr.sliceBound, asIntOf]

theorem sliceV_ok {P : Program} {g : G} {hp : Hp} {w : World} (hR : Rel g hp w) {t : TypeId} {x : DV} {vx : Value} {lo hi : Option DV} {vl vh : Option Value} {d : DV} (h : (sliceV P hp t x lo hi).Path d)
    (hx : Rep g w x vx) (hl : Bnd g w lo vl) (hh : Bnd g w hi vh) : Gives P g w (Instr.sliceAt t vx vl vh none) d := by
  unfold sliceV at h
  split at h <;> (try simp only [Rep] at hx)
  · rename_i s hu
    subst hx
    split at h
    · rename_i l hi' h1 h2
      obtain ⟨⟨k0, k1, k2⟩, h⟩ := cut3_ok h
      obtain rfl : d = _ := h
      have hn : (lenS s).v = s.v.size := by cases s <;> rfl
      have b1 := bnd_lo hl h1
      have b2 := bnd_hi hh h2
      rw [hn] at b2 k2
      refine ⟨.string (s.v.extract l.v.toNat hi'.v.toNat), ?_, ?_⟩
      · simp [Instr.sliceAt, Instr.slice, run_under hu, run_bounds b1 b2 k0 k1 k2]
      · cases l <;> cases hi' <;> cases s <;> simp [Rep, DI.v, DS.v]
    · exact h.elim
  · rename_i e p n hu
    split at h
    · rename_i l hi' s h1 h2 hs
      split at h
      · rename_i hsz
        have hsz := Nat.eq_of_beq_eq_true hsz
        obtain ⟨⟨k0, k1, k2⟩, h⟩ := cut3_ok h
        obtain rfl : d = _ := h
        have b1 := bnd_lo hl h1
        have b2 := bnd_hi hh h2
        rcases hx with ⟨rfl, hn⟩ | ⟨b, o, cap, hb, hcap, rfl, ho, cs, t', fr, k3, k4⟩
        · have e1 : l.v = 0 := by omega
          have e2 : hi'.v = 0 := by omega
          rw [e1] at b1 k0 k1
          rw [e2] at b2 k1
          rw [hn] at b2
          refine ⟨.slice none 0 0, ?_, ?_⟩
          · have := run_bounds (P := P) (s := true) (cap := 0) b1 b2 (by omega) (by omega) (by simp) w
            simp at this
            simp [Instr.sliceAt, Instr.slice, run_under hu, this, run_sizeD hs]
          · simp only [Rep]
            exact .inl ⟨trivial, by rw [subN_v, natI_v, natI_v, e2, e1]; rfl⟩
        · have hb2 : (vh = none ∧ hi'.v = (n.v : Int)) ∨ ∃ k, vh = some (.int k hi'.v) := b2
          have hrun := run_bounds (P := P) (s := true) (cap := cap) b1 hb2 k0 k1 (by omega) w
          refine ⟨.slice (some (if cap = l.v.toNat then ⟨b, o, none⟩ else ⟨b, o + l.v.toNat * s, none⟩)) (hi'.v.toNat - l.v.toNat) (cap - l.v.toNat), ?_, ?_⟩
          · simp only [Instr.sliceAt, Instr.slice, Sem.run_bind, run_under hu, Result.andThen_ok, hrun, run_sizeD hs, Sem.run_pure, Option.map_some, addr_add]
            split <;> rfl
          · simp only [Rep]
            have hl' : l.v.toNat ≤ cap := by omega
            by_cases hc : cap = l.v.toNat
            · refine .inr ⟨b, o, 0, hb, by rw [subN_v, natI_v, natI_v]; omega, by rw [if_pos hc, subN_v, natI_v, natI_v, hc, Nat.sub_self], .inl rfl, cs, t', fr, k3, by omega⟩
            · have ho' : o = g.off p := by rcases ho with ho | ho <;> omega
              refine .inr ⟨b, o + l.v.toNat * s, cap - l.v.toNat, hb, by rw [subN_v, natI_v, natI_v]; omega, by rw [if_neg hc, subN_v, natI_v, natI_v], .inr ?_, cs, t', fr, k3, ?_⟩
              · rw [ho']
                simp only [G.off, DP.off, addN_v, natI_v, hsz, Nat.add_mul]; omega
              · rw [← hsz, Nat.add_assoc, ← Nat.add_mul]
                have : l.v.toNat + (cap - l.v.toNat) = cap := by omega
                rw [this]; exact k4
      · exact h.elim
    · exact h.elim
  · rename_i len e p hu
    obtain ⟨b, hb, rfl⟩ := hx
    split at h
    · rename_i l hi' s j t' cs h1 h2 hs hj hlk
      split at h
      · rename_i hz hle
        have hz := Nat.eq_of_beq_eq_true hz
        have hle := Nat.le_of_ble_eq_true hle
        obtain ⟨⟨k0, k1, k2⟩, h⟩ := cut3_ok h
        obtain rfl : d = _ := h
        obtain ⟨b', hb', ⟨vs, q1, q2, _⟩, _, hba⟩ := hR.there hlk (fun h => h)
        rw [hb] at hb'; obtain rfl := Option.some.inj hb'
        have ho : g.off p = 0 := by
          have : p.off = 0 := by simp only [DP.off, hj, DN.v]; exact hz
          simp only [G.off, this, hba rfl]
        have b1 := bnd_lo hl h1
        have b2 := bnd_hi hh h2
        simp only [DN.v] at b2 k2
        have hrun := run_bounds (P := P) (s := false) (cap := len) b1 b2 k0 k1 k2 w
        refine ⟨.slice (some (if len = l.v.toNat then ⟨b, 0, none⟩ else ⟨b, 0 + l.v.toNat * s, none⟩)) (hi'.v.toNat - l.v.toNat) (len - l.v.toNat), ?_, ?_⟩
        · simp only [Instr.sliceAt, Sem.run_bind, run_under hu, Result.andThen_ok, hrun, run_sizeD hs, Sem.run_pure, Instr.sureAddr, ho, addr_add]
        · have hsz : vs.length = cs.length := q2.length
          simp only [Rep]
          by_cases hc : len = l.v.toNat
          · refine .inr ⟨b, 0, 0, hb, by rw [subN_v, natI_v, natI_v]; omega, by rw [if_pos hc, subN_v, natI_v, natI_v, hc, Nat.sub_self], .inl rfl, _, _, _, q1, by simp⟩
          · refine .inr ⟨b, 0 + l.v.toNat * s, len - l.v.toNat, hb, by rw [subN_v, natI_v, natI_v]; omega, by rw [if_neg hc, subN_v, natI_v, natI_v], .inr ?_, _, _, _, q1, ?_⟩
            · simp only [G.off, DP.off, natI_v, hba rfl]; omega
            · simp only [List.size_toArray, hsz]
              have e : l.v.toNat * s + (len - l.v.toNat) * s = len * s := by rw [← Nat.add_mul]; congr 1; omega
              omega
      · exact h.elim
    · exact h.elim
  · exact h.elim

theorem maxV_ok {P : Program} {g : G} {w : World} {x y d : DV} {vx vy : Value} {ts : Array TypeId} {ty : TypeId} (h : (maxV x y).Path d) (hx : Rep g w x vx) (hy : Rep g w y vy) :
    Gives P g w (Builtin.max_ ts ty #[vx, vy]) d := by
  unfold maxV at h
  split at h
  · rename_i k a k' b
    simp only [Rep] at hx hy
    subst hx hy
    obtain rfl : d = _ := h
    refine ⟨.int k (if a.v < b.v then b.v else a.v), by simp [Builtin.max_, Builtin.max2], ?_⟩
    cases a <;> cases b <;> rfl
  · exact h.elim
theorem minV_ok {P : Program} {g : G} {w : World} {x y d : DV} {vx vy : Value} {ts : Array TypeId} {ty : TypeId} (h : (minV x y).Path d) (hx : Rep g w x vx) (hy : Rep g w y vy) :
    Gives P g w (Builtin.min_ ts ty #[vx, vy]) d := by
  unfold minV at h
  split at h
  · rename_i k a k' b
    simp only [Rep] at hx hy
    subst hx hy
    obtain rfl : d = _ := h
    refine ⟨.int k (if b.v < a.v then b.v else a.v), by simp [Builtin.min_, Builtin.min2], ?_⟩
    cases a <;> cases b <;> rfl
  · exact h.elim
end Go.DE
