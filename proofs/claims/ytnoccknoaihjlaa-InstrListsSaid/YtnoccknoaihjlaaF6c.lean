import Derived.Test.YtnoccknoaihjlaaF6b
import Derived.Laws.BytesString
set_option linter.unusedVariables false
set_option linter.unusedSimpArgs false
set_option linter.unnecessarySimpa false
/- The engine, part 6c: parts of slices, arrays and strings; calls of functions that only read. -/
namespace Go.DF
universe u v
set_option linter.unusedSimpArgs false
set_option linter.unusedVariables false
variable [Fam]

omit [Fam] in
theorem dnI_v (n : DN) : (dnI n).v = n.v := by cases n <;> rfl
omit [Fam] in
theorem subN_v (a b : DN) : (subN a b).v = a.v - b.v := by
  unfold subN
  split <;> simp [DN.v]
omit [Fam] in
theorem cut3_ok {α : Type u} {l h : DI} {n : DN} {t : T α} {x : α} (hh : (cut3 l h n t).Path x) : (0 ≤ l.v ∧ l.v ≤ h.v ∧ h.v ≤ n.v) ∧ t.Path x := by
  unfold cut3 at hh
  split at hh
  · split at hh
    · rename_i h0 h1 h2
      exact ⟨⟨of_decide_eq_true h0, of_decide_eq_true h1, of_decide_eq_true h2⟩, hh⟩
    · exact hh.elim
  · exact hh

/-- A bound, as Go reads it. -/
structure Bnd (g : G) (w : World) (d : Option DV) (v : Option Value) : Prop where
  rep : ∀ e, d = some e → ∃ u, v = some u ∧ Rep g w e u
  none : d = none → v = none
theorem bnd_lo {g : G} {w : World} {d : Option DV} {v : Option Value} {l : DI} (h : Bnd g w d v) (hl : loI d = some l) : (v = none ∧ l.v = 0) ∨ ∃ k, v = some (.int k l.v) := by
  unfold loI at hl
  split at hl
  · obtain rfl := Option.some.inj hl
    exact .inl ⟨h.none rfl, rfl⟩
  · obtain rfl := Option.some.inj hl
    obtain ⟨u, rfl, r⟩ := h.rep _ rfl
    simp only [Rep] at r
    exact .inr ⟨_, by rw [r]⟩
  · simp at hl
theorem bnd_hi {g : G} {w : World} {d : Option DV} {v : Option Value} {n : DN} {l : DI} (h : Bnd g w d v) (hl : hiI n d = some l) : (v = none ∧ l.v = n.v) ∨ ∃ k, v = some (.int k l.v) := by
  unfold hiI at hl
  split at hl
  · obtain rfl := Option.some.inj hl
    exact .inl ⟨h.none rfl, dnI_v n⟩
  · obtain rfl := Option.some.inj hl
    obtain ⟨u, rfl, r⟩ := h.rep _ rfl
    simp only [Rep] at r
    exact .inr ⟨_, by rw [r]⟩
  · simp at hl
omit [Fam] in
theorem run_bounds {P : Program} {s : Bool} {len cap : Nat} {lo hi : Option Value} {l h : Int} (h1 : (lo = none ∧ l = 0) ∨ ∃ k, lo = some (.int k l)) (h2 : (hi = none ∧ h = len) ∨ ∃ k, hi = some (.int k h))
    (h0 : 0 ≤ l) (hlh : l ≤ h) (hc : h ≤ cap) (w : World) : (Instr.sliceBounds s len cap lo hi none).run P w = .ok (l.toNat, h.toNat, cap) w := by
  have hh : 0 ≤ h := by omega
  have hlh' : l ≤ (h.toNat : Int) := by omega
  rcases h1 with ⟨rfl, rfl⟩ | ⟨k, rfl⟩ <;> rcases h2 with ⟨rfl, rfl⟩ | ⟨k', rfl⟩ <;>
    simp_all [Instr.sliceBounds, Instr.sliceBound, asIntOf]

theorem sliceV_ok {P : Program} {g : G} {hp : Hp} {w : World} (hR : Rel g hp w) {t : TypeId} {x : DV} {vx : Value} {lo hi : Option DV} {vl vh : Option Value} {d : DV} (h : (sliceV P hp t x lo hi).Path d)
    (hx : Rep g w x vx) (hl : Bnd g w lo vl) (hh : Bnd g w hi vh) : Gives P g w (Instr.sliceAt t vx vl vh none) d := by
  unfold sliceV at h
  split at h <;> (try simp only [Rep] at hx)
  · rename_i s hu
    subst hx
    split at h
    · rename_i l hi' h1 h2
      obtain ⟨⟨k0, k1, k2⟩, h⟩ := cut3_ok h
      obtain rfl : d = _ := h
      have hn : (lenS s).v = s.v.size := by cases s <;> rfl
      have b1 := bnd_lo hl h1
      have b2 := bnd_hi hh h2
      rw [hn] at b2 k2
      refine ⟨.string (s.v.extract l.v.toNat hi'.v.toNat), ?_, ?_⟩
      · simp [Instr.sliceAt, Instr.slice, run_under hu, run_bounds b1 b2 k0 k1 k2]
      · cases l <;> cases hi' <;> cases s <;> simp [Rep, DI.v, DS.v]
    · exact h.elim
  · rename_i e p n hu
    split at h
    · rename_i l hi' s h1 h2 hs
      split at h
      · rename_i hsz
        have hsz := Nat.eq_of_beq_eq_true hsz
        obtain ⟨⟨k0, k1, k2⟩, h⟩ := cut3_ok h
        obtain rfl : d = _ := h
        have b1 := bnd_lo hl h1
        have b2 := bnd_hi hh h2
        rcases hx with ⟨rfl, hn⟩ | ⟨b, o, cap, hb, hcap, rfl, ho, cs, t', fr, k3, k4⟩
        · have e1 : l.v = 0 := by omega
          have e2 : hi'.v = 0 := by omega
          rw [e1] at b1 k0 k1
          rw [e2] at b2 k1
          rw [hn] at b2
          refine ⟨.slice none 0 0, ?_, ?_⟩
          · have := run_bounds (P := P) (s := true) (cap := 0) b1 b2 (by omega) (by omega) (by simp) w
            simp at this
            simp [Instr.sliceAt, Instr.slice, run_under hu, this, run_sizeD hs]
          · simp only [Rep]
            exact .inl ⟨trivial, by rw [subN_v, natI_v, natI_v, e2, e1]; rfl⟩
        · have hb2 : (vh = none ∧ hi'.v = (n.v : Int)) ∨ ∃ k, vh = some (.int k hi'.v) := b2
          have hrun := run_bounds (P := P) (s := true) (cap := cap) b1 hb2 k0 k1 (by omega) w
          refine ⟨.slice (some (if cap = l.v.toNat then ⟨b, o, none⟩ else ⟨b, o + l.v.toNat * s, none⟩)) (hi'.v.toNat - l.v.toNat) (cap - l.v.toNat), ?_, ?_⟩
          · simp only [Instr.sliceAt, Instr.slice, Sem.run_bind, run_under hu, Result.andThen_ok, hrun, run_sizeD hs, Sem.run_pure, Option.map_some, addr_add]
            split <;> rfl
          · simp only [Rep]
            have hl' : l.v.toNat ≤ cap := by omega
            by_cases hc : cap = l.v.toNat
            · refine .inr ⟨b, o, 0, hb, by rw [subN_v, natI_v, natI_v]; omega, by rw [if_pos hc, subN_v, natI_v, natI_v, hc, Nat.sub_self], .inl rfl, cs, t', fr, k3, by omega⟩
            · have ho' : o = g.off p := by rcases ho with ho | ho <;> omega
              refine .inr ⟨b, o + l.v.toNat * s, cap - l.v.toNat, hb, by rw [subN_v, natI_v, natI_v]; omega, by rw [if_neg hc, subN_v, natI_v, natI_v], .inr ?_, cs, t', fr, k3, ?_⟩
              · rw [ho']
                simp only [G.off, DP.off, addN_v, natI_v, hsz, Nat.add_mul]; omega
              · rw [← hsz, Nat.add_assoc, ← Nat.add_mul]
                have : l.v.toNat + (cap - l.v.toNat) = cap := by omega
                rw [this]; exact k4
      · exact h.elim
    · exact h.elim
  · rename_i e c l0 hu
    obtain ⟨l1, hl1⟩ : ∃ l1 : List c.D, l1 = l0 := ⟨l0, rfl⟩
    subst hl1
    obtain ⟨v', hv', hx⟩ := hx
    simp only [List.cons.injEq, and_true] at hv'
    subst hv'
    split at h
    · rename_i l hi' s h1 h2 hs
      split at h
      · rename_i hsz
        have hsz := Nat.eq_of_beq_eq_true hsz
        obtain ⟨⟨k0, k1, k2⟩, h⟩ := cut3_ok h
        obtain rfl : d = _ := h
        simp only [DN.v] at k2
        have b1 := bnd_lo hl h1
        have b2 := bnd_hi hh h2
        simp only [DN.v] at b2
        have hlen : (List.take (hi'.v.toNat - l.v.toNat) (List.drop l.v.toNat l1)).length = hi'.v.toNat - l.v.toNat := by
          skip
          rw [List.length_take, List.length_drop]; omega
        have hpart : partL l1 (natI l) (subN (natI hi') (natI l)) = List.take (hi'.v.toNat - l.v.toNat) (List.drop l.v.toNat l1) := by
          rw [partL_eq, subN_v, natI_v, natI_v]
        rcases hx with ⟨q0, rfl, hn⟩ | ⟨b, o, cap, cs, t', fr, rfl, k3, k4, k5, k6, k7⟩
        · have hn' : List.length l1 = 0 := by rw [hn]; rfl
          rw [hn'] at b2 k2
          have e1 : l.v = 0 := by omega
          have e2 : hi'.v = 0 := by omega
          rw [e1] at b1 k0 k1
          rw [e2] at b2 k1
          refine ⟨.slice q0 0 0, ?_, ?_⟩
          · have := run_bounds (P := P) (s := true) (cap := 0) b1 b2 (by omega) (by omega) (by simp) w
            simp at this
            simp [Instr.sliceAt, Instr.slice, run_under hu, this, run_sizeD hs]
          · simp only [Rep]
            exact ⟨_, rfl, .inl ⟨q0, rfl, by rw [hpart, e1, e2]; simp⟩⟩
        · have hb2 : (vh = none ∧ hi'.v = ((List.length l1 : Nat) : Int)) ∨ ∃ k, vh = some (.int k hi'.v) := b2
          have hrun := run_bounds (P := P) (s := true) (cap := cap) b1 hb2 k0 k1 (by omega) w
          refine ⟨.slice (some (if cap = l.v.toNat then ⟨b, o, none⟩ else ⟨b, o + l.v.toNat * s, none⟩)) (hi'.v.toNat - l.v.toNat) (cap - l.v.toNat), ?_, ?_⟩
          · simp only [Instr.sliceAt, Instr.slice, Sem.run_bind, run_under hu, Result.andThen_ok, hrun, run_sizeD hs, Sem.run_pure, Option.map_some, addr_add]
            split <;> rfl
          · simp only [Rep]
            rw [hpart]
            refine ⟨_, rfl, .inr ?_⟩
            by_cases hc : cap = l.v.toNat
            · rw [if_pos hc]
              refine ⟨b, o, cap - l.v.toNat, cs, t', fr, by rw [hlen], by rw [hlen]; omega, k4, k5, by rw [hc, Nat.sub_self]; omega, fun i a hi => ?_⟩
              have := lt_get hi
              rw [hlen] at this
              omega
            · rw [if_neg hc]
              refine ⟨b, o + l.v.toNat * s, cap - l.v.toNat, cs, t', fr, by rw [hlen], by rw [hlen]; omega, k4, k5, ?_, fun i a hi => ?_⟩
              · rw [← hsz, Nat.add_assoc, ← Nat.add_mul]
                have : l.v.toNat + (cap - l.v.toNat) = cap := by omega
                rw [this]; exact k6
              · have hlt := lt_get hi
                rw [hlen] at hlt
                rw [List.getElem?_take_of_lt hlt, List.getElem?_drop] at hi
                have := k7 _ a hi
                rw [← hsz, Nat.add_assoc, ← Nat.add_mul]
                exact this
      · exact h.elim
    · exact h.elim
  · rename_i len e p hu
    obtain ⟨b, hb, rfl⟩ := hx
    split at h
    · rename_i l hi' s j z t' cs h1 h2 hs hj hlk
      split at h
      · rename_i hz hle
        have hz := Nat.eq_of_beq_eq_true hz
        have hle := Nat.le_of_ble_eq_true hle
        obtain ⟨⟨k0, k1, k2⟩, h⟩ := cut3_ok h
        obtain rfl : d = _ := h
        obtain ⟨b', hb', ⟨hba, vs, q1, q2, _⟩, _⟩ := hR.there hlk (fun h => h)
        rw [hb] at hb'; obtain rfl := Option.some.inj hb'
        have ho : g.off p = 0 := by
          have : p.off = 0 := by simp only [DP.off, hj, DN.v]; exact hz
          simp only [G.off, this, hba]
        have b1 := bnd_lo hl h1
        have b2 := bnd_hi hh h2
        simp only [DN.v] at b2 k2
        have hrun := run_bounds (P := P) (s := false) (cap := len) b1 b2 k0 k1 k2 w
        refine ⟨.slice (some (if len = l.v.toNat then ⟨b, 0, none⟩ else ⟨b, 0 + l.v.toNat * s, none⟩)) (hi'.v.toNat - l.v.toNat) (len - l.v.toNat), ?_, ?_⟩
        · simp only [Instr.sliceAt, Sem.run_bind, run_under hu, Result.andThen_ok, hrun, run_sizeD hs, Sem.run_pure, Instr.sureAddr, ho, addr_add]
        · have hsz : vs.length = cs.length := q2.length
          simp only [Rep]
          by_cases hc : len = l.v.toNat
          · refine .inr ⟨b, 0, 0, hb, by rw [subN_v, natI_v, natI_v]; omega, by rw [if_pos hc, subN_v, natI_v, natI_v, hc, Nat.sub_self], .inl rfl, _, _, _, q1, by simp⟩
          · refine .inr ⟨b, 0 + l.v.toNat * s, len - l.v.toNat, hb, by rw [subN_v, natI_v, natI_v]; omega, by rw [if_neg hc, subN_v, natI_v, natI_v], .inr ?_, _, _, _, q1, ?_⟩
            · simp only [G.off, DP.off, natI_v, hba]; omega
            · simp only [List.size_toArray, hsz]
              have e : l.v.toNat * s + (len - l.v.toNat) * s = len * s := by rw [← Nat.add_mul]; congr 1; omega
              omega
      · exact h.elim
    · exact h.elim
  · exact h.elim

theorem maxV_ok {P : Program} {g : G} {w : World} {x y d : DV} {vx vy : Value} {ts : Array TypeId} {ty : TypeId} (h : (maxV x y).Path d) (hx : Rep g w x vx) (hy : Rep g w y vy) :
    Gives P g w (Builtin.max_ ts ty #[vx, vy]) d := by
  unfold maxV at h
  split at h
  · rename_i k a k' b
    simp only [Rep] at hx hy
    subst hx hy
    obtain rfl : d = _ := h
    refine ⟨.int k (if a.v < b.v then b.v else a.v), by simp [Builtin.max_, Builtin.max2], ?_⟩
    cases a <;> cases b <;> rfl
  · exact h.elim
theorem minV_ok {P : Program} {g : G} {w : World} {x y d : DV} {vx vy : Value} {ts : Array TypeId} {ty : TypeId} (h : (minV x y).Path d) (hx : Rep g w x vx) (hy : Rep g w y vy) :
    Gives P g w (Builtin.min_ ts ty #[vx, vy]) d := by
  unfold minV at h
  split at h
  · rename_i k a k' b
    simp only [Rep] at hx hy
    subst hx hy
    obtain rfl : d = _ := h
    refine ⟨.int k (if b.v < a.v then b.v else a.v), by simp [Builtin.min_, Builtin.min2], ?_⟩
    cases a <;> cases b <;> rfl
  · exact h.elim


/-! ### bytes and strings -/
omit [Fam] in
theorem bytesS_foldl (l : List Int) : l.foldl (fun (r : ByteArray) n => r.push (UInt8.ofNat n.toNat)) ByteArray.empty = bytesS l := by
  have key : ∀ (l : List Int) (s : ByteArray), l.foldl (fun (r : ByteArray) n => r.push (UInt8.ofNat n.toNat)) s = ⟨s.data ++ (l.map fun n => UInt8.ofNat n.toNat).toArray⟩ := by
    intro l
    induction l with
    | nil => intro s; simp
    | cons x l ih =>
      intro s
      rw [List.foldl_cons, ih]
      congr 1
      apply Array.toList_inj.1
      simp [ByteArray.push]
  rw [key]
  simp [bytesS, ByteArray.empty, ByteArray.emptyWithCapacity]
  rfl
theorem elems_ints {w : World} {S : Nat → Prop} {k : IntKind} {vs : List Value} {o : Nat} {l : List Int} (h : Elems w S (.int k) vs o l) : (vs.drop o).take l.length = l.map (Value.int k) := by
  apply List.ext_getElem?
  intro i
  rw [List.getElem?_take, List.getElem?_map]
  split
  · rename_i hi
    have h1 := h i l[i] (List.getElem?_eq_getElem hi)
    have h1 : (vs.drop (o + i * 1)).take 1 = [Value.int k l[i]] := h1
    rw [List.getElem?_eq_getElem hi, List.getElem?_drop]
    have : ((vs.drop (o + i * 1)).take 1)[0]? = some (Value.int k l[i]) := by rw [h1]; rfl
    rw [List.getElem?_take_of_lt (by omega), List.getElem?_drop] at this
    simpa using this
  · rename_i hi
    rw [List.getElem?_eq_none (by omega)]; rfl
theorem Elems.part {w : World} {S : Nat → Prop} {c : CT} {vs : List Value} {o : Nat} {l : List c.D} (h : Elems w S c vs o l) (i n : Nat) : Elems w S c vs (o + i * c.size) ((l.drop i).take n) := by
  intro j a hj
  have hlt := lt_get hj
  simp only [List.length_take, List.length_drop] at hlt
  rw [List.getElem?_take_of_lt (by omega), List.getElem?_drop] at hj
  have := h _ a hj
  rw [Nat.add_assoc, ← Nat.add_mul]
  exact this
theorem bytesT_ok {P : Program} {g : G} {hp : Hp} {w : World} (hR : Rel g hp w) {s t : TypeId} {x : DV} {vx : Value} {d : DV} (h : (bytesT P hp s t x).Path d) (hx : Rep g w x vx) : Gives P g w (convert s t vx) d := by
  unfold bytesT at h
  split at h
  · rename_i e hs ht
    split at h
    · rename_i he hsz
      have fin : ∀ (a : Option Addr) (n c : Nat) (b : ByteArray), vx = .slice a n c → (Conv.bytesToString (.slice a n c)).run P w = .ok (.string b) w → (convert s t vx).run P w = .ok (.string b) w := by
        intro a n c b e1 e2
        subst e1
        rw [run_convert_bytes_string w s t e a n c hs he ht]; exact e2
      have cells : ∀ (b o cap : Nat) (vs : List Value) (t' : TypeId) (fr : Nat × Nat) (l : List Int) (n : Nat), l.length = n → w.heap[b]? = some (.cells vs.toArray t' fr) → o + n ≤ vs.length → Elems w g.pr (.int .u8) vs o l →
          (Conv.bytesToString (.slice (some ⟨b, o, none⟩) n cap)).run P w = .ok (.string (bytesS l)) w := by
        intro b o cap vs t' fr l n hn hb hle hel
        subst hn
        have e1 := elems_ints hel
        rw [run_bytesToString w _ _ cap l (by rw [← e1]; exact run_loadCells_at hb rfl (by simp; omega)), bytesS_foldl]
      split at h
      · obtain rfl : d = _ := h
        simp only [Rep] at hx
        exact ⟨.string ByteArray.empty, fin _ _ _ _ hx rfl, by simp [Rep, DS.v]⟩
      · rename_i l
        obtain rfl : d = _ := h
        simp only [Rep] at hx
        obtain ⟨v', hv', hx⟩ := hx
        simp only [List.cons.injEq, and_true] at hv'
        subst hv'
        rcases hx with ⟨q0, hv, rfl⟩ | ⟨b, o, cap, cs, t', fr, hv, k1, k2, k3, k4, k5⟩
        · exact ⟨.string (bytesS []), fin _ _ _ _ hv (by cases q0 <;> rfl), by simp only [Rep, DS.v]; rfl⟩
        · refine ⟨.string (bytesS l), fin _ _ _ _ hv (cells b o cap cs t' fr l _ rfl k3 ?_ k5), by simp [Rep, DS.v]⟩
          have k4 : o + cap * 1 ≤ cs.length := k4
          have k1 : List.length l ≤ cap := k1
          omega
      · rename_i p n
        split at h
        · rename_i z t0 l hsz' hfld hl
          obtain ⟨l1, hl1⟩ : ∃ l1 : List Int, l1 = l := ⟨l, rfl⟩
          subst hl1
          obtain ⟨hle, h⟩ := h
          have hle : p.idx.v + n.v ≤ List.length (α := Int) l1 := hle
          obtain rfl : d = _ := h
          have hsz' := Nat.eq_of_beq_eq_true hsz'
          have hfld := Nat.eq_of_beq_eq_true hfld
          simp only [Rep] at hx
          rcases hx with ⟨rfl, hn⟩ | ⟨b, o, cap, hb, hcap, rfl, ho, cs', t', fr', k1, k2⟩
          · refine ⟨.string ByteArray.empty, fin _ _ _ _ rfl rfl, ?_⟩
            have e : partL l1 p.idx n = [] := by rw [partL_eq, hn]; rfl
            simp only [Rep, DS.v]
            show Value.string ByteArray.empty = Value.string (bytesS (partL l1 p.idx n))
            rw [e]; rfl
          · obtain ⟨⟨us, k3, _, _, k4⟩, _⟩ := hR.at hl hb
            have e := k1.symm.trans k3
            simp only [Option.some.injEq, Obj.cells.injEq] at e
            obtain ⟨rfl, rfl, rfl⟩ := e
            have hpl : (partL l1 p.idx n).length = n.v := by
              rw [partL_eq, List.length_take, List.length_drop]
              omega
            refine ⟨_, fin _ _ _ _ rfl (cells b o cap us t' _ (partL l1 p.idx n) n.v hpl k3 (by simp only [List.size_toArray, hsz'] at k2; omega) ?_), by simp [Rep, DS.v]⟩
            have k5 := k4.part p.idx.v n.v
            rw [partL_eq]
            have e1 : (CT.int .u8).size = 1 := rfl
            rw [e1] at k5
            by_cases hc : cap = 0
            · have : n.v = 0 := by omega
              intro i a hi; have h0 : i < (List.take (α := Int) n.v (List.drop p.idx.v l1)).length := lt_get (α := Int) hi
              rw [List.length_take] at h0; omega
            · have : o = g.off p := by rcases ho with h | h; exact absurd h hc; exact h
              rw [this]
              have e2 : g.off p = g.base p.id + p.idx.v * 1 := by simp only [G.off, DP.off, hsz', hfld]; omega
              rw [e2]; exact k5
        · exact h.elim
      · exact h.elim
    · exact h.elim
  · exact h.elim

/-! ### data as arguments -/
theorem size1 {w : World} {S : Nat → Prop} {c : CT} {a : c.D} {v : Value} (h : Rp w S c a [v]) : vOf false (Rp w S c a) v := h
theorem codCL_ok {g : G} {hp : Hp} {w : World} (hR : Rel g hp w) : ∀ (cs : List CT) (ds : List DV) (x : CLD cs) (ps : List Prop) (vs : List Value), codCL hp cs ds = some (x, ps) → (∀ p ∈ ps, p) → RepL g w ds vs → RepL g w (encCL cs x) vs
  | [], [], x, ps, vs, h, _, r => by simp only [RepL] at r; subst r; exact RepL.nil
  | [], _ :: _, x, ps, vs, h, _, _ => by simp [codCL] at h
  | _ :: _, [], x, ps, vs, h, _, _ => by simp [codCL] at h
  | c :: cs, d :: ds, x, ps, vs, h, hps, r => by
    simp only [codCL] at h
    split at h
    · rename_i a qs y rs h1 h2 h3
      have h := Option.some.inj h
      cases h
      simp only [RepL] at r
      obtain ⟨v, us, rfl, r1, r2⟩ := r
      refine RepL.cons (Rp.toV (agg := false) (cod_ok hR _ _ _ _ _ _ h2 (fun p hp => hps p (by simp [hp])) (RepL.cons r1 RepL.nil))) (codCL_ok hR cs ds y rs us h3 (fun p hp => hps p (by simp [hp])) r2)
    · simp at h
theorem AS.cod_ok {g : G} {hp : Hp} {w : World} (hR : Rel g hp w) {a : AS} {d : DV} {x : a.D} {ps : List Prop} {v : Value} (h : a.cod hp d = some (x, ps)) (hps : ∀ p ∈ ps, p) (r : Rep g w d v) : Rep g w (a.enc x) v := by
  cases a with
  | dat agg c =>
    cases agg with
    | true =>
      cases d with
      | agg cs =>
        have h : DF.cod hp fuelC c cs = some (x, ps) := h
        simp only [Rep] at r
        obtain ⟨vs, rfl, r, _⟩ := r
        exact Rp.toV (agg := true) ⟨vs, rfl, DF.cod_ok hR _ _ _ _ _ _ h hps r⟩
      | _ => exact absurd (show (none : Option (c.D × List Prop)) = some (x, ps) from h) (by simp)
    | false =>
      have h : (match Nat.beq c.size 1 with | true => DF.cod hp fuelC c [d] | false => none) = some (x, ps) := by cases d <;> exact h
      split at h
      · exact Rp.toV (agg := false) (DF.cod_ok hR _ _ _ _ _ _ h hps (RepL.cons r RepL.nil))
      · simp at h
  | fn f cap =>
    cases d with
    | func f' ds =>
      have h : (match Nat.beq f' f with | true => codCL hp cap ds | false => none) = some (x, ps) := h
      split at h
      · rename_i hf
        simp only [Rep] at r
        obtain ⟨vs, rfl, r⟩ := r
        simp only [AS.enc, Rep]
        exact ⟨vs, by rw [Nat.eq_of_beq_eq_true hf], codCL_ok hR cap ds x ps vs h hps r⟩
      · simp at h
    | _ => exact absurd (show (none : Option (CLD cap × List Prop)) = some (x, ps) from h) (by simp)
theorem codAL_ok {g : G} {hp : Hp} {w : World} (hR : Rel g hp w) : ∀ (s : List AS) (ds : List DV) (x : ALD s) (ps : List Prop) (vs : List Value), codAL hp s ds = some (x, ps) → (∀ p ∈ ps, p) → RepL g w ds vs → RepL g w (encAL s x) vs
  | [], [], x, ps, vs, h, _, r => by simp only [RepL] at r; subst r; exact RepL.nil
  | [], _ :: _, x, ps, vs, h, _, _ => by simp [codAL] at h
  | _ :: _, [], x, ps, vs, h, _, _ => by simp [codAL] at h
  | a :: s, d :: ds, x, ps, vs, h, hps, r => by
    simp only [codAL] at h
    split at h
    · rename_i y qs z rs h1 h2
      have h := Option.some.inj h
      cases h
      simp only [RepL] at r
      obtain ⟨v, us, rfl, r1, r2⟩ := r
      exact RepL.cons (AS.cod_ok hR h1 (fun p hp => hps p (by simp [hp])) r1) (codAL_ok hR s ds z rs us h2 (fun p hp => hps p (by simp [hp])) r2)
    · simp at h

/-! ### memory, lent -/
theorem lend_look : ∀ (hp : Hp) (i : Nat), look (lend hp) i = match look hp i with | some (z, o) => (if isRows o = true then some (z, o) else some (true, o)) | none => none
  | [], i => rfl
  | (j, (z, o)) :: r, i => by
    have ih := lend_look r i
    unfold lend
    cases hr : isRows o with
    | true =>
      simp only [look]
      cases Nat.beq j i with
      | true => simp [hr]
      | false => exact ih
    | false =>
      simp only [look]
      cases Nat.beq j i with
      | true => simp [hr]
      | false => exact ih
def lentG (g : G) (hp : Hp) : G := ⟨g.ρ, fun b => g.pr b ∨ ∃ i o, look hp i = some (false, o) ∧ isRows o = false ∧ g.ρ i = some b, g.base, g.sub⟩
theorem ext_lent (g : G) (hp : Hp) (w : World) : Ext g w (lentG g hp) w := ⟨fun _ _ h => h, fun _ h => .inl h, fun _ _ => rfl, fun _ _ _ => rfl, fun _ cs _ _ h => ⟨cs, h, rfl⟩⟩
omit [Fam] in
theorem Ext.fz {g g' : G} {w : World} (h1 : g'.ρ = g.ρ) (h2 : g'.base = g.base) (h3 : ∀ b, g.pr b → g'.pr b) : Ext g w g' w :=
  ⟨fun i b h => by rw [h1]; exact h, h3, fun _ _ => rfl, fun i b _ => by rw [h2], fun _ cs _ _ h => ⟨cs, h, rfl⟩⟩
theorem Rel.lend {g : G} {hp : Hp} {w : World} (h : Rel g hp w) : Rel (lentG g hp) (lend hp) w := by
  have get : ∀ {i z o}, look (DF.lend hp) i = some (z, o) → ∃ z', look hp i = some (z', o) ∧ (isRows o = true → z = z') ∧ (isRows o = false → z = true) := by
    intro i z o hi
    rw [lend_look] at hi
    cases hl : look hp i with
    | none => rw [hl] at hi; simp at hi
    | some zo =>
      obtain ⟨z', o'⟩ := zo
      rw [hl] at hi
      dsimp only at hi
      split at hi
      · rename_i hr
        simp only [Option.some.injEq, Prod.mk.injEq] at hi
        obtain ⟨rfl, rfl⟩ := hi
        exact ⟨_, rfl, fun _ => rfl, fun h => by rw [hr] at h; simp at h⟩
      · rename_i hr
        simp only [Option.some.injEq, Prod.mk.injEq] at hi
        obtain ⟨rfl, rfl⟩ := hi
        exact ⟨_, rfl, fun h => absurd h hr, fun _ => rfl⟩
  refine ⟨fun i z o hi => ?_, fun i z o hi hr => ?_, fun i j oi oj b hi hj hbi hbj => ?_, fun i z o k b hi hk hb => ?_, fun b hb => ?_⟩
  · obtain ⟨z', hl, h1, h2⟩ := get hi
    rcases h.obj i z' o hl with ⟨b, k1, k2, k3⟩ | ⟨k1, k2⟩
    · refine .inl ⟨b, k1, ORep.ext (ext_lent g hp w) rfl (fun k _ => ⟨rfl, fun _ _ => rfl⟩) k2, ?_⟩
      cases hr : isRows o with
      | true =>
        have e := h1 hr
        subst e
        have hz := h.rws i _ o hl hr
        subst hz
        refine ⟨?_, by simp⟩
        rintro (hb | ⟨i', o', hl', hr', hb'⟩)
        · exact k3.1 hb
        · have := h.inj i i' o o' b hl hl' k1 hb'
          subst this
          rw [hl] at hl'
          simp only [Option.some.injEq, Prod.mk.injEq, true_and] at hl'
          rw [hl'] at hr; rw [hr] at hr'; simp at hr'
      | false =>
        refine ⟨fun _ => h2 hr, fun _ => ?_⟩
        cases z' with
        | true => exact .inl (k3.2 rfl)
        | false => exact .inr ⟨i, o, hl, hr, k1⟩
    · exact .inr ⟨k1, k2⟩
  · obtain ⟨z', hl, h1, h2⟩ := get hi
    rw [h1 hr]; exact h.rws i z' o hl hr
  · obtain ⟨zi, hl, h1, h2⟩ := get hi
    obtain ⟨zj, hl', h1', h2'⟩ := get hj
    have ri : isRows oi = true := by cases hr : isRows oi with | true => rfl | false => have := h2 hr; simp at this
    have rj : isRows oj = true := by cases hr : isRows oj with | true => rfl | false => have := h2' hr; simp at this
    obtain rfl := h1 ri
    obtain rfl := h1' rj
    exact h.inj i j oi oj b hl hl' hbi hbj
  · obtain ⟨z', hl, h1, h2⟩ := get hi
    obtain ⟨k1, k2, k3, k4⟩ := h.sub i z' o k b hl hk hb
    refine ⟨k1, ?_, fun j oj hj => ?_, fun j z2 oj k' hj hk' hb' => ?_⟩
    · rintro (hb' | ⟨i', o', hl', hr', hb'⟩)
      · exact k2 hb'
      · exact k3 i' o' hl' hb'
    · obtain ⟨zj, hl', h1', h2'⟩ := get hj
      have rj : isRows oj = true := by cases hr : isRows oj with | true => rfl | false => have := h2' hr; simp at this
      obtain rfl := h1' rj
      exact k3 j oj hl'
    · obtain ⟨zj, hl', _, _⟩ := get hj
      exact k4 j zj oj k' hl' hk' hb'
  · rcases hb with hb | ⟨i, o, hl, hr, hb⟩
    · exact h.prl b hb
    · exact (h.at hl hb).1.lt

mutual
theorem flat_rep {g g' : G} {w w' : World} : ∀ (d : DV) (v : Value), idf d = true → noPer d = true → Rep g w d v → Rep g' w' d v
  | .bool _, _, _, _, r => by simpa only [Rep] using r
  | .int _ _, _, _, _, r => by simpa only [Rep] using r
  | .str _, _, _, _, r => by simpa only [Rep] using r
  | .ptr _, _, h, _, _ => by simp [idf] at h
  | .nilptr, _, _, _, r => by simpa only [Rep] using r
  | .slice _ _, _, h, _, _ => by simp [idf] at h
  | .nilslice, _, _, _, r => by simpa only [Rep] using r
  | .map _, _, h, _, _ => by simp [idf] at h
  | .nilmap, _, _, _, r => by simpa only [Rep] using r
  | .func f c, _, h, k, r => by
    simp only [Rep] at r ⊢
    obtain ⟨vs, h1, h2⟩ := r
    exact ⟨vs, h1, flatL_rep c vs (by simpa [idf] using h) (by simpa [noPer] using k) h2⟩
  | .nilfunc, _, _, _, r => by simpa only [Rep] using r
  | .nilif, _, _, _, r => by simpa only [Rep] using r
  | .agg c, _, h, k, r => by
    simp only [Rep] at r ⊢
    obtain ⟨vs, h1, h2, h3⟩ := r
    exact ⟨vs, h1, flatL_rep c vs (by simpa [idf] using h) (by simpa [noPer] using k) h2, h3⟩
  | .tup c, _, h, k, r => by
    simp only [Rep] at r ⊢
    obtain ⟨vs, h1, h2⟩ := r
    exact ⟨vs, h1, flatL_rep c vs (by simpa [idf] using h) (by simpa [noPer] using k) h2⟩
  | .per _ _, _, _, k, _ => by simp [noPer] at k
  | .pel _ _ _, _, _, k, _ => by simp [noPer] at k
  | .any, _, _, _, _ => by simp only [Rep]
theorem flatL_rep {g g' : G} {w w' : World} : ∀ (ds : List DV) (vs : List Value), idfL ds = true → noPerL ds = true → RepL g w ds vs → RepL g' w' ds vs
  | [], _, _, _, r => by simpa only [RepL] using r
  | d :: ds, vs, h, k, r => by
    simp only [RepL] at r ⊢
    obtain ⟨v, us, rfl, r1, r2⟩ := r
    have h' : idf d = true ∧ idfL ds = true := by
      cases hd : idf d <;> simp [idfL, hd] at h ⊢; exact h
    have k' : noPer d = true ∧ noPerL ds = true := by
      cases hd : noPer d <;> simp [noPerL, hd] at k ⊢; exact k
    exact ⟨v, us, rfl, flat_rep d v h'.1 k'.1 r1, flatL_rep ds us h'.2 k'.2 r2⟩
end
end Go.DF
