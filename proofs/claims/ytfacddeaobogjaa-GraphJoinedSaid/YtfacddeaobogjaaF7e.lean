import Derived.Test.YtfacddeaobogjaaF7d
set_option linter.unusedVariables false
set_option linter.unusedSimpArgs false
set_option linter.unnecessarySimpa false
/- The engine, part 7e: what is stored, made, built, inserted. -/
namespace Go.DF
universe u v
set_option linter.unusedSimpArgs false
set_option linter.unusedVariables false
variable [Fam]

theorem fillD_len {place : Nat → Option (Nat × Nat)} : ∀ (ps : List (Nat × DV)) (cs out : List DV), fillD place cs ps = some out → out.length = cs.length
  | [], cs, out, h => by simp only [fillD, Option.some.injEq] at h; rw [h]
  | (i, v) :: r, cs, out, h => by
    unfold fillD at h
    split at h
    · rename_i off size vs hp hv
      split at h
      · rename_i h1 h2
        have h1 := Nat.eq_of_beq_eq_true h1
        have h2 := Nat.le_of_ble_eq_true h2
        rw [fillD_len r _ _ h]
        simp [setRange]; omega
      · simp at h
    · simp at h
theorem repL_range {g : G} {w : World} {f : Nat → DV} {f' : Nat → Value} : ∀ (l : List Nat), (∀ j ∈ l, Rep g w (f j) (f' j)) → RepL g w (l.map f) (l.map f')
  | [], _ => RepL.nil
  | j :: l, h => RepL.cons (h j (by simp)) (repL_range l (fun i hi => h i (by simp [hi])))
theorem buildSl_ok {P : Program} {g : G} {w : World} {t : TypeId} {len : Nat} {ps : List (Nat × DV)} {qs : Array (Nat × Value)} {e : TypeId} {s : Nat} {cs : List DV} (h : buildSlD P t len ps = some (e, s, cs))
    (hl : ps.length = qs.size) (hq : ∀ (k i : Nat) (d : DV), ps[k]? = some (i, d) → ∃ v, qs.toList[k]? = some (i, v) ∧ Rep g w d v) :
    ∃ os : List Value, (Instr.buildSlice t len qs).run P w = .ok (.slice (some ⟨w.heap.size, 0, none⟩) len len) (w.alloc (.cells os.toArray e)) ∧ RepL g w cs os ∧ (∀ u ∈ os, oneC u = true) ∧ os.length = len * s := by
  unfold buildSlD at h
  split at h
  · rename_i e' hu
    split at h
    · rename_i s' z hs hz
      split at h
      · rename_i cs' hle hzl hf
        simp only [Option.some.injEq, Prod.mk.injEq] at h
        obtain ⟨rfl, rfl, rfl⟩ := h
        have hle := Nat.le_of_ble_eq_true hle
        have hzl := Nat.eq_of_beq_eq_true hzl
        obtain ⟨zv, z1, z2, z3⟩ := zeroD_ok hz
        have hzv : zv.cells.size = s' := by
          have := (z2 g w).length
          rw [hzl] at this; simpa using this
        let us : List Value := (List.range (len * s')).map fun j => zv.cells[j % zv.cells.size]!
        have hr0 : ∀ j ∈ List.range (len * s'), Rep g w (z.getD (j % z.length) .any) (zv.cells[j % zv.cells.size]!) := by
          intro j hj
          have hj : j < len * s' := by simpa using hj
          have hs0 : 0 < s' := by
            rcases Nat.eq_zero_or_pos s' with h0 | h0
            · rw [h0] at hj; simp at hj
            · exact h0
          have hm : j % s' < s' := Nat.mod_lt _ hs0
          rw [hzl, hzv]
          have hzi : z[j % s']? = some (z.getD (j % s') .any) := by
            rw [List.getD_eq_getElem?_getD, List.getElem?_eq_getElem (by omega)]; rfl
          obtain ⟨v, hv, rv⟩ := (z2 g w).get hzi
          have : zv.cells[j % s']! = v := by
            rw [Array.getElem?_toList] at hv
            rw [getElem!_def, hv]
          rw [this]; exact rv
        have hr := repL_range (g := g) (w := w) (List.range (len * s')) hr0
        have h1 : ∀ u ∈ us, oneC u = true := by
          intro u hu
          obtain ⟨j, hj, rfl⟩ := List.mem_map.1 hu
          have hj : j < len * s' := by simpa using hj
          have hs0 : 0 < s' := by
            rcases Nat.eq_zero_or_pos s' with h0 | h0
            · rw [h0] at hj; simp at hj
            · exact h0
          have hm : j % zv.cells.size < zv.cells.size := by rw [hzv]; exact Nat.mod_lt _ hs0
          have : zv.cells[j % zv.cells.size]! ∈ zv.cells.toList := by
            rw [getElem!_def, Array.getElem?_eq_getElem hm]
            exact Array.getElem_mem_toList hm
          exact z3 _ this
        obtain ⟨os, f1, f2, f3⟩ := fill_ok (P := P) ps qs.toList _ _ us hf hr h1 (by simpa using hl) hq
        refine ⟨os, ?_, f2, f3, ?_⟩
        · have harr : ((Array.range (len * s')).map fun j => zv.cells[j % zv.cells.size]!) = us.toArray := by
            apply Array.toList_inj.1; simp [us]
          have hnew : (newRow e' os.toArray).run P w = .ok ⟨w.heap.size, 0, none⟩ (w.alloc (.cells os.toArray e')) := by simp [newRow]
          have harr0 : ((Array.range 0).map fun j => (#[] : Array Value)[j % (#[] : Array Value).size]!) = #[] := by simp
          by_cases h0 : len * s' = 0
          · have hus : us = [] := by simp [us, h0]
            have hf1 : Instr.fill (fun i => some (i * s', s')) #[] qs.toList = some os.toArray := by rw [hus] at f1; exact f1
            have hgt : ¬ (len * s' > 2 ^ 24) := by omega
            simp only [Instr.buildSlice, Sem.run_bind, run_under hu, Result.andThen_ok, run_sizeD hs, if_neg hgt, if_pos h0, Sem.run_pure]
            rw [h0]
            simp only [harr0, hf1, Sem.run_bind, hnew, Result.andThen_ok, Sem.run_pure]
          · have hgt : ¬ (len * s' > 2 ^ 24) := by omega
            simp only [Instr.buildSlice, Sem.run_bind, run_under hu, Result.andThen_ok, run_sizeD hs, if_neg hgt, if_neg h0, z1, Sem.run_pure, harr, f1, hnew]
        · rw [f2.length, fillD_len _ _ _ hf]; simp
      · simp at h
    · simp at h
  · simp at h

omit [Fam] in
theorem setAt_map {α β : Type u} (f : α → β) : ∀ (l : List α) (i : Nat) (x : α), (setAt l i x).map f = (l.map f).set i (f x)
  | [], _, _ => rfl
  | _ :: _, 0, _ => rfl
  | a :: l, i + 1, x => by simp [setAt, setAt_map f l i x]

theorem RepL.set {g : G} {w : World} : ∀ {ds : List DV} {vs : List Value} (i : Nat) {d : DV} {v : Value}, RepL g w ds vs → Rep g w d v → RepL g w (ds.set i d) (vs.set i v)
  | [], vs, i, d, v, h, _ => by simp only [RepL] at h; subst h; simp [RepL]
  | e :: ds, vs, 0, d, v, h, r => by
    simp only [RepL] at h
    obtain ⟨u, us, rfl, _, h3⟩ := h
    exact RepL.cons r h3
  | e :: ds, vs, i + 1, d, v, h, r => by
    simp only [RepL] at h
    obtain ⟨u, us, rfl, h2, h3⟩ := h
    exact RepL.cons h2 (RepL.set i h3 r)

omit [Fam] in
theorem sameBits_of_sameNow {d : TypeDesc} {a b : Value} (h : Instr.sameNow d a b = some true) (n : Nat) : Instr.sameBits n b a = true := by
  unfold Instr.sameNow at h
  split at h
  · split at h
    · rename_i hk
      simp only [Option.some.injEq, beq_iff_eq] at h
      subst hk h
      unfold Instr.sameBits; simp
    · simp at h
  · simp only [Option.some.injEq, beq_toListBytes, beq_iff_eq] at h
    unfold Instr.sameBits
    rw [beq_toListBytes, h]
    simp
  · simp only [Option.some.injEq, beq_iff_eq] at h
    subst h
    unfold Instr.sameBits; simp
  · simp at h


section
variable {P : Program} {g : G} {hp : Hp} {w : World} {nx : Nat}

theorem repL_one {d : DV} {vs : List Value} (h : RepL g w [d] vs) : ∃ v, vs = [v] ∧ Rep g w d v := by
  simp only [RepL] at h
  obtain ⟨v, us, rfl, h, rfl⟩ := h
  exact ⟨v, rfl, h⟩

omit [Fam] in
theorem upd_row {b : Nat} {us : List Value} {t : TypeId} {fr : Nat × Nat} (k1 : w.heap[b]? = some (.cells us.toArray t fr)) {cs : List Value} (hl : cs.length = us.length) : Upd b w (w.setRow b cs.toArray) :=
  upd_setRow w b _ (fun c0 t0 fr0 h0 => by
    rw [k1] at h0
    simp only [Option.some.injEq, Obj.cells.injEq] at h0
    obtain ⟨rfl, _⟩ := h0
    simpa using hl)

theorem storeN_ok (hR : Rel g hp w) {p : DP} {new : List DV} {hp' : Hp} (hs : (storeN hp p new).Path hp') {vs : List Value} (hv : RepL g w new vs) (h1 : ∀ u ∈ vs, oneC u = true) :
    ∃ b w' g', g.ρ p.id = some b ∧ (storeCells ⟨b, g.off p, none⟩ vs).run P w = .ok () w' ∧ Post g w hp nx g' w' hp' nx := by
  have hlen := hv.length
  unfold storeN at hs
  split at hs
  · rename_i t cs hl
    obtain ⟨b, hb, ⟨hba, us, k1, k2, k3⟩, _⟩ := hR.there hl (fun h => h)
    have hgo : g.off p = p.off := by simp only [G.off, hba, Nat.zero_add]
    rw [hgo]
    split at hs
    · rename_i i hi
      split at hs
      · rename_i hle
        obtain rfl : hp' = _ := hs
        have hoff : p.off = i * p.sz + p.fld := by simp [DP.off, hi, DN.v]
        have hle := Nat.le_of_ble_eq_true hle
        rw [← hoff] at hle ⊢
        have hus := k2.length
        have hle' : p.off + vs.length ≤ us.length := by rw [hus, hlen]; exact hle
        have hst := run_storeCells_at (P := P) b p.off t vs 0 us.toArray w k1 (by simpa using hle') (fun v hv => oneC_cell (h1 v hv))
        refine ⟨b, w.setRow b (us.take p.off ++ vs ++ us.drop (p.off + vs.length)).toArray, g, hb, by simpa using hst, ?_⟩
        refine Post.write hR (upd_row k1 (by simp; omega)) hl rfl hb (fun e => ⟨hba, _, setRow_heap w b _ _ _ _ k1, RepL.ext e _ _ (setRange_rep p.off k2 hv), setRange_one k3 h1⟩)
      · exact hs.elim
    · exact hs.elim
  · rename_i t c l hl
    split at hs
    · rename_i hsz hle
      have hsz := Nat.eq_of_beq_eq_true hsz
      have hle := Nat.le_of_ble_eq_true hle
      split at hs
      · rename_i a' ps hcod
        obtain ⟨hlt, hs⟩ := hs
        obtain ⟨hps, hs⟩ := T.path_obs hs
        obtain rfl : hp' = _ := hs
        obtain ⟨b, hb, ⟨us, k1, k3, k4, k2⟩, _⟩ := hR.there hl (fun h => by subst h; simp at hlt)
        have r0 := k2 _ _ (getD_get hlt c.dflt)
        have hl0 := r0.len
        simp only [List.length_take, List.length_drop] at hl0
        have hpos := c.pos
        have hoff : g.off p = g.base p.id + p.idx.v * c.size + p.fld := by simp [G.off, DP.off, hsz, Nat.add_assoc]
        have hle' : g.off p + vs.length ≤ us.length := by rw [hoff, hlen]; omega
        have hst := run_storeCells_at (P := P) b (g.off p) t vs 0 us.toArray w k1 (by simpa using hle') (fun v hv => oneC_cell (h1 v hv))
        refine ⟨b, w.setRow b (us.take (g.off p) ++ vs ++ us.drop (g.off p + vs.length)).toArray, g, hb, by simpa using hst, ?_⟩
        refine Post.write hR (upd_row k1 (by simp; omega)) hl rfl hb (fun e => ⟨_, setRow_heap w b _ _ _ _ k1, setRange_one k3 h1, ?_, ?_⟩)
        · rw [List.length_set]; simp only [List.length_append, List.length_take, List.length_drop]; omega
        · intro i x hx
          by_cases hi : i = p.idx.v
          · subst hi
            rw [List.getElem?_set_self (by simpa using hlt)] at hx
            obtain rfl := Option.some.inj hx
            have r := setRange_rep p.fld r0.enc hv
            have rc := cod_ok hR _ _ _ _ _ _ hcod hps r
            have heq : (List.take c.size (List.drop (g.base p.id + p.idx.v * c.size) (us.take (g.off p) ++ vs ++ us.drop (g.off p + vs.length)))) =
                ((us.drop (g.base p.id + p.idx.v * c.size)).take c.size).take p.fld ++ vs ++ ((us.drop (g.base p.id + p.idx.v * c.size)).take c.size).drop (p.fld + vs.length) := by
              apply List.ext_getElem?
              intro k
              rw [seg_get, setRange_get hle', setRange_get (by simp only [List.length_take, List.length_drop]; omega), seg_get, hoff]
              by_cases hk : k < c.size
              · rw [if_pos hk, if_pos hk]
                by_cases h1 : k < p.fld
                · rw [if_pos (by omega), if_pos h1]
                · rw [if_neg (by omega), if_neg h1]
                  by_cases h2 : k < p.fld + vs.length
                  · rw [if_pos (by omega), if_pos h2]; congr 1; omega
                  · rw [if_neg (by omega), if_neg h2]
              · rw [if_neg hk, if_neg (by omega), if_neg (by omega), if_neg hk]
            rw [heq]
            exact Rp.mono e.pr e.at' _ _ _ rc
          · rw [List.getElem?_set_ne (fun e => hi e.symm)] at hx
            have heq : (List.take c.size (List.drop (g.base p.id + i * c.size) (us.take (g.off p) ++ vs ++ us.drop (g.off p + vs.length)))) = (us.drop (g.base p.id + i * c.size)).take c.size := by
              apply List.ext_getElem?
              intro k
              rw [seg_get, setRange_get hle', seg_get]
              by_cases hk : k < c.size
              · rw [if_pos hk, if_pos hk]
                have hne : g.base p.id + i * c.size + k < g.off p ∨ g.off p + vs.length ≤ g.base p.id + i * c.size + k := by
                  rw [hoff]
                  rcases Nat.lt_or_gt_of_ne hi with hlt' | hgt
                  · left
                    have : (i + 1) * c.size ≤ p.idx.v * c.size := Nat.mul_le_mul_right _ hlt'
                    rw [Nat.add_mul] at this; omega
                  · right
                    have : (p.idx.v + 1) * c.size ≤ i * c.size := Nat.mul_le_mul_right _ hgt
                    rw [Nat.add_mul] at this; omega
                rcases hne with h1 | h1
                · rw [if_pos h1]
                · rw [if_neg (by omega), if_neg (by omega)]
              · rw [if_neg hk, if_neg hk]
            rw [heq]
            exact Rp.mono e.pr e.at' _ _ _ (k2 i x hx)
      · exact hs.elim
    · exact hs.elim
  · -- rows
    rename_i t e c ls ho hl
    obtain ⟨b, hb, ⟨hba, us, q1, q2, q3, q4⟩, hpr⟩ := hR.there hl (fun h => h)
    have go : ∀ (hsz : p.sz = 1) (hfld : p.fld = 0) (hlt : p.idx.v < ls.length) (hole : ∀ j0 i0 n0, ho = some (j0, i0, n0) → j0.v = p.idx.v) (v : Value) (hvs : vs = [v]) (l' : List c.D) (s : Option Nat) (hrow : RowIn w g.pr e c l' s v)
        (hself : look hp' p.id = some (false, .rows t e c (ls.set p.idx.v l') none)) (hother : ∀ k x, look hp' k = some x → k ≠ p.id → look hp k = some x)
        (hs : ∀ c', s = some c' → ∃ q o, q ≠ p.id ∧ look hp q = some (false, o) ∧ isRows o = false ∧ g.ρ q = some c' ∧ look hp' q = none),
        ∃ b w' g', g.ρ p.id = some b ∧ (storeCells ⟨b, g.off p, none⟩ vs).run P w = .ok () w' ∧ Post g w hp nx g' w' hp' nx := by
      intro hsz hfld hlt hole v hvs l' s hrow hself hother hs
      subst hvs
      have hoff : g.off p = p.idx.v := by simp [G.off, DP.off, hba, hsz, hfld]
      have hle' : p.idx.v + [v].length ≤ us.length := by simp; omega
      have hst := run_storeCells_at (P := P) b p.idx.v t [v] 0 us.toArray w q1 (by simpa using hle') (fun v hv => oneC_cell (h1 v hv))
      rw [hoff]
      have hset : us.take p.idx.v ++ [v] ++ us.drop (p.idx.v + [v].length) = us.set p.idx.v v := by
        apply List.ext_getElem?
        intro k
        rw [setRange_get hle', List.getElem?_set]
        by_cases hk : p.idx.v = k
        · subst hk
          rw [if_neg (by omega), if_pos (by simp), if_pos rfl, if_pos (by omega)]
          simp
        · rw [if_neg hk]
          by_cases h2 : k < p.idx.v
          · rw [if_pos h2]
          · rw [if_neg h2, if_neg (by simp; omega)]
      refine ⟨b, w.setRow b (us.set p.idx.v v).toArray, _, hb, by rw [← hset]; simpa using hst,
        Post.put (j := p.idx.v) hR (upd_row q1 (by simp)) hl hb hlt hole q1 (setRow_heap w b _ _ _ _ q1) hrow (h1 v (by simp)) hself hother hs⟩
    split at hs
    · rename_i hsz hfld
      have hsz := Nat.eq_of_beq_eq_true hsz
      have hfld := Nat.eq_of_beq_eq_true hfld
      obtain ⟨v, hvs, rv⟩ := repL_one hv
      simp only [Rep] at rv
      have self : look (repl hp p.id (false, DO.rows t e c (ls.set p.idx.v []) none)) p.id = some (false, .rows t e c (ls.set p.idx.v []) none) := by rw [look_repl_some hl, if_pos rfl]
      have other : ∀ k x, look (repl hp p.id (false, DO.rows t e c (ls.set p.idx.v []) none)) k = some x → k ≠ p.id → look hp k = some x := by
        intro k x hk hne
        rw [look_repl_some hl, if_neg (Ne.symm hne)] at hk; exact hk
      split at hs
      · obtain ⟨hlt, hs⟩ := hs
        obtain rfl : hp' = _ := hs
        exact go hsz hfld hlt (fun _ _ _ h => by simp at h) v hvs [] none (.inl ⟨none, rv, rfl, rfl⟩) self other (fun _ h => by simp at h)
      · obtain ⟨⟨hlt, hj⟩, hs⟩ := hs
        obtain rfl : hp' = _ := hs
        exact go hsz hfld hlt (fun j0 i0 n0 h => by simp only [Option.some.injEq, Prod.mk.injEq] at h; rw [← h.1]; exact hj.symm) v hvs [] none (.inl ⟨none, rv, rfl, rfl⟩) self other (fun _ h => by simp at h)
    · rename_i q m hsz hfld
      have hsz := Nat.eq_of_beq_eq_true hsz
      have hfld := Nat.eq_of_beq_eq_true hfld
      obtain ⟨v, hvs, rv⟩ := repL_one hv
      split at hs
      · rename_i e' c' l hqsz hqf hqp hlq
        have hqsz := Nat.eq_of_beq_eq_true hqsz
        have hqf := Nat.eq_of_beq_eq_true hqf
        have hqp := Nat.ne_of_beq_eq_false hqp
        split at hs
        · rename_i l1 hee hc
          have hee := Nat.eq_of_beq_eq_true hee
          subst hee
          obtain ⟨rfl, rfl⟩ := castL_ok hc
          obtain ⟨⟨hlt, hle, hj⟩, hs⟩ := hs
          obtain rfl : hp' = _ := hs
          have self : look (dropI q.id (repl hp p.id (false, DO.rows t e' c' (ls.set p.idx.v (partL l1 q.idx m)) none))) p.id = some (false, .rows t e' c' (ls.set p.idx.v (partL l1 q.idx m)) none) := by
            rw [look_dropI, if_neg (Ne.symm hqp), look_repl_some hl, if_pos rfl]
          have other : ∀ k x, look (dropI q.id (repl hp p.id (false, DO.rows t e' c' (ls.set p.idx.v (partL l1 q.idx m)) none))) k = some x → k ≠ p.id → look hp k = some x := by
            intro k x hk hne
            rw [look_dropI] at hk
            split at hk
            · simp at hk
            · rw [look_repl_some hl, if_neg (Ne.symm hne)] at hk; exact hk
          have hole : ∀ j0 i0 n0, ho = some (j0, i0, n0) → j0.v = p.idx.v := by
            intro j0 i0 n0 h
            subst h
            exact hj.symm
          have rv' := rv
          simp only [Rep] at rv'
          rcases rv' with ⟨q0, rv1, rv2⟩ | ⟨b', o, cap, hb', hcap, rv1, ho', cs', t', fr, p1, p2⟩
          · exact go hsz hfld hlt hole v hvs _ none (.inl ⟨q0, rv1, by rw [partL_eq, rv2]; rfl, rfl⟩) self other (fun _ h => by simp at h)
          · obtain ⟨⟨us', r1, r2, r3, r4⟩, _⟩ := hR.at hlq hb'
            have e0 := p1.symm.trans r1
            simp only [Option.some.injEq, Obj.cells.injEq] at e0
            obtain ⟨rfl, rfl, rfl⟩ := e0
            have hlen' : (partL l1 q.idx m).length = m.v := by rw [partL_eq, List.length_take, List.length_drop]; omega
            refine go hsz hfld hlt hole v hvs _ (some b') (.inr ⟨b', o, cap, us', rfl, by rw [hlen']; exact rv1, by rw [hlen']; exact hcap, r1, r2, by rw [← hqsz]; simpa using p2, ?_⟩) self other
              (fun c0 h => ⟨q.id, _, hqp, hlq, rfl, by rw [← h]; exact hb', by rw [look_dropI, if_pos rfl]⟩)
            rw [partL_eq]
            by_cases hc0 : cap = 0
            · have hn0 : m.v = 0 := by omega
              rw [hn0]; intro i a hi; simp at hi
            · have ho'' : o = g.off q := by rcases ho' with h | h; exact absurd h hc0; exact h
              rw [ho'']
              have e2 : g.off q = g.base q.id + q.idx.v * c'.size := by simp only [G.off, DP.off, hqsz, hqf]; omega
              rw [e2]
              exact r4.part q.idx.v m.v
        · exact hs.elim
      · exact hs.elim
    · exact hs.elim
  · exact hs.elim

omit [Fam] in
theorem madeCells_get (z : Array Value) (n j : Nat) (h : j < n) : (madeCells z n).toList[j]? = some (z[j % z.size]!) := by
  simp [madeCells, h]

theorem makeSlT_ok (hR : Rel g hp w) (hfr : g.ρ nx = none) {refs : List (TypeId × Nat)} {t : TypeId} {len cap d : DV} {vl vc : Value} {hp' : Hp} {nx' : Nat} (h : (makeSlT P refs t len cap hp nx).Path (d, hp', nx')) (rl : Rep g w len vl) (rc : Rep g w cap vc) :
    ∃ v w' g', (Instr.makeSlice t vl vc).run P w = .ok v w' ∧ Post g w hp nx g' w' hp' nx' ∧ Rep g' w' d v := by
  unfold makeSlT at h
  split at h
  · rename_i e n m hu
    simp only [Rep] at rl rc
    subst rl rc
    split at h
    · rename_i s by' zc hs hby hz
      obtain ⟨⟨h0, h1, h2, h3⟩, h⟩ := h
      obtain ⟨i, z, hi, hzz, hib⟩ := bytesD_ok hby
      have hisz : i.size = s := by
        have : sizeD P e = some i.size := by unfold sizeD; rw [hi]
        rw [hs] at this; exact (Option.some.inj this).symm
      obtain ⟨hzr, hz1⟩ := zeroD_info hz hi hzz
      have hrun := run_make (P := P) w t e i z hu hi hzz .i64 .i64 n.v m.v h0 h1 (by rw [hib, Int.mul_comm]; omega) h3
      rw [hisz] at hrun
      have hmade1 : ∀ u ∈ (madeCells z.cells (m.v.toNat * s)).toList, oneC u = true := by
        intro u hu
        obtain ⟨j, hj⟩ := List.mem_iff_getElem?.1 hu
        have hlt := lt_get hj
        rw [Array.length_toList, size_madeCells] at hlt
        rw [madeCells_get _ _ _ hlt] at hj
        obtain rfl := Option.some.inj hj
        by_cases hz0 : z.cells.size = 0
        · rw [getElem!_def, Array.getElem?_eq_none (by omega)]; rfl
        · have hm : j % z.cells.size < z.cells.size := Nat.mod_lt _ (by omega)
          refine hz1 _ ?_
          rw [getElem!_def, Array.getElem?_eq_getElem hm]
          exact Array.getElem_mem_toList hm
      split at h
      · rename_i e' hue
        split at h
        · rename_i c s' hct hs'
          split at h
          · rename_i hcs
            have hcs := Nat.eq_of_beq_eq_true hcs
            obtain ⟨hmn, h⟩ := h
            obtain ⟨rfl, rfl, rfl⟩ : d = _ ∧ hp' = _ ∧ nx' = _ := by have h : (d, hp', nx') = _ := h; simpa using h
            -- the zero of a slice type is nil
            have hz2 : z.cells.toList = [.slice none 0 0] := by
              have := hzr g w
              obtain ⟨v, hv, r⟩ := repL_one this
              simp only [Rep] at r
              rw [hv, r]
            have hzc : z.cells = #[.slice none 0 0] := by apply Array.toList_inj.1; rw [hz2]
            have hlen : (madeCells z.cells (m.v.toNat * 1)).toList.length = n.v.toNat := by rw [Array.length_toList, size_madeCells, hmn]; omega
            have hcell : ∀ k, k < n.v.toNat → (madeCells z.cells (m.v.toNat * 1)).toList[k]? = some (.slice none 0 0) := by
              intro k hk
              rw [madeCells_get _ _ _ (by rw [hmn]; omega), hzc]
              simp [Nat.mod_one]
            have hbase : (g.new nx (some w.heap.size) 0).base nx = 0 := by simp [G.new]
            have p2 := Post.alloc (nx := nx) (o := .rows e e' c (List.replicate (natI n).v []) none) (ob := .cells (madeCells z.cells (m.v.toNat * 1)) e) hR hfr (fun ex => ⟨rfl, (madeCells z.cells (m.v.toNat * 1)).toList, heap_new w _, hmade1, by rw [hlen, natI_v]; simp, fun k l hk => by
              have hlt := lt_get hk
              rw [List.length_replicate, natI_v] at hlt
              rw [List.getElem?_replicate, if_pos (by rw [natI_v]; exact hlt)] at hk
              obtain rfl := Option.some.inj hk
              refine ⟨_, hcell k hlt, fun _ => .inl ⟨none, rfl, rfl, by simp [G.new]⟩, fun _ _ _ h => by simp at h⟩⟩)
            refine ⟨_, _, _, hrun, p2, ?_⟩
            simp only [Rep, natI_v]
            refine .inr ⟨w.heap.size, 0, m.v.toNat, by simp [G.new], by omega, rfl, .inr (by simp [G.off, G.new, DP.off, DN.v]), _, _, _, heap_new w _, by rw [size_madeCells]; omega⟩
          · exact h.elim
        · exact h.elim
      · split at h
        · rename_i c hct
          split at h
          · rename_i a hcs hcod
            have hcs := Nat.eq_of_beq_eq_true hcs
            obtain ⟨rfl, rfl, rfl⟩ : d = _ ∧ hp' = _ ∧ nx' = _ := by have h : (d, hp', nx') = _ := h; simpa using h
            have hza : Rp w g.pr c a z.cells.toList := cod_ok (Rel.nil hR.prl) _ _ _ _ _ _ hcod (by simp) (hzr g w)
            have hzl : z.cells.size = s := by have := hza.len; rw [hcs] at this; simpa using this
            have hpos := c.pos
            have hlen : (madeCells z.cells (m.v.toNat * s)).toList.length = m.v.toNat * s := by rw [Array.length_toList, size_madeCells]
            have hseg : ∀ i, i < m.v.toNat → ((madeCells z.cells (m.v.toNat * s)).toList.drop (0 + i * c.size)).take c.size = z.cells.toList := by
              intro i hi
              have hle : i * s + s ≤ m.v.toNat * s := mul_size_lt hi (by omega)
              apply List.ext_getElem?
              intro k
              rw [seg_get, hcs, Nat.zero_add]
              split
              · rename_i hk
                rw [madeCells_get _ _ _ (by omega), hzl, Nat.add_comm, Nat.mul_comm i s, Nat.add_mul_mod_self_left, Nat.mod_eq_of_lt hk]
                have hk' : k < z.cells.size := by omega
                rw [getElem!_def, Array.getElem?_eq_getElem hk', Array.getElem?_toList, Array.getElem?_eq_getElem hk']
              · rename_i hk
                rw [List.getElem?_eq_none (by rw [Array.length_toList]; omega)]
            have p2 := Post.alloc (nx := nx) (o := .arr e c (List.replicate (natI n).v a)) (ob := .cells (madeCells z.cells (m.v.toNat * s)) e) hR hfr (fun ex => ⟨(madeCells z.cells (m.v.toNat * s)).toList, heap_new w _, hmade1, by
                rw [List.length_replicate, natI_v, hlen, hcs]
                have : n.v.toNat * s ≤ m.v.toNat * s := Nat.mul_le_mul_right _ (by omega)
                omega, fun i x hi => by
              have hlt := lt_get hi
              rw [List.length_replicate, natI_v] at hlt
              rw [List.getElem?_replicate, if_pos (by rw [natI_v]; exact hlt)] at hi
              obtain rfl := Option.some.inj hi
              rw [hseg i (by omega)]
              exact Rp.mono ex.pr ex.at' _ _ _ hza⟩)
            refine ⟨_, _, _, hrun, p2, ?_⟩
            simp only [Rep, natI_v]
            refine .inr ⟨w.heap.size, 0, m.v.toNat, by simp [G.new], by omega, rfl, .inr (by simp [G.off, G.new, DP.off, DN.v]), _, _, _, heap_new w _, by rw [size_madeCells]; omega⟩
          · exact h.elim
        · exact h.elim
    · exact h.elim
  · exact h.elim

theorem insertT_ok (hR : Rel g hp w) {t : TypeId} {m k v : DV} {vm vk vv : Value} {hp' : Hp} (hi : (insertT P hp t m k v).Path hp') (hm : Rep g w m vm) (hk : Rep g w k vk) (hv : Rep g w v vv) :
    ∃ w', (Instr.mapUpdate t vm vk vv).run P w = .ok () w' ∧ Post g w hp nx g w' hp' nx := by
  have hmod : ∀ (ms : List MapEntry) (j : Nat) (m' : MapEntry), ms[j]? = some m' → ms.toArray.modify j (fun e => { e with key := vk, val := vv }) = (ms.set j ({ m' with key := vk, val := vv } : MapEntry)).toArray := by
    intro ms j m' a5
    have hjl := lt_get a5
    apply Array.toList_inj.1
    apply List.ext_getElem?
    intro q
    simp only [Array.getElem?_toList, Array.getElem?_modify, List.getElem?_toArray, List.getElem?_set]
    by_cases hq : j = q
    · subst hq
      have hm' : ms[j] = m' := by rw [List.getElem?_eq_getElem hjl] at a5; exact Option.some.inj a5
      simp [hjl, hm']
    · simp [hq]
  have okNew : ∀ (ms : List MapEntry) (ck : Nat), MapOk ms ck → MapOk (ms ++ [({ key := vk, val := vv, born := ck } : MapEntry)]) (ck + 1) := by
    intro ms ck h
    refine ⟨?_, fun m hm => ?_⟩
    · rw [List.map_append, List.pairwise_append]
      refine ⟨h.rise, by simp, fun a ha b hb => ?_⟩
      obtain ⟨m, hm, rfl⟩ := List.mem_map.1 ha
      simp at hb
      subst hb
      exact h.lt m hm
    · rcases List.mem_append.1 hm with hm | hm
      · have := h.lt m hm; omega
      · simp at hm; subst hm; simp
  have okSet : ∀ (ms : List MapEntry) (ck j : Nat) (m' : MapEntry), ms[j]? = some m' → MapOk ms ck → MapOk (ms.set j ({ m' with key := vk, val := vv } : MapEntry)) ck := by
    intro ms ck j m' hj h
    have e : (ms.set j ({ m' with key := vk, val := vv } : MapEntry)).map (·.born) = ms.map (·.born) := by
      apply List.ext_getElem?
      intro q
      rw [List.getElem?_map, List.getElem?_map, List.getElem?_set]
      by_cases hq : j = q
      · subst hq; rw [if_pos rfl, if_pos (lt_get hj), hj]; rfl
      · rw [if_neg hq]
    refine ⟨by rw [e]; exact h.rise, fun m hm => ?_⟩
    rcases List.mem_or_eq_of_mem_set hm with hm | hm
    · exact h.lt m hm
    · rw [hm]; exact h.lt m' (List.mem_of_getElem? hj)
  unfold insertT at hi
  split at hi
  · rename_i kt et hu
    split at hi
    · rename_i id
      simp only [Rep] at hm
      obtain ⟨b, hb, rfl⟩ := hm
      cases hl : look hp id with
      | none => rw [hl] at hi; exact hi.elim
      | some zo =>
        obtain ⟨z, o⟩ := zo
        rw [hl] at hi
        cases z with
        | true => exact hi.elim
        | false =>
          cases o with
          | map es =>
            dsimp only at hi
            split at hi
            · rename_i hpk
              obtain ⟨kd, hkd⟩ : ∃ kd, P.underlying kt = some kd := by
                rcases plainK_ok hpk with ⟨q, hq⟩ | hq | hq <;> exact ⟨_, hq⟩
              obtain ⟨⟨ms, ck, h1, h0, h2, h3⟩, _⟩ := hR.at hl hb
              have hlt := lt_of_heap h1
              have hso : ∀ o : Obj, (setObj b o).run P w = .ok () { w with heap := w.heap.setIfInBounds b o } := by
                intro o; simp [setObj, Sem.run, h1]
              have hget : ∀ o : Obj, ({ w with heap := w.heap.setIfInBounds b o } : World).heap[b]? = some o := by
                intro o; show (w.heap.setIfInBounds b o)[b]? = some o; simp [hlt]
              obtain ⟨r, hr, hd⟩ := T.path_bind hi
              have hf := findT_ok hkd hpk hk es ms 0 r h2 h3 hr
              cases r with
              | none =>
                obtain rfl : hp' = _ := hd
                refine ⟨_, ?_, Post.write hR (upd_setObj w b (.map (ms ++ [({ key := vk, val := vv, born := ck } : MapEntry)]).toArray (ck + 1)) ⟨_, _, h1⟩) hl rfl hb (fun e => ?_)⟩
                · simp only [Instr.mapUpdate, Sem.run_bind, run_under hu, Result.andThen_ok, run_getMap h1, run_checkKey hpk _ 9999 vk w, run_findKey hkd hf w, hso]
                  simp
                · refine ⟨_, ck + 1, hget _, okNew ms ck h0, ?_, ?_⟩
                  · simpa using (RepL.ext e _ _ h2).append (RepL.cons (Rep.ext e _ _ hk) RepL.nil)
                  · simpa using (RepL.ext e _ _ h3).append (RepL.cons (Rep.ext e _ _ hv) RepL.nil)
              | some x =>
                obtain ⟨j, v'⟩ := x
                obtain ⟨vv', a1, a2, a3, ek, a4, m', a5, a6, a7⟩ := hf
                obtain rfl : hp' = _ := hd
                simp only [Nat.sub_zero] at a4 a5
                refine ⟨_, ?_, Post.write hR (upd_setObj w b (.map (ms.set j ({ m' with key := vk, val := vv } : MapEntry)).toArray ck) ⟨_, _, h1⟩) hl rfl hb (fun e => ?_)⟩
                · have hst : (Instr.keyThatStays m'.key vk).run P w = .ok vk w := by
                    unfold Instr.keyThatStays
                    rw [sameBits_of_sameNow a7 10000]
                    rfl
                  simp only [Instr.mapUpdate, Sem.run_bind, run_under hu, Result.andThen_ok, run_getMap h1, run_checkKey hpk _ 9999 vk w, run_findKey hkd a1 w, List.getElem?_toArray, a5, Option.map_some, Option.getD_some, hst, hmod ms j m' a5, hso]
                · refine ⟨_, ck, hget _, okSet ms ck j m' a5 h0, ?_, ?_⟩
                  · rw [setAt_map, List.map_set]
                    exact (RepL.ext e _ _ h2).set j (Rep.ext e _ _ hk)
                  · rw [setAt_map, List.map_set]
                    exact (RepL.ext e _ _ h3).set j (Rep.ext e _ _ hv)
            · exact hi.elim
          | mp ka kc ea ec es =>
            dsimp only at hi
            split at hi
            · rename_i ks vs' hks hvs' hak hae
              split at hi
              · rename_i kd ps1 vd ps2 e1 e2
                obtain ⟨u, hko, hi⟩ := T.path_bind hi
                obtain ⟨hps, hi⟩ := T.path_obs hi
                obtain rfl : hp' = _ := hi
                have hkv : vOf ka (Rp w g.pr kc kd) vk := celD_vOf hks hk fun vs r => cod_ok (Rel.nil hR.prl) _ _ _ _ _ _ e1 (fun p hp => hps p (List.mem_append.2 (.inl hp))) r
                have hvv : vOf ea (Rp w g.pr ec vd) vv := celD_vOf hvs' hv fun vs r => cod_ok hR _ _ _ _ _ _ e2 (fun p hp => hps p (List.mem_append.2 (.inr hp))) r
                obtain ⟨⟨ms, ck, h1, h0, h2, h3⟩, _⟩ := hR.at hl hb
                have hlt := lt_of_heap h1
                have hso : ∀ o : Obj, (setObj b o).run P w = .ok () { w with heap := w.heap.setIfInBounds b o } := by
                  intro o; simp [setObj, Sem.run, h1]
                have hget : ∀ o : Obj, ({ w with heap := w.heap.setIfInBounds b o } : World).heap[b]? = some o := by
                  intro o; show (w.heap.setIfInBounds b o)[b]? = some o; simp [hlt]
                obtain ⟨hck, r, hf, hr⟩ := findKey_ok (P := P) (g := g) (w := w) (ec := ec) hko hak hkv es ms ⟨h2, fun i x hi => let ⟨m, m1, m2, _⟩ := h3 i x hi; ⟨m, m1, m2⟩⟩
                have hflat := (keyOk_spec hko).1
                cases r with
                | none =>
                  obtain ⟨_, hput⟩ := hr
                  refine ⟨_, ?_, Post.write hR (upd_setObj w b (.map (ms ++ [({ key := vk, val := vv, born := ck } : MapEntry)]).toArray (ck + 1)) ⟨_, _, h1⟩) hl rfl hb (fun e => ?_)⟩
                  · simp only [Instr.mapUpdate, Sem.run_bind, run_under hu, Result.andThen_ok, run_getMap h1, hck, hf, hso]
                    simp
                  · refine ⟨_, ck + 1, hget _, okNew ms ck h0, by rw [hput]; simp [h2], fun i x hi => ?_⟩
                    rw [hput, List.getElem?_append] at hi
                    rw [List.getElem?_append]
                    split at hi
                    · rename_i hlt'
                      obtain ⟨m, m1, m2, m3⟩ := h3 i x hi
                      rw [if_pos (by omega)]
                      exact ⟨m, m1, vOf_mono (fun vs => Rp.mono e.pr e.at' kc _ vs) m2, vOf_mono (fun vs => Rp.mono e.pr e.at' ec _ vs) m3⟩
                    · rename_i hge
                      rw [if_neg (by omega), h2]
                      have hi0 : i - es.length = 0 := by have := lt_get hi; simp at this; omega
                      rw [hi0] at hi ⊢
                      simp only [List.getElem?_cons_zero, Option.some.injEq] at hi
                      subst hi
                      exact ⟨_, rfl, vOf_mono (fun vs => Rp.mono e.pr e.at' kc _ vs) hkv, vOf_mono (fun vs => Rp.mono e.pr e.at' ec _ vs) hvv⟩
                | some x =>
                  obtain ⟨j, vv'⟩ := x
                  obtain ⟨_, ⟨x, f1, f2, f3, m', f4, f5⟩, hput⟩ := hr
                  simp only [Nat.sub_zero] at f1 f4 hput
                  have hkeys : vk = m'.key := by
                    obtain ⟨m2, g1, g2, _⟩ := h3 j x f1
                    rw [f4] at g1
                    obtain rfl := Option.some.inj g1
                    have := CT.beq_eq hflat f2
                    rw [← this] at g2
                    cases ka with
                    | true =>
                      obtain ⟨us, rfl, r1⟩ := hkv
                      obtain ⟨us', e', r2⟩ := g2
                      rw [e', Rp.flat_eq hflat r1 r2]
                    | false =>
                      have := Rp.flat_eq hflat (show Rp w g.pr kc kd [vk] from hkv) (show Rp w g.pr kc kd [m'.key] from g2)
                      simpa using this
                  have hsame : Instr.sameBits 10000 m'.key vk = true := by
                    rw [← hkeys]
                    cases ka with
                    | true =>
                      obtain ⟨us, rfl, r1⟩ := hkv
                      exact sameBits_agg (r1.plainV hflat) 9999
                    | false => exact sameBits_plain ((show Rp w g.pr kc kd [vk] from hkv).plainV hflat vk (by simp)) 10000
                  refine ⟨_, ?_, Post.write hR (upd_setObj w b (.map (ms.set j ({ m' with key := vk, val := vv } : MapEntry)).toArray ck) ⟨_, _, h1⟩) hl rfl hb (fun e => ?_)⟩
                  · have hst : (Instr.keyThatStays m'.key vk).run P w = .ok vk w := by
                      unfold Instr.keyThatStays
                      rw [hsame]
                      rfl
                    simp only [Instr.mapUpdate, Sem.run_bind, run_under hu, Result.andThen_ok, run_getMap h1, hck, hf, List.getElem?_toArray, f4, Option.map_some, Option.getD_some, hst, hmod ms j m' f4, hso]
                  · refine ⟨_, ck, hget _, okSet ms ck j m' f4 h0, by rw [hput]; simp [h2], fun i y hi => ?_⟩
                    rw [hput] at hi
                    by_cases hij : j = i
                    · subst hij
                      rw [List.getElem?_set_self (lt_get f1)] at hi
                      obtain rfl := Option.some.inj hi
                      exact ⟨_, List.getElem?_set_self (lt_get f4), vOf_mono (fun vs => Rp.mono e.pr e.at' kc _ vs) hkv, vOf_mono (fun vs => Rp.mono e.pr e.at' ec _ vs) hvv⟩
                    · rw [List.getElem?_set_ne hij] at hi
                      obtain ⟨m, m1, m2, m3⟩ := h3 i y hi
                      exact ⟨m, by rw [List.getElem?_set_ne hij]; exact m1, vOf_mono (fun vs => Rp.mono e.pr e.at' kc _ vs) m2, vOf_mono (fun vs => Rp.mono e.pr e.at' ec _ vs) m3⟩
              · exact hi.elim
            · exact hi.elim
          | _ => exact hi.elim
    · exact hi.elim
  · exact hi.elim
end
end Go.DF

/- The engine, part 7f: 'clear', 'copy', 's[:0:0]'. -/
namespace Go.DF
universe u v
set_option linter.unusedSimpArgs false
set_option linter.unusedVariables false
variable [Fam]
variable {P : Program} {g : G} {hp : Hp} {w : World} {nx : Nat}

/-- Some elements written anew. -/
theorem Elems.over {w : World} {S : Nat → Prop} {c : CT} {us ys : List Value} {o i : Nat} {l m : List c.D} (h : Elems w S c us o l) (k : Elems w S c ys 0 m) (hy : ys.length = m.length * c.size) (hi : i + m.length ≤ l.length) (hle : o + l.length * c.size ≤ us.length) :
    Elems w S c (us.take (o + i * c.size) ++ ys ++ us.drop (o + i * c.size + ys.length)) o (l.take i ++ (m ++ l.drop (i + m.length))) := by
  have hil : (l.take i).length = i := by rw [List.length_take]; omega
  have hmul : i * c.size + m.length * c.size ≤ l.length * c.size := by rw [← Nat.add_mul]; exact Nat.mul_le_mul_right _ hi
  intro j a hj
  rw [List.getElem?_append, hil] at hj
  split at hj
  · rename_i hlt
    rw [List.getElem?_take, if_pos hlt] at hj
    have h1 := h j a hj
    have := mul_size_lt hlt c.pos
    have e : ((us.take (o + i * c.size) ++ ys ++ us.drop (o + i * c.size + ys.length)).drop (o + j * c.size)).take c.size = (us.drop (o + j * c.size)).take c.size := by
      apply List.ext_getElem?
      intro q
      rw [seg_get, seg_get]
      split
      · rw [setRange_get (by omega), if_pos (by omega)]
      · rfl
    rw [e]; exact h1
  · rename_i hge
    rw [List.getElem?_append] at hj
    split at hj
    · rename_i hlt
      have h1 := k _ a hj
      have h2 := mul_size_lt hlt c.pos
      have h3 : j * c.size = i * c.size + (j - i) * c.size := by rw [← Nat.add_mul]; congr 1; omega
      have e : ((us.take (o + i * c.size) ++ ys ++ us.drop (o + i * c.size + ys.length)).drop (o + j * c.size)).take c.size = (ys.drop (0 + (j - i) * c.size)).take c.size := by
        apply List.ext_getElem?
        intro q
        rw [seg_get, seg_get]
        split
        · rw [setRange_get (by omega), if_neg (by omega), if_pos (by omega)]
          congr 1; omega
        · rfl
      rw [e]; exact h1
    · rename_i hge2
      rw [List.getElem?_drop, show i + m.length + (j - i - m.length) = j by omega] at hj
      have h1 := h j a hj
      have h3 : i * c.size + m.length * c.size ≤ j * c.size := by rw [← Nat.add_mul]; exact Nat.mul_le_mul_right _ (by omega)
      have e : ((us.take (o + i * c.size) ++ ys ++ us.drop (o + i * c.size + ys.length)).drop (o + j * c.size)).take c.size = (us.drop (o + j * c.size)).take c.size := by
        apply List.ext_getElem?
        intro q
        rw [seg_get, seg_get]
        split
        · rw [setRange_get (by omega), if_neg (by omega), if_neg (by omega)]
        · rfl
      rw [e]; exact h1

/-- Cells stored over some elements. -/
theorem over_ok (hR : Rel g hp w) {p : DP} {n : DN} {t : TypeId} {c : CT} {l m : List c.D} {v : Value} {ys : List Value} (hl : look hp p.id = some (false, .arr t c l)) (hsz : p.sz = c.size) (hfld : p.fld = 0) (rv : Rep g w (.slice p n) v)
    (hm : Elems w g.pr c ys 0 m) (hy : ys.length = m.length * c.size) (h1 : ∀ u ∈ ys, oneC u = true) (hmn : m.length ≤ n.v) (hle : p.idx.v + n.v ≤ l.length) :
    (m.length = 0 ∧ Post g w hp nx g w (repl hp p.id (false, .arr t c (l.take p.idx.v ++ (m ++ l.drop (p.idx.v + m.length))))) nx) ∨ (0 < m.length ∧ ∃ b o cap w', v = .slice (some ⟨b, o, none⟩) n.v cap ∧ (storeCells ⟨b, o, none⟩ ys).run P w = .ok () w' ∧
      Post g w hp nx g w' (repl hp p.id (false, .arr t c (l.take p.idx.v ++ (m ++ l.drop (p.idx.v + m.length))))) nx) := by
  rcases Nat.eq_zero_or_pos m.length with h0 | h0
  · refine .inl ⟨h0, (Post.refl hR).to_less fun j e he => ?_⟩
    have hm0 : m = [] := List.length_eq_zero_iff.1 h0
    rw [hm0, List.nil_append, List.length_nil, Nat.add_zero, List.take_append_drop, look_repl_some hl] at he
    split at he
    · rename_i hj; subst hj; rw [hl]; exact he
    · exact he
  · right
    refine ⟨h0, ?_⟩
    simp only [Rep] at rv
    rcases rv with ⟨q0, _, hn⟩ | ⟨b, o, cap, hb, hcap, rfl, ho, cs, t', fr, k1, k2⟩
    · omega
    · obtain ⟨⟨us, r1, r2, r3, r4⟩, _⟩ := hR.at hl hb
      have ho : o = g.base p.id + p.idx.v * c.size := by
        rcases ho with ho | ho
        · omega
        · rw [ho]; simp [G.off, DP.off, hsz, hfld]
      have hmul : p.idx.v * c.size + m.length * c.size ≤ l.length * c.size := by rw [← Nat.add_mul]; exact Nat.mul_le_mul_right _ (by omega)
      have hst := run_storeCells_at (P := P) b o t ys 0 us.toArray w r1 (by simp; omega) (fun v hv => oneC_cell (h1 v hv))
      simp only [Nat.add_zero] at hst
      have hfit : g.base p.id + p.idx.v * c.size + ys.length ≤ us.length := by omega
      rw [ho] at hst ⊢
      refine ⟨b, _, cap, _, rfl, hst, Post.write hR (upd_row r1 ?_) hl rfl hb (fun ex => ⟨_, setRow_heap w b _ _ _ _ r1, setRange_one r2 h1, ?_, Elems.mono ex.pr ex.at' (r4.over hm hy (by omega) r3)⟩)⟩
      · simp only [List.length_append, List.length_take, List.length_drop]; omega
      · simp only [List.length_append, List.length_take, List.length_drop]
        have e : min p.idx.v l.length + (m.length + (l.length - (p.idx.v + m.length))) = l.length := by omega
        rw [e]; omega

/-- As many zero cells as asked for. -/
theorem zeros_ok {w : World} {S : Nat → Prop} {c : CT} {a : c.D} {z : Array Value} (hza : Rp w S c a z.toList) (n : Nat) : Elems w S c (Builtin.zeroCells z n).toList 0 (List.replicate n a) ∧ (Builtin.zeroCells z n).toList.length = n * c.size ∧
    ((∀ u ∈ z.toList, oneC u = true) → ∀ u ∈ (Builtin.zeroCells z n).toList, oneC u = true) := by
  have hzl : z.size = c.size := by simpa using hza.len
  have e : Builtin.zeroCells z n = madeCells z (n * c.size) := by rw [← hzl]; rfl
  have hpos := c.pos
  rw [e]
  refine ⟨fun i x hi => ?_, by rw [Array.length_toList, size_madeCells], fun hz u hu => ?_⟩
  · have hlt := lt_get hi
    rw [List.length_replicate] at hlt
    rw [List.getElem?_replicate, if_pos hlt] at hi
    obtain rfl := Option.some.inj hi
    have hle := mul_size_lt hlt hpos
    have : ((madeCells z (n * c.size)).toList.drop (0 + i * c.size)).take c.size = z.toList := by
      apply List.ext_getElem?
      intro k
      rw [seg_get, Nat.zero_add]
      split
      · rename_i hk
        rw [madeCells_get _ _ _ (by omega), hzl, Nat.add_comm, Nat.mul_comm i c.size, Nat.add_mul_mod_self_left, Nat.mod_eq_of_lt hk]
        have hk' : k < z.size := by omega
        rw [getElem!_def, Array.getElem?_eq_getElem hk', Array.getElem?_toList, Array.getElem?_eq_getElem hk']
      · rename_i hk
        rw [List.getElem?_eq_none (by rw [Array.length_toList]; omega)]
    rw [this]; exact hza
  · obtain ⟨j, hj⟩ := List.mem_iff_getElem?.1 hu
    have hlt := lt_get hj
    rw [Array.length_toList, size_madeCells] at hlt
    rw [madeCells_get _ _ _ hlt] at hj
    obtain rfl := Option.some.inj hj
    have hm : j % z.size < z.size := Nat.mod_lt _ (by omega)
    refine hz _ ?_
    rw [getElem!_def, Array.getElem?_eq_getElem hm]
    exact Array.getElem_mem_toList hm

theorem clearT_ok (hR : Rel g hp w) {t ty : TypeId} {x : DV} {vx : Value} {hp' : Hp} {ts : Array TypeId} {vs : Array Value} (h : (clearT P t x hp).Path hp') (rx : Rep g w x vx) (ht : ts[0]? = some t) (hv : vs[0]? = some vx) :
    ∃ w', (Builtin.clear_ ts ty vs).run P w = .ok (.tuple #[]) w' ∧ Post g w hp nx g w' hp' nx := by
  unfold clearT at h
  split at h
  · rename_i e hu
    obtain rfl : hp' = _ := h
    simp only [Rep] at rx
    subst rx
    exact ⟨w, by simp [Builtin.clear_, ht, hv, run_under hu], Post.refl hR⟩
  · rename_i e p n hu
    split at h
    · rename_i t' c l hl
      split at h
      · rename_i zc hsz hfld hz
        have hsz := Nat.eq_of_beq_eq_true hsz
        have hfld := Nat.eq_of_beq_eq_true hfld
        split at h
        · rename_i a hzl hcod
          obtain ⟨hle, h⟩ := h
          obtain rfl : hp' = _ := h
          obtain ⟨z, hzr, hz2, hz3⟩ := zeroD_ok hz
          have hza : Rp w g.pr c a z.cells.toList := cod_ok (Rel.nil hR.prl) _ _ _ _ _ _ hcod (by simp) (hz2 g w)
          obtain ⟨k1, k2, k3⟩ := zeros_ok hza n.v
          have hlen : (List.replicate n.v a).length = n.v := List.length_replicate
          have key := over_ok (P := P) (nx := nx) (m := List.replicate n.v a) hR hl hsz hfld rx k1 (by rw [hlen]; exact k2) (k3 hz3) (by rw [hlen]; exact Nat.le_refl _) hle
          rw [hlen] at key
          rcases key with ⟨h0, hP⟩ | ⟨h0, b, o, cap, w', rfl, hst, hP⟩
          · refine ⟨w, ?_, hP⟩
            have hvx : ∃ q cap, vx = .slice q 0 cap := by
              simp only [Rep] at rx
              rcases rx with ⟨q, rfl, _⟩ | ⟨b, o, cap, _, _, rfl, _⟩
              · exact ⟨q, 0, rfl⟩
              · exact ⟨_, cap, by rw [h0]⟩
            obtain ⟨q, cap, rfl⟩ := hvx
            cases q <;> simp [Builtin.clear_, ht, hv, run_under hu]
          · refine ⟨w', ?_, hP⟩
            obtain ⟨k, hk⟩ : ∃ k, n.v = k + 1 := ⟨n.v - 1, by omega⟩
            rw [hk] at hst hv
            simp [Builtin.clear_, ht, hv, run_under hu, hzr, hst]
        · exact h.elim
      · exact h.elim
    · exact h.elim
  · rename_i k e i hu
    simp only [Rep] at rx
    obtain ⟨b, hb, rfl⟩ := rx
    have key : ∀ (o o' : DO), look hp i = some (false, o) → isRows o' = false → (∃ (ms : List MapEntry) (ck : Nat), w.heap[b]? = some (.map ms.toArray ck) ∧ ∀ g w' ba, w'.heap[b]? = some (.map #[] ck) → ORep g w' i o' b ba) →
        ∃ w', (Builtin.clear_ ts ty vs).run P w = .ok (.tuple #[]) w' ∧ Post g w hp nx g w' (repl hp i (false, o')) nx := by
      rintro o o' hl hr ⟨ms, ck, hb2, ho⟩
      refine ⟨{ w with heap := w.heap.setIfInBounds b (.map #[] ck) }, ?_, Post.write hR (upd_setObj w b _ ⟨_, _, hb2⟩) hl hr hb (fun _ => ho _ _ _ ?_)⟩
      · have hso : ∀ o : Obj, (setObj b o).run P w = .ok () { w with heap := w.heap.setIfInBounds b o } := by
          intro o; simp [setObj, Sem.run, hb2]
        simp [Builtin.clear_, ht, hv, run_under hu, run_getMap hb2, hso]
      · have hlt := lt_of_heap hb2
        show (w.heap.setIfInBounds b (.map #[] ck))[b]? = _
        simp [hlt]
    split at h
    · rename_i ka kc ea ec es hl
      obtain rfl : hp' = _ := h
      obtain ⟨⟨ms, ck, k1, _⟩, _⟩ := hR.at hl hb
      exact key _ _ hl rfl ⟨ms, ck, k1, fun g w' ba h => ⟨[], ck, h, ⟨by simp, by simp⟩, rfl, fun i x hi => by simp at hi⟩⟩
    · rename_i es hl
      obtain rfl : hp' = _ := h
      obtain ⟨⟨ms, ck, k1, _⟩, _⟩ := hR.at hl hb
      exact key _ _ hl rfl ⟨ms, ck, k1, fun g w' ba h => ⟨[], ck, h, ⟨by simp, by simp⟩, RepL.nil, RepL.nil⟩⟩
    · exact h.elim
  · exact h.elim

omit [Fam] in
theorem minN_v (a : DN) (b : Nat) : (minN a b).v = Nat.min a.v b := by cases a <;> rfl
/-- The cells of a slice's first elements. -/
theorem SlOf.first {c : CT} {l : List c.D} {v : Value} (h : SlOf g w c l v) {k : Nat} (hk : k ≤ l.length) : ∃ NC : List Value, NC.length = (l.take k).length * c.size ∧ (∀ u ∈ NC, oneC u = true) ∧ Elems w g.pr c NC 0 (l.take k) ∧ (∀ P, (Builtin.lenOf v).run P w = .ok l.length w) ∧
    (∀ P, (Builtin.firstCells c.size k v).run P w = .ok NC.toArray w) := by
  have hkl : (l.take k).length = k := by rw [List.length_take]; omega
  rcases h with ⟨q0, rfl, rfl⟩ | ⟨b, o, cap, us, t, fr, rfl, h1, h2, h3, h4⟩
  · have : k = 0 := by simpa using hk
    subst this
    exact ⟨[], by simp, by simp, fun i a hi => by simp at hi, fun P => rfl, fun P => by cases q0 <;> (simp [Builtin.firstCells]; try rfl)⟩
  · have hle : l.length * c.size ≤ cap * c.size := Nat.mul_le_mul_right _ h1
    have hle2 : k * c.size ≤ l.length * c.size := Nat.mul_le_mul_right _ hk
    have h4' : Elems w g.pr c us o (l.take k) := fun i a hi => h4 i a (by
      have := lt_get hi
      rw [List.getElem?_take_of_lt (by omega)] at hi; exact hi)
    have hlen : ((us.drop o).take ((l.take k).length * c.size)).length = k * c.size := by rw [List.length_take, List.length_drop, hkl]; omega
    have hc : ∀ j v, ((us.drop o).take ((l.take k).length * c.size))[j]? = some v → w.cell? (Addr.add ⟨b, o, none⟩ j) = some v := by
      intro j v hj
      have hlt := lt_get hj
      rw [hlen] at hlt
      rw [addr_add, cell_at h2]
      rw [List.getElem?_take_of_lt (by rw [hkl]; exact hlt), List.getElem?_drop] at hj
      exact hj
    exact ⟨_, by rw [hlen, hkl], h4'.one, h4'.out, fun P => rfl, fun P => run_firstCells_some w c.size k ⟨b, o, none⟩ _ _ _ hlen hc⟩

theorem copyT_ok (hR : Rel g hp w) {t ty : TypeId} {x y d : DV} {vx vy : Value} {hp' : Hp} {ts : Array TypeId} {vs : Array Value} (h : (copyT P t x y hp).Path (d, hp')) (rx : Rep g w x vx) (ry : Rep g w y vy) (ht : ts[0]? = some t) (hv : vs[0]? = some vx) (hv1 : vs[1]? = some vy) :
    ∃ v w', (Builtin.copy_ ts ty vs).run P w = .ok v w' ∧ Post g w hp nx g w' hp' nx ∧ Rep g w' d v := by
  unfold copyT at h
  split at h
  · rename_i e p n hu
    split at h
    · rename_i t' c l s hl hs
      split at h
      · rename_i hsz hfld hes
        have hsz := Nat.eq_of_beq_eq_true hsz
        have hfld := Nat.eq_of_beq_eq_true hfld
        have hes := Nat.eq_of_beq_eq_true hes
        obtain ⟨xs, hxs, h⟩ := T.path_bind h
        obtain ⟨hle, h⟩ := h
        obtain ⟨rfl, rfl⟩ : d = _ ∧ hp' = _ := by have h : (d, hp') = _ := h; simpa using h
        have sl := elemsT_ok hR hxs ry
        obtain ⟨NC, n1, n2, n3, n4, n5⟩ := sl.first (k := Nat.min n.v xs.length) (Nat.min_le_right _ _)
        have hkl : (xs.take (Nat.min n.v xs.length)).length = Nat.min n.v xs.length := by rw [List.length_take]; exact Nat.min_eq_left (Nat.min_le_right _ _)
        have key := over_ok (P := P) (nx := nx) hR hl hsz hfld rx n3 n1 n2 (by rw [hkl]; exact Nat.min_le_left _ _) hle
        rw [hkl] at key
        have n4 := n4 P
        have n5 := n5 P
        have hmin : Nat.min n.v xs.length = Nat.min xs.length n.v := Nat.min_comm _ _
        rw [hmin, ← hes] at n5
        have n5' : Sem.run P (Builtin.firstCells s (min xs.length n.v) vy) w = .ok NC.toArray w := n5
        have hd : ∀ (w' : World), Rep g w' (.int .i64 (dnI (minN n xs.length))) (goInt (Nat.min xs.length n.v)) := fun w' => by
          simp only [Rep, dnI_v, minN_v, goInt, hmin]
        rcases key with ⟨h0, hP⟩ | ⟨h0, b, o, cap, w', rfl, hst, hP⟩
        · have hNC : NC = [] := List.length_eq_zero_iff.1 (by rw [n1, hkl, h0, Nat.zero_mul])
          refine ⟨_, w, ?_, hP, hd w⟩
          have hvx : ∃ q cap, vx = .slice q n.v cap := by
            simp only [Rep] at rx
            rcases rx with ⟨q, rfl, hn⟩ | ⟨b, o, cap, _, _, rfl, _⟩
            · exact ⟨q, 0, by rw [hn]⟩
            · exact ⟨_, cap, rfl⟩
          obtain ⟨q, cap, rfl⟩ := hvx
          subst hNC
          cases q <;> simp [Builtin.copy_, ht, hv, hv1, run_under hu, run_sizeD hs, n4, n5, n5', storeCells]
        · refine ⟨_, w', ?_, hP, hd w'⟩
          simp [Builtin.copy_, ht, hv, hv1, run_under hu, run_sizeD hs, n4, n5, n5', hst]
      · exact h.elim
    · exact h.elim
  · exact h.elim

theorem slice0T_ok (hR : Rel g hp w) (hfr : g.ρ nx = none) {refs : List (TypeId × Nat)} {t : TypeId} {x d : DV} {vx : Value} {lo : Option Value} {hp' : Hp} {nx' : Nat} (h : (slice0T P refs t x hp nx).Path (d, hp', nx')) (rx : Rep g w x vx)
    (hlo : lo = none ∨ ∃ k, lo = some (.int k 0)) {k1 k2 : IntKind} :
    ∃ v g', (Instr.sliceAt t vx lo (some (.int k1 0)) (some (.int k2 0))).run P w = .ok v w ∧ Post g w hp nx g' w hp' nx' ∧ Rep g' w d v := by
  have hb : ∀ (n cap : Nat), (Instr.sliceBounds true n cap lo (some (.int k1 0)) (some (.int k2 0))).run P w = .ok (0, 0, 0) w := by
    intro n cap
    rcases hlo with rfl | ⟨k, rfl⟩ <;> simp [Instr.sliceBounds, Instr.sliceBound, asIntOf]
  unfold slice0T at h
  split at h
  · rename_i e hu
    split at h
    · rename_i s hs
      obtain ⟨rfl, rfl, rfl⟩ : d = _ ∧ hp' = _ ∧ nx' = _ := by have h : (d, hp', nx') = _ := h; simpa using h
      simp only [Rep] at rx
      subst rx
      exact ⟨.slice none 0 0, g, by simp [Instr.sliceAt, Instr.slice, run_under hu, hb, run_sizeD hs], Post.refl hR, by simp only [Rep]⟩
    · exact h.elim
  · rename_i x' e hu hx
    split at h
    · rename_i c s hct hs hok
      split at h
      · rename_i hcs
        obtain ⟨rfl, rfl, rfl⟩ : d = _ ∧ hp' = _ ∧ nx' = _ := by have h : (d, hp', nx') = _ := h; simpa using h
        have hv : ∃ q n cap, vx = .slice q n cap := by
          split at hok
          · simp only [Rep] at rx
            rcases rx with ⟨q, rfl, _⟩ | ⟨b, o, cap, _, _, rfl, _⟩
            · exact ⟨q, 0, 0, rfl⟩
            · exact ⟨_, _, cap, rfl⟩
          · simp only [Rep] at rx
            obtain ⟨v', hv', rx⟩ := rx
            simp only [List.cons.injEq, and_true] at hv'
            subst hv'
            rcases rx with ⟨q, rfl, _⟩ | ⟨b, o, cap, cs, t', fr, rfl, _⟩
            · exact ⟨q, 0, 0, rfl⟩
            · exact ⟨_, _, cap, rfl⟩
          · simp at hok
        obtain ⟨q, n, cap, rfl⟩ := hv
        refine ⟨.slice q 0 0, g, by simp [Instr.sliceAt, Instr.slice, run_under hu, hb, run_sizeD hs], Post.empty hR hfr e c, ?_⟩
        simp only [Rep]
        exact .inl ⟨q, rfl, rfl⟩
      · exact h.elim
    · exact h.elim
  · exact h.elim
end Go.DF
