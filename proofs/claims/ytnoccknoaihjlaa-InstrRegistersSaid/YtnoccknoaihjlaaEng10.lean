import Derived.Test.YtnoccknoaihjlaaEng9
set_option linter.unusedVariables false
set_option linter.unusedSimpArgs false
set_option linter.unnecessarySimpa false
/- The engine, part 10: code, and a function as a whole. -/
namespace Go.DE
universe u v

theorem setRange_get {α : Type u} {us vs : List α} {off : Nat} (h : off + vs.length ≤ us.length) (k : Nat) :
    (us.take off ++ vs ++ us.drop (off + vs.length))[k]? = if k < off then us[k]? else if k < off + vs.length then vs[k - off]? else us[k]? := by
  have hl : (us.take off).length = off := by simp; omega
  rw [List.append_assoc, List.getElem?_append, hl]
  split
  · rename_i hk; rw [List.getElem?_take, if_pos hk]
  · rename_i hk
    rw [List.getElem?_append]
    split
    · rename_i hk2; rw [if_pos (by omega)]
    · rename_i hk2; rw [if_neg (by omega), List.getElem?_drop]; congr 1; omega

theorem seg_get {α : Type u} (us : List α) (o n k : Nat) : ((us.drop o).take n)[k]? = if k < n then us[o + k]? else none := by
  rw [List.getElem?_take]
  split
  · rw [List.getElem?_drop]
  · rfl

section
variable {P : Program} {ct : Cx P} {g0 : G} {w0 : World} {M : Nat → Prop} {n0 rb N : Nat} {g : G} {fr : Fr} {hp : Hp} {nx : Nat} {a : Act} {w : World}

theorem storeN_ok (h : Ok g0 w0 M n0 rb N g ⟨fr, hp, nx⟩ a w) {p : DP} {new : List DV} {hp' : Hp} (hs : (storeN rb hp p new).Path hp') {vs : List Value} (hv : RepL g w new vs) (h1 : ∀ u ∈ vs, oneC u = true) :
    ∃ b w', g.ρ p.id = some b ∧ (storeCells ⟨b, g.off p, none⟩ vs).run P w = .ok () w' ∧ Ok g0 w0 M n0 rb N g ⟨fr, hp', nx⟩ a w' := by
  have hlen := hv.length
  unfold storeN at hs
  split at hs
  · exact hs.elim
  rename_i hrb
  have hrb := Nat.le_of_ble_eq_true hrb
  split at hs
  · rename_i t cs hl
    obtain ⟨b, hb, ⟨us, k1, k2, k3⟩, _, hba⟩ := h.rel.there hl (fun h => h)
    have hgo : g.off p = p.off := by simp only [G.off, hba rfl, Nat.zero_add]
    rw [hgo]
    split at hs
    · rename_i i hi
      split at hs
      · rename_i hle
        obtain rfl : hp' = _ := hs
        have hoff : p.off = i * p.sz + p.fld := by simp [DP.off, hi, DN.v]
        have hle := Nat.le_of_ble_eq_true hle
        rw [← hoff] at hle ⊢
        have hus := k2.length
        have hle' : p.off + vs.length ≤ us.length := by rw [hus, hlen]; exact hle
        refine ⟨b, w.setRow b (us.take p.off ++ vs ++ us.drop (p.off + vs.length)).toArray, hb, ?_, ?_⟩
        · have := run_storeCells_at (P := P) b p.off t vs 0 us.toArray w k1 (by simpa using hle') (fun v hv => oneC_cell (h1 v hv))
          simpa using this
        · refine h.write (upd_setRow w b _ (fun c0 t0 fr0 h0 => by rw [k1] at h0; simp only [Option.some.injEq, Obj.cells.injEq] at h0; obtain ⟨rfl, _⟩ := h0; simp; omega)) hrb hl rfl rfl hb (fun e => ?_)
          exact ⟨_, setRow_heap w b _ _ _ _ k1, RepL.ext e _ _ (setRange_rep p.off k2 hv), setRange_one k3 h1⟩
      · exact hs.elim
    · exact hs.elim
  · rename_i t c l hl
    split at hs
    · rename_i hsz hle
      have hsz := Nat.eq_of_beq_eq_true hsz
      have hle := Nat.le_of_ble_eq_true hle
      split at hs
      · rename_i a' hdec
        obtain ⟨hlt, hs⟩ := hs
        obtain rfl : hp' = _ := hs
        obtain ⟨b, hb, ⟨us, k1, k3, k2⟩, _, hba⟩ := h.rel.there hl (fun h => by subst h; simp at hlt)
        have hgo : g.off p = p.off := by simp only [G.off, hba rfl, Nat.zero_add]
        rw [hgo]
        have hget : l[p.idx.v]? = some (l.getD p.idx.v c.dflt) := by
          rw [List.getElem?_eq_getElem hlt, List.getD_eq_getElem?_getD, List.getElem?_eq_getElem hlt]; rfl
        have r0 := k2 _ _ hget
        have hl0 := r0.length
        rw [c.len] at hl0
        simp only [List.length_take, List.length_drop] at hl0
        have hpos := c.pos
        have hoff : p.off = p.idx.v * c.size + p.fld := by simp [DP.off, hsz]
        have hle' : p.off + vs.length ≤ us.length := by rw [hoff, hlen]; omega
        refine ⟨b, w.setRow b (us.take p.off ++ vs ++ us.drop (p.off + vs.length)).toArray, hb, ?_, ?_⟩
        · have := run_storeCells_at (P := P) b p.off t vs 0 us.toArray w k1 (by simpa using hle') (fun v hv => oneC_cell (h1 v hv))
          simpa using this
        · refine h.write (upd_setRow w b _ (fun c0 t0 fr0 h0 => by rw [k1] at h0; simp only [Option.some.injEq, Obj.cells.injEq] at h0; obtain ⟨rfl, _⟩ := h0; simp; omega)) hrb hl rfl rfl hb (fun e => ?_)
          refine ⟨_, setRow_heap w b _ _ _ _ k1, setRange_one k3 h1, ?_⟩
          intro i x hx
          by_cases hi : i = p.idx.v
          · subst hi
            rw [List.getElem?_set_self (by simpa using hlt)] at hx
            obtain rfl := Option.some.inj hx
            refine c.ok _ _ hdec _ _ _ (RepL.ext e _ _ ?_)
            have r := setRange_rep p.fld r0 hv
            have heq : (List.take c.size (List.drop (p.idx.v * c.size) (us.take p.off ++ vs ++ us.drop (p.off + vs.length)))) =
                ((us.drop (p.idx.v * c.size)).take c.size).take p.fld ++ vs ++ ((us.drop (p.idx.v * c.size)).take c.size).drop (p.fld + vs.length) := by
              apply List.ext_getElem?
              intro k
              rw [seg_get, setRange_get hle', setRange_get (by simp only [List.length_take, List.length_drop]; omega), seg_get, hoff]
              by_cases hk : k < c.size
              · rw [if_pos hk, if_pos hk]
                by_cases h1 : k < p.fld
                · rw [if_pos (by omega), if_pos h1]
                · rw [if_neg (by omega), if_neg h1]
                  by_cases h2 : k < p.fld + vs.length
                  · rw [if_pos (by omega), if_pos h2]; congr 1; omega
                  · rw [if_neg (by omega), if_neg h2]
              · rw [if_neg hk, if_neg (by omega), if_neg (by omega), if_neg hk]
            rw [heq]
            exact r
          · rw [List.getElem?_set_ne (fun e => hi e.symm)] at hx
            have heq : (List.take c.size (List.drop (i * c.size) (us.take p.off ++ vs ++ us.drop (p.off + vs.length)))) = (us.drop (i * c.size)).take c.size := by
              apply List.ext_getElem?
              intro k
              rw [seg_get, setRange_get hle', seg_get]
              by_cases hk : k < c.size
              · rw [if_pos hk, if_pos hk]
                have hne : i * c.size + k < p.off ∨ p.off + vs.length ≤ i * c.size + k := by
                  rw [hoff]
                  rcases Nat.lt_or_gt_of_ne hi with hlt' | hgt
                  · left
                    have : (i + 1) * c.size ≤ p.idx.v * c.size := Nat.mul_le_mul_right _ hlt'
                    rw [Nat.add_mul] at this; omega
                  · right
                    have : (p.idx.v + 1) * c.size ≤ i * c.size := Nat.mul_le_mul_right _ hgt
                    rw [Nat.add_mul] at this; omega
                rcases hne with h1 | h1
                · rw [if_pos h1]
                · rw [if_neg (by omega), if_neg (by omega)]
              · rw [if_neg hk, if_neg hk]
            rw [heq]
            exact RepL.ext e _ _ (k2 i x hx)
      · exact hs.elim
    · exact hs.elim
  · exact hs.elim
  · exact hs.elim
  · exact hs.elim

theorem callC_nx {P : Program} {c : CanC P} {rb nx nx' : Nat} {args : List DV} {hp hp' : Hp} {ps : List Prop} {d : DV} (h : callC c rb args hp nx = some (ps, d, hp', nx')) : nx ≤ nx' := by
  unfold callC at h
  repeat' split at h
  all_goals first
    | (simp at h; done)
    | (simp only [Option.some.injEq, Prod.mk.injEq] at h; omega)

theorem fillD_len {place : Nat → Option (Nat × Nat)} : ∀ (ps : List (Nat × DV)) (cs out : List DV), fillD place cs ps = some out → out.length = cs.length
  | [], cs, out, h => by simp only [fillD, Option.some.injEq] at h; rw [h]
  | (i, v) :: r, cs, out, h => by
    unfold fillD at h
    split at h
    · rename_i off size vs hp hv
      split at h
      · rename_i h1 h2
        have h1 := Nat.eq_of_beq_eq_true h1
        have h2 := Nat.le_of_ble_eq_true h2
        rw [fillD_len r _ _ h]
        simp [setRange]; omega
      · simp at h
    · simp at h
theorem repL_range {g : G} {w : World} {f : Nat → DV} {f' : Nat → Value} : ∀ (l : List Nat), (∀ j ∈ l, Rep g w (f j) (f' j)) → RepL g w (l.map f) (l.map f')
  | [], _ => RepL.nil
  | j :: l, h => RepL.cons (h j (by simp)) (repL_range l (fun i hi => h i (by simp [hi])))
theorem buildSl_ok {P : Program} {g : G} {w : World} {t : TypeId} {len : Nat} {ps : List (Nat × DV)} {qs : Array (Nat × Value)} {e : TypeId} {s : Nat} {cs : List DV} (h : buildSlD P t len ps = some (e, s, cs))
    (hl : ps.length = qs.size) (hq : ∀ (k i : Nat) (d : DV), ps[k]? = some (i, d) → ∃ v, qs.toList[k]? = some (i, v) ∧ Rep g w d v) :
    ∃ os : List Value, (Instr.buildSlice t len qs).run P w = .ok (.slice (some ⟨w.heap.size, 0, none⟩) len len) (w.alloc (.cells os.toArray e)) ∧ RepL g w cs os ∧ (∀ u ∈ os, oneC u = true) ∧ os.length = len * s := by
  unfold buildSlD at h
  split at h
  · rename_i e' hu
    split at h
    · rename_i s' z hs hz
      split at h
      · rename_i cs' hle hzl hf
        simp only [Option.some.injEq, Prod.mk.injEq] at h
        obtain ⟨rfl, rfl, rfl⟩ := h
        have hle := Nat.le_of_ble_eq_true hle
        have hzl := Nat.eq_of_beq_eq_true hzl
        obtain ⟨zv, z1, z2, z3⟩ := zeroD_ok hz
        have hzv : zv.cells.size = s' := by
          have := (z2 g w).length
          rw [hzl] at this; simpa using this
        let us : List Value := (List.range (len * s')).map fun j => zv.cells[j % zv.cells.size]!
        have hr0 : ∀ j ∈ List.range (len * s'), Rep g w (z.getD (j % z.length) .any) (zv.cells[j % zv.cells.size]!) := by
          intro j hj
          have hj : j < len * s' := by simpa using hj
          have hs0 : 0 < s' := by
            rcases Nat.eq_zero_or_pos s' with h0 | h0
            · rw [h0] at hj; simp at hj
            · exact h0
          have hm : j % s' < s' := Nat.mod_lt _ hs0
          rw [hzl, hzv]
          have hzi : z[j % s']? = some (z.getD (j % s') .any) := by
            rw [List.getD_eq_getElem?_getD, List.getElem?_eq_getElem (by omega)]; rfl
          obtain ⟨v, hv, rv⟩ := (z2 g w).get hzi
          have : zv.cells[j % s']! = v := by
            rw [Array.getElem?_toList] at hv
            rw [getElem!_def, hv]
          rw [this]; exact rv
        have hr := repL_range (g := g) (w := w) (List.range (len * s')) hr0
        have h1 : ∀ u ∈ us, oneC u = true := by
          intro u hu
          obtain ⟨j, hj, rfl⟩ := List.mem_map.1 hu
          have hj : j < len * s' := by simpa using hj
          have hs0 : 0 < s' := by
            rcases Nat.eq_zero_or_pos s' with h0 | h0
            · rw [h0] at hj; simp at hj
            · exact h0
          have hm : j % zv.cells.size < zv.cells.size := by rw [hzv]; exact Nat.mod_lt _ hs0
          have : zv.cells[j % zv.cells.size]! ∈ zv.cells.toList := by
            rw [getElem!_def, Array.getElem?_eq_getElem hm]
            exact Array.getElem_mem_toList hm
          exact z3 _ this
        obtain ⟨os, f1, f2, f3⟩ := fill_ok (P := P) ps qs.toList _ _ us hf hr h1 (by simpa using hl) hq
        refine ⟨os, ?_, f2, f3, ?_⟩
        · have harr : ((Array.range (len * s')).map fun j => zv.cells[j % zv.cells.size]!) = us.toArray := by
            apply Array.toList_inj.1; simp [us]
          have hnew : (newRow e' os.toArray).run P w = .ok ⟨w.heap.size, 0, none⟩ (w.alloc (.cells os.toArray e')) := by simp [newRow]
          have harr0 : ((Array.range 0).map fun j => (#[] : Array Value)[j % (#[] : Array Value).size]!) = #[] := by simp
          by_cases h0 : len * s' = 0
          · have hus : us = [] := by simp [us, h0]
            have hf1 : Instr.fill (fun i => some (i * s', s')) #[] qs.toList = some os.toArray := by rw [hus] at f1; exact f1
            have hgt : ¬ (len * s' > 2 ^ 24) := by omega
            simp only [Instr.buildSlice, Sem.run_bind, run_under hu, Result.andThen_ok, run_sizeD hs, if_neg hgt, if_pos h0, Sem.run_pure]
            rw [h0]
            simp only [harr0, hf1, Sem.run_bind, hnew, Result.andThen_ok, Sem.run_pure]
          · have hgt : ¬ (len * s' > 2 ^ 24) := by omega
            simp only [Instr.buildSlice, Sem.run_bind, run_under hu, Result.andThen_ok, run_sizeD hs, if_neg hgt, if_neg h0, z1, Sem.run_pure, harr, f1, hnew]
        · rw [f2.length, fillD_len _ _ _ hf]; simp
      · simp at h
    · simp at h
  · simp at h

theorem heap_new (w : World) (o : Obj) : (w.alloc o).heap[w.heap.size]? = some o := by
  show (w.heap.push o)[w.heap.size]? = some o
  simp

theorem setAt_map {α β : Type u} (f : α → β) : ∀ (l : List α) (i : Nat) (x : α), (setAt l i x).map f = (l.map f).set i (f x)
  | [], _, _ => rfl
  | _ :: _, 0, _ => rfl
  | a :: l, i + 1, x => by simp [setAt, setAt_map f l i x]

theorem RepL.set {g : G} {w : World} : ∀ {ds : List DV} {vs : List Value} (i : Nat) {d : DV} {v : Value}, RepL g w ds vs → Rep g w d v → RepL g w (ds.set i d) (vs.set i v)
  | [], vs, i, d, v, h, _ => by simp only [RepL] at h; subst h; simp [RepL]
  | e :: ds, vs, 0, d, v, h, r => by
    simp only [RepL] at h
    obtain ⟨u, us, rfl, _, h3⟩ := h
    exact RepL.cons r h3
  | e :: ds, vs, i + 1, d, v, h, r => by
    simp only [RepL] at h
    obtain ⟨u, us, rfl, h2, h3⟩ := h
    exact RepL.cons h2 (RepL.set i h3 r)

theorem sameBits_of_sameNow {d : TypeDesc} {a b : Value} (h : Instr.sameNow d a b = some true) (n : Nat) : Instr.sameBits n b a = true := by
  unfold Instr.sameNow at h
  split at h
  · split at h
    · rename_i hk
      simp only [Option.some.injEq, beq_iff_eq] at h
      subst hk h
      unfold Instr.sameBits; simp
    · simp at h
  · simp only [Option.some.injEq, beq_toListBytes, beq_iff_eq] at h
    unfold Instr.sameBits
    rw [beq_toListBytes, h]
    simp
  · simp only [Option.some.injEq, beq_iff_eq] at h
    subst h
    unfold Instr.sameBits; simp
  · simp at h

theorem insertT_ok (h : Ok g0 w0 M n0 rb N g ⟨fr, hp, nx⟩ a w) {t : TypeId} {m k v : DV} {vm vk vv : Value} {hp' : Hp} (hi : (insertT P rb hp t m k v).Path hp') (hm : Rep g w m vm) (hk : Rep g w k vk) (hv : Rep g w v vv) :
    ∃ w', (Instr.mapUpdate t vm vk vv).run P w = .ok () w' ∧ Ok g0 w0 M n0 rb N g ⟨fr, hp', nx⟩ a w' := by
  unfold insertT at hi
  split at hi
  · rename_i kt et hu
    split at hi
    · rename_i id hpk
      simp only [Rep] at hm
      obtain ⟨b, hb, rfl⟩ := hm
      obtain ⟨kd, hkd⟩ : ∃ kd, P.underlying kt = some kd := by
        rcases plainK_ok hpk with ⟨q, hq⟩ | hq | hq <;> exact ⟨_, hq⟩
      split at hi
      · rename_i es hrb hl
        have hrb := Nat.le_of_ble_eq_true hrb
        obtain ⟨b', hb', ⟨ms, ck, h1, h2, h3⟩, _⟩ := h.rel.there hl (fun h => h)
        obtain rfl : b = b' := by rw [hb] at hb'; exact Option.some.inj hb'
        have hlt : b < w.heap.size := by
          rcases Nat.lt_or_ge b w.heap.size with hlt | hge
          · exact hlt
          · rw [Array.getElem?_eq_none hge] at h1; simp at h1
        have hso : ∀ o : Obj, (setObj b o).run P w = .ok () { w with heap := w.heap.setIfInBounds b o } := by
          intro o; simp [setObj, Sem.run, h1]
        have hget : ∀ o : Obj, ({ w with heap := w.heap.setIfInBounds b o } : World).heap[b]? = some o := by
          intro o; show (w.heap.setIfInBounds b o)[b]? = some o; simp [hlt]
        obtain ⟨r, hr, hd⟩ := T.path_bind hi
        have hf := findT_ok hkd hpk hk es ms 0 r h2 h3 hr
        cases r with
        | none =>
          obtain rfl : hp' = _ := hd
          refine ⟨_, ?_, h.write (upd_setObj w b (.map (ms ++ [({ key := vk, val := vv, born := ck } : MapEntry)]).toArray (ck + 1)) ⟨_, _, h1⟩) hrb hl rfl rfl hb (fun e => ?_)⟩
          · simp only [Instr.mapUpdate, Sem.run_bind, run_under hu, Result.andThen_ok, run_getMap h1, run_checkKey hpk _ 9999 vk w, run_findKey hkd hf w, hso]
            simp
          · refine ⟨_, ck + 1, hget _, ?_, ?_⟩
            · simpa using (RepL.ext e _ _ h2).append (RepL.cons (Rep.ext e _ _ hk) RepL.nil)
            · simpa using (RepL.ext e _ _ h3).append (RepL.cons (Rep.ext e _ _ hv) RepL.nil)
        | some x =>
          obtain ⟨j, v'⟩ := x
          obtain ⟨vv', a1, a2, a3, ek, a4, m', a5, a6, a7⟩ := hf
          obtain rfl : hp' = _ := hd
          simp only [Nat.sub_zero] at a4 a5
          have hjl : j < ms.length := by
            rcases Nat.lt_or_ge j ms.length with hlt | hge
            · exact hlt
            · rw [List.getElem?_eq_none hge] at a5; simp at a5
          have hmod : ms.toArray.modify j (fun e => { e with key := vk, val := vv }) = (ms.set j ({ m' with key := vk, val := vv } : MapEntry)).toArray := by
            apply Array.toList_inj.1
            apply List.ext_getElem?
            intro q
            simp only [Array.getElem?_toList, Array.getElem?_modify, List.getElem?_toArray, List.getElem?_set]
            by_cases hq : j = q
            · subst hq
              have hm' : ms[j] = m' := by rw [List.getElem?_eq_getElem hjl] at a5; exact Option.some.inj a5
              simp [hjl, hm']
            · simp [hq]
          refine ⟨_, ?_, h.write (upd_setObj w b (.map (ms.set j ({ m' with key := vk, val := vv } : MapEntry)).toArray ck) ⟨_, _, h1⟩) hrb hl rfl rfl hb (fun e => ?_)⟩
          · have hst : (Instr.keyThatStays m'.key vk).run P w = .ok vk w := by
              unfold Instr.keyThatStays
              rw [sameBits_of_sameNow a7 10000]
              rfl
            simp only [Instr.mapUpdate, Sem.run_bind, run_under hu, Result.andThen_ok, run_getMap h1, run_checkKey hpk _ 9999 vk w, run_findKey hkd a1 w, List.getElem?_toArray, a5, Option.map_some, Option.getD_some, hst, hmod, hso]
          · refine ⟨_, ck, hget _, ?_, ?_⟩
            · rw [setAt_map, List.map_set]
              exact (RepL.ext e _ _ h2).set j (Rep.ext e _ _ hk)
            · rw [setAt_map, List.map_set]
              exact (RepL.ext e _ _ h3).set j (Rep.ext e _ _ hv)
      · exact hi.elim
    · exact hi.elim
  · exact hi.elim

/-- What comes of an operation that writes memory or makes it. -/
theorem evE_ok (h : Ok g0 w0 M n0 rb N g ⟨fr, hp, nx⟩ a w) {o : Oper} {k : DV → Hp → Nat → Prop} (hk : evE P ct rb (lkF fr) o.op hp nx k) :
    ∃ d hp' nx', k d hp' nx' ∧ ∀ (next : Act → World → Prop) (Q : Exit → Act → World → Prop),
      (∀ v g' w', Ok g0 w0 M n0 rb N g' ⟨fr, hp', nx'⟩ a w' → Rep g' w' d v → next (a.put o.dst v) w') → o.wp P a w next Q := by
  obtain ⟨dst, op, type, pos, after, guard⟩ := o
  dsimp only at hk
  unfold evE at hk
  split at hk
  · -- alloc
    rename_i e
    split at hk
    · rename_i cs hz
      obtain ⟨z, hzr, hz2, hz3⟩ := zeroD_ok hz
      refine ⟨_, _, _, hk, fun next Q hn => ?_⟩
      unfold Oper.wp
      have hrun : (execOp a.eval ⟨dst, .alloc e, type, pos, after, guard⟩).run P w = .ok (.value (.pointer (some ⟨w.heap.size, 0, none⟩))) (w.alloc (.cells z.cells e)) := by
        simp [execOp, Instr.alloc, hzr, newVar, newRow]
      rw [hrun, Oper.upon_value]
      have hR : ORep g (w.alloc (.cells z.cells e)) (.cells e cs) w.heap.size 0 := ⟨z.cells.toList, by rw [heap_new], hz2 _ _, hz3⟩
      refine hn _ _ _ (h.alloc hR) ?_
      simp only [Rep]
      exact ⟨w.heap.size, by simp [G.withNew], by simp [G.withNew, G.off, DP.off, DN.v]⟩
    · exact hk.elim
  · -- box
    rename_i e x
    split at hk
    · rename_i d hd
      split at hk
      · rename_i cs hc
        obtain ⟨r1, r2⟩ := cellsV_ok hc (h.frm.lk hd)
        refine ⟨_, _, _, hk, fun next Q hn => ?_⟩
        unfold Oper.wp
        have hrun : (execOp a.eval ⟨dst, .box e x, type, pos, after, guard⟩).run P w = .ok (.value (.pointer (some ⟨w.heap.size, 0, none⟩))) (w.alloc (.cells (a.eval x).cells e)) := by
          simp [execOp, Instr.box, newVar, newRow]
        rw [hrun, Oper.upon_value]
        have hR : ORep g (w.alloc (.cells (a.eval x).cells e)) (.cells e cs) w.heap.size 0 := ⟨(a.eval x).cells.toList, by rw [heap_new], RepL.ext (h.rel.extS (silent_alloc w _)) _ _ r1, r2⟩
        refine hn _ _ _ (h.alloc hR) ?_
        simp only [Rep]
        exact ⟨w.heap.size, by simp [G.withNew], by simp [G.withNew, G.off, DP.off, DN.v]⟩
      · exact hk.elim
    · exact hk.elim
  · -- store
    rename_i t x y
    split at hk
    · rename_i p d n hx hy hn
      split at hk
      · rename_i cs hc
        split at hk
        · rename_i hlen
          have hlen := Nat.eq_of_beq_eq_true hlen
          obtain ⟨hp', hpath, hk⟩ := hk.path
          have r := h.frm.lk hx
          simp only [Rep] at r
          obtain ⟨b, hb, hv⟩ := r
          obtain ⟨r1, r2⟩ := cellsV_ok hc (h.frm.lk hy)
          obtain ⟨b', w', hb', hrun, hok⟩ := storeN_ok (P := P) h hpath r1 r2
          obtain rfl : b = b' := by rw [hb] at hb'; exact Option.some.inj hb'
          refine ⟨_, _, _, hk, fun next Q hnx => ?_⟩
          unfold Oper.wp
          have hsz : (a.eval y).cells.size = n := by rw [← hlen, ← r1.length]; simp
          have hrun' : (execOp a.eval ⟨dst, .store t x y, type, pos, after, guard⟩).run P w = .ok .skip w' := by
            simp [execOp, Instr.storeAt, hv, Instr.sureAddr, storeVar, run_sizeD hn, hsz, hrun]
          rw [hrun', Oper.upon_skip]
          exact hnx _ _ _ hok (rep_undef _ _)
        · exact hk.elim
      · exact hk.elim
    · exact hk.elim
  · -- buildSlice
    rename_i t len parts
    split at hk
    · rename_i ps hps
      split at hk
      · rename_i e s cs hb
        obtain ⟨hl, hq⟩ := partsD_ok (g := g) (w := w) (ev := a.eval) (fun x _ d hd => h.frm.lk hd) hps
        obtain ⟨os, hrun0, r1, r2, r3⟩ := buildSl_ok (g := g) (w := w) (qs := parts.map fun x => (x.1, a.eval x.2)) hb (by simpa using hl) (fun k i d hkd => by
          obtain ⟨v, hv, rv⟩ := hq k i d hkd
          exact ⟨v, by simpa using hv, rv⟩)
        refine ⟨_, _, _, hk, fun next Q hn => ?_⟩
        unfold Oper.wp
        have hrun : (execOp a.eval ⟨dst, .buildSlice t len parts, type, pos, after, guard⟩).run P w = .ok (.value (.slice (some ⟨w.heap.size, 0, none⟩) len len)) (w.alloc (.cells os.toArray e)) := by
          simp [execOp, hrun0]
        rw [hrun, Oper.upon_value]
        have hR : ORep g (w.alloc (.cells os.toArray e)) (.cells e cs) w.heap.size 0 := ⟨os, by rw [heap_new], RepL.ext (h.rel.extS (silent_alloc w _)) _ _ r1, r2⟩
        refine hn _ _ _ (h.alloc hR) ?_
        simp only [Rep]
        exact .inr ⟨w.heap.size, 0, len, by simp [G.withNew], Nat.le_refl _, rfl, .inr (by simp [G.withNew, G.off, DP.off, DN.v]), _, _, _, by rw [heap_new], by simp [r3]⟩
      · exact hk.elim
    · exact hk.elim
  · -- makeMap
    rename_i t r
    split at hk
    · refine ⟨_, _, _, hk, fun next Q hn => ?_⟩
      unfold Oper.wp
      have hrun : (execOp a.eval ⟨dst, .makeMap t none, type, pos, after, guard⟩).run P w = .ok (.value (.map (some w.heap.size))) (w.alloc (.map #[] 0)) := by
        simp [execOp, Instr.makeMap]
      rw [hrun, Oper.upon_value]
      have hR : ORep g (w.alloc (.map #[] 0)) (.map []) w.heap.size 0 := ⟨[], 0, by rw [heap_new], by simp [RepL], by simp [RepL]⟩
      refine hn _ _ _ (h.alloc hR) ?_
      simp only [Rep]
      exact ⟨w.heap.size, by simp [G.withNew], rfl⟩
    · exact hk.elim
  · -- insert
    rename_i t m x y
    split at hk
    · rename_i dm dx dy hm hx hy
      obtain ⟨hp', hpath, hk⟩ := hk.path
      obtain ⟨w', hrun, hok⟩ := insertT_ok h hpath (h.frm.lk hm) (h.frm.lk hx) (h.frm.lk hy)
      refine ⟨_, _, _, hk, fun next Q hnx => ?_⟩
      unfold Oper.wp
      have hrun' : (execOp a.eval ⟨dst, .insert t m x y, type, pos, after, guard⟩).run P w = .ok .skip w' := by
        simp [execOp, hrun]
      rw [hrun', Oper.upon_skip]
      exact hnx _ _ _ hok (rep_undef _ _)
    · exact hk.elim
  · -- mapUpdate
    rename_i t m x y
    split at hk
    · rename_i dm dx dy hm hx hy
      obtain ⟨hp', hpath, hk⟩ := hk.path
      obtain ⟨w', hrun, hok⟩ := insertT_ok h hpath (h.frm.lk hm) (h.frm.lk hx) (h.frm.lk hy)
      refine ⟨_, _, _, hk, fun next Q hnx => ?_⟩
      unfold Oper.wp
      have hrun' : (execOp a.eval ⟨dst, .mapUpdate t m x y, type, pos, after, guard⟩).run P w = .ok .skip w' := by
        simp [execOp, hrun]
      rw [hrun', Oper.upon_skip]
      exact hnx _ _ _ hok (rep_undef _ _)
    · exact hk.elim
  · -- call
    rename_i c
    split at hk
    · rename_i x hc
      split at hk
      · rename_i f cap args hx ha
        split at hk
        · rename_i cc hcc
          split at hk
          · rename_i ps d hp' nx' hcall
            obtain ⟨hps, hk⟩ := hk
            refine ⟨_, _, _, hk, fun next Q hnx => ?_⟩
            have hfid : cc.f = f := findCC_f hcc
            subst hfid
            have r := h.frm.lk hx
            simp only [Rep] at r
            obtain ⟨vs, hv, rc⟩ := r
            obtain ⟨fn, b1, b2, b3⟩ := cc.body
            have hrun : (execOp a.eval ⟨dst, .call c, type, pos, after, guard⟩).run P w = .ok (.enter cc.f (c.args.toList.map a.eval ++ vs).toArray) w := by
              have e : #[] ++ c.args.map a.eval ++ vs.toArray = (c.args.toList.map a.eval ++ vs).toArray := by
                apply Array.toList_inj.1; simp
              simp only [execOp, resolve, hc, hv, Deferred.ofValue, Sem.run_bind, Sem.run_pure, Result.andThen_ok, invoke, callFunc, run_program, b1, b2, b3, Bool.false_eq_true, if_false, e]
            unfold Oper.wp
            rw [hrun, Oper.upon_enter]
            refine (callC_ok hcall (allP_ok hps) h.rel h.fresh ((mapO_ok (fun x _ d hd => h.frm.lk hd) ha).append rc)).mono ?_
            rintro e w' ⟨v, g', rfl, hR', hr', hE', hK', hf', hown', hpr', hsm'⟩
            have hM : ∀ b, Mine g hp rb b → M b ∨ w0.heap.size ≤ b := by
              rintro b ⟨i, o, hi, hl, hro, hb⟩
              exact h.own i o b hi hl hro hb
            have hlo : n0 ≤ nx := h.lo
            refine hnx v g' w' ⟨hR', h.frm.ext hE', ?_, hf', h.ext.trans hE', ?_, ?_, fun i hi => (hsm' i (by omega)).trans (h.same i hi), by have := callC_nx hcall; show n0 ≤ nx'; omega⟩ hr'
            · intro i o b hi hl hro hb
              rcases hown' i o b hi hl hro hb with h1 | h1
              · exact hM b h1
              · exact .inr (Nat.le_trans h.kept.size h1)
            · refine ⟨hK'.os.trans h.kept.os, hK'.tape.trans h.kept.tape, hK'.output.trans h.kept.output, Nat.le_trans h.kept.size hK'.size, fun b hb hm => ?_⟩
              rw [hK'.kept b (Nat.lt_of_lt_of_le hb h.kept.size) (fun hmm => ?_)]
              · exact h.kept.kept b hb hm
              · rcases hM b hmm with h1 | h1
                · exact hm h1
                · omega
            · intro b hb
              rcases hpr' b hb with h1 | h1 | h1
              · exact h.prg b h1
              · rcases hM b h1 with h2 | h2
                · exact .inr (.inl h2)
                · exact .inr (.inr h2)
              · exact .inr (.inr (Nat.le_trans h.kept.size h1))
          · exact hk.elim
        · exact hk.elim
      · exact hk.elim
    · exact hk.elim
  · exact hk.elim

theorem Ok.put {g' : G} {hp' : Hp} {nx' : Nat} {w' : World} {fr' : Fr} {dst : Option Nat} {d : DV} {v : Value} (h : Ok g0 w0 M n0 rb N g' ⟨fr, hp', nx'⟩ a w') (hs : setF N fr dst d = some fr') (r : Rep g' w' d v) :
    Ok g0 w0 M n0 rb N g' ⟨fr', hp', nx'⟩ (a.put dst v) w' :=
  ⟨h.rel, h.frm.put (Ext.refl _ _) hs r, h.own, h.fresh, h.ext, h.kept, h.prg, h.same, h.lo⟩

theorem Ok.frame {st : St} (h : Ok g0 w0 M n0 rb N g st a w) {fr' : Fr} (hf : FrOk g N fr' a w) : Ok g0 w0 M n0 rb N g ⟨fr', st.hp, st.nx⟩ a w :=
  ⟨h.rel, hf, h.own, h.fresh, h.ext, h.kept, h.prg, h.same, h.lo⟩

theorem runE_ok {ops : Array Oper} {Q : Exit → Act → World → Prop} : ∀ (l : List Oper) (st : St) (K : St → Prop), runE P ct N rb ops.toList l st K → ∀ (g : G) (a : Act) (w : World), Ok g0 w0 M n0 rb N g st a w →
    (∀ st' g' a' w', K st' → Ok g0 w0 M n0 rb N g' st' a' w' → Q .normal a' w') → wpList P ops Q l a w
  | [], st, K, h, g, a, w, hO, hQ => wpList_nil (hQ st g a w h hO)
  | o :: l, st, K, h, g, a, w, hO, hQ => by
    unfold runE at h
    obtain ⟨⟨b, fr1⟩, hg, h⟩ := h.path
    obtain ⟨hw, hF1⟩ := guardT_ok hg hO.frm
    refine wpList_step fun K' hK' => ?_
    rw [hw]
    have hO1 := hO.frame hF1
    cases b with
    | true =>
      simp only [if_true]
      (try dsimp only at h)
      split at h
      · obtain ⟨d, hd, h⟩ := h.path
        split at h
        · rename_i fr2 hs
          refine evS_ok hO.rel (fun x _ d hx => hF1.lk hx) hd a K' Q rfl ?_
          intro v w' hsil hr
          have e := hO.rel.extS hsil
          exact hK' _ _ (runE_ok l _ K h g _ _ (hO1.silent hsil (hF1.put e hs hr)) hQ)
        · exact h.elim
      · obtain ⟨d, hp', nx', hk, hwp⟩ := evE_ok hO1 h
        (try dsimp only at hk)
        split at hk
        · rename_i fr2 hs
          refine hwp K' Q ?_
          intro v g' w' hO' hr
          exact hK' _ _ (runE_ok l _ K hk g' _ _ (hO'.put hs hr) hQ)
        · exact hk.elim
    | false =>
      (try dsimp only at h)
      split at h
      · rename_i fr2 hs
        simp only [Bool.false_eq_true, if_false]
        exact hK' _ _ (runE_ok l _ K h g _ _ (hO1.put hs (rep_undef _ _)) hQ)
      · exact h.elim

theorem iteB_v (c : Bool) (x y : DB) : (iteB c x y).v = if c then x.v else y.v := by
  cases c <;> rcases x with (_ | _) | _ <;> rcases y with (_ | _) | _ <;> simp [iteB, DB.v]

theorem mergeT_ok {s : Nat} : ∀ {t : T Fr} {b : DB} {fr' : Fr}, mergeT s t = some b → t.Path fr' → ∃ b', look fr' s = some (.bool b') ∧ b'.v = b.v
  | .fail, _, _, h, _ => by simp [mergeT] at h
  | .leaf fr, b, fr', h, hp => by
    obtain rfl : fr' = fr := hp
    unfold mergeT at h
    split at h
    · rename_i b' hb
      obtain rfl := Option.some.inj h
      exact ⟨b', hb, rfl⟩
    · simp at h
  | .br c t e, b, fr', h, hp => by
    unfold mergeT at h
    split at h
    · rename_i x y hx hy
      obtain rfl := Option.some.inj h
      rw [iteB_v]
      rcases hp with ⟨hc, hp⟩ | ⟨hc, hp⟩
      · obtain ⟨b', h1, h2⟩ := mergeT_ok hx hp; exact ⟨b', h1, by rw [h2, hc]; rfl⟩
      · obtain ⟨b', h1, h2⟩ := mergeT_ok hy hp; exact ⟨b', h1, by rw [h2, hc]; rfl⟩
    · simp at h
  | .ob _ t, b, fr', h, hp => by
    unfold mergeT at h
    exact mergeT_ok h hp.2

theorem path_of_noOb : ∀ {t : T Fr}, t.owes = false → ∃ fr', t.Path fr'
  | .fail, h => by simp [T.owes] at h
  | .leaf fr, _ => ⟨fr, rfl⟩
  | .br b t e, h => by
    unfold T.owes at h
    split at h
    · simp at h
    · rename_i ht
      cases b with
      | true => obtain ⟨x, hx⟩ := path_of_noOb ht; exact ⟨x, .inl ⟨rfl, hx⟩⟩
      | false => obtain ⟨x, hx⟩ := path_of_noOb h; exact ⟨x, .inr ⟨rfl, hx⟩⟩
  | .ob _ _, h => by simp [T.owes] at h

/-- One way through a region of silent operations: the run of it, and the state in which it leaves. -/
theorem isSil_ok {ops : List Oper} {st : St} {K : St → Prop} (h : isSil P ct N ops st K) : ∃ fr', (runS P ct N st.hp ops ops st.fr).Path fr' ∧
    ∃ fr2, K ⟨fr2, st.hp, st.nx⟩ ∧ (fr2 = fr' ∨ ∃ s b b', fr2 = (s, .bool b) :: dropW ops st.fr ∧ look fr' s = some (.bool b') ∧ b'.v = b.v ∧ s < N) := by
  have plain : ((runS P ct N st.hp ops ops st.fr).Holds fun fr => K ⟨fr, st.hp, st.nx⟩) → ∃ fr', (runS P ct N st.hp ops ops st.fr).Path fr' ∧
    ∃ fr2, K ⟨fr2, st.hp, st.nx⟩ ∧ (fr2 = fr' ∨ ∃ s b b', fr2 = (s, .bool b) :: dropW ops st.fr ∧ look fr' s = some (.bool b') ∧ b'.v = b.v ∧ s < N) := by
    intro h
    obtain ⟨fr', hp, hk⟩ := h.path
    exact ⟨fr', hp, fr', hk, .inl rfl⟩
  unfold isSil at h
  split at h
  · exact plain h
  · split at h
    · rename_i s hs
      split at h
      · rename_i b hm hlt
        have hlt := Nat.le_of_ble_eq_true hlt
        split at h
        · obtain ⟨fr', hp, _⟩ := h.1.path
          obtain ⟨b', h1, h2⟩ := mergeT_ok hm hp
          exact ⟨fr', hp, _, h.2, .inr ⟨s, b, b', rfl, h1, h2, hlt⟩⟩
        · rename_i ho
          obtain ⟨fr', hp⟩ := path_of_noOb ho
          obtain ⟨b', h1, h2⟩ := mergeT_ok hm hp
          exact ⟨fr', hp, _, h, .inr ⟨s, b, b', rfl, h1, h2, hlt⟩⟩
      · exact plain h
    · exact plain h
end
end Go.DE
