import Derived.Test.YtnoccknoaihjlaaEng4
set_option linter.unusedVariables false
set_option linter.unusedSimpArgs false
set_option linter.unnecessarySimpa false
/- The engine, part 5: structs and arrays built; the silent operation as a whole. -/
namespace Go.DE
universe u v

theorem cellsV_ok {g : G} {w : World} {d : DV} {cs : List DV} {v : Value} (h : cellsV d = some cs) (r : Rep g w d v) : RepL g w cs v.cells.toList ∧ ∀ u ∈ v.cells.toList, oneC u = true := by
  have one : cs = [d] → v.cells = #[v] → oneC v = true → RepL g w cs v.cells.toList ∧ ∀ u ∈ v.cells.toList, oneC u = true := by
    intro e1 e2 e3
    subst e1
    rw [e2]
    exact ⟨RepL.cons r RepL.nil, by simp [e3]⟩
  cases d <;> simp only [cellsV, Option.some.injEq, reduceCtorEq] at h
  case agg l =>
    subst h
    simp only [Rep] at r
    obtain ⟨vs, rfl, r, h1⟩ := r
    simpa [Value.cells] using ⟨r, h1⟩
  case imm m =>
    simp only [Rep] at r
    have h1 := m.one _ _ _ r
    refine one h.symm ?_ h1
    cases v <;> first | rfl | (simp [oneC] at h1)
  case slice p n =>
    have r' := r
    simp only [Rep] at r'
    rcases r' with ⟨e, _⟩ | ⟨_, _, _, _, _, e, _⟩ <;> (subst e; exact one h.symm rfl rfl)
  all_goals (
    have r' := r
    simp only [Rep] at r'
    first
      | (subst r'; exact one h.symm rfl rfl)
      | (obtain ⟨_, _, rfl⟩ := r'; exact one h.symm rfl rfl)
      | (obtain ⟨_, rfl, _⟩ := r'; exact one h.symm rfl rfl))

theorem foldl_set (off : Nat) : ∀ (vs : List Value) (k : Nat) (l : List Value), off + k + vs.length ≤ l.length →
    (vs.zipIdx k).foldl (fun cs (x : Value × Nat) => cs.setIfInBounds (off + x.2) x.1) l.toArray = (l.take (off + k) ++ vs ++ l.drop (off + k + vs.length)).toArray
  | [], k, l, h => by simp
  | v :: vs, k, l, h => by
    simp only [List.length_cons] at h
    simp only [List.zipIdx_cons, List.foldl_cons, List.setIfInBounds_toArray]
    rw [foldl_set off vs (k + 1) (l.set (off + k) v) (by simp; omega)]
    congr 1
    have e1 : (l.set (off + k) v).take (off + (k + 1)) = l.take (off + k) ++ [v] := by
      rw [← Nat.add_assoc, List.take_succ_eq_append_getElem (by simp; omega)]
      simp [List.take_set_of_le]
    have e2 : (l.set (off + k) v).drop (off + (k + 1) + vs.length) = l.drop (off + k + (v :: vs).length) := by
      rw [List.drop_set_of_lt (by omega)]
      congr 1
      simp; omega
    rw [e1, e2]
    simp

theorem setRange_rep {g : G} {w : World} {cs new : List DV} {us vs : List Value} (off : Nat) (h : RepL g w cs us) (k : RepL g w new vs) :
    RepL g w (setRange cs off new) (us.take off ++ vs ++ us.drop (off + vs.length)) := by
  unfold setRange
  rw [k.length]
  exact ((h.take off).append k).append (h.drop _)

theorem fill_ok {P : Program} {g : G} {w : World} {place : Nat → Option (Nat × Nat)} : ∀ (ps : List (Nat × DV)) (qs : List (Nat × Value)) (cs out : List DV) (us : List Value),
    fillD place cs ps = some out → RepL g w cs us → (∀ u ∈ us, oneC u = true) → ps.length = qs.length → (∀ (k i : Nat) (d : DV), ps[k]? = some (i, d) → ∃ v, qs[k]? = some (i, v) ∧ Rep g w d v) →
    ∃ os : List Value, Instr.fill place us.toArray qs = some os.toArray ∧ RepL g w out os ∧ ∀ u ∈ os, oneC u = true
  | [], qs, cs, out, us, h, r, h1, hl, hq => by
    have : qs = [] := by cases qs <;> simp at hl ⊢
    subst this
    simp only [fillD, Option.some.injEq] at h
    subst h
    exact ⟨us, rfl, r, h1⟩
  | (i, d) :: ps, qs, cs, out, us, h, r, h1, hl, hq => by
    cases qs with
    | nil => simp at hl
    | cons q qs =>
      obtain ⟨v, hv, rv⟩ := hq 0 i d rfl
      obtain rfl : q = (i, v) := by simpa using hv
      unfold fillD at h
      split at h
      · rename_i off size vs hp hc
        split at h
        · rename_i hs hle
          have hs := Nat.eq_of_beq_eq_true hs
          have hle := Nat.le_of_ble_eq_true hle
          obtain ⟨rc, h1c⟩ := cellsV_ok hc rv
          have hvl := rc.length
          have hsz : v.cells.size = size := by rw [← hs, ← hvl]; simp
          have hus := r.length
          have ih := fill_ok (P := P) (g := g) (w := w) ps qs (setRange cs off vs) out (us.take off ++ v.cells.toList ++ us.drop (off + v.cells.toList.length)) h
            (setRange_rep off r rc) (by
              intro u hu
              simp only [List.mem_append] at hu
              rcases hu with (hu | hu) | hu
              · exact h1 u (List.mem_of_mem_take hu)
              · exact h1c u hu
              · exact h1 u (List.mem_of_mem_drop hu)) (by simpa using hl) (fun k j e hk => hq (k + 1) j e (by simpa using hk))
          obtain ⟨os, ho, ro, h1o⟩ := ih
          refine ⟨os, ?_, ro, h1o⟩
          have hf := foldl_set off v.cells.toList 0 us (by simp [hsz]; omega)
          simp only [Nat.add_zero] at hf
          have hcond : (decide (v.cells.size ≠ size) || decide (off + v.cells.size > us.toArray.size)) = false := by
            simp [hsz]; omega
          simp only [Instr.fill, hp]
          rw [if_neg (by simpa using hcond)]
          rw [← Array.foldl_toList, Array.toList_zipIdx]
          rw [← ho]
          congr 1
        · simp at h
      · simp at h

theorem ofValues_ok {g : G} {w : World} : ∀ {vs : List Value} {ds : List DV}, ofValues vs = some ds → RepL g w ds vs
  | [], ds, h => by simp [ofValues] at h; subst h; exact RepL.nil
  | v :: vs, ds, h => by
    unfold ofValues at h
    split at h
    · rename_i d ds' h1 h2
      obtain rfl := Option.some.inj h
      exact RepL.cons (rep_of_value g w h1) (ofValues_ok h2)
    · simp at h

theorem ofValue_one {v : Value} {d : DV} (h : ofValue v = some d) : oneC v = true := by
  unfold ofValue at h
  split at h <;> first | rfl | simp at h
theorem ofValues_one : ∀ {vs : List Value} {ds : List DV}, ofValues vs = some ds → ∀ u ∈ vs, oneC u = true
  | [], _, _, u, hu => by simp at hu
  | v :: vs, ds, h, u, hu => by
    unfold ofValues at h
    split at h
    · rename_i d ds' h1 h2
      rcases List.mem_cons.1 hu with rfl | hu
      · exact ofValue_one h1
      · exact ofValues_one h2 u hu
    · simp at h

theorem zeroD_ok {P : Program} {t : TypeId} {cs : List DV} (h : zeroD P t = some cs) : ∃ z, (∀ w, (zeroValue t).run P w = .ok z w) ∧ (∀ g w, RepL g w cs z.cells.toList) ∧ ∀ u ∈ z.cells.toList, oneC u = true := by
  unfold zeroD at h
  split at h
  · rename_i i hi
    split at h
    · rename_i z hz
      exact ⟨z, fun w => by simp [zeroValue, typeInfo, hi, hz], fun g w => ofValues_ok h, ofValues_one h⟩
    · simp at h
  · simp at h

theorem run_places {P : Program} {fs : List Field} {l : List (Nat × Nat)} (h : placesD P fs = some l) (w : World) :
    (fs.mapM (m := Sem) fun f => do pure (f.offset, ← sizeOf f.type)).run P w = .ok l w := by
  induction fs generalizing l with
  | nil => simp [placesD] at h; subst h; rfl
  | cons f fs ih =>
    unfold placesD at h
    split at h
    · rename_i n l' hn hl
      obtain rfl := Option.some.inj h
      have := ih hl
      simp only [List.mapM_cons, Sem.run_bind, run_sizeD hn, Result.andThen_ok, Sem.run_pure, this]
    · simp at h

theorem buildD_ok {P : Program} {g : G} {w : World} {t : TypeId} {ps : List (Nat × DV)} {qs : Array (Nat × Value)} {d : DV} (h : buildD P t ps = some d) (hl : ps.length = qs.size)
    (hq : ∀ (k i : Nat) (e : DV), ps[k]? = some (i, e) → ∃ v, qs.toList[k]? = some (i, v) ∧ Rep g w e v) : Gives P g w (Instr.build t qs) d := by
  unfold buildD at h
  split at h
  · simp at h
  · rename_i z hz
    obtain ⟨zv, hzr, hz2, hz3⟩ := zeroD_ok hz
    split at h
    · rename_i fs hu
      split at h
      · rename_i places hp
        split at h
        · rename_i cs hf
          obtain rfl := Option.some.inj h
          obtain ⟨os, ho, ro, h1o⟩ := fill_ok (P := P) ps qs.toList z cs zv.cells.toList hf (hz2 g w) hz3 (by simpa using hl) hq
          refine ⟨.agg os.toArray, ?_, by simp only [Rep]; exact ⟨os, rfl, ro, h1o⟩⟩
          have hm : (fs.mapM (m := Sem) fun f => do pure (f.offset, ← sizeOf f.type)).run P w = .ok places.toArray w := by
            rw [Array.mapM_eq_mapM_toList, Sem.run_map, run_places hp]
            rfl
          have ho' : Instr.fill (fun i => places.toArray[i]?) zv.cells qs.toList = some os.toArray := by
            simpa using ho
          simp only [Instr.build, Sem.run_bind, hzr, run_under hu, Result.andThen_ok, hm, ho', Sem.run_pure]
        · simp at h
      · simp at h
    · rename_i n e hu
      split at h
      · rename_i s hs
        split at h
        · rename_i cs hf
          obtain rfl := Option.some.inj h
          obtain ⟨os, ho, ro, h1o⟩ := fill_ok (P := P) ps qs.toList z cs zv.cells.toList hf (hz2 g w) hz3 (by simpa using hl) hq
          refine ⟨.agg os.toArray, ?_, by simp only [Rep]; exact ⟨os, rfl, ro, h1o⟩⟩
          have ho' : Instr.fill (fun i => some (i * s, s)) zv.cells qs.toList = some os.toArray := by
            simpa using ho
          simp only [Instr.build, Sem.run_bind, hzr, run_under hu, run_sizeD hs, Result.andThen_ok, ho', Sem.run_pure]
        · simp at h
      · simp at h
    · simp at h

end Go.DE
