import Derived.Test.YtfacddeaobogjaaF5
set_option linter.unusedVariables false
set_option linter.unusedSimpArgs false
set_option linter.unnecessarySimpa false
/- The engine, part 6: structs and arrays built; maps, looked up. -/
namespace Go.DF
universe u v
set_option linter.unusedSimpArgs false
set_option linter.unusedVariables false
variable [Fam]

theorem cellsV_ok {g : G} {w : World} {d : DV} {cs : List DV} {v : Value} (h : cellsV d = some cs) (r : Rep g w d v) : RepL g w cs v.cells.toList ∧ ∀ u ∈ v.cells.toList, oneC u = true := by
  have one : cs = [d] → v.cells = #[v] → oneC v = true → RepL g w cs v.cells.toList ∧ ∀ u ∈ v.cells.toList, oneC u = true := by
    intro e1 e2 e3
    subst e1
    rw [e2]
    exact ⟨RepL.cons r RepL.nil, by simp [e3]⟩
  cases d <;> simp only [cellsV, Option.some.injEq, reduceCtorEq] at h
  case agg l =>
    subst h
    simp only [Rep] at r
    obtain ⟨vs, rfl, r, h1⟩ := r
    simpa [Value.cells] using ⟨r, h1⟩
  case per c a =>
    have r' := r
    simp only [Rep] at r'
    have h1 := r'.one v (by simp)
    refine one h.symm ?_ h1
    cases v <;> first | rfl | (simp [oneC] at h1)
  case pel c a o =>
    have r' := r
    simp only [Rep] at r'
    obtain ⟨b, o', cs', t, fr, rfl, _⟩ := r'
    exact one h.symm rfl rfl
  case nn c l =>
    have r' := r
    simp only [Rep] at r'
    obtain ⟨⟨_, _, _, rfl⟩, _⟩ := r'
    exact one h.symm rfl rfl
  case slice p n =>
    have r' := r
    simp only [Rep] at r'
    rcases r' with ⟨_, e, _⟩ | ⟨_, _, _, _, _, e, _⟩ <;> (subst e; exact one h.symm rfl rfl)
  all_goals (
    have r' := r
    simp only [Rep] at r'
    first
      | (subst r'; exact one h.symm rfl rfl)
      | (obtain ⟨_, _, rfl⟩ := r'; exact one h.symm rfl rfl)
      | (obtain ⟨_, rfl, _⟩ := r'; exact one h.symm rfl rfl))

omit [Fam] in
theorem foldl_set (off : Nat) : ∀ (vs : List Value) (k : Nat) (l : List Value), off + k + vs.length ≤ l.length →
    (vs.zipIdx k).foldl (fun cs (x : Value × Nat) => cs.setIfInBounds (off + x.2) x.1) l.toArray = (l.take (off + k) ++ vs ++ l.drop (off + k + vs.length)).toArray
  | [], k, l, h => by simp
  | v :: vs, k, l, h => by
    simp only [List.length_cons] at h
    simp only [List.zipIdx_cons, List.foldl_cons, List.setIfInBounds_toArray]
    rw [foldl_set off vs (k + 1) (l.set (off + k) v) (by simp; omega)]
    congr 1
    have e1 : (l.set (off + k) v).take (off + (k + 1)) = l.take (off + k) ++ [v] := by
      rw [← Nat.add_assoc, List.take_succ_eq_append_getElem (by simp; omega)]
      simp [List.take_set_of_le]
    have e2 : (l.set (off + k) v).drop (off + (k + 1) + vs.length) = l.drop (off + k + (v :: vs).length) := by
      rw [List.drop_set_of_lt (by omega)]
      congr 1
      simp; omega
    rw [e1, e2]
    simp

theorem setRange_rep {g : G} {w : World} {cs new : List DV} {us vs : List Value} (off : Nat) (h : RepL g w cs us) (k : RepL g w new vs) :
    RepL g w (setRange cs off new) (us.take off ++ vs ++ us.drop (off + vs.length)) := by
  unfold setRange
  rw [k.length]
  exact ((h.take off).append k).append (h.drop _)

theorem fill_ok {P : Program} {g : G} {w : World} {place : Nat → Option (Nat × Nat)} : ∀ (ps : List (Nat × DV)) (qs : List (Nat × Value)) (cs out : List DV) (us : List Value),
    fillD place cs ps = some out → RepL g w cs us → (∀ u ∈ us, oneC u = true) → ps.length = qs.length → (∀ (k i : Nat) (d : DV), ps[k]? = some (i, d) → ∃ v, qs[k]? = some (i, v) ∧ Rep g w d v) →
    ∃ os : List Value, Instr.fill place us.toArray qs = some os.toArray ∧ RepL g w out os ∧ ∀ u ∈ os, oneC u = true
  | [], qs, cs, out, us, h, r, h1, hl, hq => by
    have : qs = [] := by cases qs <;> simp at hl ⊢
    subst this
    simp only [fillD, Option.some.injEq] at h
    subst h
    exact ⟨us, rfl, r, h1⟩
  | (i, d) :: ps, qs, cs, out, us, h, r, h1, hl, hq => by
    cases qs with
    | nil => simp at hl
    | cons q qs =>
      obtain ⟨v, hv, rv⟩ := hq 0 i d rfl
      obtain rfl : q = (i, v) := by simpa using hv
      unfold fillD at h
      split at h
      · rename_i off size vs hp hc
        split at h
        · rename_i hs hle
          have hs := Nat.eq_of_beq_eq_true hs
          have hle := Nat.le_of_ble_eq_true hle
          obtain ⟨rc, h1c⟩ := cellsV_ok hc rv
          have hvl := rc.length
          have hsz : v.cells.size = size := by rw [← hs, ← hvl]; simp
          have hus := r.length
          have ih := fill_ok (P := P) (g := g) (w := w) ps qs (setRange cs off vs) out (us.take off ++ v.cells.toList ++ us.drop (off + v.cells.toList.length)) h
            (setRange_rep off r rc) (by
              intro u hu
              simp only [List.mem_append] at hu
              rcases hu with (hu | hu) | hu
              · exact h1 u (List.mem_of_mem_take hu)
              · exact h1c u hu
              · exact h1 u (List.mem_of_mem_drop hu)) (by simpa using hl) (fun k j e hk => hq (k + 1) j e (by simpa using hk))
          obtain ⟨os, ho, ro, h1o⟩ := ih
          refine ⟨os, ?_, ro, h1o⟩
          have hf := foldl_set off v.cells.toList 0 us (by simp [hsz]; omega)
          simp only [Nat.add_zero] at hf
          have hcond : (decide (v.cells.size ≠ size) || decide (off + v.cells.size > us.toArray.size)) = false := by
            simp [hsz]; omega
          simp only [Instr.fill, hp]
          rw [if_neg (by simpa using hcond)]
          rw [← Array.foldl_toList, Array.toList_zipIdx]
          rw [← ho]
          congr 1
        · simp at h
      · simp at h

theorem ofValues_ok {g : G} {w : World} : ∀ {vs : List Value} {ds : List DV}, ofValues vs = some ds → RepL g w ds vs
  | [], ds, h => by simp [ofValues] at h; subst h; exact RepL.nil
  | v :: vs, ds, h => by
    unfold ofValues at h
    split at h
    · rename_i d ds' h1 h2
      obtain rfl := Option.some.inj h
      exact RepL.cons (rep_of_value g w h1) (ofValues_ok h2)
    · simp at h

theorem ofValue_one {v : Value} {d : DV} (h : ofValue v = some d) : oneC v = true := by
  unfold ofValue at h
  split at h <;> first | rfl | simp at h
theorem ofValues_one : ∀ {vs : List Value} {ds : List DV}, ofValues vs = some ds → ∀ u ∈ vs, oneC u = true
  | [], _, _, u, hu => by simp at hu
  | v :: vs, ds, h, u, hu => by
    unfold ofValues at h
    split at h
    · rename_i d ds' h1 h2
      rcases List.mem_cons.1 hu with rfl | hu
      · exact ofValue_one h1
      · exact ofValues_one h2 u hu
    · simp at h

theorem zeroD_ok {P : Program} {t : TypeId} {cs : List DV} (h : zeroD P t = some cs) : ∃ z, (∀ w, (zeroValue t).run P w = .ok z w) ∧ (∀ g w, RepL g w cs z.cells.toList) ∧ ∀ u ∈ z.cells.toList, oneC u = true := by
  unfold zeroD at h
  split at h
  · rename_i i hi
    split at h
    · rename_i z hz
      exact ⟨z, fun w => by simp [zeroValue, typeInfo, hi, hz], fun g w => ofValues_ok h, ofValues_one h⟩
    · simp at h
  · simp at h

omit [Fam] in
theorem run_places {P : Program} {fs : List Field} {l : List (Nat × Nat)} (h : placesD P fs = some l) (w : World) :
    (fs.mapM (m := Sem) fun f => do pure (f.offset, ← sizeOf f.type)).run P w = .ok l w := by
  induction fs generalizing l with
  | nil => simp [placesD] at h; subst h; rfl
  | cons f fs ih =>
    unfold placesD at h
    split at h
    · rename_i n l' hn hl
      obtain rfl := Option.some.inj h
      have := ih hl
      simp only [List.mapM_cons, Sem.run_bind, run_sizeD hn, Result.andThen_ok, Sem.run_pure, this]
    · simp at h

theorem buildD_ok {P : Program} {g : G} {w : World} {t : TypeId} {ps : List (Nat × DV)} {qs : Array (Nat × Value)} {d : DV} (h : buildD P t ps = some d) (hl : ps.length = qs.size)
    (hq : ∀ (k i : Nat) (e : DV), ps[k]? = some (i, e) → ∃ v, qs.toList[k]? = some (i, v) ∧ Rep g w e v) : Gives P g w (Instr.build t qs) d := by
  unfold buildD at h
  split at h
  · simp at h
  · rename_i z hz
    obtain ⟨zv, hzr, hz2, hz3⟩ := zeroD_ok hz
    split at h
    · rename_i fs hu
      split at h
      · rename_i places hp
        split at h
        · rename_i cs hf
          obtain rfl := Option.some.inj h
          obtain ⟨os, ho, ro, h1o⟩ := fill_ok (P := P) ps qs.toList z cs zv.cells.toList hf (hz2 g w) hz3 (by simpa using hl) hq
          refine ⟨.agg os.toArray, ?_, by simp only [Rep]; exact ⟨os, rfl, ro, h1o⟩⟩
          have hm : (fs.mapM (m := Sem) fun f => do pure (f.offset, ← sizeOf f.type)).run P w = .ok places.toArray w := by
            rw [Array.mapM_eq_mapM_toList, Sem.run_map, run_places hp]
            rfl
          have ho' : Instr.fill (fun i => places.toArray[i]?) zv.cells qs.toList = some os.toArray := by
            simpa using ho
          simp only [Instr.build, Sem.run_bind, hzr, run_under hu, Result.andThen_ok, hm, ho', Sem.run_pure]
        · simp at h
      · simp at h
    · rename_i n e hu
      split at h
      · rename_i s hs
        split at h
        · rename_i cs hf
          obtain rfl := Option.some.inj h
          obtain ⟨os, ho, ro, h1o⟩ := fill_ok (P := P) ps qs.toList z cs zv.cells.toList hf (hz2 g w) hz3 (by simpa using hl) hq
          refine ⟨.agg os.toArray, ?_, by simp only [Rep]; exact ⟨os, rfl, ro, h1o⟩⟩
          have ho' : Instr.fill (fun i => some (i * s, s)) zv.cells qs.toList = some os.toArray := by
            simpa using ho
          simp only [Instr.build, Sem.run_bind, hzr, run_under hu, run_sizeD hs, Result.andThen_ok, ho', Sem.run_pure]
        · simp at h
      · simp at h
    · simp at h


omit [Fam] in
theorem plainK_ok {P : Program} {t : TypeId} (h : plainK P t = true) : (∃ k, P.underlying t = some (.int k)) ∨ P.underlying t = some .string ∨ P.underlying t = some .bool := by
  unfold plainK underD at h
  split at h
  · rename_i k hk; exact .inl ⟨k, hk⟩
  · rename_i hk; exact .inr (.inl hk)
  · rename_i hk; exact .inr (.inr hk)
  · simp at h

omit [Fam] in
theorem run_checkKey {P : Program} {t : TypeId} (h : plainK P t = true) (e : Bool) (n : Nat) (v : Value) (w : World) : (Instr.checkKey e (n + 1) t v).run P w = .ok () w := by
  unfold Instr.checkKey
  rcases plainK_ok h with ⟨k, hk⟩ | hk | hk <;> simp only [Sem.run_bind, run_underlying hk, Result.andThen_ok] <;> cases v <;> rfl

theorem sameNow_ok {P : Program} {g : G} {w : World} {t : TypeId} {k ek : DV} {vk ve : Value} {r : DB} {d : TypeDesc} (hd : P.underlying t = some d) (hp : plainK P t = true) (h : eqV P t k ek = some r) (hk : Rep g w k vk) (he : Rep g w ek ve) :
    Instr.sameNow d vk ve = some r.v := by
  have hu := plainK_ok hp
  rw [hd] at hu
  unfold eqV underD at h
  rw [hd] at h
  split at h <;> (try simp only [Rep] at hk he)
  · split at h
    · rename_i h1; obtain rfl := Option.some.inj h1; obtain rfl := Option.some.inj h; subst hk he; simp [Instr.sameNow, eqB_v]
    · simp at h
  · split at h
    · rename_i h1 h2
      obtain rfl := Option.some.inj h1; obtain rfl := Option.some.inj h; subst hk he
      obtain rfl := of_decide_eq_true h2
      simp [Instr.sameNow, twoB_v]
    · simp at h
  · split at h
    · rename_i h1; obtain rfl := Option.some.inj h1; obtain rfl := Option.some.inj h; subst hk he; simp [Instr.sameNow, eqS_v, beq_toListBytes]
    · simp at h
  all_goals first
    | (split at h
       · rename_i h1; obtain rfl := Option.some.inj h1; simp at hu
       · simp at h)
    | simp at h

/-- What the search for a key found. -/
def FoundR (g : G) (w : World) (d : TypeDesc) (vk : Value) (es : List (DV × DV)) (ms : List MapEntry) (i : Nat) : Option (Nat × DV) → Prop
  | some (j, v) => ∃ vv, Instr.findNow d vk ms i = some (some (j, vv)) ∧ Rep g w v vv ∧ i ≤ j ∧ ∃ ek, es[j - i]? = some (ek, v) ∧ ∃ m, ms[j - i]? = some m ∧ m.val = vv ∧ Instr.sameNow d vk m.key = some true
  | none => Instr.findNow d vk ms i = some none

theorem findT_ok {P : Program} {g : G} {w : World} {t : TypeId} {k : DV} {vk : Value} {d : TypeDesc} (hd : P.underlying t = some d) (hp : plainK P t = true) (hk : Rep g w k vk) :
    ∀ (es : List (DV × DV)) (ms : List MapEntry) (i : Nat) (r : Option (Nat × DV)), RepL g w (es.map (·.1)) (ms.map (·.key)) → RepL g w (es.map (·.2)) (ms.map (·.val)) → (findT P t k es i).Path r →
      FoundR g w d vk es ms i r
  | [], ms, i, r, h1, h2, h => by
    obtain rfl : r = none := h
    simp only [List.map_nil, RepL] at h1
    have : ms = [] := by cases ms <;> simp at h1 ⊢
    subst this
    rfl
  | (ek, v) :: es, ms, i, r, h1, h2, h => by
    cases ms with
    | nil => simp [RepL] at h1
    | cons m ms =>
      simp only [List.map_cons, RepL] at h1 h2
      obtain ⟨kv, us, he1, hkv, h1⟩ := h1
      obtain ⟨vv, us', he2, hvv, h2⟩ := h2
      simp only [List.cons.injEq] at he1 he2
      obtain ⟨rfl, rfl⟩ := he1
      obtain ⟨rfl, rfl⟩ := he2
      have found : ∀ b : DB, eqV P t k ek = some b → b.v = true → r = some (i, v) → FoundR g w d vk ((ek, v) :: es) (m :: ms) i r := by
        intro b hb hv hr
        subst hr
        have hs := sameNow_ok hd hp hb hk hkv
        rw [hv] at hs
        exact ⟨m.val, by simp [Instr.findNow, hs], hvv, Nat.le_refl _, ek, by simp, m, by simp, rfl, hs⟩
      have next : ∀ b : DB, eqV P t k ek = some b → b.v = false → (findT P t k es (i + 1)).Path r → FoundR g w d vk ((ek, v) :: es) (m :: ms) i r := by
        intro b hb hv hr
        have hs := sameNow_ok hd hp hb hk hkv
        rw [hv] at hs
        have ih := findT_ok hd hp hk es ms (i + 1) r h1 h2 hr
        cases r with
        | none => simpa [FoundR, Instr.findNow, hs] using ih
        | some x =>
          obtain ⟨j, v'⟩ := x
          obtain ⟨vv, a1, a2, a3, ek', a4, m', a5, a6, a7⟩ := ih
          refine ⟨vv, by simpa [Instr.findNow, hs] using a1, a2, by omega, ek', ?_, m', ?_, a6, a7⟩
          · rw [show j - i = (j - (i + 1)) + 1 by omega]; simpa using a4
          · rw [show j - i = (j - (i + 1)) + 1 by omega]; simpa using a5
      unfold findT at h
      split at h
      · rename_i hb; exact found _ hb rfl h
      · rename_i hb; exact next _ hb rfl h
      · rename_i b hb
        rcases h with ⟨hv, h⟩ | ⟨hv, h⟩
        · exact found _ hb hv h
        · exact next _ hb hv h
      · exact h.elim

omit [Fam] in
theorem run_findKey {P : Program} {t : TypeId} {d : TypeDesc} (hd : P.underlying t = some d) {vk : Value} {ms : List MapEntry} {r : Option (Nat × Value)} (h : Instr.findNow d vk ms 0 = some r) (w : World) :
    (Instr.findKey t vk ms).run P w = .ok r w := by
  simp [Instr.findKey, run_underlying hd, h]

theorem zeroV_ok {P : Program} {t : TypeId} {d : DV} (h : zeroV P t = some d) : ∃ z, (∀ w, (zeroValue t).run P w = .ok z w) ∧ ∀ g w, Rep g w d z := by
  unfold zeroV at h
  split at h
  · rename_i i hi
    split at h
    · rename_i cs hz
      split at h
      · rename_i l hl
        obtain rfl := Option.some.inj h
        refine ⟨.agg cs, fun w => by simp [zeroValue, typeInfo, hi, hz], fun g w => ?_⟩
        simp only [Rep]
        exact ⟨cs.toList, by simp, ofValues_ok hl, ofValues_one hl⟩
      · simp at h
    · rename_i z hz _
      exact ⟨z, fun w => by simp [zeroValue, typeInfo, hi, ‹i.zero = some z›], fun g w => rep_of_value g w h⟩
    · simp at h
  · simp at h


/-! ### maps whose entries are data -/
omit [Fam] in
theorem bytes_eq {a b : ByteArray} (h : (a.toList == b.toList) = true) : a = b := by
  have h : a.toList = b.toList := by simpa using h
  have e : ∀ x : ByteArray, x.toList = x.data.toList := fun x => ByteArray.toList_eq x
  rw [e, e] at h
  cases a; cases b
  simp only at h
  rw [Array.toList_inj.1 h]
theorem CT.beq_eq : ∀ {c : CT}, c.flat = true → ∀ {a b : c.D}, c.beq a b = true → a = b
  | .int _, _, a, b, h => eq_of_beq (α := Int) h
  | .bool, _, a, b, h => eq_of_beq (α := Bool) h
  | .str, _, a, b, h => bytes_eq (by simpa only [CT.beq] using h)
  | .pair p q, hf, x, y, h => by
    have hf : (match p.flat with | true => q.flat | false => false) = true := hf
    have h : (p.beq x.1 y.1 && q.beq x.2 y.2) = true := h
    rw [Bool.and_eq_true] at h
    cases hp : p.flat with
    | false => rw [hp] at hf; simp at hf
    | true =>
      rw [hp] at hf
      exact Prod.ext (CT.beq_eq hp h.1) (CT.beq_eq hf h.2)
  | .sl _, hf, _, _, _ => by simp [CT.flat] at hf
  | .pt _, hf, _, _, _ => by simp [CT.flat] at hf
  | .mp _ _ _ _, hf, _, _, _ => by simp [CT.flat] at hf
  | .ref _, hf, _, _, _ => by simp [CT.flat] at hf
/-- Without memory behind it, a datum is what its cells are. -/
theorem Rp.flat_eq {w w' : World} {S S' : Nat → Prop} : ∀ {c : CT}, c.flat = true → ∀ {a : c.D} {us vs : List Value}, Rp w S c a us → Rp w' S' c a vs → us = vs
  | .int _, _, a, us, vs, h, k => by have h : us = _ := h; have k : vs = _ := k; rw [h, k]
  | .bool, _, a, us, vs, h, k => by have h : us = _ := h; have k : vs = _ := k; rw [h, k]
  | .str, _, a, us, vs, h, k => by have h : us = _ := h; have k : vs = _ := k; rw [h, k]
  | .pair p q, hf, x, us, vs, h, k => by
    have hf : (match p.flat with | true => q.flat | false => false) = true := hf
    cases hp : p.flat with
    | false => rw [hp] at hf; simp at hf
    | true =>
      rw [hp] at hf
      obtain ⟨u1, u2, rfl, h1, h2⟩ := h
      obtain ⟨v1, v2, rfl, k1, k2⟩ := k
      rw [Rp.flat_eq hp h1 k1, Rp.flat_eq hf h2 k2]
  | .sl _, hf, _, _, _, _, _ => by simp [CT.flat] at hf
  | .pt _, hf, _, _, _, _, _ => by simp [CT.flat] at hf
  | .mp _ _ _ _, hf, _, _, _, _, _ => by simp [CT.flat] at hf
  | .ref _, hf, _, _, _, _, _ => by simp [CT.flat] at hf
/-- cells that are plain data -/
def plainV : Value → Bool
  | .int _ _ => true
  | .bool _ => true
  | .string _ => true
  | _ => false
theorem Rp.plainV {w : World} {S : Nat → Prop} : ∀ {c : CT}, c.flat = true → ∀ {a : c.D} {us : List Value}, Rp w S c a us → ∀ u ∈ us, DF.plainV u = true
  | .int _, _, a, us, h, u, hu => by have h : us = _ := h; subst h; simp at hu; subst hu; rfl
  | .bool, _, a, us, h, u, hu => by have h : us = _ := h; subst h; simp at hu; subst hu; rfl
  | .str, _, a, us, h, u, hu => by have h : us = _ := h; subst h; simp at hu; subst hu; rfl
  | .pair p q, hf, x, us, h, u, hu => by
    have hf : (match p.flat with | true => q.flat | false => false) = true := hf
    cases hp : p.flat with
    | false => rw [hp] at hf; simp at hf
    | true =>
      rw [hp] at hf
      obtain ⟨u1, u2, rfl, h1, h2⟩ := h
      rcases List.mem_append.1 hu with hu | hu
      · exact Rp.plainV hp h1 u hu
      · exact Rp.plainV hf h2 u hu
  | .sl _, hf, _, _, _, _, _ => by simp [CT.flat] at hf
  | .pt _, hf, _, _, _, _, _ => by simp [CT.flat] at hf
  | .mp _ _ _ _, hf, _, _, _, _, _ => by simp [CT.flat] at hf
  | .ref _, hf, _, _, _, _, _ => by simp [CT.flat] at hf
omit [Fam] in
theorem sameBits_plain {v : Value} (h : plainV v = true) (n : Nat) : Instr.sameBits n v v = true := by
  cases v <;> simp [plainV] at h <;> cases n <;> simp [Instr.sameBits, beq_toListBytes]
omit [Fam] in
theorem sameBits_agg {vs : List Value} (h : ∀ u ∈ vs, plainV u = true) (n : Nat) : Instr.sameBits (n + 1) (.agg vs.toArray) (.agg vs.toArray) = true := by
  simp only [Instr.sameBits, beq_self_eq_true, Bool.true_and]
  rw [List.all_eq_true]
  intro x hx
  have hz : ∀ (l : List Value) (x : Value × Value), x ∈ l.zip l → x.1 ∈ l ∧ x.1 = x.2 := by
    intro l
    induction l with
    | nil => intro x hx; simp at hx
    | cons a l ih =>
      intro x hx
      simp only [List.zip_cons_cons, List.mem_cons] at hx
      rcases hx with rfl | hx
      · simp
      · obtain ⟨h1, h2⟩ := ih x hx; exact ⟨by simp [h1], h2⟩
  obtain ⟨h1, h2⟩ := hz _ x hx
  obtain ⟨a, b⟩ := x
  simp only at h1 h2
  subst h2
  exact sameBits_plain (h a (by simpa using h1)) n

theorem chkD_ok {P : Program} {g : G} {w : World} (em : Bool) (k : Nat) : ∀ (n : Nat) (t : TypeId) (d : DV) (v : Value), chkD P n t d = true → Rep g w d v → ∀ w', (Instr.checkKey em (k + n) t v).run P w' = .ok () w'
  | 0, t, d, v, h, _, w' => by simp [chkD] at h
  | n + 1, t, d, v, h, r, w' => by
    rw [← Nat.add_assoc]
    unfold Instr.checkKey
    unfold chkD at h
    split at h
    · rename_i fs cs hu
      simp only [Rep] at r
      obtain ⟨vs, rfl, r, r1⟩ := r
      simp only [Sem.run_bind, run_under hu, Result.andThen_ok]
      rw [← Array.forIn_toList]
      have h := List.all_eq_true.1 h
      generalize fs.toList = L at h
      induction L with
      | nil => simp
      | cons f L ih =>
        simp only [List.forIn_cons]
        have hf := h f (by simp)
        have ih := ih (fun x hx => h x (by simp [hx]))
        cases hn : f.name == "_" with
        | true =>
          have : ¬ f.name ≠ "_" := by simpa using hn
          simp only [if_neg this, Sem.run_bind, Sem.run_pure, Result.andThen_ok]
          exact ih
        | false =>
          have hn' : f.name ≠ "_" := by simpa using hn
          rw [hn, Bool.false_or] at hf
          split at hf
          · rename_i x hx
            obtain ⟨u, hu1, hu2⟩ := partO_ok r r1 hx
            have := chkD_ok em k n f.type x u hf hu2 w'
            simp only [if_pos hn', Sem.run_bind, hu1, Result.andThen_ok, this, Sem.run_pure]
            exact ih
          · simp at hf
    · rename_i len e cs hu
      simp only [Rep] at r
      obtain ⟨vs, rfl, r, r1⟩ := r
      split at h
      · rename_i s hs
        simp only [Sem.run_bind, run_under hu, Result.andThen_ok]
        simp only [Std.Legacy.Range.forIn_eq_forIn_range', Std.Legacy.Range.size, Nat.sub_zero, Nat.add_one_sub_one, Nat.div_one]
        have h := List.all_eq_true.1 h
        rw [List.range_eq_range'] at h
        generalize List.range' 0 len = L at h
        induction L with
        | nil => simp
        | cons f L ih =>
          simp only [List.forIn_cons]
          have hf := h f (by simp)
          have ih := ih (fun x hx => h x (by simp [hx]))
          split at hf
          · rename_i x hx
            obtain ⟨u, hu1, hu2⟩ := partO_ok r r1 hx
            have := chkD_ok em k n e x u hf hu2 w'
            simp only [Sem.run_bind, run_sizeD hs, hu1, Result.andThen_ok, this, Sem.run_pure]
            exact ih
          · simp at hf
      · simp at h
    · rename_i k' n' _ hu
      simp only [Rep] at r; subst r
      simp only [Sem.run_bind, run_under hu, Result.andThen_ok]; rfl
    · rename_i _ hu
      simp only [Rep] at r; subst r
      simp only [Sem.run_bind, run_under hu, Result.andThen_ok]; rfl
    · rename_i _ hu
      simp only [Rep] at r; subst r
      simp only [Sem.run_bind, run_under hu, Result.andThen_ok]; rfl
    · simp at h
end Go.DF
