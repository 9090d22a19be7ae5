import Derived.Test.YtnoccknoaihjlaaEng8
set_option linter.unusedVariables false
set_option linter.unusedSimpArgs false
set_option linter.unnecessarySimpa false
/- The engine, part 9: what writes memory or makes it. -/
namespace Go.DE
universe u v

theorem Kept.silent {M : Nat → Prop} {w0 w w' : World} (h : Kept M w0 w) (s : Silent w w') : Kept M w0 w' :=
  ⟨s.os.trans h.os, s.tape.trans h.tape, s.output.trans h.output, Nat.le_trans h.size s.size, fun b hb hm => (s.kept b (Nat.lt_of_lt_of_le hb h.size)).trans (h.kept b hb hm)⟩

/-- The state of the evaluator says the truth: of the memory, of the frame, of what may have changed since the call began (in the world w0, under g0). -/
structure Ok (g0 : G) (w0 : World) (M : Nat → Prop) (n0 rb N : Nat) (g : G) (st : St) (a : Act) (w : World) : Prop where
  rel : Rel g st.hp w
  frm : FrOk g N st.fr a w
  own : ∀ i o b, rb ≤ i → look st.hp i = some o → isRo o = false → g.ρ i = some b → M b ∨ w0.heap.size ≤ b
  fresh : ∀ i, st.nx ≤ i → g.ρ i = none
  ext : Ext g0 w0 g w
  kept : Kept M w0 w
  prg : ∀ b, g.pr b → g0.pr b ∨ M b ∨ w0.heap.size ≤ b
  same : ∀ i, i < n0 → g.ρ i = g0.ρ i
  lo : n0 ≤ st.nx

section
variable {P : Program} {g0 : G} {w0 : World} {M : Nat → Prop} {n0 rb N : Nat} {g : G} {fr : Fr} {hp : Hp} {nx : Nat} {a : Act} {w : World}

theorem Ok.silent {st : St} (h : Ok g0 w0 M n0 rb N g st a w) {fr' : Fr} {a' : Act} {w' : World} (s : Silent w w') (hf : FrOk g N fr' a' w') : Ok g0 w0 M n0 rb N g ⟨fr', st.hp, st.nx⟩ a' w' :=
  ⟨h.rel.silent s, hf, h.own, h.fresh, h.ext.trans (h.rel.extS s), h.kept.silent s, h.prg, h.same, h.lo⟩

theorem silent_alloc (w : World) (o : Obj) : Silent w (w.alloc o) :=
  ⟨rfl, rfl, rfl, by simp, fun b hb => by show (w.heap.push o)[b]? = _; rw [Array.getElem?_push, if_neg (by omega)]⟩

/-- One number more. -/
def G.withNew (g : G) (nx b : Nat) : G := ⟨fun i => if i = nx then some b else g.ρ i, g.pr, fun i => if i = nx then 0 else g.base i⟩
/-- The memory with one new block. -/
theorem rel_alloc (hR : Rel g hp w) (hfr : ∀ i, nx ≤ i → g.ρ i = none) {o : DO} {ob : Obj} (ho : ORep g (w.alloc ob) o w.heap.size 0) :
    Ext g w (g.withNew nx w.heap.size) (w.alloc ob) ∧ Rel (g.withNew nx w.heap.size) ((nx, o) :: hp) (w.alloc ob) := by
  have hs := silent_alloc w ob
  have hnx : ∀ i b, g.ρ i = some b → i ≠ nx := by
    intro i b hb e
    subst e; rw [hfr i (Nat.le_refl _)] at hb; simp at hb
  have hmono : ∀ i b, g.ρ i = some b → (g.withNew nx w.heap.size).ρ i = some b := by
    intro i b hb
    simp [G.withNew, hnx i b hb, hb]
  have hbase : ∀ i b, g.ρ i = some b → (g.withNew nx w.heap.size).base i = g.base i := by
    intro i b hb
    simp [G.withNew, hnx i b hb]
  have e : Ext g w (g.withNew nx w.heap.size) (w.alloc ob) := ⟨hmono, fun _ h => h, fun b hb => hs.kept b (hR.prl b hb), hbase, hs.shape⟩
  refine ⟨e, ⟨?_, ?_, fun b hb => Nat.lt_of_lt_of_le (hR.prl b hb) hs.size⟩⟩
  · intro i oi hi
    rw [look_cons] at hi
    split at hi
    · rename_i he
      subst he
      obtain rfl := Option.some.inj hi
      have e0 : (g.withNew nx w.heap.size).base nx = 0 := by simp [G.withNew]
      refine .inl ⟨w.heap.size, by simp [G.withNew], ?_, fun hb => Nat.lt_irrefl _ (hR.prl _ hb), fun _ => e0⟩
      rw [e0]
      exact ORep.ext (g := g) (w := w.alloc ob) (w' := w.alloc ob) ⟨hmono, fun _ h => h, fun _ _ => rfl, hbase, fun _ cs _ _ h => ⟨cs, h, rfl⟩⟩ rfl ho
    · rename_i hne
      rcases hR.obj i oi hi with ⟨b, h1, h2, h3, h4⟩ | ⟨h1, h2⟩
      · exact .inl ⟨b, hmono _ _ h1, by rw [hbase _ _ h1]; exact ORep.ext e (hs.kept b h2.lt) h2, h3, by rw [hbase _ _ h1]; exact h4⟩
      · exact .inr ⟨h1, by simp [G.withNew, Ne.symm hne, h2]⟩
  · have hlt : ∀ i o b, look hp i = some o → g.ρ i = some b → b < w.heap.size := by
      intro i o b hl hb
      rcases hR.obj i o hl with ⟨b', h1, h2, _⟩ | ⟨_, h2⟩
      · rw [hb] at h1; obtain rfl := Option.some.inj h1
        exact h2.lt
      · rw [hb] at h2; simp at h2
    intro i j oi oj b hi hj hbi hbj
    rw [look_cons] at hi hj
    simp only [G.withNew] at hbi hbj
    by_cases h1 : nx = i <;> by_cases h2 : nx = j
    · exact .inl (h1.symm.trans h2)
    · rw [if_neg h2] at hj
      rw [if_pos h1.symm] at hbi
      rw [if_neg (Ne.symm h2)] at hbj
      have := hlt j oj b hj hbj
      simp at hbi; omega
    · rw [if_neg h1] at hi
      rw [if_pos h2.symm] at hbj
      rw [if_neg (Ne.symm h1)] at hbi
      have := hlt i oi b hi hbi
      simp at hbj; omega
    · rw [if_neg h1] at hi
      rw [if_neg h2] at hj
      rw [if_neg (Ne.symm h1)] at hbi
      rw [if_neg (Ne.symm h2)] at hbj
      exact hR.inj i j oi oj b hi hj hbi hbj

theorem Ok.alloc (h : Ok g0 w0 M n0 rb N g ⟨fr, hp, nx⟩ a w) {o : DO} {ob : Obj} (ho : ORep g (w.alloc ob) o w.heap.size 0) :
    Ok g0 w0 M n0 rb N (g.withNew nx w.heap.size) ⟨fr, (nx, o) :: hp, nx + 1⟩ a (w.alloc ob) := by
  obtain ⟨e, r⟩ := rel_alloc h.rel h.fresh ho
  have hlo : n0 ≤ nx := h.lo
  refine ⟨r, h.frm.ext e, ?_, ?_, h.ext.trans e, h.kept.silent (silent_alloc w ob), h.prg, fun i hi => ?_, by show n0 ≤ nx + 1; omega⟩
  · intro i oi b hrb hi hro hb
    by_cases hn : i = nx
    · subst hn
      simp only [G.withNew, if_true] at hb
      obtain rfl := Option.some.inj hb
      exact .inr h.kept.size
    · simp only [G.withNew, if_neg hn] at hb
      have hi : look ((nx, o) :: hp) i = some oi := hi
      rw [look_cons, if_neg (Ne.symm hn)] at hi
      exact h.own i oi b hrb hi hro hb
  · intro i hi
    simp only at hi
    have : i ≠ nx := by omega
    simp only [G.withNew, if_neg this]
    exact h.fresh i (by show nx ≤ i; omega)
  · have : i ≠ nx := by omega
    simp only [G.withNew, if_neg this]
    exact h.same i hi

theorem oneC_cell {v : Value} (h : oneC v = true) : v.oneCell' = true := by cases v <;> first | rfl | (simp [oneC] at h)

theorem look_repl {α : Type u} {l : List (Nat × α)} {i j : Nat} {x : α} : look (repl l i x) j = if i = j then (match look l i with | some _ => some x | none => none) else look l j := by
  induction l with
  | nil => simp [repl, look]
  | cons p l ih =>
    obtain ⟨k, y⟩ := p
    unfold repl
    cases hk : Nat.beq k i with
    | true =>
      have hk := Nat.eq_of_beq_eq_true hk
      subst hk
      simp only [look_cons]
      by_cases hj : k = j
      · simp [hj]
      · simp [hj]
    | false =>
      have hk := Nat.ne_of_beq_eq_false hk
      simp only [look_cons]
      by_cases hkj : k = j
      · subst hkj
        rw [if_pos rfl, if_neg (Ne.symm hk), if_pos rfl]
      · simp only [if_neg hkj, ih]
        by_cases hij : i = j
        · subst hij; rw [if_neg hk]
        · rw [if_neg hij, if_neg hij]

/-- One block written anew. -/
structure Upd (b : Nat) (w w' : World) : Prop where
  os : w'.os = w.os
  tape : w'.tape = w.tape
  output : w'.output = w.output
  size : w'.heap.size = w.heap.size
  other : ∀ c, c ≠ b → w'.heap[c]? = w.heap[c]?
  shape : ∀ (cs : Array Value) (t : TypeId) (fr : Nat × Nat), w.heap[b]? = some (Obj.cells cs t fr) → ∃ cs' : Array Value, w'.heap[b]? = some (Obj.cells cs' t fr) ∧ cs'.size = cs.size

theorem upd_setRow (w : World) (b : Nat) (cs : Array Value) (hsz : ∀ (c0 : Array Value) (t : TypeId) (fr : Nat × Nat), w.heap[b]? = some (Obj.cells c0 t fr) → cs.size = c0.size) : Upd b w (w.setRow b cs) :=
  ⟨rfl, rfl, rfl, setRow_size w b cs, fun c h => setRow_other w b c cs h, fun c0 t fr h => ⟨cs, setRow_heap w b _ _ _ _ h, hsz _ _ _ h⟩⟩
theorem upd_setObj (w : World) (b : Nat) (o : Obj) (hm : ∃ es ck, w.heap[b]? = some (Obj.map es ck)) : Upd b w { w with heap := w.heap.setIfInBounds b o } :=
  ⟨rfl, rfl, rfl, by simp, fun c h => by show (w.heap.setIfInBounds b o)[c]? = _; rw [Array.getElem?_setIfInBounds_ne (Ne.symm h)], fun c0 t fr h => by
    obtain ⟨es, ck, hm⟩ := hm
    rw [hm] at h; simp at h⟩

theorem rel_write (hR : Rel g hp w) {i b : Nat} {o o' : DO} {w' : World} (hW : Upd b w w') (hl : look hp i = some o) (hro : isRo o = false) (hro' : isRo o' = false) (hb : g.ρ i = some b) (ho : Ext g w g w' → ORep g w' o' b 0) :
    Ext g w g w' ∧ Rel g (repl hp i o') w' := by
  obtain ⟨h2, h3, hba⟩ : ORep g w o b (g.base i) ∧ ¬ g.pr b ∧ g.base i = 0 := by
    rcases hR.obj i o hl with ⟨b', h1, h2, h3, h4⟩ | ⟨_, h1⟩
    · rw [hb] at h1; obtain rfl := Option.some.inj h1
      exact ⟨h2, h3, h4 hro⟩
    · rw [hb] at h1; simp at h1
  have e : Ext g w g w' := ⟨fun _ _ h => h, fun _ h => h, fun c hc => hW.other c (fun e => h3 (e ▸ hc)), fun _ _ _ => rfl, fun c cs t fr h => by
    by_cases hc : c = b
    · subst hc; exact hW.shape cs t fr h
    · exact ⟨cs, (hW.other c hc).trans h, rfl⟩⟩
  refine ⟨e, ?_, ?_, fun c hc => by rw [hW.size]; exact hR.prl c hc⟩
  · intro j oj hj
    rw [look_repl] at hj
    split at hj
    · rename_i hij
      subst hij
      rw [hl] at hj
      obtain rfl := Option.some.inj hj
      exact .inl ⟨b, hb, by rw [hba]; exact ho e, h3, fun _ => hba⟩
    · rename_i hij
      rcases hR.obj j oj hj with ⟨c, k1, k2, k3⟩ | k
      · have hne : c ≠ b := by
          intro e'; subst e'
          rcases hR.inj i j o oj c hl hj hb k1 with h | ⟨h, _⟩
          · exact hij h
          · rw [hro] at h; simp at h
        exact .inl ⟨c, k1, ORep.ext e (hW.other c hne) k2, k3⟩
      · exact .inr k
  · intro j k oj ok c hj hk hcj hck
    have get : ∀ j oj, look (repl hp i o') j = some oj → ∃ x, look hp j = some x ∧ (isRo x = true → isRo oj = true) := by
      intro j oj hj
      rw [look_repl] at hj
      split at hj
      · rename_i hij; subst hij; exact ⟨o, hl, fun h => by rw [hro] at h; simp at h⟩
      · exact ⟨oj, hj, fun h => h⟩
    obtain ⟨x, hx, hx'⟩ := get j oj hj
    obtain ⟨y, hy, hy'⟩ := get k ok hk
    exact (hR.inj j k x y c hx hy hcj hck).imp id (fun ⟨p, q⟩ => ⟨hx' p, hy' q⟩)

theorem Ok.write (h : Ok g0 w0 M n0 rb N g ⟨fr, hp, nx⟩ a w) {i b : Nat} {o o' : DO} {w' : World} (hW : Upd b w w') (hrb : rb ≤ i) (hl : look hp i = some o) (hro : isRo o = false) (hro' : isRo o' = false) (hb : g.ρ i = some b) (ho : Ext g w g w' → ORep g w' o' b 0) :
    Ok g0 w0 M n0 rb N g ⟨fr, repl hp i o', nx⟩ a w' := by
  obtain ⟨e, r⟩ := rel_write h.rel hW hl hro hro' hb ho
  refine ⟨r, h.frm.ext e, ?_, h.fresh, h.ext.trans e, ?_, h.prg, h.same, h.lo⟩
  · intro j oj c hj' hj hro2 hc
    simp only at hj
    rw [look_repl] at hj
    split at hj
    · rename_i hij; subst hij; exact h.own _ o c hj' hl hro hc
    · exact h.own j oj c hj' hj hro2 hc
  · refine ⟨hW.os.trans h.kept.os, hW.tape.trans h.kept.tape, hW.output.trans h.kept.output, by rw [hW.size]; exact h.kept.size, fun c hc hm => ?_⟩
    have hne : c ≠ b := by
      intro e'; subst e'
      rcases h.own i o c hrb hl hro hb with hM | hM
      · exact hm hM
      · omega
    rw [hW.other c hne]
    exact h.kept.kept c hc hm

theorem setRange_len {us vs : List Value} {off : Nat} (h : off + vs.length ≤ us.length) : (us.take off ++ vs ++ us.drop (off + vs.length)).length = us.length := by
  simp; omega

theorem setRange_one {us vs : List Value} {off : Nat} (h1 : ∀ u ∈ us, oneC u = true) (h2 : ∀ u ∈ vs, oneC u = true) : ∀ u ∈ us.take off ++ vs ++ us.drop (off + vs.length), oneC u = true := by
  intro u hu
  simp only [List.mem_append] at hu
  rcases hu with (hu | hu) | hu
  · exact h1 u (List.mem_of_mem_take hu)
  · exact h2 u hu
  · exact h1 u (List.mem_of_mem_drop hu)

end
end Go.DE
