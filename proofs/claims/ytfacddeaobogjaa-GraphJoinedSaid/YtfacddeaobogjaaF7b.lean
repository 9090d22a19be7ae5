import Derived.Test.YtfacddeaobogjaaF7
set_option linter.unusedVariables false
set_option linter.unusedSimpArgs false
set_option linter.unnecessarySimpa false
/- The engine, part 7b: what is made, written, moved; rows, put back and taken. -/
namespace Go.DF
universe u v
set_option linter.unusedSimpArgs false
set_option linter.unusedVariables false
variable [Fam]

/-- One block written anew. -/
structure Upd (b : Nat) (w w' : World) : Prop where
  os : w'.os = w.os
  tape : w'.tape = w.tape
  output : w'.output = w.output
  size : w'.heap.size = w.heap.size
  other : ∀ c, c ≠ b → w'.heap[c]? = w.heap[c]?
  shape : ∀ (cs : Array Value) (t : TypeId) (fr : Nat × Nat), w.heap[b]? = some (Obj.cells cs t fr) → ∃ cs' : Array Value, w'.heap[b]? = some (Obj.cells cs' t fr) ∧ cs'.size = cs.size
omit [Fam] in
theorem Upd.refl (b : Nat) (w : World) : Upd b w w := ⟨rfl, rfl, rfl, rfl, fun _ _ => rfl, fun cs _ _ h => ⟨cs, h, rfl⟩⟩
omit [Fam] in
theorem upd_setRow (w : World) (b : Nat) (cs : Array Value) (hsz : ∀ (c0 : Array Value) (t : TypeId) (fr : Nat × Nat), w.heap[b]? = some (Obj.cells c0 t fr) → cs.size = c0.size) : Upd b w (w.setRow b cs) :=
  ⟨rfl, rfl, rfl, setRow_size w b cs, fun c h => setRow_other w b c cs h, fun c0 t fr h => ⟨cs, setRow_heap w b _ _ _ _ h, hsz _ _ _ h⟩⟩
omit [Fam] in
theorem upd_setObj (w : World) (b : Nat) (o : Obj) (hm : ∃ es ck, w.heap[b]? = some (Obj.map es ck)) : Upd b w { w with heap := w.heap.setIfInBounds b o } :=
  ⟨rfl, rfl, rfl, by simp, fun c h => by show (w.heap.setIfInBounds b o)[c]? = _; rw [Array.getElem?_setIfInBounds_ne (Ne.symm h)], fun c0 t fr h => by
    obtain ⟨es, ck, hm⟩ := hm
    rw [hm] at h; simp at h⟩

section
variable {g : G} {hp : Hp} {w : World} {nx : Nat}

omit [Fam] in
theorem Upd.ext {b : Nat} {w' : World} {g' : G} (hW : Upd b w w') (hnp : ¬ g.pr b) (h1 : ∀ i c, g.ρ i = some c → g'.ρ i = some c) (h2 : g'.pr = g.pr) (h3 : ∀ i c, g.ρ i = some c → g'.base i = g.base i) : Ext g w g' w' :=
  ⟨h1, fun c hc => by rw [h2]; exact hc, fun c hc => hW.other c (fun e => hnp (e ▸ hc)), h3, fun c cs t fr h => by
    by_cases hc : c = b
    · subst hc; exact hW.shape cs t fr h
    · exact ⟨cs, (hW.other c hc).trans h, rfl⟩⟩

/-- A block that a number of its own has is in no other's way. -/
theorem Rel.apart (h : Rel g hp w) {i j b c : Nat} {o oj : DO} {z : Bool} (hl : look hp i = some (false, o)) (hb : g.ρ i = some b) (hne : j ≠ i) (hj : look hp j = some (z, oj)) (hc : g.ρ j = some c) : c ≠ b := by
  intro e; subst e
  cases z with
  | false => exact hne (h.inj j i oj o c hj hl hc hb)
  | true =>
    have h1 := (h.at hj hc).2.2 rfl
    have h2 := (h.at hl hb).2.1 h1
    simp at h2
theorem Rel.sub_apart (h : Rel g hp w) {i j b c k : Nat} {o oj : DO} {z : Bool} (hl : look hp i = some (false, o)) (hb : g.ρ i = some b) (hj : look hp j = some (z, oj)) (hk : subOf oj k) (hc : g.sub j k = some c) : c ≠ b := by
  intro e; subst e
  exact (h.sub j z oj k c hj hk hc).2.2.1 i o hl hb

/-- A thing is written anew. -/
theorem Post.write' (h : Rel g hp w) {i b : Nat} {o o' : DO} {w' : World} (hW : Upd b w w') (hl : look hp i = some (false, o)) (nosub : ∀ k, ¬ subOf o' k) (hb : g.ρ i = some b)
    (ho : Ext g w g w' → ORep g w' i o' b (g.base i)) : Post g w hp nx g w' (repl hp i (false, o')) nx := by
  obtain ⟨hor, hpr⟩ := h.at hl hb
  have hnp : ¬ g.pr b := fun hp => by simpa using hpr.1 hp
  have e := hW.ext hnp (fun _ _ h => h) rfl (fun _ _ _ => rfl)
  have get : ∀ {j x}, look (repl hp i (false, o')) j = some x → (j = i ∧ x = (false, o')) ∨ (j ≠ i ∧ look hp j = some x) := by
    intro j x hj
    rw [look_repl_some hl] at hj
    split at hj
    · rename_i he; exact .inl ⟨he.symm, (Option.some.inj hj).symm⟩
    · rename_i he; exact .inr ⟨fun e' => he e'.symm, hj⟩
  refine ⟨⟨fun j z' oj hj => ?_, fun j z' oj hj hr => ?_, fun j j' oj oj' c hj hj' hc hc' => ?_, fun j z' oj k c hj hk hc => ?_, fun c hc => by rw [hW.size]; exact h.prl c hc⟩, e,
    ⟨hW.os, hW.tape, hW.output, by rw [hW.size]; exact Nat.le_refl _, fun c hc hm => hW.other c (fun e' => hm (e' ▸ ⟨i, o, hl, .inl hb⟩))⟩, fun c hc => ?_, fun c hc => .inl hc, fun _ _ => rfl, fun j x hj => ?_, fun _ _ _ _ => rfl, Nat.le_refl _⟩
  · rcases get hj with ⟨rfl, he⟩ | ⟨hne, hj'⟩
    · simp only [Prod.mk.injEq] at he
      obtain ⟨rfl, rfl⟩ := he
      exact .inl ⟨b, hb, ho e, hpr⟩
    · rcases h.obj j z' oj hj' with ⟨c, k1, k2, k3⟩ | k
      · exact .inl ⟨c, k1, ORep.ext e (hW.other c (h.apart hl hb hne hj' k1)) (fun k hk => ⟨rfl, fun c' hc' => hW.other c' (h.sub_apart hl hb hj' hk hc')⟩) k2, k3⟩
      · exact .inr k
  · rcases get hj with ⟨rfl, he⟩ | ⟨hne, hj'⟩
    · simp only [Prod.mk.injEq] at he
      exact he.1
    · exact h.rws j z' oj hj' hr
  · have old : ∀ {j oj c}, look (repl hp i (false, o')) j = some (false, oj) → g.ρ j = some c → ∃ ox, look hp j = some (false, ox) := by
      intro j oj c hj _
      rcases get hj with ⟨rfl, _⟩ | ⟨_, hj'⟩
      · exact ⟨_, hl⟩
      · exact ⟨_, hj'⟩
    obtain ⟨x, hx⟩ := old hj hc
    obtain ⟨y, hy⟩ := old hj' hc'
    exact h.inj j j' x y c hx hy hc hc'
  · rcases get hj with ⟨rfl, he⟩ | ⟨hne, hj'⟩
    · simp only [Prod.mk.injEq] at he
      rw [he.2] at hk
      exact (nosub k hk).elim
    · obtain ⟨a1, a2, a3, a4⟩ := h.sub j z' oj k c hj' hk hc
      refine ⟨by rw [hW.size]; exact a1, a2, fun j2 oj2 hj2 => ?_, fun j2 z2 oj2 k' hj2 hk' hc' => ?_⟩
      · rcases get hj2 with ⟨rfl, _⟩ | ⟨_, h2⟩
        · exact a3 _ _ hl
        · exact a3 j2 oj2 h2
      · rcases get hj2 with ⟨rfl, he⟩ | ⟨_, h2⟩
        · simp only [Prod.mk.injEq] at he
          rw [he.2] at hk'
          exact (nosub k' hk').elim
        · exact a4 j2 z2 oj2 k' h2 hk' hc'
  · obtain ⟨j, oj, hj, hc⟩ := hc
    rcases get hj with ⟨rfl, he⟩ | ⟨_, hj'⟩
    · simp only [Prod.mk.injEq, true_and] at he
      rcases hc with hc | ⟨k, hk, _⟩
      · exact .inl ⟨_, o, hl, .inl hc⟩
      · rw [he] at hk; exact (nosub k hk).elim
    · exact .inl ⟨j, oj, hj', hc⟩
  · rcases get hj with ⟨rfl, _⟩ | ⟨_, hj'⟩
    · exact .inl ⟨_, hl⟩
    · exact .inl ⟨_, hj'⟩

theorem Post.write (h : Rel g hp w) {i b : Nat} {o o' : DO} {w' : World} (hW : Upd b w w') (hl : look hp i = some (false, o)) (hr' : isRows o' = false) (hb : g.ρ i = some b)
    (ho : Ext g w g w' → ORep g w' i o' b (g.base i)) : Post g w hp nx g w' (repl hp i (false, o')) nx :=
  Post.write' h hW hl (fun k hk => by cases o' <;> simp [isRows] at hr' <;> simp [subOf] at hk) hb ho

/-- One number more. -/
def G.new (g : G) (nx : Nat) (b : Option Nat) (ba : Nat) : G := ⟨fun i => if i = nx then b else g.ρ i, g.pr, fun i => if i = nx then ba else g.base i, fun i k => if i = nx then none else g.sub i k⟩
omit [Fam] in
theorem G.new_ext (hfr : g.ρ nx = none) (b : Option Nat) (ba : Nat) : (∀ i c, g.ρ i = some c → (g.new nx b ba).ρ i = some c) ∧ (∀ i c, g.ρ i = some c → (g.new nx b ba).base i = g.base i) := by
  have hne : ∀ i c, g.ρ i = some c → i ≠ nx := by
    intro i c hc e; subst e; rw [hfr] at hc; simp at hc
  exact ⟨fun i c hc => by simp [G.new, hne i c hc, hc], fun i c hc => by simp [G.new, hne i c hc]⟩

/-- A new block. -/
theorem Post.alloc (h : Rel g hp w) (hfr : g.ρ nx = none) {o : DO} {ob : Obj} (ho : Ext g w (g.new nx (some w.heap.size) 0) (w.alloc ob) → ORep (g.new nx (some w.heap.size) 0) (w.alloc ob) nx o w.heap.size 0) :
    Post g w hp nx (g.new nx (some w.heap.size) 0) (w.alloc ob) ((nx, (false, o)) :: hp) (nx + 1) := by
  have hs : Silent w (w.alloc ob) := ⟨rfl, rfl, rfl, by simp, fun b hb => by show (w.heap.push ob)[b]? = _; rw [Array.getElem?_push, if_neg (by omega)]⟩
  obtain ⟨m1, m2⟩ := G.new_ext hfr (some w.heap.size) 0
  have e : Ext g w (g.new nx (some w.heap.size) 0) (w.alloc ob) := ⟨m1, fun _ h => h, fun b hb => hs.kept b (h.prl b hb), m2, hs.shape⟩
  have get : ∀ {j x}, look ((nx, (false, o)) :: hp) j = some x → (j = nx ∧ x = (false, o)) ∨ (j ≠ nx ∧ look hp j = some x) := by
    intro j x hj
    rw [look_cons] at hj
    split at hj
    · rename_i he; exact .inl ⟨he.symm, (Option.some.inj hj).symm⟩
    · rename_i he; exact .inr ⟨fun e' => he e'.symm, hj⟩
  have rho : ∀ {j}, j ≠ nx → (g.new nx (some w.heap.size) 0).ρ j = g.ρ j := fun hne => by simp [G.new, hne]
  have sub : ∀ {j k}, j ≠ nx → (g.new nx (some w.heap.size) 0).sub j k = g.sub j k := fun hne => by simp [G.new, hne]
  have subn : ∀ {k}, (g.new nx (some w.heap.size) 0).sub nx k = none := by simp [G.new]
  have rhon : (g.new nx (some w.heap.size) 0).ρ nx = some w.heap.size := by simp [G.new]
  have mainlt : ∀ {j z oj c}, look hp j = some (z, oj) → g.ρ j = some c → c < w.heap.size := fun hj hc => (h.at hj hc).1.lt
  refine ⟨⟨fun j z' oj hj => ?_, fun j z' oj hj hr => ?_, fun j j' oj oj' c hj hj' hc hc' => ?_, fun j z' oj k c hj hk hc => ?_, fun c hc => Nat.lt_of_lt_of_le (h.prl c hc) hs.size⟩, e,
    ⟨hs.os, hs.tape, hs.output, hs.size, fun b hb _ => hs.kept b hb⟩, fun c hc => ?_, fun c hc => .inl hc, fun j hj => rho (by omega), fun j x hj => ?_, fun j hn hj k => sub (by omega), Nat.le_succ _⟩
  · rcases get hj with ⟨rfl, he⟩ | ⟨hne, hj'⟩
    · simp only [Prod.mk.injEq] at he
      obtain ⟨rfl, rfl⟩ := he
      have e0 : (g.new j (some w.heap.size) 0).base j = 0 := by simp [G.new]
      exact .inl ⟨_, rhon, by rw [e0]; exact ho e, ⟨fun hp => absurd (h.prl _ hp) (Nat.lt_irrefl _), fun h => by simp at h⟩⟩
    · rcases h.obj j z' oj hj' with ⟨c, k1, k2, k3⟩ | ⟨k1, k2⟩
      · exact .inl ⟨c, m1 _ _ k1, by rw [m2 _ _ k1]; exact ORep.ext e (hs.kept c k2.lt) (fun k hk => ⟨sub hne, fun c' hc' => hs.kept c' (h.sub_lt hj' hk hc')⟩) k2, k3⟩
      · exact .inr ⟨k1, by rw [rho hne]; exact k2⟩
  · rcases get hj with ⟨rfl, he⟩ | ⟨hne, hj'⟩
    · simp only [Prod.mk.injEq] at he; exact he.1
    · exact h.rws j z' oj hj' hr
  · rcases get hj with ⟨rfl, _⟩ | ⟨hne, h1⟩ <;> rcases get hj' with ⟨rfl, _⟩ | ⟨hne', h2⟩
    · rfl
    · rw [rhon] at hc; rw [rho hne'] at hc'
      have := mainlt h2 hc'
      simp at hc; omega
    · rw [rhon] at hc'; rw [rho hne] at hc
      have := mainlt h1 hc
      simp at hc'; omega
    · rw [rho hne] at hc; rw [rho hne'] at hc'
      exact h.inj j j' oj oj' c h1 h2 hc hc'
  · rcases get hj with ⟨rfl, _⟩ | ⟨hne, hj'⟩
    · rw [subn] at hc; simp at hc
    · rw [sub hne] at hc
      obtain ⟨a1, a2, a3, a4⟩ := h.sub j z' oj k c hj' hk hc
      refine ⟨Nat.lt_of_lt_of_le a1 hs.size, a2, fun j2 oj2 hj2 => ?_, fun j2 z2 oj2 k' hj2 hk' hc' => ?_⟩
      · rcases get hj2 with ⟨rfl, _⟩ | ⟨hne2, h2⟩
        · rw [rhon]; intro he; simp at he; omega
        · rw [rho hne2]; exact a3 j2 oj2 h2
      · rcases get hj2 with ⟨rfl, _⟩ | ⟨hne2, h2⟩
        · rw [subn] at hc'; simp at hc'
        · rw [sub hne2] at hc'; exact a4 j2 z2 oj2 k' h2 hk' hc'
  · obtain ⟨j, oj, hj, hc⟩ := hc
    rcases get hj with ⟨rfl, _⟩ | ⟨hne, hj'⟩
    · rcases hc with hc | ⟨k, _, hc⟩
      · rw [rhon] at hc; simp at hc; exact .inr (by omega)
      · rw [subn] at hc; simp at hc
    · refine .inl ⟨j, oj, hj', hc.imp (fun h => by rw [rho hne] at h; exact h) (fun ⟨k, k1, k2⟩ => ⟨k, k1, by rw [sub hne] at k2; exact k2⟩)⟩
  · rcases get hj with ⟨rfl, _⟩ | ⟨_, hj'⟩
    · exact .inr ⟨Nat.le_refl _, Nat.lt_succ_self _⟩
    · exact .inl ⟨_, hj'⟩

/-- A number's block goes on under a new number, written or not, at another place perhaps. -/
theorem Post.move (h : Rel g hp w) (hfr : g.ρ nx = none) {i b ba : Nat} {o o' : DO} {w' : World} (hW : Upd b w w') (hl : look hp i = some (false, o)) (hr' : isRows o' = false) (hb : g.ρ i = some b)
    (ho : Ext g w (g.new nx (some b) ba) w' → ORep (g.new nx (some b) ba) w' nx o' b ba) : Post g w hp nx (g.new nx (some b) ba) w' ((nx, (false, o')) :: dropI i hp) (nx + 1) := by
  obtain ⟨hor, hpr⟩ := h.at hl hb
  have hnp : ¬ g.pr b := fun hp => by simpa using hpr.1 hp
  obtain ⟨m1, m2⟩ := G.new_ext hfr (some b) ba
  have e := hW.ext (g' := g.new nx (some b) ba) hnp m1 rfl m2
  have get : ∀ {j x}, look ((nx, (false, o')) :: dropI i hp) j = some x → (j = nx ∧ x = (false, o')) ∨ (j ≠ nx ∧ j ≠ i ∧ look hp j = some x) := by
    intro j x hj
    rw [look_cons] at hj
    split at hj
    · rename_i he; exact .inl ⟨he.symm, (Option.some.inj hj).symm⟩
    · rename_i he
      rw [look_dropI] at hj
      split at hj
      · simp at hj
      · rename_i he'; exact .inr ⟨fun e' => he e'.symm, he', hj⟩
  have rho : ∀ {j}, j ≠ nx → (g.new nx (some b) ba).ρ j = g.ρ j := fun hne => by simp [G.new, hne]
  have sub : ∀ {j k}, j ≠ nx → (g.new nx (some b) ba).sub j k = g.sub j k := fun hne => by simp [G.new, hne]
  have subn : ∀ {k}, (g.new nx (some b) ba).sub nx k = none := by simp [G.new]
  have rhon : (g.new nx (some b) ba).ρ nx = some b := by simp [G.new]
  have nosub : ∀ k, ¬ subOf o' k := fun k hk => by cases o' <;> simp [isRows] at hr' <;> simp [subOf] at hk
  refine ⟨⟨fun j z' oj hj => ?_, fun j z' oj hj hr => ?_, fun j j' oj oj' c hj hj' hc hc' => ?_, fun j z' oj k c hj hk hc => ?_, fun c hc => by rw [hW.size]; exact h.prl c hc⟩, e,
    ⟨hW.os, hW.tape, hW.output, by rw [hW.size]; exact Nat.le_refl _, fun c hc hm => hW.other c (fun e' => hm (e' ▸ ⟨i, o, hl, .inl hb⟩))⟩, fun c hc => ?_, fun c hc => .inl hc, fun j hj => rho (by omega), fun j x hj => ?_, fun j hn hj k => sub (by omega), Nat.le_succ _⟩
  · rcases get hj with ⟨rfl, he⟩ | ⟨hne, hni, hj'⟩
    · simp only [Prod.mk.injEq] at he
      obtain ⟨rfl, rfl⟩ := he
      have e0 : (g.new j (some b) ba).base j = ba := by simp [G.new]
      exact .inl ⟨b, rhon, by rw [e0]; exact ho e, hpr⟩
    · rcases h.obj j z' oj hj' with ⟨c, k1, k2, k3⟩ | ⟨k1, k2⟩
      · exact .inl ⟨c, m1 _ _ k1, by rw [m2 _ _ k1]; exact ORep.ext e (hW.other c (h.apart hl hb hni hj' k1)) (fun k hk => ⟨sub hne, fun c' hc' => hW.other c' (h.sub_apart hl hb hj' hk hc')⟩) k2, k3⟩
      · exact .inr ⟨k1, by rw [rho hne]; exact k2⟩
  · rcases get hj with ⟨rfl, he⟩ | ⟨hne, _, hj'⟩
    · simp only [Prod.mk.injEq] at he; exact he.1
    · exact h.rws j z' oj hj' hr
  · rcases get hj with ⟨rfl, _⟩ | ⟨hne, hni, h1⟩ <;> rcases get hj' with ⟨rfl, _⟩ | ⟨hne', hni', h2⟩
    · rfl
    · rw [rhon] at hc; rw [rho hne'] at hc'
      obtain rfl := Option.some.inj hc
      exact absurd (h.inj _ _ _ _ _ h2 hl hc' hb) hni'
    · rw [rhon] at hc'; rw [rho hne] at hc
      obtain rfl := Option.some.inj hc'
      exact absurd (h.inj _ _ _ _ _ h1 hl hc hb) hni
    · rw [rho hne] at hc; rw [rho hne'] at hc'
      exact h.inj j j' oj oj' c h1 h2 hc hc'
  · rcases get hj with ⟨rfl, _⟩ | ⟨hne, _, hj'⟩
    · rw [subn] at hc; simp at hc
    · rw [sub hne] at hc
      obtain ⟨a1, a2, a3, a4⟩ := h.sub j z' oj k c hj' hk hc
      refine ⟨by rw [hW.size]; exact a1, a2, fun j2 oj2 hj2 => ?_, fun j2 z2 oj2 k' hj2 hk' hc' => ?_⟩
      · rcases get hj2 with ⟨rfl, _⟩ | ⟨hne2, _, h2⟩
        · rw [rhon]; intro he
          obtain rfl := Option.some.inj he
          exact a3 i o hl hb
        · rw [rho hne2]; exact a3 j2 oj2 h2
      · rcases get hj2 with ⟨rfl, _⟩ | ⟨hne2, _, h2⟩
        · rw [subn] at hc'; simp at hc'
        · rw [sub hne2] at hc'; exact a4 j2 z2 oj2 k' h2 hk' hc'
  · obtain ⟨j, oj, hj, hc⟩ := hc
    rcases get hj with ⟨rfl, he⟩ | ⟨hne, _, hj'⟩
    · rcases hc with hc | ⟨k, hk, hc⟩
      · rw [rhon] at hc
        obtain rfl := Option.some.inj hc
        exact .inl ⟨i, o, hl, .inl hb⟩
      · rw [subn] at hc; simp at hc
    · refine .inl ⟨j, oj, hj', hc.imp (fun h => by rw [rho hne] at h; exact h) (fun ⟨k, k1, k2⟩ => ⟨k, k1, by rw [sub hne] at k2; exact k2⟩)⟩
  · rcases get hj with ⟨rfl, _⟩ | ⟨_, _, hj'⟩
    · exact .inr ⟨Nat.le_refl _, Nat.lt_succ_self _⟩
    · exact .inl ⟨_, hj'⟩

/-! ### rows -/
def G.setSub (g : G) (i j : Nat) (s : Option Nat) : G := ⟨g.ρ, g.pr, g.base, fun i' k => if i' = i ∧ k = j then s else g.sub i' k⟩
/-- A row is put into its place. -/
theorem Post.put (h : Rel g hp w) {i b j : Nat} {t e : TypeId} {c : CT} {ls : List (List c.D)} {ho : Option (DN × Nat × DN)} {w' : World} {hp' : Hp} {l' : List c.D} {s : Option Nat} {hv : Value} {vs : List Value}
    (hW : Upd b w w') (hl : look hp i = some (false, .rows t e c ls ho)) (hb : g.ρ i = some b) (hj : j < ls.length) (hhole : ∀ j0 i0 n0, ho = some (j0, i0, n0) → j0.v = j)
    (hv0 : w.heap[b]? = some (.cells vs.toArray t (0, 0))) (hv1 : w'.heap[b]? = some (.cells (vs.set j hv).toArray t (0, 0))) (hrow : RowIn w g.pr e c l' s hv) (hone : oneC hv = true)
    (hself : look hp' i = some (false, .rows t e c (ls.set j l') none)) (hother : ∀ k x, look hp' k = some x → k ≠ i → look hp k = some x)
    (hs : ∀ c', s = some c' → ∃ q o, q ≠ i ∧ look hp q = some (false, o) ∧ isRows o = false ∧ g.ρ q = some c' ∧ look hp' q = none) : Post g w hp nx (g.setSub i j s) w' hp' nx := by
  obtain ⟨⟨hba, vs', q1, q2, q3, q4⟩, hpr⟩ := h.at hl hb
  have e0 := hv0.symm.trans q1
  simp only [Option.some.injEq, Obj.cells.injEq, and_self, and_true] at e0
  have e0 : vs = vs' := by simpa using e0
  subst e0
  have hnp : ¬ g.pr b := fun hp => by simpa using hpr.1 hp
  have ex := hW.ext (g' := g.setSub i j s) hnp (fun _ _ h => h) rfl (fun _ _ _ => rfl)
  have exg := hW.ext (g' := g) hnp (fun _ _ h => h) rfl (fun _ _ _ => rfl)
  have get : ∀ {k x}, look hp' k = some x → (k = i ∧ x = (false, .rows t e c (ls.set j l') none)) ∨ (k ≠ i ∧ look hp k = some x) := by
    intro k x hk
    by_cases he : k = i
    · subst he; rw [hself] at hk; exact .inl ⟨rfl, (Option.some.inj hk).symm⟩
    · exact .inr ⟨he, hother k x hk he⟩
  have subne : ∀ {k m}, k ≠ i → (g.setSub i j s).sub k m = g.sub k m := fun hne => by simp [G.setSub, hne]
  have subij : (g.setSub i j s).sub i j = s := by simp [G.setSub]
  have subi : ∀ {m}, m ≠ j → (g.setSub i j s).sub i m = g.sub i m := fun hne => by simp [G.setSub, hne]
  -- the old row m is there, unless it is the one that is put
  have oldOf : ∀ {m}, m < ls.length → m ≠ j → subOf (DO.rows t e c ls ho) m := fun hm hne => ⟨hm, fun j0 i0 n0 h0 he => hne (he.trans (hhole j0 i0 n0 h0))⟩
  refine ⟨⟨fun k z' ok hk => ?_, fun k z' ok hk hr => ?_, fun k k' ok ok' d hk hk' hd hd' => ?_, fun k z' ok m d hk hm hd => ?_, fun d hd => by rw [hW.size]; exact h.prl d hd⟩, ex,
    ⟨hW.os, hW.tape, hW.output, by rw [hW.size]; exact Nat.le_refl _, fun d hd hm => hW.other d (fun e' => hm (e' ▸ ⟨i, _, hl, .inl hb⟩))⟩, fun d hd => ?_, fun d hd => .inl hd, fun _ _ => rfl, fun k x hk => ?_, fun k hn _ m => ?_, Nat.le_refl _⟩
  · rcases get hk with ⟨rfl, he⟩ | ⟨hne, hk'⟩
    · simp only [Prod.mk.injEq] at he
      obtain ⟨rfl, rfl⟩ := he
      refine .inl ⟨b, hb, ⟨hba, vs.set j hv, hv1, fun u hu => ?_, by simp [q3], fun m l hm => ?_⟩, hpr⟩
      · rcases List.mem_or_eq_of_mem_set hu with hu | hu
        · exact q2 u hu
        · rw [hu]; exact hone
      · by_cases hmj : m = j
        · subst hmj
          rw [List.getElem?_set_self hj] at hm
          obtain rfl := Option.some.inj hm
          refine ⟨hv, List.getElem?_set_self (by omega), fun _ => ?_, fun _ _ _ h => by simp at h⟩
          rw [subij]
          refine hrow.mono (fun _ h => h) (fun d hd => hW.other d (fun e' => hnp (e' ▸ hd))) (fun d hd => ?_)
          obtain ⟨q, oq, r1, r2, r3, r4, r5⟩ := hs d hd
          exact hW.other d (h.apart hl hb r1 r2 r4)
        · rw [List.getElem?_set_ne (Ne.symm hmj)] at hm
          obtain ⟨v, k1, k2, k3⟩ := q4 m l hm
          have hml := lt_get hm
          refine ⟨v, by rw [List.getElem?_set_ne (Ne.symm hmj)]; exact k1, fun _ => ?_, fun _ _ _ h => by simp at h⟩
          rw [subi hmj]
          exact (k2 (oldOf hml hmj).2).mono (fun _ h => h) (fun d hd => hW.other d (fun e' => hnp (e' ▸ hd))) (fun d hd => hW.other d (h.sub_apart hl hb hl (oldOf hml hmj) hd))
    · rcases h.obj k z' ok hk' with ⟨d, k1, k2, k3⟩ | ⟨k1, k2⟩
      · exact .inl ⟨d, k1, ORep.ext ex (hW.other d (h.apart hl hb hne hk' k1)) (fun m hm => ⟨subne hne, fun c' hc' => hW.other c' (h.sub_apart hl hb hk' hm hc')⟩) k2, k3⟩
      · exact .inr ⟨k1, k2⟩
  · rcases get hk with ⟨rfl, he⟩ | ⟨hne, hk'⟩
    · simp only [Prod.mk.injEq] at he; exact he.1
    · exact h.rws k z' ok hk' hr
  · have old : ∀ {k ok}, look hp' k = some (false, ok) → ∃ ox, look hp k = some (false, ox) := by
      intro k ok hk
      rcases get hk with ⟨rfl, _⟩ | ⟨_, hk'⟩
      · exact ⟨_, hl⟩
      · exact ⟨_, hk'⟩
    obtain ⟨x, hx⟩ := old hk
    obtain ⟨y, hy⟩ := old hk'
    exact h.inj k k' x y d hx hy hd hd'
  · -- the blocks of rows
    have main : ∀ {k2 ok2}, look hp' k2 = some (false, ok2) → ∃ ox, look hp k2 = some (false, ox) := by
      intro k ok hk
      rcases get hk with ⟨rfl, _⟩ | ⟨_, hk'⟩
      · exact ⟨_, hl⟩
      · exact ⟨_, hk'⟩
    by_cases hnew : k = i ∧ m = j
    · obtain ⟨rfl, rfl⟩ := hnew
      rw [subij] at hd
      obtain ⟨q, oq, r1, r2, r3, r4, r5⟩ := hs d hd
      obtain ⟨hqr, hqp⟩ := h.at r2 r4
      refine ⟨by rw [hW.size]; exact hqr.lt, fun hp => by simpa using hqp.1 hp, fun k2 ok2 hk2 he => ?_, fun k2 z2 ok2 m2 hk2 hm2 hd2 => ?_⟩
      · obtain ⟨ox, hx⟩ := main hk2
        have := h.inj k2 q ox oq d hx r2 he r4
        subst this
        rw [r5] at hk2; simp at hk2
      · rcases get hk2 with ⟨rfl, he⟩ | ⟨hne2, hk2'⟩
        · by_cases hmj : m2 = m
          · exact ⟨rfl, hmj.symm⟩
          · rw [subi hmj] at hd2
            simp only [Prod.mk.injEq] at he
            rw [he.2] at hm2
            have hml : m2 < ls.length := by simpa using hm2.1
            exact absurd r4 ((h.sub _ false _ m2 d hl (oldOf hml hmj) hd2).2.2.1 q oq r2)
        · rw [subne hne2] at hd2
          exact absurd r4 ((h.sub k2 z2 ok2 m2 d hk2' hm2 hd2).2.2.1 q oq r2)
    · -- an old row
      have hold : ∃ z0 o0, look hp k = some (z0, o0) ∧ subOf o0 m ∧ g.sub k m = some d := by
        rcases get hk with ⟨rfl, he⟩ | ⟨hne, hk'⟩
        · have hmj : m ≠ j := fun e' => hnew ⟨rfl, e'⟩
          simp only [Prod.mk.injEq] at he
          rw [he.2] at hm
          have hml : m < ls.length := by simpa using hm.1
          exact ⟨_, _, hl, oldOf hml hmj, by rw [subi hmj] at hd; exact hd⟩
        · exact ⟨_, _, hk', hm, by rw [subne hne] at hd; exact hd⟩
      obtain ⟨z0, o0, p1, p2, p3⟩ := hold
      obtain ⟨a1, a2, a3, a4⟩ := h.sub k z0 o0 m d p1 p2 p3
      refine ⟨by rw [hW.size]; exact a1, a2, fun k2 ok2 hk2 => ?_, fun k2 z2 ok2 m2 hk2 hm2 hd2 => ?_⟩
      · obtain ⟨ox, hx⟩ := main hk2
        exact a3 k2 ox hx
      · rcases get hk2 with ⟨rfl, he⟩ | ⟨hne2, hk2'⟩
        · by_cases hmj : m2 = j
          · subst hmj
            rw [subij] at hd2
            obtain ⟨q, oq, r1, r2, r3, r4, r5⟩ := hs d hd2
            exact absurd r4 (a3 q oq r2)
          · rw [subi hmj] at hd2
            simp only [Prod.mk.injEq] at he
            rw [he.2] at hm2
            have hml : m2 < ls.length := by simpa using hm2.1
            exact a4 k2 _ _ m2 hl (oldOf hml hmj) hd2
        · rw [subne hne2] at hd2
          exact a4 k2 z2 ok2 m2 hk2' hm2 hd2
  · obtain ⟨k, ok, hk, hd⟩ := hd
    rcases get hk with ⟨rfl, he⟩ | ⟨hne, hk'⟩
    · rcases hd with hd | ⟨m, hm, hd⟩
      · exact .inl ⟨_, _, hl, .inl hd⟩
      · simp only [Prod.mk.injEq, true_and] at he
        rw [he] at hm
        by_cases hmj : m = j
        · subst hmj
          rw [subij] at hd
          obtain ⟨q, oq, r1, r2, r3, r4, r5⟩ := hs d hd
          exact .inl ⟨q, oq, r2, .inl r4⟩
        · rw [subi hmj] at hd
          have hml : m < ls.length := by simpa using hm.1
          exact .inl ⟨_, _, hl, .inr ⟨m, oldOf hml hmj, hd⟩⟩
    · exact .inl ⟨k, ok, hk', hd.imp id (fun ⟨m, m1, m2⟩ => ⟨m, m1, by rw [subne hne] at m2; exact m2⟩)⟩
  · rcases get hk with ⟨rfl, _⟩ | ⟨_, hk'⟩
    · exact .inl ⟨_, hl⟩
    · exact .inl ⟨_, hk'⟩
  · have hne : k ≠ i := by intro e'; subst e'; rw [hl] at hn; simp at hn
    exact subne hne

/-- A row is taken out. -/
theorem Post.take (h : Rel g hp w) (hfr : g.ρ nx = none) {i : Nat} {t e : TypeId} {c : CT} {ls : List (List c.D)} {jn : DN} (hl : look hp i = some (false, .rows t e c ls none)) (hi : i < nx) (hj : jn.v < ls.length) :
    ∃ b v g', g.ρ i = some b ∧ w.cell? ⟨b, jn.v, none⟩ = some v ∧ g.base i = 0 ∧ Rep g' w (.slice ⟨nx, .lit 0, c.size, 0⟩ (.sym (ls.getD jn.v []).length)) v ∧
      Post g w hp nx g' w ((nx, (false, .arr e c (ls.getD jn.v []))) :: repl hp i (false, .rows t e c ls (some (jn, nx, .sym (ls.getD jn.v []).length)))) (nx + 1) := by
  obtain ⟨b, hb, ⟨hba, vs, q1, q2, q3, q4⟩, hpr⟩ := h.there hl (fun h => h)
  have hget := getD_get hj ([] : List c.D)
  obtain ⟨v, k1, k2, _⟩ := q4 _ _ hget
  have k2 := k2 (fun _ _ _ h => by simp at h)
  generalize hrow : ls.getD jn.v [] = row at *
  have hnx : i ≠ nx := by omega
  -- the new number's block and place
  obtain ⟨ba, hba', hrep, hobj⟩ : ∃ ba, (∀ b', g.sub i jn.v = some b' → b' < w.heap.size) ∧
      ((∃ q, v = .slice q 0 0 ∧ row.length = 0) ∨ ∃ b' cap, g.sub i jn.v = some b' ∧ row.length ≤ cap ∧ v = .slice (some ⟨b', ba, none⟩) row.length cap ∧ ∃ (cs : Array Value) (t : TypeId) (fr : Nat × Nat), w.heap[b']? = some (Obj.cells cs t fr) ∧ ba + cap * c.size ≤ cs.size) ∧
      (∀ b', g.sub i jn.v = some b' → ∃ us : List Value, w.heap[b']? = some (.cells us.toArray e (0, 0)) ∧ (∀ u ∈ us, oneC u = true) ∧ ba + row.length * c.size ≤ us.length ∧ Elems w g.pr c us ba row) := by
    rcases k2 with ⟨q0, r1, r2, r3⟩ | ⟨b', o, cap, us, r1, r2, r3, r4, r5, r6, r7⟩
    · exact ⟨0, fun b' hb' => by rw [r3] at hb'; simp at hb', .inl ⟨q0, r1, by rw [r2]; rfl⟩, fun b' hb' => by rw [r3] at hb'; simp at hb'⟩
    · refine ⟨o, fun b'' hb' => ?_, .inr ⟨b', cap, r1, r3, r2, _, _, _, r4, by simpa using r6⟩, fun b'' hb' => ?_⟩
      · rw [r1] at hb'; obtain rfl := Option.some.inj hb'; exact lt_of_heap r4
      · rw [r1] at hb'; obtain rfl := Option.some.inj hb'
        have : row.length * c.size ≤ cap * c.size := Nat.mul_le_mul_right _ r3
        exact ⟨us, r4, r5, by omega, r7⟩
  obtain ⟨m1, m2⟩ := G.new_ext hfr (g.sub i jn.v) ba
  have ex : Ext g w (g.new nx (g.sub i jn.v) ba) w := ⟨m1, fun _ h => h, fun _ _ => rfl, m2, fun _ cs _ _ h => ⟨cs, h, rfl⟩⟩
  have rho : ∀ {j}, j ≠ nx → (g.new nx (g.sub i jn.v) ba).ρ j = g.ρ j := fun hne => by simp [G.new, hne]
  have sub : ∀ {j k}, j ≠ nx → (g.new nx (g.sub i jn.v) ba).sub j k = g.sub j k := fun hne => by simp [G.new, hne]
  have rhon : (g.new nx (g.sub i jn.v) ba).ρ nx = g.sub i jn.v := by simp [G.new]
  have basen : (g.new nx (g.sub i jn.v) ba).base nx = ba := by simp [G.new]
  have hsj : subOf (DO.rows t e c ls none) jn.v := ⟨hj, fun _ _ _ h => by simp at h⟩
  have get : ∀ {k x}, look ((nx, (false, DO.arr e c row)) :: repl hp i (false, DO.rows t e c ls (some (jn, nx, .sym row.length)))) k = some x →
      (k = nx ∧ x = (false, DO.arr e c row)) ∨ (k = i ∧ x = (false, DO.rows t e c ls (some (jn, nx, .sym row.length)))) ∨ (k ≠ nx ∧ k ≠ i ∧ look hp k = some x) := by
    intro k x hk
    rw [look_cons] at hk
    split at hk
    · rename_i he; exact .inl ⟨he.symm, (Option.some.inj hk).symm⟩
    · rename_i he
      rw [look_repl_some hl] at hk
      split at hk
      · rename_i he'; exact .inr (.inl ⟨he'.symm, (Option.some.inj hk).symm⟩)
      · rename_i he'; exact .inr (.inr ⟨fun e' => he e'.symm, fun e' => he' e'.symm, hk⟩)
  have hsl : Rep (g.new nx (g.sub i jn.v) ba) w (.slice ⟨nx, .lit 0, c.size, 0⟩ (.sym row.length)) v := by
    simp only [Rep]
    rcases hrep with r | ⟨b', cap, r1, r2, r3, r4⟩
    · exact .inl r
    · exact .inr ⟨b', ba, cap, by rw [rhon]; exact r1, r2, r3, .inr (by simp only [G.off, basen]; simp [DP.off, DN.v]), r4⟩
  -- a main block of the new memory is a main block of the old one, or the row's
  have main : ∀ {k ok d}, look ((nx, (false, DO.arr e c row)) :: repl hp i (false, DO.rows t e c ls (some (jn, nx, .sym row.length)))) k = some (false, ok) → (g.new nx (g.sub i jn.v) ba).ρ k = some d →
      (k = nx ∧ g.sub i jn.v = some d) ∨ (k ≠ nx ∧ ∃ ox, look hp k = some (false, ox) ∧ g.ρ k = some d) := by
    intro k ok d hk hd
    rcases get hk with ⟨rfl, _⟩ | ⟨rfl, _⟩ | ⟨h1, h2, h3⟩
    · rw [rhon] at hd; exact .inl ⟨rfl, hd⟩
    · rw [rho hnx] at hd; exact .inr ⟨hnx, _, hl, hd⟩
    · rw [rho h1] at hd; exact .inr ⟨h1, _, h3, hd⟩
  have rows : ∀ {k z ok m d}, look ((nx, (false, DO.arr e c row)) :: repl hp i (false, DO.rows t e c ls (some (jn, nx, .sym row.length)))) k = some (z, ok) → subOf ok m → (g.new nx (g.sub i jn.v) ba).sub k m = some d →
      k ≠ nx ∧ (∃ z0 o0, look hp k = some (z0, o0) ∧ subOf o0 m) ∧ g.sub k m = some d ∧ (k = i → m ≠ jn.v) := by
    intro k z ok m d hk hm hd
    rcases get hk with ⟨rfl, he⟩ | ⟨rfl, he⟩ | ⟨h1, h2, h3⟩
    · simp only [Prod.mk.injEq] at he; rw [he.2] at hm; simp [subOf] at hm
    · simp only [Prod.mk.injEq] at he
      rw [he.2] at hm
      rw [sub hnx] at hd
      exact ⟨hnx, ⟨_, _, hl, hm.1, fun _ _ _ h => by simp at h⟩, hd, fun _ => hm.2 _ _ _ rfl⟩
    · rw [sub h1] at hd
      exact ⟨h1, ⟨_, _, h3, hm⟩, hd, fun e' => absurd e' h2⟩
  refine ⟨b, v, g.new nx (g.sub i jn.v) ba, hb, ?_, hba, hsl, ⟨⟨fun k z' ok hk => ?_, fun k z' ok hk hr => ?_, fun k k' ok ok' d hk hk' hd hd' => ?_, fun k z' ok m d hk hm hd => ?_, h.prl⟩, ex, Kept.refl _ _, fun d hd => ?_, fun d hd => .inl hd, fun k hk => rho (by omega), fun k x hk => ?_,
    fun k hn hk m => sub (by omega), Nat.le_succ _⟩⟩
  · have := cell_at (off := 0) q1 jn.v
    rw [Nat.zero_add] at this
    rw [this]; exact k1
  · rcases get hk with ⟨rfl, he⟩ | ⟨rfl, he⟩ | ⟨h1, h2, h3⟩
    · simp only [Prod.mk.injEq] at he
      obtain ⟨rfl, rfl⟩ := he
      cases hs : g.sub i jn.v with
      | none =>
        refine .inr ⟨?_, by simp [G.new]⟩
        rcases hrep with ⟨_, _, r⟩ | ⟨b', cap, r, _⟩
        · exact List.length_eq_zero_iff.1 r
        · rw [hs] at r; simp at r
      | some b' =>
        obtain ⟨a1, a2, _⟩ := h.sub i false _ jn.v b' hl hsj hs
        refine .inl ⟨b', by rw [← hs]; simp [G.new], ?_, ⟨fun hp => absurd hp a2, fun h => by simp at h⟩⟩
        rw [← hs, basen]
        obtain ⟨us, r1, r2, r3, r4⟩ := hobj b' hs
        exact ⟨us, r1, r2, r3, r4⟩
    · simp only [Prod.mk.injEq] at he
      obtain ⟨rfl, rfl⟩ := he
      refine .inl ⟨b, by rw [rho hnx]; exact hb, ⟨by simp [G.new, hnx, hba], vs, q1, q2, q3, fun m l hm => ?_⟩, hpr⟩
      obtain ⟨u, p1, p2, _⟩ := q4 m l hm
      refine ⟨u, p1, fun hne => ?_, fun j0 i0 n0 h0 hmj => ?_⟩
      · rw [sub hnx]; exact p2 (fun _ _ _ h => by simp at h)
      · simp only [Option.some.injEq, Prod.mk.injEq] at h0
        obtain ⟨rfl, rfl, rfl⟩ := h0
        have : u = v := by rw [hmj, k1] at p1; exact (Option.some.inj p1).symm
        rw [this]; exact hsl
    · rcases h.obj k z' ok h3 with ⟨d, p1, p2, p3⟩ | ⟨p1, p2⟩
      · exact .inl ⟨d, m1 _ _ p1, by rw [m2 _ _ p1]; exact ORep.ext ex rfl (fun m hm => ⟨sub h1, fun _ _ => rfl⟩) p2, p3⟩
      · exact .inr ⟨p1, by rw [rho h1]; exact p2⟩
  · rcases get hk with ⟨rfl, he⟩ | ⟨rfl, he⟩ | ⟨h1, h2, h3⟩
    · simp only [Prod.mk.injEq] at he; exact he.1
    · simp only [Prod.mk.injEq] at he; exact he.1
    · exact h.rws k z' ok h3 hr
  · rcases main hk hd with ⟨rfl, r1⟩ | ⟨n1, ox, r1, r2⟩ <;> rcases main hk' hd' with ⟨rfl, s1⟩ | ⟨n2, oy, s1, s2⟩
    · rfl
    · exact absurd s2 ((h.sub i false _ jn.v d hl hsj r1).2.2.1 _ oy s1)
    · exact absurd r2 ((h.sub i false _ jn.v d hl hsj s1).2.2.1 _ ox r1)
    · exact h.inj k k' ox oy d r1 s1 r2 s2
  · obtain ⟨n1, ⟨z0, o0, r1, r2⟩, r3, r4⟩ := rows hk hm hd
    obtain ⟨a1, a2, a3, a4⟩ := h.sub k z0 o0 m d r1 r2 r3
    refine ⟨a1, a2, fun k2 ok2 hk2 he => ?_, fun k2 z2 ok2 m2' hk2 hm2 hd2 => ?_⟩
    · rcases main hk2 he with ⟨rfl, s1⟩ | ⟨n2, oy, s1, s2⟩
      · obtain ⟨e1, e2⟩ := a4 i false _ jn.v hl hsj s1
        exact r4 e1 e2
      · exact a3 k2 oy s1 s2
    · obtain ⟨n2, ⟨z1, o1, s1, s2⟩, s3, _⟩ := rows hk2 hm2 hd2
      exact a4 k2 z1 o1 m2' s1 s2 s3
  · obtain ⟨k, ok, hk, hd⟩ := hd
    rcases hd with hd | ⟨m, hm, hd⟩
    · rcases main hk hd with ⟨rfl, r1⟩ | ⟨n1, ox, r1, r2⟩
      · exact .inl ⟨i, _, hl, .inr ⟨jn.v, hsj, r1⟩⟩
      · exact .inl ⟨k, ox, r1, .inl r2⟩
    · obtain ⟨n1, ⟨z0, o0, r1, r2⟩, r3, _⟩ := rows hk hm hd
      have hz : z0 = false := by
        have : isRows o0 = true := by cases o0 <;> simp [subOf] at r2; rfl
        exact h.rws k z0 o0 r1 this
      subst hz
      exact .inl ⟨k, o0, r1, .inr ⟨m, r2, r3⟩⟩
  · rcases get hk with ⟨rfl, _⟩ | ⟨rfl, _⟩ | ⟨_, _, h3⟩
    · exact .inr ⟨Nat.le_refl _, Nat.lt_succ_self _⟩
    · exact .inl ⟨_, hl⟩
    · exact .inl ⟨_, h3⟩
end
end Go.DF
