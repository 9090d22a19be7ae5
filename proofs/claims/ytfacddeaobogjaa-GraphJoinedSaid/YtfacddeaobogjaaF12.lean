import Derived.Test.YtfacddeaobogjaaF11
set_option linter.unusedVariables false
set_option linter.unusedSimpArgs false
set_option linter.unnecessarySimpa false
/- The engine, part 12: callees and rounds that are run in place. -/
namespace Go.DF
universe u v
set_option linter.unusedSimpArgs false
set_option linter.unusedVariables false
set_option linter.unnecessarySimpa false
variable [Fam]
variable {P : Program} {ct : Cx P}

omit [Fam] in
theorem findB_f : ∀ {l : List (Body P)} {f : FuncId} {b : Body P}, findB l f = some b → b.f = f
  | [], f, b, h => by simp [findB] at h
  | c :: r, f, b, h => by
    unfold findB at h
    split at h
    · rename_i hb; obtain rfl := Option.some.inj h; exact Nat.eq_of_beq_eq_true hb
    · exact findB_f h

/-- What is done in thought behind a run. -/
theorem DRun.ghost {C : (Ending → World → Prop) → Prop} (hC : ∀ {R R' : Ending → World → Prop}, C R → (∀ e w, R e w → R' e w) → C R') {g : G} {w : World} {hp hp0 hp1 : Hp} {n nx : Nat} {d0 : DV} {l : List Gh} (hg : (ghosts l hp0).Path hp1)
    (h : DRun C g w hp n (fun d st => d = d0 ∧ st.hp = hp0 ∧ st.nx = nx)) : DRun C g w hp n (fun d st => d = d0 ∧ st.hp = hp1 ∧ st.nx = nx) := by
  refine hC h ?_
  rintro e w2 ⟨v, d, st, g2, rfl, ⟨rfl, rfl, rfl⟩, hR, hr, hE, hK, hf, hm, hp, hs⟩
  obtain ⟨g3, hP⟩ := ghosts_ok (nx := st.nx) _ _ _ _ hg hR
  refine ⟨v, d, ⟨st.fr, hp1, st.nx⟩, g3, rfl, ⟨rfl, rfl, rfl⟩, hP.rel, Rep.ext hP.ext _ _ hr, hE.trans hP.ext, hK, fun i hi => by rw [hP.out i (.inr hi)]; exact hf i hi, fun b hb => ?_, fun b hb => ?_, fun i hi => ?_⟩
  · rcases hP.mine b hb with h | h
    · exact hm b h
    · exact .inr (Nat.le_trans hK.size h)
  · rcases hP.prg b hb with h | h | h
    · exact hp b h
    · exact .inr (hm b h)
    · exact .inr (.inr (Nat.le_trans hK.size h))
  · by_cases hlt : i < st.nx
    · rw [hP.out i (.inl hlt)]; exact hs i hi
    · rw [hP.out i (.inr (by omega))]; exact hs i hi

theorem runF_ok {bs : List (Body P)} {fuel : Nat} {f : FuncId} {args : List DV} {hp : Hp} {nx : Nat} {r : DV × Hp × Nat} (h : (runF P ct bs fuel f args hp nx).Path r) :
    HasBody P f ∧ DCall P f args hp nx (fun d st => d = r.1 ∧ st.hp = r.2.1 ∧ st.nx = r.2.2) := by
  unfold runF at h
  split at h
  · exact h.elim
  · rename_i b hb
    have hf := findB_f hb
    subst hf
    refine ⟨⟨b.fn, b.hf, b.hn, b.hb⟩, ?_⟩
    split at h
    · rename_i c hc hle
      obtain ⟨⟨x, st'⟩, hx, h⟩ := T.path_bind h
      intro g w vs hR hfr ha
      have hres : (∀ i, x ≠ .exit i) ∧ ∃ ds hp1, (resD P st' b.fn.results.toList).Path ds ∧ r = (tupD ds, hp1, st'.nx) ∧ (hp1 = st'.hp ∨ ∃ l, (ghosts l st'.hp).Path hp1) := by
        have key : ((resD P st' b.fn.results.toList).bind fun ds => match b.frz with
            | false => .leaf (tupD ds, st'.hp, st'.nx)
            | true => (ghosts (fzD st'.hp (tupD ds)) st'.hp).bind fun hp' => .leaf (tupD ds, hp', st'.nx)).Path r → ∃ ds hp1, (resD P st' b.fn.results.toList).Path ds ∧ r = (tupD ds, hp1, st'.nx) ∧ (hp1 = st'.hp ∨ ∃ l, (ghosts l st'.hp).Path hp1) := by
          intro h
          obtain ⟨ds, h1, h2⟩ := T.path_bind h
          split at h2
          · exact ⟨ds, _, h1, h2, .inl rfl⟩
          · obtain ⟨hp1, h3, h4⟩ := T.path_bind h2
            exact ⟨ds, hp1, h1, h4, .inr ⟨_, h3⟩⟩
        cases x with
        | exit i => exact h.elim
        | normal => exact ⟨by simp, key h⟩
        | ret => exact ⟨by simp, key h⟩
      obtain ⟨hne, ds, hp1, hds, hr, hgh⟩ := hres
      suffices hsuf : DRun (Calls P b.f vs.toArray w) g w hp nx (fun d st => d = tupD ds ∧ st.hp = st'.hp ∧ st.nx = st'.nx) by
        rw [hr]
        rcases hgh with rfl | ⟨l, hl⟩
        · exact hsuf
        · exact DRun.ghost (fun h k => h.mono k) hl hsuf
      refine calls_of_ok b.hf hc (fun Q hQ => (execT_ok (rd := none) (fun _ _ h => by cases h) fuel).1 c _ x st' hx g _ w (ok_start hR hfr ha (Nat.le_of_ble_eq_true hle)) Q (fun g' a' w' hO' => hQ x st' g' a' w' ?_ hO'))
      have key : (resD P st' b.fn.results.toList).Holds (fun ds' => tupD ds' = tupD ds ∧ st'.hp = st'.hp ∧ st'.nx = st'.nx) := T.Holds.of_path ⟨ds, hds, rfl, rfl, rfl⟩
      cases x with
      | exit i => exact (hne i rfl).elim
      | normal => exact key
      | ret => exact key
    · exact h.elim

theorem setPs_ok {g : G} {w : World} {N : Nat} : ∀ {ps : List Nat} {ds : List DV} {vs : List Value} {fr fr1 : Fr} {tmps : Array Value}, setPs N fr ps ds = some fr1 → RepL g w ds vs → tmps.size = N → RepF g w fr tmps →
    vs.length = ps.length ∧ ((ps.zip vs).foldl (fun (t : Array Value) (x : Nat × Value) => t.setIfInBounds x.1 x.2) tmps).size = N ∧ RepF g w fr1 ((ps.zip vs).foldl (fun (t : Array Value) (x : Nat × Value) => t.setIfInBounds x.1 x.2) tmps)
  | [], [], vs, fr, fr1, tmps, h, r, hs, hf => by
    simp only [RepL] at r
    subst r
    unfold setPs at h
    obtain rfl := Option.some.inj h
    exact ⟨rfl, hs, hf⟩
  | [], d :: ds, vs, fr, fr1, tmps, h, r, hs, hf => by simp [setPs] at h
  | p :: ps, [], vs, fr, fr1, tmps, h, r, hs, hf => by simp [setPs] at h
  | p :: ps, d :: ds, vs, fr, fr1, tmps, h, r, hs, hf => by
    simp only [RepL] at r
    obtain ⟨v, us, rfl, r1, r2⟩ := r
    unfold setPs at h
    split at h
    · rename_i hlt
      have hlt := Nat.le_of_ble_eq_true hlt
      have hf' : RepF g w ((p, d) :: fr) (tmps.setIfInBounds p v) := by
        intro t e he
        rw [look_cons] at he
        split at he
        · rename_i hpt
          subst hpt
          obtain rfl := Option.some.inj he
          exact ⟨v, by rw [Array.getElem?_setIfInBounds_self]; simp; omega, r1⟩
        · rename_i hpt
          obtain ⟨u, h1, h2⟩ := hf t e he
          exact ⟨u, by rw [Array.getElem?_setIfInBounds_ne hpt]; exact h1, h2⟩
      obtain ⟨k1, k2, k3⟩ := setPs_ok h r2 (by simpa using hs) hf'
      exact ⟨by simp [k1], k2, k3⟩
    · simp at h

theorem yieT_ok {fuel : Nat} {id : Nat} {args : List DV} {hp : Hp} {nx : Nat} {r : DV × Hp × Nat} (h : (yieT P ct fuel id args hp nx).Path r) :
    (∃ fr N ps as bo s pe, look hp id = some (false, .loop fr N ps as bo s pe)) ∧ DYield P id args hp nx (fun d st => d = r.1 ∧ st.hp = r.2.1 ∧ st.nx = r.2.2) := by
  unfold yieT at h
  split at h
  case h_2 => exact h.elim
  rename_i fr N ps as bo hlook
  refine ⟨⟨fr, N, ps, as, bo, .ready, none, hlook⟩, ?_⟩
  split at h
  case h_2 => exact h.elim
  rename_i fr1 hset
  obtain ⟨⟨x1, st1⟩, hx1, h⟩ := T.path_bind h
  split at h
  case h_2 => exact h.elim
  rename_i fr' N' ps' as' bo' pe' hx1n hlook1
  dsimp only at hx1n hlook1 h
  subst hx1n
  obtain ⟨⟨x2, st2⟩, hx2, h⟩ := T.path_bind h
  dsimp only at h
  split at h
  case h_2 => exact h.elim
  rename_i fr2 N2 ps2 as2 bo2 s2 pe2 hlook2
  intro g w vs l rec hR hfr ha hl hrec
  obtain ⟨⟨rec', hr1, hr2, hr3, hr4, hr5, hr6, hr7, hr8⟩, _⟩ := hR.at hlook hl
  rw [hrec] at hr1
  simp only [Option.some.injEq, Obj.loop.injEq] at hr1
  subst hr1
  obtain ⟨k1, k2, k3⟩ := setPs_ok hset ha hr7 hr8
  refine ⟨by rw [hr4]; simpa using k1, ?_⟩
  have etmps : (rec.params.zip vs.toArray).foldl (fun tmps (t, a) => tmps.setIfInBounds t a) rec.tmps = (ps.zip vs).foldl (fun (t : Array Value) (x : Nat × Value) => t.setIfInBounds x.1 x.2) rec.tmps := by
    rw [hr4]; simp
  rw [etmps]
  have hO : Ok g w (Mine g hp) nx N g ⟨fr1, hp, nx⟩ { tmps := (ps.zip vs).foldl (fun (t : Array Value) (x : Nat × Value) => t.setIfInBounds x.1 x.2) rec.tmps, defers := [] } w :=
    ⟨hR, ⟨k3, k2⟩, fun b hb => .inl hb, hfr, Ext.refl _ _, Kept.refl _ _, fun b hb => .inl hb, fun _ _ => rfl, Nat.le_refl _, fun d hd => by simp at hd, List.Pairwise.nil⟩
  have hrd : ∀ i l', (some (id, l) : Option (Nat × Nat)) = some (i, l') → g.ρ i = some l' := fun i l' h => by
    simp only [Option.some.injEq, Prod.mk.injEq] at h
    obtain ⟨rfl, rfl⟩ := h; exact hl
  rw [hr5, hr6]
  refine roundIn_of_wpIn trivial ?_
  refine (execT_ok (rd := some (id, l)) hrd fuel).1 as _ .normal st1 hx1 g _ w hO _ ?_
  intro g1 a1 w1 hO1
  have hl1 := hO1.ext.rho id l hl
  obtain ⟨⟨rec1, q1, q2, _⟩, _⟩ := hO1.rel.at hlook1 hl1
  refine ⟨_, run_beginRound q1 q2, ?_⟩
  have P1 := Post.record (nx := st1.nx) hO1.rel hlook1 hl1 q1 .busy pe'
  have hO2 : Ok g w (Mine g hp) nx N g1 ⟨st1.fr, repl st1.hp id (false, .loop fr' N' ps' as' bo' .busy pe'), st1.nx⟩ a1 (w1.putObj l (.loop { rec1 with state := .busy, pending := pe' })) :=
    hO1.post P1 (hO1.frm.ext P1.ext) rfl
  have epe : rec1.pending = pe' := by
    obtain ⟨⟨r2, a1', _, a3, _⟩, _⟩ := hO1.rel.at hlook1 hl1
    rw [q1] at a1'
    simp only [Option.some.injEq, Obj.loop.injEq] at a1'
    rw [a1']; exact a3
  have ew : (w1.putObj l (.loop { rec1 with state := .busy })) = (w1.putObj l (.loop { rec1 with state := .busy, pending := pe' })) := by rw [← epe]
  rw [ew]
  refine (execT_ok (rd := some (id, l)) hrd fuel).1 bo _ x2 st2 hx2 g1 a1 _ hO2 _ ?_
  intro g2 a2 w2 hO3
  have hl2 := hO3.ext.rho id l hl
  obtain ⟨⟨rec2, z1, _⟩, _⟩ := hO3.rel.at hlook2 hl2
  have fin : ∀ (jump : Option Code) (s' : LoopState) (b : Bool), (s' = if jump.isNone then .ready else .done) → b = jump.isNone → r = (.bool (.lit b), repl st2.hp id (false, .loop fr2 N2 ps2 as2 bo2 s' jump), st2.nx) →
      ∃ v w', (Instr.endRound l jump).run P w2 = .ok v w' ∧ ∃ v' d st' g', Ending.returned v = .returned v' ∧ (d = r.1 ∧ st'.hp = r.2.1 ∧ st'.nx = r.2.2) ∧ Rel g' (st' : St).hp w' ∧ Rep g' w' d v' ∧ Ext g w g' w' ∧
        Kept (Mine g hp) w w' ∧ (∀ i, st'.nx ≤ i → g'.ρ i = none) ∧ (∀ b, Mine g' st'.hp b → Mine g hp b ∨ w.heap.size ≤ b) ∧ (∀ b, g'.pr b → g.pr b ∨ Mine g hp b ∨ w.heap.size ≤ b) ∧ (∀ i, i < nx → g'.ρ i = g.ρ i) := by
    intro jump s' b hs' hb hr
    have P2 := Post.record (nx := st2.nx) hO3.rel hlook2 hl2 z1 s' jump
    have hO4 := hO3.post P2 (hO3.frm.ext P2.ext) rfl
    refine ⟨_, _, run_endRound jump z1, .bool jump.isNone, .bool (.lit b), ⟨st2.fr, repl st2.hp id (false, .loop fr2 N2 ps2 as2 bo2 s' jump), st2.nx⟩, g2, rfl, by rw [hr]; exact ⟨rfl, rfl, rfl⟩, ?_⟩
    rw [← hs']
    exact ⟨hO4.rel, by simp only [Rep, DB.v, hb], hO4.ext, hO4.kept, hO4.fresh, hO4.mine, hO4.prg, hO4.same⟩
  cases x2 with
  | normal => exact fin none .ready true rfl rfl h
  | ret => exact fin (some .ret) .done false rfl rfl h
  | exit i => exact fin (some (.exit i)) .done false rfl rfl h

/-- One level more of callees that are run in place. -/
def Cx.step (ct : Cx P) (bs : List (Body P)) (fuel : Nat) : Cx P :=
  { ct with inl := runF P ct bs fuel, yie := yieT P ct fuel, ok := ⟨fun _ _ _ _ _ h => runF_ok h, fun _ _ _ _ _ h => yieT_ok h⟩ }
/-- So many levels of them. -/
def Cx.deep (ct : Cx P) (bs : List (Body P)) (fuel : Nat) : Nat → Cx P
  | 0 => ct
  | n + 1 => (Cx.deep ct bs fuel n).step bs fuel
/-- All that is reckoned with is closed. -/
def Cx.closed (ct : Cx P) : Cx P := { ct with cl := true }
/-- A function that works on closed data, by its run. -/
theorem pure1_of_run {P : Program} {ct : Cx P} {bs : List (Body P)} {fuel : Nat} {f : FuncId} {d : DV} {ps : List Prop} {r : DV × Hp × Nat} (h : (runF P ct bs fuel f [] [] 0).fin = some (ps, r)) (hp : ∀ p ∈ ps, p) (hd : flatD r.1 = true) (he : r.1 = d) : Pure1 P f [] d := by
  subst he
  obtain ⟨hb, hc⟩ := runF_ok (T.path_fin h hp)
  intro g w vs rr hpr
  let g1 : G := ⟨fun _ => none, g.pr, fun _ => 0, fun _ _ => none⟩
  have hR : Rel g1 [] w := ⟨fun i z o hi => by simp [look] at hi, fun i z o hi => by simp [look] at hi, fun i j oi oj b hi => by simp [look] at hi, fun i z o k b hi => by simp [look] at hi, hpr⟩
  have hno : ∀ b, ¬ Mine g1 [] b := by rintro b ⟨i, o, hi, _⟩; simp [look] at hi
  refine (hc g1 w vs hR (fun _ _ => rfl) (by simpa only [RepL] using rr)).mono ?_
  rintro e w' ⟨v, d', st', g', rfl, ⟨rfl, _, _⟩, hR', hr, hE, hK, _⟩
  unfold flatD at hd
  split at hd
  · rename_i hn
    have hs0 : Silent w w' := ⟨hK.os, hK.tape, hK.output, hK.size, fun b hb => hK.kept b hb (hno b)⟩
    exact ⟨v, g, rfl, hs0, GX.refl fun b hb => Nat.lt_of_lt_of_le (hpr b hb) hs0.size, flat_rep _ v hd hn hr⟩
  · simp at hd
/-- What is left to show, where a run comes to this Bool. -/
def T.finB {β : Type} (t : T (DV × β)) (b : Bool) : Option (List Prop) := match t.fin with
  | some (ps, (.bool x, _)) => match x.v, b with
    | true, true => some ps
    | false, false => some ps
    | _, _ => none
  | _ => none
theorem pure1_of_fin {P : Program} {ct : Cx P} {bs : List (Body P)} {fuel : Nat} {f : FuncId} {b : Bool} {ps : List Prop} (h : (runF P ct bs fuel f [] [] 0).finB b = some ps) (hp : ∀ p ∈ ps, p) : Pure1 P f [] (.bool (.lit b)) := by
  unfold T.finB at h
  split at h
  · rename_i qs x rest hf
    have hx : x.v = b ∧ qs = ps := by
      split at h
      · rename_i h1; exact ⟨h1, Option.some.inj h⟩
      · rename_i h1; exact ⟨h1, Option.some.inj h⟩
      · simp at h
    obtain ⟨hx, rfl⟩ := hx
    have k := pure1_of_run hf hp rfl rfl
    intro g w vs r hpr
    refine (k g w vs r hpr).mono ?_
    rintro e w' ⟨v, g', rfl, hs, hg, hr⟩
    exact ⟨v, g', rfl, hs, hg, by simpa [Rep, hx] using hr⟩
  · simp at h
end Go.DF
