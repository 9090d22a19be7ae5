import Derived.Test.YtfacddeaobogjaaF7c
set_option linter.unusedVariables false
set_option linter.unusedSimpArgs false
set_option linter.unnecessarySimpa false
/- The engine, part 7d: what is appended, made, stored, inserted. -/
namespace Go.DF
universe u v
set_option linter.unusedSimpArgs false
set_option linter.unusedVariables false
variable [Fam]

omit [Fam] in
theorem oneC_cell {v : Value} (h : oneC v = true) : v.oneCell' = true := by cases v <;> first | rfl | (simp [oneC] at h)
omit [Fam] in
theorem setRange_one {us vs : List Value} {off : Nat} (h1 : ∀ u ∈ us, oneC u = true) (h2 : ∀ u ∈ vs, oneC u = true) : ∀ u ∈ us.take off ++ vs ++ us.drop (off + vs.length), oneC u = true := by
  intro u hu
  simp only [List.mem_append] at hu
  rcases hu with (hu | hu) | hu
  · exact h1 u (List.mem_of_mem_take hu)
  · exact h2 u hu
  · exact h1 u (List.mem_of_mem_drop hu)
omit [Fam] in
theorem heap_new (w : World) (o : Obj) : (w.alloc o).heap[w.heap.size]? = some o := by
  show (w.heap.push o)[w.heap.size]? = _
  simp

section
variable {P : Program} {g : G} {hp : Hp} {w : World} {nx : Nat}

/-! ### append -/
omit [Fam] in
theorem bytesD_ok {t : TypeId} {n : Nat} (h : bytesD P t = some n) : ∃ i z, P.info? t = some i ∧ i.zero = some z ∧ i.bytes = n := by
  unfold bytesD at h
  split at h
  · rename_i i hi
    split at h
    · rename_i z hz; exact ⟨i, z, hi, hz, by simpa using h⟩
    · simp at h
  · simp at h
theorem zeroD_info {t : TypeId} {cs : List DV} (h : zeroD P t = some cs) {i : TypeInfo} {z : Value} (hi : P.info? t = some i) (hz : i.zero = some z) : (∀ g w, RepL g w cs z.cells.toList) ∧ ∀ u ∈ z.cells.toList, oneC u = true := by
  unfold zeroD at h
  rw [hi] at h
  dsimp only at h
  rw [hz] at h
  exact ⟨fun g w => ofValues_ok h, ofValues_one h⟩

/-- The cells of a slice's elements. -/
theorem SlOf.cells {c : CT} {l : List c.D} {v : Value} (h : SlOf g w c l v) : ∃ NC : List Value, NC.length = l.length * c.size ∧ (∀ u ∈ NC, oneC u = true) ∧ Elems w g.pr c NC 0 l ∧ (∀ P, (Builtin.lenOf v).run P w = .ok l.length w) ∧
    (∀ P, (Builtin.lenOf v).run P w.drew = .ok l.length w.drew) ∧ (∀ P, (Builtin.firstCells c.size l.length v).run P w = .ok NC.toArray w) ∧ (∀ P, (Builtin.firstCells c.size l.length v).run P w.drew = .ok NC.toArray w.drew) := by
  rcases h with ⟨q0, rfl, rfl⟩ | ⟨b, o, cap, us, t, fr, rfl, h1, h2, h3, h4⟩
  · exact ⟨[], by simp, by simp, fun i a hi => by simp at hi, fun P => rfl, fun P => rfl, fun P => by cases q0 <;> (simp [Builtin.firstCells]; try rfl), fun P => by cases q0 <;> (simp [Builtin.firstCells]; try rfl)⟩
  · have hle : l.length * c.size ≤ cap * c.size := Nat.mul_le_mul_right _ h1
    have hlen : ((us.drop o).take (l.length * c.size)).length = l.length * c.size := by rw [List.length_take, List.length_drop]; omega
    have hc : ∀ j v, ((us.drop o).take (l.length * c.size))[j]? = some v → w.cell? (Addr.add ⟨b, o, none⟩ j) = some v := by
      intro j v hj
      have hlt := lt_get hj
      rw [hlen] at hlt
      rw [addr_add, cell_at h2]
      rw [List.getElem?_take_of_lt hlt, List.getElem?_drop] at hj
      exact hj
    exact ⟨_, hlen, h4.one, h4.out, fun P => rfl, fun P => rfl, fun P => run_firstCells_some w c.size l.length ⟨b, o, none⟩ _ _ _ hlen hc, fun P => run_firstCells_some w.drew c.size l.length ⟨b, o, none⟩ _ _ _ hlen hc⟩

omit [Fam] in
theorem mul_size_lt {a b s : Nat} (h : a < b) (hs : 0 < s) : a * s + s ≤ b * s := by
  have : (a + 1) * s ≤ b * s := Nat.mul_le_mul_right _ h
  rw [Nat.add_mul] at this; omega

theorem slLen {c : CT} {l : List c.D} {v : Value} {p : DP} {n : DN} (r : Rep g w (.slice p n) v) (sl : SlOf g w c l v) : l.length = n.v := by
  simp only [Rep] at r
  rcases r with ⟨q0, rfl, r⟩ | ⟨b, o, cap, _, _, rfl, _⟩
  · rcases sl with ⟨_, _, rfl⟩ | ⟨b, o, cap, us, t, fr, e, _⟩
    · exact r.symm
    · simp only [Value.slice.injEq] at e; rw [← e.2.1]; exact r.symm
  · rcases sl with ⟨_, e, rfl⟩ | ⟨b, o, cap, us, t, fr, e, _⟩
    · simp only [Value.slice.injEq] at e; exact e.2.1.symm
    · simp only [Value.slice.injEq] at e; exact e.2.1.symm
theorem Post.to_less {g' : G} {w' : World} {hp' hp'' : Hp} {nx' : Nat} (h : Post g w hp nx g' w' hp' nx') (hs : ∀ i e, look hp'' i = some e → look hp' i = some e) : Post g w hp nx g' w' hp'' nx' :=
  h.trans (Post.less h.rel hs)
/-- An empty slice that may be nil needs no block. -/
theorem Post.empty (hR : Rel g hp w) (hfr : g.ρ nx = none) (e : TypeId) (c : CT) : Post g w hp nx g w ((nx, (false, .arr e c [])) :: hp) (nx + 1) := by
  have hne : ∀ {j x}, look ((nx, (false, DO.arr e c ([] : List c.D))) :: hp) j = some x → (j = nx ∧ x = (false, DO.arr e c ([] : List c.D))) ∨ (j ≠ nx ∧ look hp j = some x) := by
    intro j x hj
    rw [look_cons] at hj
    split at hj
    · rename_i he; exact .inl ⟨he.symm, (Option.some.inj hj).symm⟩
    · rename_i he; exact .inr ⟨fun e' => he e'.symm, hj⟩
  refine ⟨⟨fun j z' o' hj => ?_, fun j z' o' hj hr => ?_, fun j j' oj oj' b hj hj' hb hb' => ?_, fun j z' o' k b hj hk hb => ?_, hR.prl⟩, Ext.refl _ _, Kept.refl _ _, fun b hb => ?_, fun b hb => .inl hb, fun _ _ => rfl, fun j x hj => ?_, fun _ _ _ _ => rfl, Nat.le_succ _⟩
  · rcases hne hj with ⟨rfl, he⟩ | ⟨_, hj'⟩
    · simp only [Prod.mk.injEq] at he
      obtain ⟨rfl, rfl⟩ := he
      exact .inr ⟨rfl, hfr⟩
    · exact hR.obj j z' o' hj'
  · rcases hne hj with ⟨rfl, he⟩ | ⟨_, hj'⟩
    · simp only [Prod.mk.injEq] at he; exact he.1
    · exact hR.rws j z' o' hj' hr
  · rcases hne hj with ⟨rfl, _⟩ | ⟨_, h1⟩
    · rw [hfr] at hb; simp at hb
    · rcases hne hj' with ⟨rfl, _⟩ | ⟨_, h2⟩
      · rw [hfr] at hb'; simp at hb'
      · exact hR.inj j j' oj oj' b h1 h2 hb hb'
  · rcases hne hj with ⟨rfl, he⟩ | ⟨_, hj'⟩
    · simp only [Prod.mk.injEq] at he; rw [he.2] at hk; simp [subOf] at hk
    · obtain ⟨a1, a2, a3, a4⟩ := hR.sub j z' o' k b hj' hk hb
      refine ⟨a1, a2, fun j2 oj hj2 => ?_, fun j2 z2 oj k' hj2 hk' hb' => ?_⟩
      · rcases hne hj2 with ⟨rfl, _⟩ | ⟨_, h2⟩
        · rw [hfr]; simp
        · exact a3 j2 oj h2
      · rcases hne hj2 with ⟨rfl, he⟩ | ⟨_, h2⟩
        · simp only [Prod.mk.injEq] at he; rw [he.2] at hk'; simp [subOf] at hk'
        · exact a4 j2 z2 oj k' h2 hk' hb'
  · obtain ⟨j, o', hj, hb⟩ := hb
    rcases hne hj with ⟨rfl, he⟩ | ⟨_, hj'⟩
    · rcases hb with hb | ⟨k, hk, _⟩
      · rw [hfr] at hb; simp at hb
      · simp only [Prod.mk.injEq, true_and] at he; rw [he] at hk; simp [subOf] at hk
    · exact .inl ⟨j, o', hj', hb⟩
  · rcases hne hj with ⟨rfl, _⟩ | ⟨_, hj'⟩
    · exact .inr ⟨Nat.le_refl _, Nat.lt_succ_self _⟩
    · exact .inl ⟨_, hj'⟩

omit [Fam] in
theorem app_grow {P : Program} {w : World} {t t2 ty e e2 : TypeId} (ht : underD P t = some (.slice e)) (ht2 : underD P t2 = some (.slice e2)) {i : TypeInfo} {z : Value} (hi : P.info? e = some i) (hzz : i.zero = some z)
    {base : Option Addr} {cap n m : Nat} {vx : Value} {OC NC : List Value} (n4 : (Builtin.lenOf vx).run P w = .ok m w) (q1 : (Builtin.firstCells i.size n (.slice base n cap)).run P w.drew = .ok OC.toArray w.drew)
    (q2 : (Builtin.firstCells i.size m vx).run P w.drew = .ok NC.toArray w.drew) (hg : cap < n + m) (hb : (n + m) * i.bytes ≤ 140737488355328) (h63 : n + m ≤ 9223372036854775807) :
    (Builtin.append_ #[t, t2] ty #[.slice base n cap, vx]).run P w = .ok (.slice (some ⟨w.heap.size, 0, none⟩) (n + m) (grownCap w (n + m) cap e))
      (w.drew.alloc (.cells (OC ++ NC ++ (Builtin.zeroCells z.cells (grownCap w (n + m) cap e - (n + m))).toList).toArray e)) := by
  have hfit : ¬ (281474976710656 < Builtin.nextslicecap (n + m) cap * i.bytes) := by
    have := growslice_fits hg hb
    omega
  have hroom : ¬ (n + m ≤ cap) := by omega
  have h63' : ¬ (9223372036854775807 < ((n : Int) + (m : Int))) := by omega
  simp [Builtin.append_, run_under ht, run_under ht2, sizeOf, typeInfo, zeroValue, hi, hzz, n4, hroom, h63', hfit, Question.forced, q1, q2, newRow, grownCap]
  congr 2
  apply Array.toList_inj.1
  simp
omit [Fam] in
theorem app_room {P : Program} {w w' : World} {t t2 ty e e2 : TypeId} (ht : underD P t = some (.slice e)) (ht2 : underD P t2 = some (.slice e2)) {i : TypeInfo} (hi : P.info? e = some i)
    {b o cap n m : Nat} {vx : Value} {NC : List Value} (n4 : (Builtin.lenOf vx).run P w = .ok m w) (q2 : (Builtin.firstCells i.size m vx).run P w = .ok NC.toArray w)
    (hroom : n + m ≤ cap) (hst : (storeCells ⟨b, o + n * i.size, none⟩ NC).run P w = .ok () w') :
    (Builtin.append_ #[t, t2] ty #[.slice (some ⟨b, o, none⟩) n cap, vx]).run P w = .ok (.slice (some ⟨b, o, none⟩) (n + m) cap) w' := by
  simp [Builtin.append_, run_under ht, run_under ht2, sizeOf, typeInfo, hi, n4, hroom, q2, addr_add, hst]
omit [Fam] in
theorem app_none {P : Program} {w : World} {t t2 ty e e2 : TypeId} (ht : underD P t = some (.slice e)) (ht2 : underD P t2 = some (.slice e2)) {i : TypeInfo} (hi : P.info? e = some i) {vx : Value} {NC : List Value}
    (n4 : (Builtin.lenOf vx).run P w = .ok 0 w) (q2 : (Builtin.firstCells i.size 0 vx).run P w = .ok NC.toArray w) (hN : NC = []) (q0 : Option Addr) :
    (Builtin.append_ #[t, t2] ty #[.slice q0 0 0, vx]).run P w = .ok (.slice q0 0 0) w := by
  subst hN
  cases q0 <;> simp [Builtin.append_, run_under ht, run_under ht2, sizeOf, typeInfo, hi, n4, q2, storeCells]

set_option maxHeartbeats 1000000 in
theorem appendE_ok (hR : Rel g hp w) (hfr : g.ρ nx = none) {refs : List (TypeId × Nat)} {t t2 ty : TypeId} {s x d : DV} {vs vx : Value} {hp' : Hp} {nx' : Nat} (h : (appendE P refs t t2 s x hp nx).Path (d, hp', nx')) (rs : Rep g w s vs) (rx : Rep g w x vx) :
    ∃ v w' g', (Builtin.append_ #[t, t2] ty #[vs, vx]).run P w = .ok v w' ∧ Post g w hp nx g' w' hp' nx' ∧ Rep g' w' d v := by
  unfold appendE at h
  split at h
  · rename_i e e2 ht ht2
    split at h
    · rename_i c sz by' own hct hsz hby hown
      split at h
      · rename_i hcs
        have hcs := Nat.eq_of_beq_eq_true hcs
        split at h
        · rename_i zc hz
          split at h
          case h_2 => exact h.elim
          rename_i hzl
          have hzl := Nat.eq_of_beq_eq_true hzl
          obtain ⟨olds, ho, h⟩ := T.path_bind h
          obtain ⟨news, hn, h⟩ := T.path_bind h
          obtain ⟨⟨hbytes, hmax⟩, h⟩ := h
          have so := elemsT_ok hR ho rs
          have sn := elemsT_ok hR hn rx
          obtain ⟨i, z, hi, hzz, hib⟩ := bytesD_ok hby
          have hisz : i.size = c.size := by
            have : sizeD P e = some i.size := by unfold sizeD; rw [hi]
            rw [hsz] at this; rw [hcs]; exact (Option.some.inj this).symm
          obtain ⟨hzr, hz1⟩ := zeroD_info hz hi hzz
          obtain ⟨NC, n1, n2, n3, n4, n5, n6, n7⟩ := sn.cells
          obtain ⟨OC, o1, o2, o3, o4, o5, o6, o7⟩ := so.cells
          have hpos := c.pos
          -- how long the slice is
          have hlen : (lenD s).v = olds.length := by
            cases s with
            | slice p n => exact (slLen rs so).symm
            | nilslice =>
              simp only [Rep] at rs
              subst rs
              rcases so with ⟨_, _, rfl⟩ | ⟨_, _, _, _, _, _, e, _⟩
              · rfl
              · cases e
            | _ => simp [ownS] at hown
          have hlenx : (lenX x news.length).v = news.length := by
            unfold lenX
            split
            · exact (slLen rx sn).symm
            · rfl
          have hL : (addN (lenD s) (lenX x news.length)).v = olds.length + news.length := by rw [addN_v, hlen, hlenx]
          rw [hlen] at hbytes hmax
          have h63 : olds.length + news.length ≤ 9223372036854775807 := by unfold maxLen at hmax; omega
          have hcatE : ∀ rest, Elems w g.pr c (OC ++ NC ++ rest) 0 (olds ++ news) := fun rest => o3.cat o1 n3 rest
          -- it grows
          have grow : ∀ (base : Option Addr) (cap : Nat), vs = .slice base olds.length cap → cap < olds.length + news.length →
              ∃ v w' g', (Builtin.append_ #[t, t2] ty #[vs, vx]).run P w = .ok v w' ∧ Post g w hp nx g' w' ((nx, (false, .arr e c (olds ++ news))) :: hp) (nx + 1) ∧ Rep g' w' (.slice ⟨nx, .lit 0, sz, 0⟩ (addN (lenD s) (lenX x news.length))) v := by
            intro base cap hvs hg
            have hge := grownCap_ge w (olds.length + news.length) cap e
            let rest := Builtin.zeroCells z.cells (grownCap w (olds.length + news.length) cap e - (olds.length + news.length))
            have hrun : (Builtin.append_ #[t, t2] ty #[vs, vx]).run P w = .ok (.slice (some ⟨w.heap.size, 0, none⟩) (olds.length + news.length) (grownCap w (olds.length + news.length) cap e)) (w.drew.alloc (.cells (OC ++ NC ++ rest.toList).toArray e)) := by
              have q1 := o7 P
              have q2 := n7 P
              rw [hvs] at q1
              rw [hvs]
              exact app_grow ht ht2 hi hzz (n4 P) (by rw [hisz]; exact q1) (by rw [hisz]; exact q2) hg (by rw [hib]; exact hbytes) h63
            have s1 : Silent w w.drew := ⟨rfl, rfl, rfl, Nat.le_refl _, fun _ _ => rfl⟩
            have R1 := hR.silent s1
            have p1 : Post g w hp nx g w.drew hp nx := Post.silent hR s1 (GX.refl hR.prl)
            have hrs : ∀ u ∈ rest.toList, oneC u = true := by
              intro u hu
              simp only [rest, Builtin.zeroCells, Array.toList_map, List.mem_map] at hu
              obtain ⟨j, hj, rfl⟩ := hu
              by_cases h0 : z.cells.size = 0
              · have : j < (grownCap w (olds.length + news.length) cap e - (olds.length + news.length)) * z.cells.size := by simpa using hj
                rw [h0] at this; omega
              · have hm : j % z.cells.size < z.cells.size := Nat.mod_lt _ (by omega)
                refine hz1 _ ?_
                rw [getElem!_def, Array.getElem?_eq_getElem hm]
                exact Array.getElem_mem_toList hm
            have hzs : z.cells.size = c.size := by
              have := (hzr g w).length
              rw [hzl, ← hcs] at this
              simpa using this
            have hE : Elems w.drew g.pr c (OC ++ NC ++ rest.toList) 0 (olds ++ news) := fun i a hi => Rp.mono (w := w) (w' := w.drew) (S := g.pr) (fun _ h => h) (fun _ _ => rfl) _ _ _ (hcatE rest.toList i a hi)
            have p2 := Post.alloc (nx := nx) (o := .arr e c (olds ++ news)) (ob := .cells (OC ++ NC ++ rest.toList).toArray e) R1 hfr (fun ex => ⟨OC ++ NC ++ rest.toList, by
                show (w.drew.alloc _).heap[w.heap.size]? = _
                exact heap_new w.drew _, fun u hu => by
                simp only [List.mem_append] at hu
                rcases hu with (hu | hu) | hu
                · exact o2 u hu
                · exact n2 u hu
                · exact hrs u hu, by
                have : (olds ++ news).length * c.size = OC.length + NC.length := by rw [List.length_append, Nat.add_mul, o1, n1]
                rw [this]; simp, hE.mono ex.pr ex.at'⟩)
            refine ⟨_, _, g.new nx (some w.drew.heap.size) 0, hrun, ?_, ?_⟩
            · exact p1.trans p2
            · simp only [Rep]
              rw [hL]
              have hsz2 : (OC ++ NC ++ rest.toList).length = grownCap w (olds.length + news.length) cap e * c.size := by
                have : rest.toList.length = (grownCap w (olds.length + news.length) cap e - (olds.length + news.length)) * c.size := by simp [rest, Builtin.zeroCells, hzs]
                rw [List.length_append, List.length_append, this, o1, n1, ← Nat.add_mul, ← Nat.add_mul]; congr 1; omega
              refine .inr ⟨w.heap.size, 0, _, by simp [G.new], hge, rfl, .inr (by simp [G.off, G.new, DP.off, DN.v]), _, e, (0, 0), heap_new w.drew _, ?_⟩
              rw [List.size_toArray, hsz2, ← hcs]; omega
          cases own with
          | nil =>
            obtain ⟨rfl, rfl, rfl⟩ : d = _ ∧ hp' = _ ∧ nx' = _ := by have h : (d, hp', nx') = _ := h; simpa using h
            have hs : s = .nilslice := by
              unfold ownS at hown
              repeat' split at hown
              all_goals first | rfl | simp at hown
            subst hs
            simp only [Rep] at rs
            subst rs
            have ho0 : olds = [] := by
              rcases so with ⟨_, _, h⟩ | ⟨_, _, _, _, _, _, h, _⟩
              · exact h
              · cases h
            by_cases hn0 : news.length = 0
            · have hn1 : news = [] := List.length_eq_zero_iff.1 hn0
              have q := n6 P
              rw [hn0] at q
              have q2 := n4 P
              rw [hn0] at q2
              refine ⟨.slice none 0 0, w, g, app_none ht ht2 hi q2 (by rw [hisz]; exact q) (List.length_eq_zero_iff.1 (by rw [n1, hn0, Nat.zero_mul])) none, ?_, ?_⟩
              · rw [ho0, hn1]; exact Post.empty hR hfr e c
              · simp only [Rep]
                exact .inl ⟨none, rfl, by rw [hL, ho0, hn1]; rfl⟩
            · exact grow none 0 (by rw [ho0]; rfl) (by omega)
          | full =>
            obtain ⟨hnp, h⟩ := h
            obtain ⟨rfl, rfl, rfl⟩ : d = _ ∧ hp' = _ ∧ nx' = _ := by have h : (d, hp', nx') = _ := h; simpa using h
            -- the capacity is the length
            have hcap : ∃ base cap, vs = .slice base olds.length cap ∧ cap ≤ olds.length := by
              cases s with
              | slice p n =>
                simp only [ownS] at hown
                have hex : ∃ z' t' cs' k, look hp p.id = some (z', .cells t' cs') ∧ n = .lit k ∧ k * p.sz = cs'.length ∧ 0 < p.sz := by
                  cases hl : look hp p.id with
                  | none => rw [hl] at hown; exfalso; repeat' split at hown; all_goals simp_all
                  | some zo =>
                    obtain ⟨z', o⟩ := zo
                    rw [hl] at hown
                    cases o with
                    | cells t' cs' =>
                      refine ⟨z', t', cs', ?_⟩
                      cases n with
                      | sym k => exfalso; cases z' <;> repeat' split at hown
                                 all_goals simp_all
                      | lit k =>
                        refine ⟨k, rfl, rfl, ?_⟩
                        by_cases h1 : Nat.beq (k * p.sz) cs'.length = true
                        · by_cases h2 : Nat.blt 0 p.sz = true
                          · exact ⟨Nat.eq_of_beq_eq_true h1, Nat.le_of_ble_eq_true h2⟩
                          · exfalso; cases z' <;> repeat' split at hown
                            all_goals simp_all
                        · exfalso; cases z' <;> repeat' split at hown
                          all_goals simp_all
                    | _ => exfalso; cases z' <;> repeat' split at hown
                           all_goals simp_all
                obtain ⟨z', t', cs', k, hl, rfl, hk, hp0⟩ := hex
                have rs' := rs
                simp only [Rep, DN.v] at rs'
                have hlk : olds.length = k := by rw [← hlen]; rfl
                rcases rs' with ⟨q0, rfl, r⟩ | ⟨b, o, cap, hb, hcap, rfl, ho', cs2, t2', fr, k1, k2⟩
                · exact ⟨q0, 0, by rw [hlk, r], Nat.zero_le _⟩
                · obtain ⟨⟨hba, us, q1, q2, _⟩, _⟩ := hR.at hl hb
                  have e0 := k1.symm.trans q1
                  simp only [Option.some.injEq, Obj.cells.injEq] at e0
                  obtain ⟨rfl, _⟩ := e0
                  refine ⟨_, cap, by rw [hlk], ?_⟩
                  rw [hlk]
                  have e3 := q2.length
                  simp only [List.size_toArray, e3, ← hk] at k2
                  rcases Nat.lt_or_ge k cap with hlt | hge
                  · have := mul_size_lt hlt hp0; omega
                  · exact hge
              | nilslice => simp [ownS] at hown
              | _ => simp [ownS] at hown
            obtain ⟨base, cap, hv, hc⟩ := hcap
            exact grow base cap hv (by omega)
          | own q tq =>
            dsimp only at h
            split at h
            case h_2 => exact h.elim
            rename_i hte
            have hte := Nat.eq_of_beq_eq_true hte
            subst hte
            obtain ⟨rfl, rfl, rfl⟩ : d = _ ∧ hp' = _ ∧ nx' = _ := by have h : (d, hp', nx') = _ := h; simpa using h
            -- the slice's block is its own
            have hq : ∃ p n o, s = .slice p n ∧ p.id = q ∧ look hp q = some (false, o) ∧ isRows o = false ∧ (∀ b ba, ORep g w q o b ba → ∃ us, w.heap[b]? = some (.cells (us : List Value).toArray tq (0, 0)) ∧ (∀ u ∈ us, oneC u = true)) := by
              cases s with
              | slice p n =>
                simp only [ownS] at hown
                cases hl : look hp p.id with
                | none => rw [hl] at hown; split at hown <;> simp_all
                | some zo =>
                  obtain ⟨z', o⟩ := zo
                  rw [hl] at hown
                  cases o with
                  | arr t' c' l' =>
                    cases z' with
                    | true =>
                      exfalso
                      repeat' split at hown
                      all_goals simp_all
                    | false =>
                      have : p.id = q ∧ t' = tq := by
                        repeat' split at hown
                        all_goals simp_all
                      obtain ⟨rfl, rfl⟩ := this
                      exact ⟨p, n, _, rfl, rfl, hl, rfl, fun b ba ⟨us, h1, h2, _⟩ => ⟨us, h1, h2⟩⟩
                  | cells t' cs' =>
                    have key : z' = false → p.id = q → t' = tq → ∃ p' n' o, DV.slice p n = .slice p' n' ∧ p'.id = q ∧ look hp q = some (false, o) ∧ isRows o = false ∧ (∀ b ba, ORep g w q o b ba → ∃ us, w.heap[b]? = some (.cells (us : List Value).toArray tq (0, 0)) ∧ (∀ u ∈ us, oneC u = true)) := by
                      intro e1 e2 e3
                      subst e1 e2 e3
                      exact ⟨p, n, _, rfl, rfl, hl, rfl, fun b ba ⟨_, us, h1, _, h2⟩ => ⟨us, h1, h2⟩⟩
                    cases z' with
                    | true =>
                      exfalso
                      repeat' split at hown
                      all_goals simp_all
                    | false =>
                      have : p.id = q ∧ t' = tq := by
                        repeat' split at hown
                        all_goals simp_all
                      exact key rfl this.1 this.2
                  | _ =>
                    exfalso
                    repeat' split at hown
                    all_goals simp_all
              | _ => simp [ownS] at hown
            obtain ⟨p, n, o, rfl, rfl, hl, hro, hob⟩ := hq
            have growD : ∀ (base : Option Addr) (cap : Nat), vs = .slice base olds.length cap → cap < olds.length + news.length →
                ∃ v w' g', (Builtin.append_ #[t, t2] ty #[vs, vx]).run P w = .ok v w' ∧ Post g w hp nx g' w' ((nx, (false, .arr tq c (olds ++ news))) :: dropI p.id hp) (nx + 1) ∧ Rep g' w' (.slice ⟨nx, .lit 0, sz, 0⟩ (addN (lenD (.slice p n)) (lenX x news.length))) v := by
              intro base cap h1 h2
              obtain ⟨v, w', g', r1, r2, r3⟩ := grow base cap h1 h2
              refine ⟨v, w', g', r1, r2.to_less (fun k x hk => ?_), r3⟩
              rw [look_cons] at hk ⊢
              split at hk
              · rename_i he; rw [if_pos he]; exact hk
              · rename_i he; rw [if_neg he]; exact dropI_less _ _ _ hk
            have rs' := rs
            simp only [Rep] at rs'
            have so : (∃ q0, vs = .slice q0 0 0 ∧ olds = []) ∨ ∃ (b o cap : Nat) (us : List Value) (t : TypeId) (fr : Nat × Nat), vs = .slice (some ⟨b, o, none⟩) olds.length cap ∧ olds.length ≤ cap ∧ w.heap[b]? = some (.cells us.toArray t fr) ∧ o + cap * c.size ≤ us.length ∧ Elems w g.pr c us o olds := by
              rcases so with ⟨q0, e0, h0⟩ | h0
              · rcases rs' with ⟨q1, e1, _⟩ | ⟨b, o, cap, _, _, e1, _, cs, t', fr, k3, k4⟩
                · exact .inl ⟨q1, e1, h0⟩
                · rw [e0] at e1
                  simp only [Value.slice.injEq] at e1
                  obtain ⟨rfl, e2, e3⟩ := e1
                  subst e3
                  refine .inr ⟨b, o, 0, cs.toList, t', fr, by rw [h0]; exact e0, by rw [h0]; exact Nat.le_refl _, k3, by simp at k4 ⊢; omega, by rw [h0]; intro i a hi; simp at hi⟩
              · exact .inr h0
            have nilc : ∀ q0, vs = .slice q0 0 0 → olds = [] → ∃ v w' g', (Builtin.append_ #[t, t2] ty #[vs, vx]).run P w = .ok v w' ∧ Post g w hp nx g' w' ((nx, (false, .arr tq c (olds ++ news))) :: dropI p.id hp) (nx + 1) ∧ Rep g' w' (.slice ⟨nx, .lit 0, sz, 0⟩ (addN (lenD (.slice p n)) (lenX x news.length))) v := by
              intro q0 hvs ho0
              by_cases hn0 : news.length = 0
              · have hn1 : news = [] := List.length_eq_zero_iff.1 hn0
                have q := n6 P
                rw [hn0] at q
                have q2 := n4 P
                rw [hn0] at q2
                rw [hvs]
                refine ⟨.slice q0 0 0, w, g, app_none ht ht2 hi q2 (by rw [hisz]; exact q) (List.length_eq_zero_iff.1 (by rw [n1, hn0, Nat.zero_mul])) q0, ?_, ?_⟩
                · rw [ho0, hn1]
                  refine (Post.empty hR hfr tq c).to_less (fun k x hk => ?_)
                  rw [look_cons] at hk ⊢
                  split at hk
                  · rename_i he; rw [if_pos he]; exact hk
                  · rename_i he; rw [if_neg he]; exact dropI_less _ _ _ hk
                · simp only [Rep]
                  exact .inl ⟨q0, rfl, by rw [hL, ho0, hn1]; rfl⟩
              · exact growD q0 0 (by rw [ho0]; exact hvs) (by omega)
            rcases so with ⟨q0, hvs, ho0⟩ | ⟨b, o', cap, us, t', fr, hvs, hc1, hc2, hc3, hc4⟩
            · exact nilc q0 hvs ho0
            · by_cases hroom : olds.length + news.length ≤ cap
              · -- in place
                rcases rs' with ⟨q1, e1, e2⟩ | ⟨b2, o2', cap2, hb, hcap2, e1, ho2, cs2, t3, fr2, k1, k2⟩
                · refine nilc q1 e1 (List.length_eq_zero_iff.1 ?_)
                  rw [hvs] at e1
                  simp only [Value.slice.injEq] at e1; exact e1.2.1
                subst hvs
                simp only [Value.slice.injEq, Option.some.injEq, Addr.mk.injEq, and_true] at e1
                obtain ⟨⟨rfl, rfl⟩, _, rfl⟩ := e1
                obtain ⟨hor, _⟩ := hR.at hl hb
                obtain ⟨us2, u1, u2⟩ := hob _ _ hor
                have e0 := hc2.symm.trans u1
                simp only [Option.some.injEq, Obj.cells.injEq] at e0
                obtain ⟨e0, rfl, rfl⟩ := e0
                have e0 : us = us2 := by simpa using e0
                subst e0
                have hle2 : olds.length * c.size + NC.length ≤ cap * c.size := by
                  rw [n1, ← Nat.add_mul]; exact Nat.mul_le_mul_right _ hroom
                have hfit : o' + olds.length * c.size + NC.length ≤ us.length := by omega
                have hst := run_storeCells_at (P := P) b (o' + olds.length * c.size) t' NC 0 us.toArray w hc2 (by simpa using hfit) (fun v hv => oneC_cell (n2 v hv))
                simp only [Nat.add_zero] at hst
                have hrun : (Builtin.append_ #[t, t2] ty #[.slice (some ⟨b, o', none⟩) olds.length cap, vx]).run P w =
                    .ok (.slice (some ⟨b, o', none⟩) (olds.length + news.length) cap) (w.setRow b (us.take (o' + olds.length * c.size) ++ NC ++ us.drop (o' + olds.length * c.size + NC.length)).toArray) := by
                  exact app_room ht ht2 hi (n4 P) (by rw [hisz]; exact n6 P) hroom (by rw [hisz]; exact hst)
                have hU : Upd b w (w.setRow b (us.take (o' + olds.length * c.size) ++ NC ++ us.drop (o' + olds.length * c.size + NC.length)).toArray) :=
                  upd_setRow w b _ (fun c0 t0 fr0 h0 => by
                    rw [hc2] at h0
                    simp only [Option.some.injEq, Obj.cells.injEq] at h0
                    obtain ⟨rfl, _⟩ := h0
                    simp; omega)
                have hnew : (w.setRow b (us.take (o' + olds.length * c.size) ++ NC ++ us.drop (o' + olds.length * c.size + NC.length)).toArray).heap[b]? = some (.cells (us.take (o' + olds.length * c.size) ++ NC ++ us.drop (o' + olds.length * c.size + NC.length)).toArray t' (0, 0)) := setRow_heap w b _ _ _ _ hc2
                have hroomE := hc4.room n3 n1 hfit
                refine ⟨_, _, _, hrun, Post.move (ba := o') (o' := .arr t' c (olds ++ news)) hR hfr hU hl rfl hb (fun ex => ⟨_, hnew, setRange_one u2 n2, ?_, hroomE.mono ex.pr ex.at'⟩), ?_⟩
                · have : (olds ++ news).length * c.size = olds.length * c.size + NC.length := by rw [List.length_append, Nat.add_mul, n1]
                  rw [this]
                  simp only [List.length_append, List.length_take, List.length_drop]; omega
                · simp only [Rep]
                  rw [hL]
                  refine .inr ⟨b, o', cap, by simp [G.new], hroom, rfl, .inr (by simp [G.off, G.new, DP.off, DN.v]), _, _, _, hnew, ?_⟩
                  rw [← hcs]
                  simp only [List.size_toArray, List.length_append, List.length_take, List.length_drop]; omega
              · exact growD _ cap hvs (by omega)
        · exact h.elim
      · exact h.elim
    · exact h.elim
  · exact h.elim
end
end Go.DF
