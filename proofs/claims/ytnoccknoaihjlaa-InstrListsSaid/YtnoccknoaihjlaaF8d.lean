import Derived.Test.YtnoccknoaihjlaaF8c
set_option linter.unusedVariables false
set_option linter.unusedSimpArgs false
set_option linter.unnecessarySimpa false
/- The engine, part 8d: one operation, whatever it does. -/
namespace Go.DF
universe u v
set_option linter.unusedSimpArgs false
set_option linter.unusedVariables false
variable [Fam]
variable {P : Program} {ct : Cx P} {g : G} {hp hp' : Hp} {nx nx' : Nat} {w : World} {d : DV}

/-- Run in any activation with these values, the operation gives this value and leaves this memory. -/
def EOk (P : Program) (o : Oper) (ev : Operand → Value) (g : G) (w : World) (hp : Hp) (nx : Nat) (d : DV) (hp' : Hp) (nx' : Nat) : Prop :=
  ∀ (a : Act) (next : Act → World → Prop) (Q : Exit → Act → World → Prop), a.eval = ev → (∀ v w' g', Post g w hp nx g' w' hp' nx' → Rep g' w' d v → next (a.put o.dst v) w') → o.wp P a w next Q

theorem rep_undef (g : G) (w : World) : Rep g w (.tup []) undef := by simp only [Rep]; exact ⟨[], rfl, RepL.nil⟩
theorem EOk.of_run {o : Oper} {ev : Operand → Value} {v : Value} {w' : World} {g' : G} (he : (execOp ev o).run P w = .ok (.value v) w') (hp2 : Post g w hp nx g' w' hp' nx') (hr : Rep g' w' d v) : EOk P o ev g w hp nx d hp' nx' := by
  intro a next Q ha hn
  unfold Oper.wp
  rw [ha, he, Oper.upon_value]
  exact hn v w' g' hp2 hr
theorem EOk.of_skip {o : Oper} {ev : Operand → Value} {w' : World} {g' : G} (he : (execOp ev o).run P w = .ok .skip w') (hp2 : Post g w hp nx g' w' hp' nx') : EOk P o ev g w hp nx (.tup []) hp' nx' := by
  intro a next Q ha hn
  unfold Oper.wp
  rw [ha, he, Oper.upon_skip]
  exact hn _ w' g' hp2 (rep_undef _ _)
theorem EOk.pre {o : Oper} {ev : Operand → Value} {g1 : G} {hp1 : Hp} (h : Post g w hp nx g1 w hp1 nx) (k : EOk P o ev g1 w hp1 nx d hp' nx') : EOk P o ev g w hp nx d hp' nx' :=
  fun a next Q ha hn => k a next Q ha fun v w' g' hP hr => hn v w' g' (h.trans hP) hr
theorem SOk.eok {o : Oper} {ev : Operand → Value} (hR : Rel g hp w) (h : SOk P o ev g w d) : EOk P o ev g w hp nx d hp nx :=
  fun a next Q ha hn => h a next Q ha fun v w' g' hs hx hr => hn v w' g' (Post.silent hR hs hx) hr

theorem appendE_nx {refs : List (TypeId × Nat)} {t t2 : TypeId} {s x : DV} (h : (appendE P refs t t2 s x hp nx).Path (d, hp', nx')) : nx' = nx + 1 := by
  unfold appendE at h
  split at h
  · split at h
    · split at h
      · split at h
        · split at h
          · obtain ⟨_, _, h⟩ := T.path_bind h
            obtain ⟨_, _, h⟩ := T.path_bind h
            obtain ⟨_, h⟩ := h
            split at h
            · obtain ⟨_, h⟩ := h
              have h : (d, hp', nx') = _ := h
              simp only [Prod.mk.injEq] at h
              exact h.2.2
            · split at h
              · have h : (d, hp', nx') = _ := h
                simp only [Prod.mk.injEq] at h
                exact h.2.2
              · exact h.elim
            · have h : (d, hp', nx') = _ := h
              simp only [Prod.mk.injEq] at h
              exact h.2.2
          · exact h.elim
        · exact h.elim
      · exact h.elim
    · exact h.elim
  · exact h.elim
theorem makeSlT_nx {refs : List (TypeId × Nat)} {t : TypeId} {len cap : DV} (h : (makeSlT P refs t len cap hp nx).Path (d, hp', nx')) : nx' = nx + 1 := by
  unfold makeSlT at h
  split at h
  · split at h
    · obtain ⟨_, h⟩ := h
      split at h
      · split at h
        · split at h
          · obtain ⟨_, h⟩ := h
            have h : (d, hp', nx') = _ := h
            simp only [Prod.mk.injEq] at h
            exact h.2.2
          · exact h.elim
        · exact h.elim
      · split at h
        · split at h
          · have h : (d, hp', nx') = _ := h
            simp only [Prod.mk.injEq] at h
            exact h.2.2
          · exact h.elim
        · exact h.elim
    · exact h.elim
  · exact h.elim
theorem evE0_ok {lk : Operand → Option DV} {ev : Operand → Value} {o : Oper} (hR : Rel g hp w) (hfr : ∀ i, nx ≤ i → i < nx' → g.ρ i = none) (hnb : nx' ≤ noBlock → ∀ i, noBlock ≤ i → g.ρ i = none)
    (hlk : ∀ x, x ∈ o.op.operands.toList → ∀ d, lk x = some d → Rep g w d (ev x)) (h : (evE0 P ct lk o.op hp nx).Path (d, hp', nx')) : EOk P o ev g w hp nx d hp' nx' := by
  obtain ⟨dst, op, type, pos, after, guard⟩ := o
  dsimp only at h hlk
  unfold evE0 at h
  split at h
  · -- alloc
    rename_i e
    split at h
    · rename_i cs hz
      obtain ⟨z, hzr, hz2, hz3⟩ := zeroD_ok hz
      have h : (d, hp', nx') = _ := h
      simp only [Prod.mk.injEq] at h
      obtain ⟨rfl, rfl, rfl⟩ := h
      have hf : g.ρ nx = none := hfr nx (Nat.le_refl _) (by omega)
      refine EOk.of_run (v := .pointer (some ⟨w.heap.size, 0, none⟩)) (w' := w.alloc (.cells z.cells e)) ?_ (Post.alloc hR hf (o := .cells e cs) fun _ => ⟨rfl, z.cells.toList, by rw [heap_new], hz2 _ _, hz3⟩) ?_
      · simp [execOp, Instr.alloc, hzr, newVar, newRow]
      · simp only [Rep]
        exact ⟨w.heap.size, by simp [G.new], by simp [G.new, G.off, DP.off, DN.v]⟩
    · exact h.elim
  · -- box
    rename_i e x
    split at h
    · rename_i dx hd
      split at h
      · rename_i cs hc
        obtain ⟨r1, r2⟩ := cellsV_ok hc (hlk _ (by simp [Op.operands]) _ hd)
        have h : (d, hp', nx') = _ := h
        simp only [Prod.mk.injEq] at h
        obtain ⟨rfl, rfl, rfl⟩ := h
        have hf : g.ρ nx = none := hfr nx (Nat.le_refl _) (by omega)
        refine EOk.of_run (v := .pointer (some ⟨w.heap.size, 0, none⟩)) (w' := w.alloc (.cells (ev x).cells e)) ?_ (Post.alloc hR hf (o := .cells e cs) fun x => ⟨rfl, _, by rw [heap_new], RepL.ext x _ _ r1, r2⟩) ?_
        · simp [execOp, Instr.box, newVar, newRow]
        · simp only [Rep]
          exact ⟨w.heap.size, by simp [G.new], by simp [G.new, G.off, DP.off, DN.v]⟩
      · exact h.elim
    · exact h.elim
  · -- load
    rename_i t x
    split at h
    · rename_i p hx
      have r := hlk _ (by simp [Op.operands]) _ hx
      split at h
      · rename_i e z t0 e0 c0 ls0 ho0 hu hl0
        unfold takeRow at h
        split at h
        · rename_i t' e' c ls hl
          split at h
          · rename_i h1 h2 h3
            have h1 := Nat.eq_of_beq_eq_true h1
            have h2 := Nat.eq_of_beq_eq_true h2
            have h3 := Nat.le_of_ble_eq_true h3
            obtain ⟨hlt, h⟩ := h
            have h : (d, hp', nx') = _ := h
            simp only [Prod.mk.injEq] at h
            obtain ⟨rfl, rfl, rfl⟩ := h
            have hf : g.ρ nx = none := hfr nx (Nat.le_refl _) (by omega)
            obtain ⟨b, v, g', k1, k2, k3, k4, k5⟩ := Post.take hR hf hl h3 hlt
            simp only [Rep] at r
            obtain ⟨b', hb', hv⟩ := r
            rw [k1] at hb'; obtain rfl := Option.some.inj hb'
            have ho : g.off p = p.idx.v := by simp [G.off, DP.off, k3, h1, h2]
            refine EOk.of_run (v := v) (w' := w) ?_ k5 k4
            rw [ho] at hv
            have hagg : (isAgg t).run P w = .ok false w := by rw [run_isAgg hu]
            simp [execOp, Instr.loadAt, hv, Instr.sureAddr, loadVar, hagg, k2]
          · exact h.elim
        · exact h.elim
      · obtain ⟨d1, h1, h⟩ := T.path_bind h
        have h : (d, hp', nx') = _ := h
        simp only [Prod.mk.injEq] at h
        obtain ⟨rfl, rfl, rfl⟩ := h
        obtain ⟨b, o, u, hv, hl, hr⟩ := loadT_ok (P := P) hR r h1
        refine EOk.of_run (v := u) (w' := w) ?_ (Post.refl hR) hr
        simp [execOp, Instr.loadAt, hv, Instr.sureAddr, hl]
    · exact h.elim
  · -- store
    rename_i t x y
    split at h
    · rename_i p dy n hx hy hn
      split at h
      · rename_i cs hc
        split at h
        · rename_i hlen
          have hlen := Nat.eq_of_beq_eq_true hlen
          obtain ⟨hp1, hpath, h⟩ := T.path_bind h
          have h : (d, hp', nx') = _ := h
          simp only [Prod.mk.injEq] at h
          obtain ⟨rfl, rfl, rfl⟩ := h
          have r := hlk _ (by simp [Op.operands]) _ hx
          simp only [Rep] at r
          obtain ⟨b, hb, hv⟩ := r
          obtain ⟨r1, r2⟩ := cellsV_ok hc (hlk _ (by simp [Op.operands]) _ hy)
          obtain ⟨b', w', g', hb', hrun, hok⟩ := storeN_ok (P := P) (nx := nx') hR hpath r1 r2
          obtain rfl : b = b' := by rw [hb] at hb'; exact Option.some.inj hb'
          have hsz : (ev y).cells.size = n := by rw [← hlen, ← r1.length]; simp
          refine EOk.of_skip (w' := w') ?_ hok
          simp [execOp, Instr.storeAt, hv, Instr.sureAddr, storeVar, run_sizeD hn, hsz, hrun]
        · exact h.elim
      · exact h.elim
    · exact h.elim
  · -- buildSlice
    rename_i t len parts
    split at h
    · rename_i ps hps
      split at h
      · rename_i e s cs hb
        obtain ⟨hl, hq⟩ := partsD_ok (g := g) (w := w) (ev := ev) (fun x hx d hd => hlk x (by simpa [Op.operands] using hx) d hd) hps
        obtain ⟨os, hrun0, r1, r2, r3⟩ := buildSl_ok (g := g) (w := w) (qs := parts.map fun x => (x.1, ev x.2)) hb (by simpa using hl) (fun k i d hkd => by
          obtain ⟨v, hv, rv⟩ := hq k i d hkd
          exact ⟨v, by simpa using hv, rv⟩)
        have h : (d, hp', nx') = _ := h
        simp only [Prod.mk.injEq] at h
        obtain ⟨rfl, rfl, rfl⟩ := h
        have hf : g.ρ nx = none := hfr nx (Nat.le_refl _) (by omega)
        refine EOk.of_run (v := .slice (some ⟨w.heap.size, 0, none⟩) len len) (w' := w.alloc (.cells os.toArray e)) ?_ (Post.alloc hR hf (o := .cells e cs) fun x => ⟨rfl, os, by rw [heap_new], RepL.ext x _ _ r1, r2⟩) ?_
        · simp [execOp, hrun0]
        · simp only [Rep]
          exact .inr ⟨w.heap.size, 0, len, by simp [G.new], Nat.le_refl _, rfl, .inr (by simp [G.new, G.off, DP.off, DN.v]), _, _, _, by rw [heap_new], by simp [r3]⟩
      · exact h.elim
    · exact h.elim
  · -- makeSlice
    rename_i t len cap
    split at h
    · rename_i dl dc hl hc
      have hf : nx' = nx + 1 := makeSlT_nx h
      obtain ⟨v, w', g', hrun, k1, k2⟩ := makeSlT_ok hR (hfr nx (Nat.le_refl _) (by omega)) h (hlk _ (by simp [Op.operands]) _ hl) (hlk _ (by simp [Op.operands]) _ hc)
      refine EOk.of_run (v := v) (w' := w') ?_ k1 k2
      simp [execOp, hrun]
    · exact h.elim
  · -- makeMap
    rename_i t r
    split at h
    · rename_i kt et hu
      have key : ∀ o : DO, (∀ g, ORep g (w.alloc (.map #[] 0)) nx o w.heap.size 0) → (d, hp', nx') = (.map nx, (nx, (false, o)) :: hp, nx + 1) → EOk P ⟨dst, .makeMap t none, type, pos, after, guard⟩ ev g w hp nx d hp' nx' := by
        intro o ho h
        simp only [Prod.mk.injEq] at h
        obtain ⟨rfl, rfl, rfl⟩ := h
        have hf : g.ρ nx = none := hfr nx (Nat.le_refl _) (by omega)
        refine EOk.of_run (v := .map (some w.heap.size)) (w' := w.alloc (.map #[] 0)) ?_ (Post.alloc hR hf (o := o) fun _ => ho _) ?_
        · simp [execOp, Instr.makeMap]
        · simp only [Rep]
          exact ⟨w.heap.size, by simp [G.new], rfl⟩
      split at h
      · rename_i kc ec _ _
        exact key (.mp (isAggT P kt) kc (isAggT P et) ec []) (fun _ => ⟨[], 0, by rw [heap_new], ⟨by simp, by simp⟩, rfl, by simp⟩) h
      · exact key (.map []) (fun _ => ⟨[], 0, by rw [heap_new], ⟨by simp, by simp⟩, by simp [RepL], by simp [RepL]⟩) h
    · exact h.elim
  · -- insert
    rename_i t m x y
    split at h
    · rename_i dm dx dy hm hx hy
      obtain ⟨hp1, hpath, h⟩ := T.path_bind h
      have h : (d, hp', nx') = _ := h
      simp only [Prod.mk.injEq] at h
      obtain ⟨rfl, rfl, rfl⟩ := h
      obtain ⟨w', hrun, hok⟩ := insertT_ok (nx := nx') hR hpath (hlk _ (by simp [Op.operands]) _ hm) (hlk _ (by simp [Op.operands]) _ hx) (hlk _ (by simp [Op.operands]) _ hy)
      refine EOk.of_skip (w' := w') ?_ hok
      simp [execOp, hrun]
    · exact h.elim
  · -- mapUpdate
    rename_i t m x y
    split at h
    · rename_i dm dx dy hm hx hy
      obtain ⟨hp1, hpath, h⟩ := T.path_bind h
      have h : (d, hp', nx') = _ := h
      simp only [Prod.mk.injEq] at h
      obtain ⟨rfl, rfl, rfl⟩ := h
      obtain ⟨w', hrun, hok⟩ := insertT_ok (nx := nx') hR hpath (hlk _ (by simp [Op.operands]) _ hm) (hlk _ (by simp [Op.operands]) _ hx) (hlk _ (by simp [Op.operands]) _ hy)
      refine EOk.of_skip (w' := w') ?_ hok
      simp [execOp, hrun]
    · exact h.elim
  · -- call
    rename_i c
    split at h
    · rename_i hc
      split at h
      · rename_i t t2 s x hty har
        split at h
        · rename_i ds dx hs hx
          have hsm : s ∈ c.args := by rw [← Array.mem_toList_iff, har]; simp
          have hxm : x ∈ c.args := by rw [← Array.mem_toList_iff, har]; simp
          have hargs : c.args.map ev = #[ev s, ev x] := by apply Array.toList_inj.1; simp [har]
          have htys : c.argTypes = #[t, t2] := by apply Array.toList_inj.1; simp [hty]
          have hnx : nx' = nx + 1 := appendE_nx h
          obtain ⟨v, w', g', hrun, k1, k2⟩ := appendE_ok (ty := type) hR (hfr nx (Nat.le_refl _) (by omega)) h (hlk s (by simp [Op.operands, Call.operands, hsm]) _ hs) (hlk x (by simp [Op.operands, Call.operands, hxm]) _ hx)
          refine EOk.of_run (v := v) (w' := w') ?_ k1 k2
          simp [execOp, resolve, hc, invoke, builtin, hargs, htys, hrun]
        · exact h.elim
      · exact h.elim
    · rename_i x hc
      split at h
      · rename_i f cap args hx ha
        have r := hlk x (by simp [Op.operands, Call.operands, hc]) _ hx
        simp only [Rep] at r
        obtain ⟨vs, hv, rc⟩ := r
        have hargs := (mapO_ok (fun x hx => hlk x (by simp at hx; simp [Op.operands, Call.operands, hx])) ha).append rc
        have hrun : ∀ {f0 : FuncId}, HasBody P f0 → f0 = f → (execOp ev ⟨dst, .call c, type, pos, after, guard⟩).run P w = .ok (.enter f0 (c.args.toList.map ev ++ vs).toArray) w := by
          rintro f0 ⟨fn, b1, b2, b3⟩ rfl
          have e : #[] ++ c.args.map ev ++ vs.toArray = (c.args.toList.map ev ++ vs).toArray := by
            apply Array.toList_inj.1; simp
          simp only [execOp, resolve, hc, hv, Deferred.ofValue, Sem.run_bind, Sem.run_pure, Result.andThen_ok, invoke, callFunc, run_program, b1, b2, b3, Bool.false_eq_true, if_false, e]
        split at h
        · rename_i pc hpc
          split at h
          · rename_i x' ps hx'
            obtain ⟨hps, h⟩ := T.path_obs h
            obtain ⟨d1, hd1, h⟩ := T.path_bind h
            have h : (d, hp', nx') = _ := h
            simp only [Prod.mk.injEq] at h
            obtain ⟨rfl, rfl, rfl⟩ := h
            have hf : pc.f = f := findC_f hpc
            intro a next Q hae hn
            unfold Oper.wp
            rw [hae, hrun pc.body hf, Oper.upon_enter]
            refine (pc.ok x' _ hd1 g w _ (codAL_ok hR _ _ _ _ _ hx' hps hargs) hR.prl).mono ?_
            rintro e w' ⟨v, g', rfl, hs, hg, hr⟩
            exact hn v w' g' (Post.silent hR hs hg) hr
          · exact h.elim
        · split at h
          · rename_i cc hcc
            have hf : cc.f = f := findCC_f hcc
            intro a next Q hae hn
            unfold Oper.wp
            rw [hae, hrun cc.body hf, Oper.upon_enter]
            refine (callC_ok h hR hfr hnb hargs).mono ?_
            rintro e w' ⟨v, g', rfl, hP, hr⟩
            exact hn v w' g' hP hr
          · exact h.elim
      · exact h.elim
    · exact h.elim
  · exact h.elim

theorem evE_ok {lk : Operand → Option DV} {ev : Operand → Value} {o : Oper} (hR : Rel g hp w) (hfr : ∀ i, nx ≤ i → i < nx' → g.ρ i = none) (hnb : nx' ≤ noBlock → ∀ i, noBlock ≤ i → g.ρ i = none)
    (hlk : ∀ x, x ∈ o.op.operands.toList → ∀ d, lk x = some d → Rep g w d (ev x)) (h : (evE P ct lk o.op hp nx).Path (d, hp', nx')) : EOk P o ev g w hp nx d hp' nx' := by
  unfold evE at h
  obtain ⟨hp1, hg, h⟩ := T.path_bind h
  obtain ⟨g1, hP⟩ := ghosts_ok (nx := nx) _ _ _ _ hg hR
  have hρ : ∀ i, g1.ρ i = g.ρ i := fun i => hP.out i (by omega)
  exact EOk.pre hP (evE0_ok hP.rel (fun i h1 h2 => (hρ i).trans (hfr i h1 h2)) (fun hh i h => (hρ i).trans (hnb hh i h)) (fun x hx d hd => Rep.ext hP.ext _ _ (hlk x hx d hd)) h)

theorem opT_ok {lk : Operand → Option DV} {ev : Operand → Value} {o : Oper} {s : Bool} (hR : Rel g hp w) (hfr : ∀ i, nx ≤ i → i < nx' → g.ρ i = none) (hnb : nx' ≤ noBlock → ∀ i, noBlock ≤ i → g.ρ i = none)
    (hlk : ∀ x, x ∈ o.op.operands.toList → ∀ d, lk x = some d → Rep g w d (ev x)) (h : (opT P ct lk o.op hp nx).Path (s, d, hp', nx')) : EOk P o ev g w hp nx d hp' nx' ∧ (s = true → hp' = hp ∧ nx' = nx) := by
  unfold opT at h
  split at h
  · obtain ⟨⟨d1, hp1, nx1⟩, h1, h⟩ := T.path_bind h
    have h : (s, d, hp', nx') = _ := h
    simp only [Prod.mk.injEq] at h
    obtain ⟨rfl, rfl, rfl, rfl⟩ := h
    exact ⟨evE_ok hR hfr hnb hlk h1, by simp⟩
  · obtain ⟨d1, h1, h⟩ := T.path_bind h
    have h : (s, d, hp', nx') = _ := h
    simp only [Prod.mk.injEq] at h
    obtain ⟨rfl, rfl, rfl, rfl⟩ := h
    exact ⟨(evS_ok hR hlk h1).eok hR, fun _ => ⟨rfl, rfl⟩⟩

theorem opT_sil {lk : Operand → Option DV} {op : Op} (h : (opT P ct lk op hp nx).Path (true, d, hp', nx')) : hp' = hp ∧ nx' = nx ∧ (evS P ct hp lk op).Path d := by
  unfold opT at h
  split at h
  · obtain ⟨⟨d1, hp1, nx1⟩, h1, h⟩ := T.path_bind h
    have h : (true, d, hp', nx') = _ := h
    simp at h
  · obtain ⟨d1, h1, h⟩ := T.path_bind h
    have h : (true, d, hp', nx') = _ := h
    simp only [Prod.mk.injEq] at h
    obtain ⟨_, rfl, rfl, rfl⟩ := h
    exact ⟨rfl, rfl, h1⟩

theorem callC_le {c : CanC P} {args : List DV} (h : (callC c args hp nx).Path (d, hp', nx')) : nx ≤ nx' := by
  unfold callC at h
  split at h
  · exact h.elim
  split at h
  · exact h.elim
  split at h
  · exact h.elim
  split at h
  case h_2 => exact h.elim
  obtain ⟨_, h⟩ := T.path_obs h
  obtain ⟨r, _, h⟩ := T.path_bind h
  split at h
  case h_2 => exact h.elim
  have h : (d, hp', nx') = _ := h
  simp only [Prod.mk.injEq] at h
  omega

theorem evE0_le {lk : Operand → Option DV} {op : Op} (h : (evE0 P ct lk op hp nx).Path (d, hp', nx')) : nx ≤ nx' := by
  unfold evE0 at h
  have l1 : ∀ {x : DV} {y : Hp} {k : Nat}, (T.leaf (x, y, nx + k) : T (DV × Hp × Nat)).Path (d, hp', nx') → nx ≤ nx' := fun {x y k} h => by
    have h : (d, hp', nx') = (x, y, nx + k) := h
    simp only [Prod.mk.injEq] at h
    omega
  have l0 : ∀ {x : DV} {y : Hp}, (T.leaf (x, y, nx) : T (DV × Hp × Nat)).Path (d, hp', nx') → nx ≤ nx' := fun {x y} h => by
    have h : (d, hp', nx') = (x, y, nx) := h
    simp only [Prod.mk.injEq] at h
    omega
  split at h
  · split at h
    · exact l1 h
    · exact h.elim
  · split at h
    · split at h
      · exact l1 h
      · exact h.elim
    · exact h.elim
  · split at h
    · split at h
      · unfold takeRow at h
        split at h
        · split at h
          · exact l1 h.2
          · exact h.elim
        · exact h.elim
      · obtain ⟨_, _, h⟩ := T.path_bind h; exact l0 h
    · exact h.elim
  · split at h
    · split at h
      · split at h
        · obtain ⟨_, _, h⟩ := T.path_bind h; exact l0 h
        · exact h.elim
      · exact h.elim
    · exact h.elim
  · split at h
    · split at h
      · exact l1 h
      · exact h.elim
    · exact h.elim
  · split at h
    · have := makeSlT_nx h; omega
    · exact h.elim
  · split at h
    · split at h
      · exact l1 h
      · exact l1 h
    · exact h.elim
  · split at h
    · obtain ⟨_, _, h⟩ := T.path_bind h; exact l0 h
    · exact h.elim
  · split at h
    · obtain ⟨_, _, h⟩ := T.path_bind h; exact l0 h
    · exact h.elim
  · split at h
    · split at h
      · split at h
        · have := appendE_nx h; omega
        · exact h.elim
      · exact h.elim
    · split at h
      · split at h
        · split at h
          · obtain ⟨_, h⟩ := T.path_obs h
            obtain ⟨_, _, h⟩ := T.path_bind h
            exact l0 h
          · exact h.elim
        · split at h
          · exact callC_le h
          · exact h.elim
      · exact h.elim
    · exact h.elim
  · exact h.elim

theorem opT_le {lk : Operand → Option DV} {op : Op} {s : Bool} (h : (opT P ct lk op hp nx).Path (s, d, hp', nx')) : nx ≤ nx' := by
  unfold opT at h
  split at h
  · obtain ⟨⟨d1, hp1, nx1⟩, h1, h⟩ := T.path_bind h
    have h : (s, d, hp', nx') = _ := h
    simp only [Prod.mk.injEq] at h
    obtain ⟨rfl, rfl, rfl, rfl⟩ := h
    unfold evE at h1
    obtain ⟨_, _, h1⟩ := T.path_bind h1
    exact evE0_le h1
  · obtain ⟨d1, h1, h⟩ := T.path_bind h
    have h : (s, d, hp', nx') = _ := h
    simp only [Prod.mk.injEq] at h
    omega
end Go.DF
