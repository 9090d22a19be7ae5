import Derived.Test.YtfacddeaobogjaaF7b
import Derived.ArgAppend
import Derived.Laws.MakeOwn
set_option linter.unusedVariables false
set_option linter.unusedSimpArgs false
set_option linter.unnecessarySimpa false
/- The engine, part 7c: what is done in thought; elements of slices, appended. -/
namespace Go.DF
universe u v
set_option linter.unusedSimpArgs false
set_option linter.unusedVariables false
variable [Fam]

/-! ### elements -/
theorem Elems.tail {w : World} {S : Nat → Prop} {c : CT} {us : List Value} {o : Nat} {a : c.D} {l : List c.D} (h : Elems w S c us o (a :: l)) : Elems w S c us (o + c.size) l := by
  intro i x hi
  have := h (i + 1) x (by simpa using hi)
  rw [Nat.add_mul, Nat.one_mul] at this
  rw [Nat.add_assoc, Nat.add_comm c.size]
  exact this
theorem Elems.one {w : World} {S : Nat → Prop} {c : CT} {us : List Value} : ∀ {o : Nat} {l : List c.D}, Elems w S c us o l → ∀ u ∈ (us.drop o).take (l.length * c.size), oneC u = true
  | o, [], h, u, hu => by simp at hu
  | o, a :: l, h, u, hu => by
    rw [show (a :: l).length * c.size = c.size + l.length * c.size by rw [List.length_cons, Nat.add_mul, Nat.one_mul, Nat.add_comm], segs] at hu
    rcases List.mem_append.1 hu with hu | hu
    · have := h 0 a rfl
      simp only [Nat.zero_mul, Nat.add_zero] at this
      exact this.one u hu
    · exact Elems.one h.tail u hu
/-- The elements' cells, one after another. -/
theorem Elems.cat {w : World} {S : Nat → Prop} {c : CT} {xs ys : List Value} {l m : List c.D} (h : Elems w S c xs 0 l) (hx : xs.length = l.length * c.size) (k : Elems w S c ys 0 m) (rest : List Value) : Elems w S c (xs ++ ys ++ rest) 0 (l ++ m) := by
  intro i a hi
  rw [List.getElem?_append] at hi
  split at hi
  · rename_i hlt
    have := h i a hi
    have hle : i * c.size + c.size ≤ xs.length := by
      rw [hx]
      have : (i + 1) * c.size ≤ l.length * c.size := Nat.mul_le_mul_right _ hlt
      rw [Nat.add_mul] at this; omega
    rw [List.append_assoc, List.drop_append_of_le_length (by omega), List.take_append_of_le_length (by rw [List.length_drop]; omega)]
    exact this
  · rename_i hge
    have := k _ a hi
    have hlen := this.len
    rw [List.length_take, List.length_drop] at hlen
    have hpos := c.pos
    have e : 0 + i * c.size = xs.length + (i - l.length) * c.size := by
      rw [hx, ← Nat.add_mul, Nat.zero_add]; congr 1; omega
    rw [e, List.append_assoc, List.drop_append, show xs.length + (i - l.length) * c.size - xs.length = (i - l.length) * c.size by omega, List.drop_eq_nil_of_le (by omega), List.nil_append]
    rw [Nat.zero_add] at this hlen
    rw [List.drop_append_of_le_length (by omega), List.take_append_of_le_length (by rw [List.length_drop]; omega)]
    exact this
/-- The elements, taken out. -/
theorem Elems.out {w : World} {S : Nat → Prop} {c : CT} {us : List Value} {o : Nat} {l : List c.D} (h : Elems w S c us o l) : Elems w S c ((us.drop o).take (l.length * c.size)) 0 l := by
  intro i a hi
  have hlt := lt_get hi
  have := h i a hi
  have hle : i * c.size + c.size ≤ l.length * c.size := by
    have : (i + 1) * c.size ≤ l.length * c.size := Nat.mul_le_mul_right _ hlt
    rw [Nat.add_mul] at this; omega
  rw [Nat.zero_add, List.drop_take, List.take_take, List.drop_drop, Nat.min_eq_left (by omega)]
  exact this
omit [Fam] in
theorem setRange_get {α : Type u} {us vs : List α} {off : Nat} (h : off + vs.length ≤ us.length) (k : Nat) :
    (us.take off ++ vs ++ us.drop (off + vs.length))[k]? = if k < off then us[k]? else if k < off + vs.length then vs[k - off]? else us[k]? := by
  have hl : (us.take off).length = off := by simp; omega
  rw [List.append_assoc, List.getElem?_append, hl]
  split
  · rename_i hk; rw [List.getElem?_take, if_pos hk]
  · rename_i hk
    rw [List.getElem?_append]
    split
    · rename_i hk2; rw [if_pos (by omega)]
    · rename_i hk2; rw [if_neg (by omega), List.getElem?_drop]; congr 1; omega
omit [Fam] in
theorem seg_get {α : Type u} (us : List α) (o n k : Nat) : ((us.drop o).take n)[k]? = if k < n then us[o + k]? else none := by
  rw [List.getElem?_take]
  split
  · rw [List.getElem?_drop]
  · rfl
/-- Written behind the elements. -/
theorem Elems.room {w : World} {S : Nat → Prop} {c : CT} {us ys : List Value} {o : Nat} {l m : List c.D} (h : Elems w S c us o l) (k : Elems w S c ys 0 m) (hy : ys.length = m.length * c.size) (hle : o + l.length * c.size + ys.length ≤ us.length) :
    Elems w S c (us.take (o + l.length * c.size) ++ ys ++ us.drop (o + l.length * c.size + ys.length)) o (l ++ m) := by
  intro i a hi
  rw [List.getElem?_append] at hi
  split at hi
  · rename_i hlt
    have h1 := h i a hi
    have hl : i * c.size + c.size ≤ l.length * c.size := by
      have : (i + 1) * c.size ≤ l.length * c.size := Nat.mul_le_mul_right _ hlt
      rw [Nat.add_mul] at this; omega
    have : ((us.take (o + l.length * c.size) ++ ys ++ us.drop (o + l.length * c.size + ys.length)).drop (o + i * c.size)).take c.size = (us.drop (o + i * c.size)).take c.size := by
      apply List.ext_getElem?
      intro q
      rw [seg_get, seg_get]
      split
      · rw [setRange_get (by omega), if_pos (by omega)]
      · rfl
    rw [this]; exact h1
  · rename_i hge
    have h1 := k _ a hi
    have hlt := lt_get hi
    have hl : (i - l.length) * c.size + c.size ≤ m.length * c.size := by
      have : (i - l.length + 1) * c.size ≤ m.length * c.size := Nat.mul_le_mul_right _ hlt
      rw [Nat.add_mul] at this; omega
    have e : i * c.size = l.length * c.size + (i - l.length) * c.size := by rw [← Nat.add_mul]; congr 1; omega
    have : ((us.take (o + l.length * c.size) ++ ys ++ us.drop (o + l.length * c.size + ys.length)).drop (o + i * c.size)).take c.size = (ys.drop (0 + (i - l.length) * c.size)).take c.size := by
      apply List.ext_getElem?
      intro q
      rw [seg_get, seg_get]
      split
      · rw [setRange_get (by omega), if_neg (by omega), if_pos (by omega)]
        congr 1; omega
      · rfl
    rw [this]; exact h1

/-- A slice whose elements are these. -/
def SlOf (g : G) (w : World) (c : CT) (l : List c.D) (v : Value) : Prop :=
  (∃ q, v = .slice q 0 0 ∧ l = []) ∨ ∃ (b o cap : Nat) (us : List Value) (t : TypeId) (fr : Nat × Nat), v = .slice (some ⟨b, o, none⟩) l.length cap ∧ l.length ≤ cap ∧ w.heap[b]? = some (.cells us.toArray t fr) ∧ o + cap * c.size ≤ us.length ∧ Elems w g.pr c us o l
theorem elemsT_ok {g : G} {hp : Hp} {w : World} (hR : Rel g hp w) {c : CT} {d : DV} {v : Value} {l : List c.D} (h : (elemsT c hp d).Path l) (r : Rep g w d v) : SlOf g w c l v := by
  unfold elemsT at h
  split at h
  · obtain rfl : l = _ := h
    simp only [Rep] at r
    exact .inl ⟨none, r, rfl⟩
  · rename_i c' a
    split at h
    · rename_i l' hc
      obtain rfl : l = _ := h
      obtain ⟨rfl, rfl⟩ := castD_ok hc
      simp only [Rep] at r
      obtain ⟨v', hv, r⟩ := r
      simp only [List.cons.injEq, and_true] at hv
      subst hv
      rcases r with r | ⟨b, o, cap, cs, t, fr, r1, r2, r3, r4, r5, r6⟩
      · exact .inl r
      · exact .inr ⟨b, o, cap, cs, t, fr, r1, r2, r4, r5, r6⟩
    · exact h.elim
  · rename_i c' a
    split at h
    · rename_i l' hc
      obtain rfl : l = _ := h
      obtain ⟨e, rfl⟩ := castD_ok hc
      have e := CT.sl.inj e
      subst e
      simp only [Rep] at r
      replace r := r.2
      obtain ⟨v', hv, r⟩ := r
      simp only [List.cons.injEq, and_true] at hv
      subst hv
      rcases r with r | ⟨b, o, cap, cs, t, fr, r1, r2, r3, r4, r5, r6⟩
      · exact .inl r
      · exact .inr ⟨b, o, cap, cs, t, fr, r1, r2, r4, r5, r6⟩
    · exact h.elim
  · rename_i p n
    simp only [Rep] at r
    split at h
    · rename_i z t c' l' hsz hfld hl
      have hsz := Nat.eq_of_beq_eq_true hsz
      have hfld := Nat.eq_of_beq_eq_true hfld
      split at h
      · rename_i l1 hc
        obtain ⟨rfl, rfl⟩ := castL_ok hc
        obtain ⟨hle, h⟩ := h
        obtain rfl : l = _ := h
        rw [partL_eq]
        rcases r with ⟨q0, r1, r2⟩ | ⟨b, o, cap, hb, hcap, r1, ho, cs, t', fr, k1, k2⟩
        · exact .inl ⟨q0, r1, by rw [r2]; rfl⟩
        · obtain ⟨⟨us, q1, q2, q3, q4⟩, _⟩ := hR.at hl hb
          have e := k1.symm.trans q1
          simp only [Option.some.injEq, Obj.cells.injEq] at e
          obtain ⟨rfl, rfl, rfl⟩ := e
          have hlen : ((l1.drop p.idx.v).take n.v).length = n.v := by rw [List.length_take, List.length_drop]; omega
          refine .inr ⟨b, o, cap, us, _, _, by rw [hlen]; exact r1, by rw [hlen]; exact hcap, q1, by simpa [hsz] using k2, ?_⟩
          by_cases hc0 : cap = 0
          · have hn0 : n.v = 0 := by omega
            rw [hn0]; intro i a hi; simp at hi
          · have ho' : o = g.off p := by rcases ho with h | h; exact absurd h hc0; exact h
            have := q4.part p.idx.v n.v
            rw [ho']
            have e2 : g.off p = g.base p.id + p.idx.v * c'.size := by simp only [G.off, DP.off, hsz, hfld]; omega
            rw [e2]; exact this
      · exact h.elim
    · rename_i z t cs hsz hfld hl
      have hsz := Nat.eq_of_beq_eq_true hsz
      have hfld := Nat.eq_of_beq_eq_true hfld
      split at h
      · rename_i i k hi
        split at h
        · rename_i part hpart
          split at h
          · rename_i l1 ps hc
            obtain ⟨hps, h⟩ := T.path_obs h
            obtain rfl : l = _ := h
            obtain ⟨rfl, hplen⟩ := path_takeN hpart
            obtain ⟨b, hb, ⟨hba, us, k3, k4, _⟩, hpr⟩ := hR.there hl (fun h => h)
            have rpart := (k4.drop (i * p.sz)).take (k * p.sz)
            obtain ⟨hlen, hel⟩ := codL_ok (R := fun a vs => Rp w g.pr c a vs) (fun cs a ps vs h hp r => cod_ok hR _ c cs a ps vs h hp r) _ _ _ _ _ hc hps rpart
            rcases r with ⟨q0, r1, r2⟩ | ⟨b', o, cap, hb', hcap, r1, ho, cs', t', fr, k1, k2⟩
            · simp only [DN.v] at r2
              exact .inl ⟨q0, r1, List.length_eq_zero_iff.1 (hlen.trans r2)⟩
            · rw [hb] at hb'
              obtain rfl := Option.some.inj hb'
              have e := k1.symm.trans k3
              simp only [Option.some.injEq, Obj.cells.injEq] at e
              obtain ⟨rfl, rfl, rfl⟩ := e
              simp only [DN.v] at hcap r1
              refine .inr ⟨b, o, cap, us, _, _, by rw [hlen]; exact r1, by rw [hlen]; exact hcap, k3, by simpa [hsz] using k2, fun j a hj => ?_⟩
              have hj' : j < k := by have := lt_get hj; omega
              have := hel j a hj
              have ho' : o = g.off p := by
                rcases ho with h | h
                · omega
                · exact h
              rw [ho']
              have e1 : g.off p = i * p.sz := by simp only [G.off, hba, DP.off, hi, DN.v, hfld]; omega
              rw [e1]
              have hle : j * c.size + c.size ≤ k * p.sz := by
                rw [hsz]
                have : (j + 1) * c.size ≤ k * c.size := Nat.mul_le_mul_right _ hj'
                rw [Nat.add_mul] at this; omega
              rw [List.drop_take, List.take_take, List.drop_drop, Nat.min_eq_left (by omega)] at this
              exact this
          · exact h.elim
        · exact h.elim
      · exact h.elim
    · exact h.elim
  · exact h.elim

/-! ### in thought -/
theorem ghost_ok {g : G} {hp hp1 : Hp} {w : World} {nx : Nat} {x : Gh} (h : (ghost x hp).Path hp1) (hR : Rel g hp w) : ∃ g1, Post g w hp nx g1 w hp1 nx := by
  unfold ghost at h
  split at h
  · obtain rfl : hp1 = _ := h
    exact ⟨g, Post.less hR (dropI_less _)⟩
  · rename_i i c
    split at h
    · rename_i t cs hl
      split at h
      · rename_i l ps hc
        obtain ⟨hps, h⟩ := T.path_obs h
        obtain rfl : hp1 = _ := h
        obtain ⟨b, hb, ⟨r0, vs, r1, r2, r3⟩, hpr⟩ := hR.there hl (fun h => h)
        obtain ⟨hlen, hel⟩ := codL_ok (R := fun a vs => Rp w g.pr c a vs) (fun cs a ps vs h hp r => cod_ok hR _ c cs a ps vs h hp r) _ _ _ _ _ hc hps r2
        refine ⟨g, Post.write hR (Upd.refl b w) hl rfl hb (fun _ => ⟨vs, r1, r3, ?_, fun j a hj => ?_⟩)⟩
        · rw [r0, hlen, r2.length, Nat.zero_add]; exact Nat.div_mul_le_self _ _
        · rw [r0, Nat.zero_add]; exact hel j a hj
      · obtain rfl : hp1 = _ := h
        exact ⟨g, Post.refl hR⟩
    · obtain rfl : hp1 = _ := h
      exact ⟨g, Post.refl hR⟩
  · rename_i i
    split at h
    · rename_i t e c ls hl
      obtain rfl : hp1 = _ := h
      exact ⟨_, Post.fzRows hR hl⟩
    · exact h.elim
    · obtain rfl : hp1 = _ := h
      exact ⟨g, Post.refl hR⟩
    · rename_i z o h1 h2 h3 hl
      obtain rfl : hp1 = _ := h
      refine ⟨_, Post.fz1 hR hl ?_⟩
      cases hr : isRows o with
      | false => rfl
      | true =>
        have hz := hR.rws i z o hl hr
        subst hz
        cases o <;> simp [isRows] at hr
        · rename_i t e c ls ho
          cases ho with
          | none => exact (h1 _ _ _ _ rfl rfl).elim
          | some q => exact (h2 _ _ _ _ _ rfl rfl).elim
        · exact (h3 _ _ _ _ _ _ _ rfl rfl).elim
    · obtain rfl : hp1 = _ := h
      exact ⟨g, Post.refl hR⟩
  · rename_i i
    split at h
    · rename_i t e c ls j i' n hl
      split at h
      · rename_i e' c' l hl'
        split at h
        · rename_i l1 he hc hii
          have he := Nat.eq_of_beq_eq_true he
          subst he
          obtain ⟨rfl, rfl⟩ := castL_ok hc
          have hne := Nat.ne_of_beq_eq_false hii
          obtain ⟨hle, h⟩ := h
          obtain rfl : hp1 = _ := h
          obtain ⟨b, hb, ⟨hba, vs, q1, q2, q3, q4⟩, hpr⟩ := hR.there hl (fun h => h)
          by_cases hj : j.v < ls.length
          · have hget := getD_get hj ([] : List c'.D)
            obtain ⟨v, k1, _, k3⟩ := q4 _ _ hget
            have rv := k3 j i' n rfl rfl
            simp only [Rep] at rv
            have hset : vs.set j.v v = vs := by
              apply List.ext_getElem?
              intro q
              by_cases hq : j.v = q
              · subst hq; rw [List.getElem?_set_self (lt_get k1)]; exact k1.symm
              · rw [List.getElem?_set_ne hq]
            have hone : oneC v = true := q2 v (List.mem_of_getElem? k1)
            have put := fun (s : Option Nat) (hrow : RowIn w g.pr e' c' (l1.take n.v) s v) (hs : ∀ c0, s = some c0 → g.ρ i' = some c0) =>
              Post.put (nx := nx) (hp' := dropI i' (repl hp i (false, .rows t e' c' (ls.set j.v (l1.take n.v)) none))) (j := j.v) hR (Upd.refl b w) hl hb hj (fun j0 i0 n0 h0 => by simp only [Option.some.injEq, Prod.mk.injEq] at h0; rw [h0.1]) q1 (by rw [hset]; exact q1) hrow hone
                (by rw [look_dropI, if_neg hne, look_repl_some hl, if_pos rfl])
                (fun k x hk hki => by
                  rw [look_dropI] at hk
                  split at hk
                  · simp at hk
                  · rw [look_repl_some hl, if_neg (Ne.symm hki)] at hk; exact hk)
                (fun c0 hc0 => ⟨i', _, Ne.symm hne, hl', rfl, hs c0 hc0, by rw [look_dropI, if_pos rfl]⟩)
            rcases rv with ⟨q0, rv, rn⟩ | ⟨b', o, cap, hb', hcap, rv, ho, cs, t', fr, p1, p2⟩
            · exact ⟨_, put none (.inl ⟨q0, rv, by rw [rn]; rfl, rfl⟩) (fun _ h => by simp at h)⟩
            · obtain ⟨⟨us, r1, r2, r3, r4⟩, _⟩ := hR.at hl' hb'
              have e0 := p1.symm.trans r1
              simp only [Option.some.injEq, Obj.cells.injEq] at e0
              obtain ⟨rfl, rfl, rfl⟩ := e0
              have hlen : (l1.take n.v).length = n.v := by rw [List.length_take]; omega
              refine ⟨_, put (some b') (.inr ⟨b', o, cap, us, rfl, by rw [hlen]; exact rv, by rw [hlen]; exact hcap, r1, r2, by simpa using p2, ?_⟩) (fun c0 h => by rw [← h]; exact hb')⟩
              by_cases hc0 : cap = 0
              · have hn0 : n.v = 0 := by omega
                rw [hn0]; intro q a hq; simp at hq
              · have ho' : o = g.off ⟨i', .lit 0, c'.size, 0⟩ := by rcases ho with h | h; exact absurd h hc0; exact h
                rw [ho']
                have e2 : g.off ⟨i', .lit 0, c'.size, 0⟩ = g.base i' + 0 * c'.size := by simp [G.off, DP.off, DN.v]
                rw [e2]
                have := r4.part 0 n.v
                rwa [List.drop_zero] at this
          · -- no such row: the hole says nothing
            have hset : ∀ x, ls.set j.v x = ls := fun x => List.set_eq_of_length_le (by omega)
            rw [hset]
            have hsub : ∀ k, subOf (DO.rows t e' c' ls (some (j, i', n))) k ↔ subOf (DO.rows t e' c' ls none) k := by
              intro k
              constructor
              · intro hk; exact ⟨hk.1, fun _ _ _ h => by simp at h⟩
              · intro hk; exact ⟨hk.1, fun j0 i0 n0 h0 he => by simp only [Option.some.injEq, Prod.mk.injEq] at h0; have := hk.1; rw [he, ← h0.1] at this; exact hj this⟩
            have R1 : Post g w hp nx g w (repl hp i (false, .rows t e' c' ls none)) nx := by
              have get : ∀ {k x}, look (repl hp i (false, DO.rows t e' c' ls none)) k = some x → (k = i ∧ x = (false, DO.rows t e' c' ls none)) ∨ (k ≠ i ∧ look hp k = some x) := by
                intro k x hk
                rw [look_repl_some hl] at hk
                split at hk
                · rename_i he; exact .inl ⟨he.symm, (Option.some.inj hk).symm⟩
                · rename_i he; exact .inr ⟨fun e' => he e'.symm, hk⟩
              have old : ∀ {k z o}, look (repl hp i (false, DO.rows t e' c' ls none)) k = some (z, o) → ∃ o0, look hp k = some (z, o0) ∧ (isRows o = isRows o0) ∧ ∀ m, subOf o m → subOf o0 m := by
                intro k z o hk
                rcases get hk with ⟨rfl, he⟩ | ⟨_, hk'⟩
                · simp only [Prod.mk.injEq] at he
                  obtain ⟨rfl, rfl⟩ := he
                  exact ⟨_, hl, rfl, fun m hm => (hsub m).2 hm⟩
                · exact ⟨o, hk', rfl, fun m hm => hm⟩
              refine ⟨⟨fun k z o hk => ?_, fun k z o hk hr => ?_, fun k k' ok ok' d hk hk' => ?_, fun k z o m d hk hm hd => ?_, hR.prl⟩, Ext.refl _ _, Kept.refl _ _, fun d hd => ?_, fun d hd => .inl hd, fun _ _ => rfl, fun k x hk => ?_, fun _ _ _ _ => rfl, Nat.le_refl _⟩
              · rcases get hk with ⟨rfl, he⟩ | ⟨_, hk'⟩
                · simp only [Prod.mk.injEq] at he
                  obtain ⟨rfl, rfl⟩ := he
                  refine .inl ⟨b, hb, ⟨hba, vs, q1, q2, q3, fun m l hm => ?_⟩, hpr⟩
                  obtain ⟨v, k1, k2, k3⟩ := q4 m l hm
                  refine ⟨v, k1, fun _ => k2 (fun j0 i0 n0 h0 he => ?_), fun _ _ _ h => by simp at h⟩
                  simp only [Option.some.injEq, Prod.mk.injEq] at h0
                  have := lt_get hm
                  rw [he, ← h0.1] at this; exact hj this
                · exact hR.obj k z o hk'
              · obtain ⟨o0, p1, p2, _⟩ := old hk
                exact hR.rws k z o0 p1 (by rw [← p2]; exact hr)
              · obtain ⟨o0, p1, _⟩ := old hk
                obtain ⟨o1, s1, _⟩ := old hk'
                exact hR.inj k k' o0 o1 d p1 s1
              · obtain ⟨o0, p1, _, p3⟩ := old hk
                obtain ⟨a1, a2, a3, a4⟩ := hR.sub k z o0 m d p1 (p3 m hm) hd
                exact ⟨a1, a2, fun k2 o2 hk2 => let ⟨o3, s1, _⟩ := old hk2; a3 k2 o3 s1, fun k2 z2 o2 m2 hk2 hm2 => let ⟨o3, s1, _, s3⟩ := old hk2; a4 k2 z2 o3 m2 s1 (s3 m2 hm2)⟩
              · obtain ⟨k, o, hk, hd⟩ := hd
                obtain ⟨o0, p1, _, p3⟩ := old hk
                exact .inl ⟨k, o0, p1, hd.imp id (fun ⟨m, m1, m2⟩ => ⟨m, p3 m m1, m2⟩)⟩
              · rcases get hk with ⟨rfl, _⟩ | ⟨_, hk'⟩
                · exact .inl ⟨_, hl⟩
                · exact .inl ⟨_, hk'⟩
            exact ⟨g, R1.trans (Post.less R1.rel (dropI_less _))⟩
        · exact h.elim
      · exact h.elim
    · obtain rfl : hp1 = _ := h
      exact ⟨g, Post.refl hR⟩
theorem ghosts_ok {w : World} {nx : Nat} : ∀ (l : List Gh) (g : G) (hp hp1 : Hp), (ghosts l hp).Path hp1 → Rel g hp w → ∃ g1, Post g w hp nx g1 w hp1 nx
  | [], g, hp, hp1, h, hR => by
    obtain rfl : hp1 = _ := h
    exact ⟨g, Post.refl hR⟩
  | x :: l, g, hp, hp1, h, hR => by
    obtain ⟨hp2, h1, h2⟩ := T.path_bind h
    obtain ⟨g1, p1⟩ := ghost_ok (nx := nx) h1 hR
    obtain ⟨g2, p2⟩ := ghosts_ok l g1 hp2 hp1 h2 p1.rel
    exact ⟨g2, p1.trans p2⟩
end Go.DF
