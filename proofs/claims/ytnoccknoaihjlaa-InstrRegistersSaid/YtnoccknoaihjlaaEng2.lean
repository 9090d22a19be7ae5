import Derived.Test.YtnoccknoaihjlaaEng1
import Derived.WalkKit
set_option linter.unusedVariables false
set_option linter.unusedSimpArgs false
set_option linter.unnecessarySimpa false
/- The engine, part 2: why the evaluator of silent operations is right. -/
namespace Go.DE
universe u v

/-! ### trees -/
def T.Path {α : Type u} : T α → α → Prop
  | .fail, _ => False
  | .leaf a, x => x = a
  | .br b t e, x => (b = true ∧ t.Path x) ∨ (b = false ∧ e.Path x)
  | .ob p t, x => p ∧ t.Path x

theorem T.Holds.path {α : Type u} {t : T α} {Q : α → Prop} (h : t.Holds Q) : ∃ a, t.Path a ∧ Q a := by
  induction t with
  | fail => exact h.elim
  | leaf a => exact ⟨a, rfl, h⟩
  | br b t e iht ihe =>
    cases b with
    | true => obtain ⟨a, p, q⟩ := iht (h.1 rfl); exact ⟨a, .inl ⟨rfl, p⟩, q⟩
    | false => obtain ⟨a, p, q⟩ := ihe (h.2 rfl); exact ⟨a, .inr ⟨rfl, p⟩, q⟩
  | ob p t ih => obtain ⟨a, r, q⟩ := ih h.2; exact ⟨a, ⟨h.1, r⟩, q⟩

theorem T.path_bind {α : Type u} {β : Type v} {t : T α} {f : α → T β} {x : β} (h : (t.bind f).Path x) : ∃ a, t.Path a ∧ (f a).Path x := by
  induction t with
  | fail => exact h.elim
  | leaf a => exact ⟨a, rfl, h⟩
  | br b t e iht ihe =>
    rcases h with ⟨hb, h⟩ | ⟨hb, h⟩
    · obtain ⟨a, p, q⟩ := iht h; exact ⟨a, .inl ⟨hb, p⟩, q⟩
    · obtain ⟨a, p, q⟩ := ihe h; exact ⟨a, .inr ⟨hb, p⟩, q⟩
  | ob p t ih => obtain ⟨a, r, q⟩ := ih h.2; exact ⟨a, ⟨h.1, r⟩, q⟩

theorem T.path_opt {α : Type u} {o : Option α} {x : α} (h : (T.opt o).Path x) : o = some x := by
  cases o with
  | none => exact h.elim
  | some a => rw [show x = a from h]

/-! ### symbolic values -/
theorem Ext.refl (g : G) (w : World) : Ext g w g w := ⟨fun _ _ h => h, fun _ h => h, fun _ _ => rfl, fun _ _ _ => rfl, fun _ cs _ _ h => ⟨cs, h, rfl⟩⟩
theorem Ext.trans {g g' g'' : G} {w w' w'' : World} (h : Ext g w g' w') (k : Ext g' w' g'' w'') : Ext g w g'' w'' :=
  ⟨fun i b x => k.rho i b (h.rho i b x), fun b x => k.pr b (h.pr b x), fun b x => (k.at' b (h.pr b x)).trans (h.at' b x), fun i b x => (k.base i b (h.rho i b x)).trans (h.base i b x),
    fun b cs t fr x => let ⟨c1, h1, e1⟩ := h.shape b cs t fr x; let ⟨c2, h2, e2⟩ := k.shape b c1 t fr h1; ⟨c2, h2, e2.trans e1⟩⟩
theorem Ext.off {g g' : G} {w w' : World} (h : Ext g w g' w') {p : DP} {b : Nat} (hb : g.ρ p.id = some b) : g'.off p = g.off p := by
  simp only [G.off, h.base _ _ hb]

mutual
theorem Rep.ext {g g' : G} {w w' : World} (h : Ext g w g' w') : ∀ (d : DV) (v : Value), Rep g w d v → Rep g' w' d v
  | .bool _, _, r => by simpa only [Rep] using r
  | .int _ _, _, r => by simpa only [Rep] using r
  | .str _, _, r => by simpa only [Rep] using r
  | .ptr p, _, r => by simp only [Rep] at r ⊢; obtain ⟨b, h1, h2⟩ := r; exact ⟨b, h.rho _ _ h1, by rw [h.off h1]; exact h2⟩
  | .nilptr, _, r => by simpa only [Rep] using r
  | .slice p n, _, r => by
    simp only [Rep] at r ⊢
    rcases r with r | ⟨b, o, c, h1, h2, h3, h4, cs, t, fr, h5, h6⟩
    · exact .inl r
    · obtain ⟨cs', h7, h8⟩ := h.shape _ _ _ _ h5
      exact .inr ⟨b, o, c, h.rho _ _ h1, h2, h3, by rw [h.off h1]; exact h4, cs', t, fr, h7, by rw [h8]; exact h6⟩
  | .nilslice, _, r => by simpa only [Rep] using r
  | .map i, _, r => by simp only [Rep] at r ⊢; obtain ⟨b, h1, h2⟩ := r; exact ⟨b, h.rho _ _ h1, h2⟩
  | .nilmap, _, r => by simpa only [Rep] using r
  | .func f cap, _, r => by simp only [Rep] at r ⊢; obtain ⟨vs, h1, h2⟩ := r; exact ⟨vs, h1, RepL.ext h cap vs h2⟩
  | .nilfunc, _, r => by simpa only [Rep] using r
  | .nilif, _, r => by simpa only [Rep] using r
  | .agg cs, _, r => by simp only [Rep] at r ⊢; obtain ⟨vs, h1, h2, h3⟩ := r; exact ⟨vs, h1, RepL.ext h cs vs h2, h3⟩
  | .tup ds, _, r => by simp only [Rep] at r ⊢; obtain ⟨vs, h1, h2⟩ := r; exact ⟨vs, h1, RepL.ext h ds vs h2⟩
  | .imm m, _, r => by simp only [Rep] at r ⊢; exact m.mono _ _ _ _ _ h.pr h.at' r
  | .any, _, _ => by simp only [Rep]
theorem RepL.ext {g g' : G} {w w' : World} (h : Ext g w g' w') : ∀ (ds : List DV) (vs : List Value), RepL g w ds vs → RepL g' w' ds vs
  | [], _, r => by simpa only [RepL] using r
  | d :: ds, _, r => by
    simp only [RepL] at r ⊢
    obtain ⟨v, us, h1, h2, h3⟩ := r
    exact ⟨v, us, h1, Rep.ext h d v h2, RepL.ext h ds us h3⟩
end

theorem RepL.nil {g : G} {w : World} : RepL g w [] [] := by simp only [RepL]
theorem RepL.cons {g : G} {w : World} {d : DV} {ds : List DV} {v : Value} {vs : List Value} (h : Rep g w d v) (k : RepL g w ds vs) : RepL g w (d :: ds) (v :: vs) := by
  simp only [RepL]; exact ⟨v, vs, rfl, h, k⟩
theorem RepL.length {g : G} {w : World} : ∀ {ds : List DV} {vs : List Value}, RepL g w ds vs → vs.length = ds.length
  | [], vs, h => by simp only [RepL] at h; rw [h]; rfl
  | d :: ds, vs, h => by
    simp only [RepL] at h
    obtain ⟨v, us, rfl, _, h3⟩ := h
    simp [RepL.length h3]
theorem RepL.get {g : G} {w : World} : ∀ {ds : List DV} {vs : List Value}, RepL g w ds vs → ∀ {i : Nat} {d : DV}, ds[i]? = some d → ∃ v, vs[i]? = some v ∧ Rep g w d v
  | [], _, _, i, d, hi => by simp at hi
  | d :: ds, vs, h, i, e, hi => by
    simp only [RepL] at h
    obtain ⟨v, us, rfl, h2, h3⟩ := h
    cases i with
    | zero => simp at hi; subst hi; exact ⟨v, rfl, h2⟩
    | succ i => simpa using RepL.get h3 (by simpa using hi)
theorem RepL.append {g : G} {w : World} : ∀ {ds es : List DV} {vs us : List Value}, RepL g w ds vs → RepL g w es us → RepL g w (ds ++ es) (vs ++ us)
  | [], es, vs, us, h, k => by simp only [RepL] at h; subst h; simpa using k
  | d :: ds, es, vs, us, h, k => by
    simp only [RepL] at h
    obtain ⟨v, vs', rfl, h2, h3⟩ := h
    exact RepL.cons h2 (RepL.append h3 k)
theorem RepL.drop {g : G} {w : World} : ∀ (n : Nat) {ds : List DV} {vs : List Value}, RepL g w ds vs → RepL g w (ds.drop n) (vs.drop n)
  | 0, _, _, h => by simpa using h
  | n + 1, [], vs, h => by simp only [RepL] at h; subst h; simp [RepL]
  | n + 1, d :: ds, vs, h => by
    simp only [RepL] at h
    obtain ⟨v, us, rfl, _, h3⟩ := h
    simpa using RepL.drop n h3
theorem RepL.take {g : G} {w : World} : ∀ (n : Nat) {ds : List DV} {vs : List Value}, RepL g w ds vs → RepL g w (ds.take n) (vs.take n)
  | 0, _, _, _ => by simp [RepL]
  | n + 1, [], vs, h => by simp only [RepL] at h; subst h; simp [RepL]
  | n + 1, d :: ds, vs, h => by
    simp only [RepL] at h
    obtain ⟨v, us, rfl, h2, h3⟩ := h
    simpa using RepL.cons h2 (RepL.take n h3)

theorem rep_of_value (g : G) (w : World) : ∀ {v : Value} {d : DV}, ofValue v = some d → Rep g w d v := by
  intro v d h
  unfold ofValue at h
  split at h <;> simp at h <;> subst h <;> simp [Rep, DB.v, DI.v, DS.v]

/-! ### codes -/
theorem CT.len : ∀ (c : CT) (a : c.D), (c.enc a).length = c.size
  | .int _, _ => rfl
  | .bool, _ => rfl
  | .str, _ => rfl
  | .pair a b, x => by show (a.enc x.1 ++ b.enc x.2).length = a.size + b.size; rw [List.length_append, CT.len a, CT.len b]
theorem CT.pos : ∀ (c : CT), 0 < c.size
  | .int _ => Nat.one_pos
  | .bool => Nat.one_pos
  | .str => Nat.one_pos
  | .pair a b => by show 0 < a.size + b.size; have := CT.pos a; omega
theorem idfL_cons (d : DV) (ds : List DV) : idfL (d :: ds) = true ↔ idf d = true ∧ idfL ds = true := by
  cases h : idf d <;> simp [idfL, h]
theorem idfL_append : ∀ (xs ys : List DV), idfL xs = true → idfL ys = true → idfL (xs ++ ys) = true
  | [], _, _, h => h
  | d :: ds, ys, h, k => by
    obtain ⟨h1, h2⟩ := (idfL_cons d ds).1 h
    exact (idfL_cons d (ds ++ ys)).2 ⟨h1, idfL_append ds ys h2 k⟩
theorem CT.idf : ∀ (c : CT) (a : c.D), idfL (c.enc a) = true
  | .int _, _ => rfl
  | .bool, _ => rfl
  | .str, _ => rfl
  | .pair a b, x => by show idfL (a.enc x.1 ++ b.enc x.2) = true; exact idfL_append _ _ (CT.idf a x.1) (CT.idf b x.2)
theorem CT.ok : ∀ (c : CT) (cs : List DV) (a : c.D), c.dec cs = some a → ∀ g w vs, RepL g w cs vs → RepL g w (c.enc a) vs
  | .int k, cs, a, h, g, w, vs, r => by
    unfold CT.dec at h
    split at h
    · split at h
      · rename_i hk
        obtain rfl := of_decide_eq_true hk
        obtain rfl := Option.some.inj h
        simpa [CT.enc, RepL, Rep, DI.v] using r
      · simp at h
    · simp at h
  | .bool, cs, a, h, g, w, vs, r => by
    unfold CT.dec at h
    split at h
    · obtain rfl := Option.some.inj h
      simpa [CT.enc, RepL, Rep, DB.v] using r
    · simp at h
  | .str, cs, a, h, g, w, vs, r => by
    unfold CT.dec at h
    split at h
    · obtain rfl := Option.some.inj h
      simpa [CT.enc, RepL, Rep, DS.v] using r
    · simp at h
  | .pair p q, cs, a, h, g, w, vs, r => by
    unfold CT.dec at h
    split at h
    · rename_i x y hx hy
      obtain rfl := Option.some.inj h
      have h1 := CT.ok p _ _ hx g w _ (r.take p.size)
      have h2 := CT.ok q _ _ hy g w _ (r.drop p.size)
      show RepL g w (p.enc x ++ q.enc y) vs
      have := h1.append h2
      rwa [List.take_append_drop] at this
    · simp at h

/-! ### symbolic memory -/
theorem ORep.lt {g : G} {w : World} {o : DO} {b ba : Nat} (h : ORep g w o b ba) : b < w.heap.size := by
  have hb : ∃ x, w.heap[b]? = some x := by
    cases o with
    | cells t cs => obtain ⟨vs, h, _⟩ := h; exact ⟨_, h⟩
    | arr t c l => obtain ⟨vs, h, _⟩ := h; exact ⟨_, h⟩
    | ro c l => obtain ⟨vs, t, fr, h, _⟩ := h; exact ⟨_, h⟩
    | map es => obtain ⟨ms, ck, h, _⟩ := h; exact ⟨_, h⟩
  obtain ⟨x, hx⟩ := hb
  rcases Nat.lt_or_ge b w.heap.size with h | h
  · exact h
  · rw [Array.getElem?_eq_none h] at hx; simp at hx

theorem ORep.ext {g g' : G} {w w' : World} (h : Ext g w g' w') {o : DO} {b ba : Nat} (hb : w'.heap[b]? = w.heap[b]?) (r : ORep g w o b ba) : ORep g' w' o b ba := by
  cases o with
  | cells t cs => obtain ⟨vs, h1, h2, h3⟩ := r; exact ⟨vs, hb.trans h1, RepL.ext h _ _ h2, h3⟩
  | arr t c l => obtain ⟨vs, h1, h2, h3⟩ := r; exact ⟨vs, hb.trans h1, h2, fun i a hi => RepL.ext h _ _ (h3 i a hi)⟩
  | ro c l => obtain ⟨vs, t, fr, h1, h3⟩ := r; exact ⟨vs, t, fr, hb.trans h1, fun i a hi => ⟨RepL.ext h _ _ (h3 i a hi).1, (h3 i a hi).2⟩⟩
  | map es => obtain ⟨ms, ck, h1, h2, h3⟩ := r; exact ⟨ms, ck, hb.trans h1, RepL.ext h _ _ h2, RepL.ext h _ _ h3⟩

theorem Silent.refl (w : World) : Silent w w := ⟨rfl, rfl, rfl, Nat.le_refl _, fun _ _ => rfl⟩
theorem Silent.trans {a b c : World} (h : Silent a b) (k : Silent b c) : Silent a c :=
  ⟨k.os.trans h.os, k.tape.trans h.tape, k.output.trans h.output, Nat.le_trans h.size k.size, fun i hi => (k.kept i (Nat.lt_of_lt_of_le hi h.size)).trans (h.kept i hi)⟩
theorem Silent.drew (w : World) : Silent w { w with drawn := w.drawn + 1 } := ⟨rfl, rfl, rfl, Nat.le_refl _, fun _ _ => rfl⟩

theorem Silent.shape {w w' : World} (s : Silent w w') (b : Nat) (cs : Array Value) (t : TypeId) (fr : Nat × Nat) (h : w.heap[b]? = some (Obj.cells cs t fr)) :
    ∃ cs' : Array Value, w'.heap[b]? = some (Obj.cells cs' t fr) ∧ cs'.size = cs.size := by
  have hlt : b < w.heap.size := by
    rcases Nat.lt_or_ge b w.heap.size with h' | h'
    · exact h'
    · rw [Array.getElem?_eq_none h'] at h; simp at h
  exact ⟨cs, (s.kept b hlt).trans h, rfl⟩
theorem Rel.extS {g : G} {hp : Hp} {w w' : World} (h : Rel g hp w) (s : Silent w w') : Ext g w g w' :=
  ⟨fun _ _ x => x, fun _ x => x, fun b x => s.kept b (h.prl b x), fun _ _ _ => rfl, s.shape⟩
theorem Rel.silent {g : G} {hp : Hp} {w w' : World} (h : Rel g hp w) (s : Silent w w') : Rel g hp w' :=
  ⟨fun i o hi => by
    rcases h.obj i o hi with ⟨b, h1, h2, h3⟩ | h1
    · exact .inl ⟨b, h1, ORep.ext (h.extS s) (s.kept b h2.lt) h2, h3⟩
    · exact .inr h1, h.inj, fun b hb => Nat.lt_of_lt_of_le (h.prl b hb) s.size⟩
/-- A thing that is there has a block. -/
theorem Rel.there {g : G} {hp : Hp} {w : World} (h : Rel g hp w) {i : Nat} {o : DO} (hi : look hp i = some o) (hn : ¬ noneO o) :
    ∃ b, g.ρ i = some b ∧ ORep g w o b (g.base i) ∧ ¬ g.pr b ∧ (isRo o = false → g.base i = 0) := by
  rcases h.obj i o hi with h1 | h1
  · exact h1
  · exact (hn h1.1).elim

/-! ### loads -/
theorem cell_at {w : World} {b off : Nat} {vs : List Value} {t : TypeId} {fz : Nat × Nat} (h : w.heap[b]? = some (.cells vs.toArray t fz)) (j : Nat) : w.cell? ⟨b, off + j, none⟩ = vs[off + j]? := by
  simp [World.cell?, h]

theorem addr_add (b off j : Nat) : Addr.add ⟨b, off, none⟩ j = ⟨b, off + j, none⟩ := by
  unfold Addr.add; split
  · rename_i h; subst h; rfl
  · rfl

theorem run_loadCells_at {P : Program} {w : World} {b off n : Nat} {vs us : List Value} {t : TypeId} {fz : Nat × Nat} (h : w.heap[b]? = some (.cells vs.toArray t fz))
    (hu : us = (vs.drop off).take n) (hn : us.length = n) : (loadCells ⟨b, off, none⟩ n).run P w = .ok us.toArray w := by
  have := run_loadCells_list (P := P) (w := w) ⟨b, off, none⟩ us (fun j v hj => by
    rw [addr_add, cell_at h]
    subst hu
    have hlt : j < n := by
      rcases Nat.lt_or_ge j n with hlt | hge
      · exact hlt
      · rw [List.getElem?_take, if_neg (by omega)] at hj; simp at hj
    rw [List.getElem?_take_of_lt hlt, List.getElem?_drop] at hj
    exact hj)
  rw [hn] at this
  exact this

theorem path_takeN {cs : List DV} {off n : Nat} {l : List DV} (h : takeN cs off n = some l) : l = (cs.drop off).take n ∧ l.length = n := by
  unfold takeN at h
  dsimp only at h
  split at h
  · rename_i hb; simp at h; subst h; exact ⟨rfl, Nat.eq_of_beq_eq_true hb⟩
  · simp at h

/-- What a load of n cells gives. -/
theorem loadN_ok {P : Program} {g : G} {hp : Hp} {w : World} (hR : Rel g hp w) {p : DP} {n : Nat} {l : List DV} (h : (loadN hp p n).Path l) :
    ∃ b us, g.ρ p.id = some b ∧ RepL g w l us ∧ (∀ u ∈ us, oneC u = true) ∧ us.length = n ∧ (loadCells ⟨b, g.off p, none⟩ n).run P w = .ok us.toArray w ∧
      (∀ j, j < n → w.cell? ⟨b, g.off p + j, none⟩ = us[j]?) := by
  unfold loadN at h
  split at h
  · rename_i t cs hl
    obtain ⟨b, hb, ⟨vs, h1, h2, h3⟩, _, hba⟩ := hR.there hl (fun h => h)
    have hgo : g.off p = p.off := by simp only [G.off, hba rfl, Nat.zero_add]
    rw [hgo]
    split at h
    · rename_i i hi
      obtain ⟨rfl, hn⟩ := path_takeN (T.path_opt h)
      have hoff : p.off = i * p.sz + p.fld := by simp [DP.off, hi, DN.v]
      have r := RepL.take n (RepL.drop p.off h2)
      rw [← hoff] at hn ⊢
      have hlen := RepL.length r
      refine ⟨b, _, hb, r, fun u hu => h3 u (List.mem_of_mem_drop (List.mem_of_mem_take hu)), hlen.trans hn, run_loadCells_at h1 rfl (hlen.trans hn), fun j hj => ?_⟩
      rw [cell_at h1, List.getElem?_take_of_lt hj, List.getElem?_drop]
    · exact h.elim
  · rename_i t c l' hl
    split at h
    · rename_i hsz hble
      have hsz := Nat.eq_of_beq_eq_true hsz
      have hfn : p.fld + n ≤ c.size := Nat.le_of_ble_eq_true hble
      obtain ⟨hlt, h⟩ := h
      obtain ⟨b, hb, ⟨vs, h1, h2, h3⟩, _, hba⟩ := hR.there hl (fun h => by subst h; simp at hlt)
      have hgo : g.off p = p.off := by simp only [G.off, hba rfl, Nat.zero_add]
      rw [hgo]
      obtain ⟨rfl, hn⟩ := path_takeN (T.path_opt h)
      have hget : l'[p.idx.v]? = some (l'.getD p.idx.v c.dflt) := by
        rw [List.getElem?_eq_getElem hlt, List.getD_eq_getElem?_getD, List.getElem?_eq_getElem hlt]; rfl
      have r0 := h3 _ _ hget
      have r := RepL.take n (RepL.drop p.fld r0)
      have hlen := RepL.length r
      have hus : ((((vs.drop (p.idx.v * c.size)).take c.size).drop p.fld).take n) = (vs.drop p.off).take n := by
        rw [List.drop_take, List.take_take, List.drop_drop, Nat.min_eq_left (by omega)]
        simp only [DP.off, hsz]
      rw [hus] at r hlen
      refine ⟨b, _, hb, r, fun u hu => h2 u (List.mem_of_mem_drop (List.mem_of_mem_take hu)), hlen.trans hn, run_loadCells_at h1 rfl (hlen.trans hn), fun j hj => ?_⟩
      rw [cell_at h1, List.getElem?_take_of_lt hj, List.getElem?_drop]
    · exact h.elim
  · rename_i c l' hl
    split at h
    · rename_i hsz hble
      have hsz := Nat.eq_of_beq_eq_true hsz
      have hfn : p.fld + n ≤ c.size := Nat.le_of_ble_eq_true hble
      obtain ⟨hlt, h⟩ := h
      obtain ⟨b, hb, ⟨vs, t, fr, h1, h3⟩, _⟩ := hR.there hl (fun h => by subst h; simp at hlt)
      obtain ⟨rfl, hn⟩ := path_takeN (T.path_opt h)
      have hget : l'[p.idx.v]? = some (l'.getD p.idx.v c.dflt) := by
        rw [List.getElem?_eq_getElem hlt, List.getD_eq_getElem?_getD, List.getElem?_eq_getElem hlt]; rfl
      obtain ⟨r0, h2⟩ := h3 _ _ hget
      have r := RepL.take n (RepL.drop p.fld r0)
      have hlen := RepL.length r
      have hus : ((((vs.drop (g.base p.id + p.idx.v * c.size)).take c.size).drop p.fld).take n) = (vs.drop (g.off p)).take n := by
        rw [List.drop_take, List.take_take, List.drop_drop, Nat.min_eq_left (by omega)]
        simp only [DP.off, G.off, hsz, Nat.add_assoc]
      have h2' : ∀ u ∈ (vs.drop (g.off p)).take n, oneC u = true := by
        rw [← hus]; intro u hu; exact h2 u (List.mem_of_mem_drop (List.mem_of_mem_take hu))
      rw [hus] at r hlen
      refine ⟨b, _, hb, r, h2', hlen.trans hn, run_loadCells_at h1 rfl (hlen.trans hn), fun j hj => ?_⟩
      rw [cell_at h1, List.getElem?_take_of_lt hj, List.getElem?_drop]
    · exact h.elim
  · exact h.elim
  · exact h.elim

theorem run_under {P : Program} {t : TypeId} {d : TypeDesc} (h : underD P t = some d) (w : World) : (underlying t).run P w = .ok d w := run_underlying h w
theorem run_sizeD {P : Program} {t : TypeId} {n : Nat} (h : sizeD P t = some n) (w : World) : (sizeOf t).run P w = .ok n w := by
  unfold sizeD at h
  split at h
  · rename_i i hi; simp at h; subst h; simp [sizeOf, typeInfo, hi]
  · simp at h
theorem run_isAgg {P : Program} {t : TypeId} {d : TypeDesc} (h : underD P t = some d) (w : World) :
    (isAgg t).run P w = .ok (match d with | .struct _ => true | .array _ _ => true | _ => false) w := by
  unfold isAgg
  simp only [Sem.run_bind, run_under h, Result.andThen_ok]
  cases d <;> rfl

theorem loadT_ok {P : Program} {g : G} {hp : Hp} {w : World} (hR : Rel g hp w) {t : TypeId} {p : DP} {d : DV} (h : (loadT P hp t p).Path d) :
    ∃ b v, g.ρ p.id = some b ∧ (loadVar t ⟨b, g.off p, none⟩).run P w = .ok v w ∧ Rep g w d v := by
  have agg : ∀ n, sizeD P t = some n → (∀ w, (isAgg t).run P w = .ok true w) → ((loadN hp p n).bind fun l => T.leaf (DV.agg l)).Path d →
      ∃ b v, g.ρ p.id = some b ∧ (loadVar t ⟨b, g.off p, none⟩).run P w = .ok v w ∧ Rep g w d v := by
    intro n hn hagg h
    obtain ⟨l, hl, hd⟩ := T.path_bind h
    obtain rfl : d = .agg l := hd
    obtain ⟨b, us, h1, h2, h3, _, h5, _⟩ := loadN_ok (P := P) hR hl
    refine ⟨b, .agg us.toArray, h1, ?_, ?_⟩
    · simp [loadVar, hagg, run_sizeD hn, h5]
    · simp only [Rep]; exact ⟨us, rfl, h2, h3⟩
  unfold loadT at h
  split at h
  · rename_i fs hu
    split at h
    · rename_i n hn; exact agg n hn (fun w => run_isAgg hu w) h
    · exact h.elim
  · rename_i l e hu
    split at h
    · rename_i n hn; exact agg n hn (fun w => run_isAgg hu w) h
    · exact h.elim
  · rename_i dd hns hna hu
    obtain ⟨l, hl, hd⟩ := T.path_bind h
    obtain ⟨b, us, h1, h2, h3, h4, _, h6⟩ := loadN_ok (P := P) hR hl
    replace hd : oneO l = some d := T.path_opt hd
    unfold oneO at hd
    split at hd
    · rename_i e
      obtain rfl : e = d := by simpa using hd
      simp only [RepL] at h2
      obtain ⟨v, us', rfl, h2, rfl⟩ := h2
      refine ⟨b, v, h1, ?_, h2⟩
      have hagg : (isAgg t).run P w = .ok false w := by
        rw [run_isAgg hu]
        cases dd <;> first | rfl | (exact (hns _ rfl).elim) | (exact (hna _ _ rfl).elim)
      have := h6 0 (by omega)
      simp only [Nat.add_zero, List.getElem?_cons_zero] at this
      simp [loadVar, hagg, this]
    · simp at hd
  · exact h.elim

theorem partO_ok {P : Program} {g : G} {w : World} {t : TypeId} {cs : List DV} {vs : List Value} (hc : RepL g w cs vs) (h1 : ∀ u ∈ vs, oneC u = true) {off : Nat} {d : DV}
    (h : partO P t cs off = some d) : ∃ v, (∀ w', (part t vs.toArray off).run P w' = .ok v w') ∧ Rep g w d v := by
  have agg : ∀ n, sizeD P t = some n → (∀ w, (isAgg t).run P w = .ok true w) → (match takeN cs off n with | some l => some (DV.agg l) | none => none) = some d →
      ∃ v, (∀ w', (part t vs.toArray off).run P w' = .ok v w') ∧ Rep g w d v := by
    intro n hn hagg h
    split at h
    · rename_i l hl
      obtain rfl : DV.agg l = d := by simpa using h
      obtain ⟨rfl, hlen⟩ := path_takeN hl
      refine ⟨.agg ((vs.drop off).take n).toArray, fun w' => ?_, ?_⟩
      · simp [part, hagg, run_sizeD hn, List.extract_eq_take_drop]
      · simp only [Rep]; exact ⟨_, rfl, RepL.take n (RepL.drop off hc), fun u hu => h1 u (List.mem_of_mem_drop (List.mem_of_mem_take hu))⟩
    · simp at h
  unfold partO at h
  split at h
  · rename_i fs hu
    split at h
    · rename_i n hn; exact agg n hn (fun w => run_isAgg hu w) h
    · simp at h
  · rename_i l e hu
    split at h
    · rename_i n hn; exact agg n hn (fun w => run_isAgg hu w) h
    · simp at h
  · rename_i dd hns hna hu
    split at h
    · rename_i l hl
      unfold oneO at h
      split at h
      · rename_i e
        obtain rfl : e = d := by simpa using h
        obtain ⟨he, hlen⟩ := path_takeN hl
        have r := RepL.take 1 (RepL.drop off hc)
        rw [← he] at r
        simp only [RepL] at r
        obtain ⟨v, us', hv, h2, rfl⟩ := r
        have hagg : ∀ w, (isAgg t).run P w = .ok false w := by
          intro w
          rw [run_isAgg hu]
          cases dd <;> first | rfl | (exact (hns _ rfl).elim) | (exact (hna _ _ rfl).elim)
        have hg : vs[off]? = some v := by
          have : ((vs.drop off).take 1)[0]? = some v := by rw [hv]; rfl
          rw [List.getElem?_take_of_lt (by omega), List.getElem?_drop] at this
          simpa using this
        refine ⟨v, fun w' => ?_, h2⟩
        simp [part, hagg, hg]
      · simp at h
    · simp at h
  · simp at h

end Go.DE
