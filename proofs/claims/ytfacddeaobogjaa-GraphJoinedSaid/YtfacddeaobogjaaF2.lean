import Derived.Test.YtfacddeaobogjaaF1
import Derived.WalkKit
set_option linter.unusedVariables false
set_option linter.unusedSimpArgs false
set_option linter.unnecessarySimpa false
/- The engine, part 2: what symbolic values stand for, when the world goes on; codes. -/
namespace Go.DF
universe u v

/-! ### trees -/
theorem T.Holds.path {α : Type u} {t : T α} {Q : α → Prop} (h : t.Holds Q) : ∃ a, t.Path a ∧ Q a := by
  induction t with
  | fail => exact h.elim
  | leaf a => exact ⟨a, rfl, h⟩
  | br b t e iht ihe =>
    cases b with
    | true => obtain ⟨a, p, q⟩ := iht (h.1 rfl); exact ⟨a, .inl ⟨rfl, p⟩, q⟩
    | false => obtain ⟨a, p, q⟩ := ihe (h.2 rfl); exact ⟨a, .inr ⟨rfl, p⟩, q⟩
  | ob p dd t ih => obtain ⟨a, r, q⟩ := ih h.2; exact ⟨a, ⟨h.1, r⟩, q⟩

theorem T.path_bind {α : Type u} {β : Type v} {t : T α} {f : α → T β} {x : β} (h : (t.bind f).Path x) : ∃ a, t.Path a ∧ (f a).Path x := by
  induction t with
  | fail => exact h.elim
  | leaf a => exact ⟨a, rfl, h⟩
  | br b t e iht ihe =>
    rcases h with ⟨hb, h⟩ | ⟨hb, h⟩
    · obtain ⟨a, p, q⟩ := iht h; exact ⟨a, .inl ⟨hb, p⟩, q⟩
    · obtain ⟨a, p, q⟩ := ihe h; exact ⟨a, .inr ⟨hb, p⟩, q⟩
  | ob p dd t ih => obtain ⟨a, r, q⟩ := ih h.2; exact ⟨a, ⟨h.1, r⟩, q⟩

theorem T.path_opt {α : Type u} {o : Option α} {x : α} (h : (T.opt o).Path x) : o = some x := by
  cases o with
  | none => exact h.elim
  | some a => rw [show x = a from h]
theorem allP_ok : ∀ {l : List Prop}, allP l → ∀ q ∈ l, q
  | [], _, q, hq => by simp at hq
  | [p], h, q, hq => by rw [List.mem_singleton.1 hq]; exact h
  | p :: p2 :: r, h, q, hq => by
    rcases List.mem_cons.1 hq with rfl | hq
    · exact h.1
    · exact allP_ok h.2 q hq
theorem T.path_obs {α : Type u} {ps : List Prop} {t : T α} {x : α} (h : (T.obs ps t).Path x) : (∀ p ∈ ps, p) ∧ t.Path x := by
  cases ps with
  | nil => exact ⟨by simp, h⟩
  | cons p ps => exact ⟨allP_ok h.1, h.2⟩
/-- Where a tree's truth lies on its one way. -/
theorem T.path_cut {α : Type u} : ∀ {t : T α} {x : α}, t.cut.Path x → t.Path x
  | .fail, _, h => h
  | .leaf _, _, h => h
  | .br b t e, x, h => by
    unfold T.cut at h
    cases b with
    | true => exact .inl ⟨rfl, T.path_cut h⟩
    | false => exact .inr ⟨rfl, T.path_cut h⟩
  | .ob p _ t, x, h => ⟨h.1, T.path_cut h.2⟩
theorem T.path_fin {α : Type u} : ∀ {t : T α} {ps : List Prop} {a : α}, t.fin = some (ps, a) → (∀ p ∈ ps, p) → t.Path a
  | .fail, _, _, h, _ => by simp [T.fin] at h
  | .leaf b, ps, a, h, _ => by
    simp only [T.fin, Option.some.injEq, Prod.mk.injEq] at h
    exact h.2.symm
  | .br b t e, ps, a, h, hp => by
    unfold T.fin at h
    cases b with
    | true => exact .inl ⟨rfl, T.path_fin h hp⟩
    | false => exact .inr ⟨rfl, T.path_fin h hp⟩
  | .ob p none t, ps, a, h, hp => by
    unfold T.fin at h
    split at h
    · rename_i qs b hq
      simp only [Option.some.injEq, Prod.mk.injEq] at h
      obtain ⟨rfl, rfl⟩ := h
      exact ⟨hp p (by simp), T.path_fin hq (fun q hq => hp q (by simp [hq]))⟩
    · simp at h
  | .ob p (some d) t, ps, a, h, hp => by
    unfold T.fin at h
    cases d with
    | isTrue hd => exact ⟨hd, T.path_fin h hp⟩
    | isFalse hd => simp at h
theorem T.path_cl {α : Type u} {cl : Bool} {t : T α} {x : α} (h : (match cl with | true => t.cut | false => t).Path x) : t.Path x := by
  cases cl with
  | true => exact T.path_cut h
  | false => exact h
theorem T.Holds.of_path {α : Type u} {t : T α} {Q : α → Prop} (h : ∃ a, t.Path a ∧ Q a) : t.Holds Q := by
  obtain ⟨a, h, hq⟩ := h
  induction t with
  | fail => exact h.elim
  | leaf b => obtain rfl : a = b := h; exact hq
  | br b t e iht ihe =>
    rcases h with ⟨rfl, h⟩ | ⟨rfl, h⟩
    · exact ⟨fun _ => iht h, fun h => by simp at h⟩
    · exact ⟨fun h => by simp at h, fun _ => ihe h⟩
  | ob p dd t ih => exact ⟨h.1, ih h.2⟩

theorem castD_ok [FamD] {c c' : CT} {a : c'.D} {b : c.D} (h : castD c c' a = some b) : ∃ e : c' = c, b = e ▸ a := by
  unfold castD at h
  split at h
  · rename_i e _; exact ⟨e, (Option.some.inj h).symm⟩
  · simp at h
theorem castL_ok [FamD] {c c' : CT} {a : List c'.D} {b : List c.D} (h : castL c c' a = some b) : ∃ e : c' = c, b = e ▸ a := by
  unfold castL at h
  split at h
  · rename_i e _; exact ⟨e, (Option.some.inj h).symm⟩
  · simp at h
theorem castLL_ok [FamD] {c c' : CT} {a : List (List c'.D)} {b : List (List c.D)} (h : castLL c c' a = some b) : ∃ e : c' = c, b = e ▸ a := by
  unfold castLL at h
  split at h
  · rename_i e _; exact ⟨e, (Option.some.inj h).symm⟩
  · simp at h
theorem partL_eq {α : Type u} (l : List α) (i n : DN) : partL l i n = (l.drop i.v).take n.v := by
  unfold partL
  split
  · simp [DN.v]
  · rfl

variable [Fam]
/-! ### codes -/
omit [Fam] in
theorem vOf_mono {p q : List Value → Prop} (h : ∀ vs, p vs → q vs) {agg : Bool} {v : Value} (k : vOf agg p v) : vOf agg q v := by
  cases agg with
  | true => obtain ⟨vs, h1, h2⟩ := k; exact ⟨vs, h1, h _ h2⟩
  | false => exact h _ k
theorem Rp.mono {w w' : World} {S S' : Nat → Prop} (hS : ∀ b, S b → S' b) (hw : ∀ b, S b → w'.heap[b]? = w.heap[b]?) : ∀ (c : CT) (a : c.D) (vs : List Value), Rp w S c a vs → Rp w' S' c a vs
  | .int k, _, _, h => h
  | .bool, _, _, h => h
  | .str, _, _, h => h
  | .pair a b, x, vs, h => by
    obtain ⟨us, ws, h1, h2, h3⟩ := h
    exact ⟨us, ws, h1, Rp.mono hS hw a _ _ h2, Rp.mono hS hw b _ _ h3⟩
  | .sl c, l, vs, h => by
    obtain ⟨v, h1, h⟩ := h
    refine ⟨v, h1, h.imp id ?_⟩
    rintro ⟨b, o, cap, cs, t, fr, h2, h3, h4, h5, h6, h7⟩
    exact ⟨b, o, cap, cs, t, fr, h2, h3, hS b h4, (hw b h4).trans h5, h6, fun i a hi => Rp.mono hS hw c _ _ (h7 i a hi)⟩
  | .pt c, x, vs, h => by
    obtain ⟨v, h1, h⟩ := h
    refine ⟨v, h1, h.imp id ?_⟩
    rintro ⟨a, b, o, cs, t, fr, h2, h3, h4, h5, h6, h7⟩
    exact ⟨a, b, o, cs, t, fr, h2, h3, hS b h4, (hw b h4).trans h5, h6, Rp.mono hS hw c _ _ h7⟩
  | .mp ka k ea e, es, vs, h => by
    obtain ⟨v, h1, h⟩ := h
    refine ⟨v, h1, h.imp id ?_⟩
    rintro ⟨b, ms, ck, h2, h3, h4, h5, h6, h7⟩
    exact ⟨b, ms, ck, h2, hS b h3, (hw b h3).trans h4, h5, h6, fun i x hi => by
      obtain ⟨m, k1, k2, k3⟩ := h7 i x hi
      exact ⟨m, k1, vOf_mono (fun vs => Rp.mono hS hw k _ vs) k2, vOf_mono (fun vs => Rp.mono hS hw e _ vs) k3⟩⟩
  | .ref n, a, vs, h => by
    obtain ⟨v, h1, h⟩ := h
    exact ⟨v, h1, Fam.mono _ _ _ _ _ _ _ hS hw h⟩
theorem Rp.len {w : World} {S : Nat → Prop} : ∀ {c : CT} {a : c.D} {vs : List Value}, Rp w S c a vs → vs.length = c.size
  | .int k, _, _, h => by have h : _ = [_] := h; rw [h]; rfl
  | .bool, _, _, h => by have h : _ = [_] := h; rw [h]; rfl
  | .str, _, _, h => by have h : _ = [_] := h; rw [h]; rfl
  | .pair a b, x, vs, h => by
    obtain ⟨us, ws, rfl, h2, h3⟩ := h
    rw [List.length_append, Rp.len h2, Rp.len h3]; rfl
  | .sl c, l, vs, h => by obtain ⟨v, rfl, _⟩ := h; rfl
  | .pt c, l, vs, h => by obtain ⟨v, rfl, _⟩ := h; rfl
  | .mp _ _ _ _, l, vs, h => by obtain ⟨v, rfl, _⟩ := h; rfl
  | .ref n, l, vs, h => by obtain ⟨v, rfl, _⟩ := h; rfl
theorem Rp.one {w : World} {S : Nat → Prop} : ∀ {c : CT} {a : c.D} {vs : List Value}, Rp w S c a vs → ∀ u ∈ vs, oneC u = true
  | .int k, _, _, h, u, hu => by have h : _ = [_] := h; subst h; simp at hu; subst hu; rfl
  | .bool, _, _, h, u, hu => by have h : _ = [_] := h; subst h; simp at hu; subst hu; rfl
  | .str, _, _, h, u, hu => by have h : _ = [_] := h; subst h; simp at hu; subst hu; rfl
  | .pair a b, x, vs, h, u, hu => by
    obtain ⟨us, ws, rfl, h2, h3⟩ := h
    rcases List.mem_append.1 hu with hu | hu
    · exact Rp.one h2 u hu
    · exact Rp.one h3 u hu
  | .sl c, l, vs, h, u, hu => by
    obtain ⟨v, rfl, h⟩ := h
    simp at hu; subst hu
    rcases h with ⟨_, rfl, _⟩ | ⟨_, _, _, _, _, _, rfl, _⟩ <;> rfl
  | .pt c, l, vs, h, u, hu => by
    obtain ⟨v, rfl, h⟩ := h
    simp at hu; subst hu
    rcases h with ⟨rfl, _⟩ | ⟨_, _, _, _, _, _, _, rfl, _⟩ <;> rfl
  | .mp _ _ _ _, l, vs, h, u, hu => by
    obtain ⟨v, rfl, h⟩ := h
    simp at hu; subst hu
    rcases h with ⟨rfl, _⟩ | ⟨_, _, _, rfl, _⟩ <;> rfl
  | .ref n, l, vs, h, u, hu => by
    obtain ⟨v, rfl, h⟩ := h
    simp at hu; subst hu
    exact Fam.one _ _ _ _ _ h

theorem CT.len : ∀ (c : CT) (a : c.D), (c.enc a).length = c.size
  | .int _, _ => rfl
  | .bool, _ => rfl
  | .str, _ => rfl
  | .pair a b, x => by show (a.enc x.1 ++ b.enc x.2).length = a.size + b.size; rw [List.length_append, CT.len a, CT.len b]
  | .sl _, _ => rfl
  | .pt _, _ => rfl
  | .mp _ _ _ _, _ => rfl
  | .ref _, _ => rfl
omit [Fam] in
theorem CT.pos : ∀ (c : CT), 0 < c.size
  | .int _ => Nat.one_pos
  | .bool => Nat.one_pos
  | .str => Nat.one_pos
  | .pair a b => by show 0 < a.size + b.size; have := CT.pos a; omega
  | .sl _ => Nat.one_pos
  | .pt _ => Nat.one_pos
  | .mp _ _ _ _ => Nat.one_pos
  | .ref _ => Nat.one_pos

/-! ### symbolic values -/
omit [Fam] in
theorem Ext.refl (g : G) (w : World) : Ext g w g w := ⟨fun _ _ h => h, fun _ h => h, fun _ _ => rfl, fun _ _ _ => rfl, fun _ cs _ _ h => ⟨cs, h, rfl⟩⟩
omit [Fam] in
theorem Ext.trans {g g' g'' : G} {w w' w'' : World} (h : Ext g w g' w') (k : Ext g' w' g'' w'') : Ext g w g'' w'' :=
  ⟨fun i b x => k.rho i b (h.rho i b x), fun b x => k.pr b (h.pr b x), fun b x => (k.at' b (h.pr b x)).trans (h.at' b x), fun i b x => (k.base i b (h.rho i b x)).trans (h.base i b x),
    fun b cs t fr x => let ⟨c1, h1, e1⟩ := h.shape b cs t fr x; let ⟨c2, h2, e2⟩ := k.shape b c1 t fr h1; ⟨c2, h2, e2.trans e1⟩⟩
omit [Fam] in
theorem Ext.off {g g' : G} {w w' : World} (h : Ext g w g' w') {p : DP} {b : Nat} (hb : g.ρ p.id = some b) : g'.off p = g.off p := by
  simp only [G.off, h.base _ _ hb]

mutual
theorem Rep.ext {g g' : G} {w w' : World} (h : Ext g w g' w') : ∀ (d : DV) (v : Value), Rep g w d v → Rep g' w' d v
  | .bool _, _, r => by simpa only [Rep] using r
  | .int _ _, _, r => by simpa only [Rep] using r
  | .str _, _, r => by simpa only [Rep] using r
  | .ptr p, _, r => by simp only [Rep] at r ⊢; obtain ⟨b, h1, h2⟩ := r; exact ⟨b, h.rho _ _ h1, by rw [h.off h1]; exact h2⟩
  | .nilptr, _, r => by simpa only [Rep] using r
  | .slice p n, _, r => by
    simp only [Rep] at r ⊢
    rcases r with r | ⟨b, o, c, h1, h2, h3, h4, cs, t, fr, h5, h6⟩
    · exact .inl r
    · obtain ⟨cs', h7, h8⟩ := h.shape _ _ _ _ h5
      exact .inr ⟨b, o, c, h.rho _ _ h1, h2, h3, by rw [h.off h1]; exact h4, cs', t, fr, h7, by rw [h8]; exact h6⟩
  | .nilslice, _, r => by simpa only [Rep] using r
  | .map i, _, r => by simp only [Rep] at r ⊢; obtain ⟨b, h1, h2⟩ := r; exact ⟨b, h.rho _ _ h1, h2⟩
  | .nilmap, _, r => by simpa only [Rep] using r
  | .func f cap, _, r => by simp only [Rep] at r ⊢; obtain ⟨vs, h1, h2⟩ := r; exact ⟨vs, h1, RepL.ext h cap vs h2⟩
  | .nilfunc, _, r => by simpa only [Rep] using r
  | .nilif, _, r => by simpa only [Rep] using r
  | .agg cs, _, r => by simp only [Rep] at r ⊢; obtain ⟨vs, h1, h2, h3⟩ := r; exact ⟨vs, h1, RepL.ext h cs vs h2, h3⟩
  | .tup ds, _, r => by simp only [Rep] at r ⊢; obtain ⟨vs, h1, h2⟩ := r; exact ⟨vs, h1, RepL.ext h ds vs h2⟩
  | .per c a, _, r => by simp only [Rep] at r ⊢; exact Rp.mono h.pr h.at' _ _ _ r
  | .pel c a off, _, r => by
    simp only [Rep] at r ⊢
    obtain ⟨b, o, cs, t, fr, h1, h2, h3, h4, h5⟩ := r
    exact ⟨b, o, cs, t, fr, h1, h.pr b h2, (h.at' b h2).trans h3, h4, Rp.mono h.pr h.at' _ _ _ h5⟩
  | .nn c a, _, r => by simp only [Rep] at r ⊢; exact ⟨r.1, Rp.mono h.pr h.at' _ _ _ r.2⟩
  | .yld i, _, r => by simp only [Rep] at r ⊢; obtain ⟨b, h1, h2⟩ := r; exact ⟨b, h.rho _ _ h1, h2⟩
  | .any, _, _ => by simp only [Rep]
theorem RepL.ext {g g' : G} {w w' : World} (h : Ext g w g' w') : ∀ (ds : List DV) (vs : List Value), RepL g w ds vs → RepL g' w' ds vs
  | [], _, r => by simpa only [RepL] using r
  | d :: ds, _, r => by
    simp only [RepL] at r ⊢
    obtain ⟨v, us, h1, h2, h3⟩ := r
    exact ⟨v, us, h1, Rep.ext h d v h2, RepL.ext h ds us h3⟩
end

theorem RepL.nil {g : G} {w : World} : RepL g w [] [] := by simp only [RepL]
theorem RepL.cons {g : G} {w : World} {d : DV} {ds : List DV} {v : Value} {vs : List Value} (h : Rep g w d v) (k : RepL g w ds vs) : RepL g w (d :: ds) (v :: vs) := by
  simp only [RepL]; exact ⟨v, vs, rfl, h, k⟩
theorem RepL.length {g : G} {w : World} : ∀ {ds : List DV} {vs : List Value}, RepL g w ds vs → vs.length = ds.length
  | [], vs, h => by simp only [RepL] at h; rw [h]; rfl
  | d :: ds, vs, h => by
    simp only [RepL] at h
    obtain ⟨v, us, rfl, _, h3⟩ := h
    simp [RepL.length h3]
theorem RepL.get {g : G} {w : World} : ∀ {ds : List DV} {vs : List Value}, RepL g w ds vs → ∀ {i : Nat} {d : DV}, ds[i]? = some d → ∃ v, vs[i]? = some v ∧ Rep g w d v
  | [], _, _, i, d, hi => by simp at hi
  | d :: ds, vs, h, i, e, hi => by
    simp only [RepL] at h
    obtain ⟨v, us, rfl, h2, h3⟩ := h
    cases i with
    | zero => simp at hi; subst hi; exact ⟨v, rfl, h2⟩
    | succ i => simpa using RepL.get h3 (by simpa using hi)
theorem RepL.append {g : G} {w : World} : ∀ {ds es : List DV} {vs us : List Value}, RepL g w ds vs → RepL g w es us → RepL g w (ds ++ es) (vs ++ us)
  | [], es, vs, us, h, k => by simp only [RepL] at h; subst h; simpa using k
  | d :: ds, es, vs, us, h, k => by
    simp only [RepL] at h
    obtain ⟨v, vs', rfl, h2, h3⟩ := h
    exact RepL.cons h2 (RepL.append h3 k)
theorem RepL.drop {g : G} {w : World} : ∀ (n : Nat) {ds : List DV} {vs : List Value}, RepL g w ds vs → RepL g w (ds.drop n) (vs.drop n)
  | 0, _, _, h => by simpa using h
  | n + 1, [], vs, h => by simp only [RepL] at h; subst h; simp [RepL]
  | n + 1, d :: ds, vs, h => by
    simp only [RepL] at h
    obtain ⟨v, us, rfl, _, h3⟩ := h
    simpa using RepL.drop n h3
theorem RepL.take {g : G} {w : World} : ∀ (n : Nat) {ds : List DV} {vs : List Value}, RepL g w ds vs → RepL g w (ds.take n) (vs.take n)
  | 0, _, _, _ => by simp [RepL]
  | n + 1, [], vs, h => by simp only [RepL] at h; subst h; simp [RepL]
  | n + 1, d :: ds, vs, h => by
    simp only [RepL] at h
    obtain ⟨v, us, rfl, h2, h3⟩ := h
    simpa using RepL.cons h2 (RepL.take n h3)

theorem rep_of_value (g : G) (w : World) : ∀ {v : Value} {d : DV}, ofValue v = some d → Rep g w d v := by
  intro v d h
  unfold ofValue at h
  split at h <;> simp at h <;> subst h <;> simp [Rep, DB.v, DI.v, DS.v]

/-- What a code says, its values say. -/
theorem Rp.enc {g : G} {w : World} : ∀ {c : CT} {a : c.D} {vs : List Value}, Rp w g.pr c a vs → RepL g w (c.enc a) vs
  | .int k, _, _, h => by have h : _ = [_] := h; subst h; exact RepL.cons (by simp [Rep, DI.v]) RepL.nil
  | .bool, _, _, h => by have h : _ = [_] := h; subst h; exact RepL.cons (by simp [Rep, DB.v]) RepL.nil
  | .str, _, _, h => by have h : _ = [_] := h; subst h; exact RepL.cons (by simp [Rep, DS.v]) RepL.nil
  | .pair a b, x, vs, h => by
    obtain ⟨us, ws, rfl, h2, h3⟩ := h
    exact RepL.append (Rp.enc h2) (Rp.enc h3)
  | .sl c, l, vs, h => by
    have h' := h
    obtain ⟨v, rfl, _⟩ := h
    exact RepL.cons (by simpa only [Rep] using h') RepL.nil
  | .pt c, l, vs, h => by
    have h' := h
    obtain ⟨v, rfl, _⟩ := h
    exact RepL.cons (by simpa only [Rep] using h') RepL.nil
  | .mp _ _ _ _, l, vs, h => by
    have h' := h
    obtain ⟨v, rfl, _⟩ := h
    exact RepL.cons (by simpa only [Rep] using h') RepL.nil
  | .ref n, l, vs, h => by
    have h' := h
    obtain ⟨v, rfl, _⟩ := h
    exact RepL.cons (by simpa only [Rep] using h') RepL.nil

/-- A datum's value. -/
theorem Rp.toV {g : G} {w : World} {c : CT} {a : c.D} {agg : Bool} {v : Value} (h : vOf agg (Rp w g.pr c a) v) : Rep g w (toV agg c a) v := by
  cases agg with
  | true =>
    obtain ⟨vs, rfl, h⟩ := h
    simp only [DF.toV, Rep]
    exact ⟨vs, rfl, h.enc, h.one⟩
  | false =>
    have r := Rp.enc (g := g) h
    simp only [DF.toV]
    split
    · rename_i d hd
      rw [hd] at r
      simp only [RepL] at r
      obtain ⟨u, us, hu, hr, rfl⟩ := r
      simp only [List.cons.injEq, and_true] at hu
      rw [hu]; exact hr
    · simp [Rep]

theorem RepF.ext {g g' : G} {w w' : World} (h : Ext g w g' w') {fr : Fr} {tmps : Array Value} (r : RepF g w fr tmps) : RepF g' w' fr tmps :=
  fun t d hd => let ⟨v, h1, h2⟩ := r t d hd; ⟨v, h1, Rep.ext h d v h2⟩

/-! ### symbolic memory -/
theorem Elems.mono {w w' : World} {S S' : Nat → Prop} (hS : ∀ b, S b → S' b) (hw : ∀ b, S b → w'.heap[b]? = w.heap[b]?) {c : CT} {vs : List Value} {o : Nat} {l : List c.D} (h : Elems w S c vs o l) : Elems w' S' c vs o l :=
  fun i a hi => Rp.mono hS hw _ _ _ (h i a hi)
theorem RowIn.mono {w w' : World} {S S' : Nat → Prop} (hS : ∀ b, S b → S' b) (hw : ∀ b, S b → w'.heap[b]? = w.heap[b]?) {e : TypeId} {c : CT} {l : List c.D} {s : Option Nat} {v : Value} (hs : ∀ b, s = some b → w'.heap[b]? = w.heap[b]?)
    (h : RowIn w S e c l s v) : RowIn w' S' e c l s v := by
  rcases h with h | ⟨b, o, cap, us, h1, h2, h3, h4, h5, h6, h7⟩
  · exact .inl h
  · exact .inr ⟨b, o, cap, us, h1, h2, h3, (hs b h1).trans h4, h5, h6, h7.mono hS hw⟩
omit [Fam] in
theorem lt_of_heap {w : World} {b : Nat} {o : Obj} (h : w.heap[b]? = some o) : b < w.heap.size := by
  rcases Nat.lt_or_ge b w.heap.size with h' | h'
  · exact h'
  · rw [Array.getElem?_eq_none h'] at h; simp at h
theorem ORep.lt {g : G} {w : World} {i : Nat} {o : DO} {b ba : Nat} (h : ORep g w i o b ba) : b < w.heap.size := by
  cases o with
  | cells t cs => obtain ⟨_, vs, h, _⟩ := h; exact lt_of_heap h
  | arr t c l => obtain ⟨vs, h, _⟩ := h; exact lt_of_heap h
  | rows t e c ls h' => obtain ⟨_, vs, h, _⟩ := h; exact lt_of_heap h
  | map es => obtain ⟨ms, ck, h, _⟩ := h; exact lt_of_heap h
  | mp ka k ea e es => obtain ⟨ms, ck, h, _⟩ := h; exact lt_of_heap h
  | loop fr N ps as bo s pe => obtain ⟨r, h, _⟩ := h; exact lt_of_heap h

theorem ORep.ext {g g' : G} {w w' : World} (h : Ext g w g' w') {i i' : Nat} {o : DO} {b ba : Nat} (hb : w'.heap[b]? = w.heap[b]?) (hs : ∀ k, subOf o k → g'.sub i' k = g.sub i k ∧ ∀ c, g.sub i k = some c → w'.heap[c]? = w.heap[c]?)
    (r : ORep g w i o b ba) : ORep g' w' i' o b ba := by
  cases o with
  | cells t cs => obtain ⟨h0, vs, h1, h2, h3⟩ := r; exact ⟨h0, vs, hb.trans h1, RepL.ext h _ _ h2, h3⟩
  | arr t c l => obtain ⟨vs, h1, h2, h3, h4⟩ := r; exact ⟨vs, hb.trans h1, h2, h3, h4.mono h.pr h.at'⟩
  | rows t e c ls ho =>
    obtain ⟨h0, vs, h1, h2, h3, h4⟩ := r
    refine ⟨h0, vs, hb.trans h1, h2, h3, fun k l hl => ?_⟩
    obtain ⟨v, k1, k2, k3⟩ := h4 k l hl
    refine ⟨v, k1, fun hk => ?_, fun j i' n hh hj => Rep.ext h _ _ (k3 j i' n hh hj)⟩
    have hlt : k < ls.length := by
      rcases Nat.lt_or_ge k ls.length with h | h
      · exact h
      · rw [List.getElem?_eq_none h] at hl; simp at hl
    obtain ⟨e1, e2⟩ := hs k ⟨hlt, hk⟩
    rw [e1]
    exact (k2 hk).mono h.pr h.at' e2
  | map es => obtain ⟨ms, ck, h1, h0, h2, h3⟩ := r; exact ⟨ms, ck, hb.trans h1, h0, RepL.ext h _ _ h2, RepL.ext h _ _ h3⟩
  | mp ka k ea e es =>
    obtain ⟨ms, ck, h1, h0, h2, h3⟩ := r
    refine ⟨ms, ck, hb.trans h1, h0, h2, fun i x hi => ?_⟩
    obtain ⟨m, k1, k2, k3⟩ := h3 i x hi
    exact ⟨m, k1, vOf_mono (fun vs => Rp.mono h.pr h.at' k _ vs) k2, vOf_mono (fun vs => Rp.mono h.pr h.at' e _ vs) k3⟩
  | loop fr N ps as bo s pe =>
    obtain ⟨r0, h1, h2, h3, h4, h5, h6, h7, h8⟩ := r
    exact ⟨r0, hb.trans h1, h2, h3, h4, h5, h6, h7, RepF.ext h h8⟩

omit [Fam] in
theorem Silent.refl (w : World) : Silent w w := ⟨rfl, rfl, rfl, Nat.le_refl _, fun _ _ => rfl⟩
omit [Fam] in
theorem Silent.trans {a b c : World} (h : Silent a b) (k : Silent b c) : Silent a c :=
  ⟨k.os.trans h.os, k.tape.trans h.tape, k.output.trans h.output, Nat.le_trans h.size k.size, fun i hi => (k.kept i (Nat.lt_of_lt_of_le hi h.size)).trans (h.kept i hi)⟩
omit [Fam] in
theorem Silent.drew (w : World) : Silent w { w with drawn := w.drawn + 1 } := ⟨rfl, rfl, rfl, Nat.le_refl _, fun _ _ => rfl⟩
omit [Fam] in
theorem Silent.shape {w w' : World} (s : Silent w w') (b : Nat) (cs : Array Value) (t : TypeId) (fr : Nat × Nat) (h : w.heap[b]? = some (Obj.cells cs t fr)) :
    ∃ cs' : Array Value, w'.heap[b]? = some (Obj.cells cs' t fr) ∧ cs'.size = cs.size :=
  ⟨cs, (s.kept b (lt_of_heap h)).trans h, rfl⟩
omit [Fam] in
theorem GX.refl {g : G} {w w' : World} (h : ∀ b, g.pr b → b < w'.heap.size) : GX g w g w' := ⟨rfl, rfl, rfl, fun _ h => h, fun _ h => .inl h, h⟩
omit [Fam] in
theorem GX.trans {a b c : G} {w w' w'' : World} (h : GX a w b w') (s : Silent w w') (k : GX b w' c w'') : GX a w c w'' :=
  ⟨k.rho.trans h.rho, k.base.trans h.base, k.sub.trans h.sub, fun x hx => k.pr x (h.pr x hx), fun x hx => by
    rcases k.new x hx with h' | h'
    · exact h.new x h'
    · exact .inr (Nat.le_trans s.size h'), k.lt⟩
omit [Fam] in
theorem GX.ext {g g' : G} {w w' : World} (h : GX g w g' w') (s : Silent w w') (hl : ∀ b, g.pr b → b < w.heap.size) : Ext g w g' w' :=
  ⟨fun i b hb => by rw [h.rho]; exact hb, h.pr, fun b hb => s.kept b (hl b hb), fun i b _ => by rw [h.base], s.shape⟩
theorem Rel.sub_lt {g : G} {hp : Hp} {w : World} (h : Rel g hp w) {i : Nat} {z : Bool} {o : DO} (hi : look hp i = some (z, o)) {k c : Nat} (hk : subOf o k) (hc : g.sub i k = some c) : c < w.heap.size := (h.sub i z o k c hi hk hc).1
/-- A silent step: the memory is as it was. -/
theorem Rel.gx {g g' : G} {hp : Hp} {w w' : World} (h : Rel g hp w) (s : Silent w w') (x : GX g w g' w') : Rel g' hp w' := by
  have e := x.ext s h.prl
  refine ⟨fun i z o hi => ?_, h.rws, fun i j oi oj b hi hj hbi hbj => by rw [x.rho] at hbi hbj; exact h.inj i j oi oj b hi hj hbi hbj, ?_, x.lt⟩
  · rcases h.obj i z o hi with ⟨b, h1, h2, h3⟩ | ⟨h1, h2⟩
    · refine .inl ⟨b, by rw [x.rho]; exact h1, ?_, ?_⟩
      · rw [x.base]
        exact ORep.ext e (s.kept b h2.lt) (fun k hk => ⟨by rw [x.sub], fun c hc => s.kept c (h.sub_lt hi hk hc)⟩) h2
      · constructor
        · intro hb
          rcases x.new b hb with hb | hb
          · exact h3.1 hb
          · have := h2.lt; omega
        · exact fun hz => x.pr b (h3.2 hz)
    · exact .inr ⟨h1, by rw [x.rho]; exact h2⟩
  · intro i z o k b hi hk hb
    rw [x.sub] at hb
    obtain ⟨h1, h2, h3, h4⟩ := h.sub i z o k b hi hk hb
    refine ⟨Nat.lt_of_lt_of_le h1 s.size, fun hb' => ?_, fun j oj hj => by rw [x.rho]; exact h3 j oj hj, fun j z' oj k' hj hk' hb' => by rw [x.sub] at hb'; exact h4 j z' oj k' hj hk' hb'⟩
    rcases x.new b hb' with h | h
    · exact h2 h
    · omega
theorem Rel.silent {g : G} {hp : Hp} {w w' : World} (h : Rel g hp w) (s : Silent w w') : Rel g hp w' :=
  h.gx s (GX.refl fun b hb => Nat.lt_of_lt_of_le (h.prl b hb) s.size)
theorem Rel.extS {g : G} {hp : Hp} {w w' : World} (h : Rel g hp w) (s : Silent w w') : Ext g w g w' :=
  ⟨fun _ _ x => x, fun _ x => x, fun b x => s.kept b (h.prl b x), fun _ _ _ => rfl, s.shape⟩
/-- A thing that is there has a block. -/
theorem Rel.there {g : G} {hp : Hp} {w : World} (h : Rel g hp w) {i : Nat} {z : Bool} {o : DO} (hi : look hp i = some (z, o)) (hn : ¬ noneO o) :
    ∃ b, g.ρ i = some b ∧ ORep g w i o b (g.base i) ∧ (g.pr b ↔ z = true) := by
  rcases h.obj i z o hi with h1 | h1
  · exact h1
  · exact (hn h1.1).elim
theorem Rel.at {g : G} {hp : Hp} {w : World} (h : Rel g hp w) {i b : Nat} {z : Bool} {o : DO} (hi : look hp i = some (z, o)) (hb : g.ρ i = some b) :
    ORep g w i o b (g.base i) ∧ (g.pr b ↔ z = true) := by
  rcases h.obj i z o hi with ⟨b', h1, h2⟩ | ⟨_, h1⟩
  · rw [hb] at h1; obtain rfl := Option.some.inj h1; exact h2
  · rw [hb] at h1; simp at h1
end Go.DF
