import Derived.Test.YtfacddeaobogjaaF4
set_option linter.unusedVariables false
set_option linter.unusedSimpArgs false
set_option linter.unnecessarySimpa false
/- The engine, part 5: operations on values, whole. -/
namespace Go.DF
universe u v
set_option linter.unusedSimpArgs false
set_option linter.unusedVariables false
variable [Fam]

omit [Fam] in
theorem gives_eq {P : Program} {t : TypeId} {w : World} {vx vy : Value} {r : Bool} (h : (Op.equal t vx vy).run P w = .ok r w)
    (h1 : ∀ op, op = .eql ∨ op = .neq → binOp op t vx vy = (match op with | .eql => (do pure (.bool (← Op.equal t vx vy))) | _ => (do pure (.bool (!(← Op.equal t vx vy)))))) :
    (binOp .eql t vx vy).run P w = .ok (.bool r) w ∧ (binOp .neq t vx vy).run P w = .ok (.bool (!r)) w := by
  constructor
  · rw [h1 _ (.inl rfl)]; simp [h]
  · rw [h1 _ (.inr rfl)]; simp [h]

theorem eqO_ok {P : Program} {g : G} {w : World} {t : TypeId} {x y : DV} {vx vy : Value} {r : DB} (h : eqO P t x y = some r) (hx : Rep g w x vx) (hy : Rep g w y vy) :
    ((binOp .eql t vx vy).run P w = .ok (.bool r.v) w ∧ (binOp .neq t vx vy).run P w = .ok (.bool (!r.v)) w) ∧ ∀ op a b, (eqGuard op t a b vx vy).run P w = .ok () w := by
  unfold eqO at h
  split at h
  · rename_i xs ys
    split at h
    · rename_i hg
      have hq := eqT_ok (P := P) (g := g) (w := w) 8 9992 _ _ _ _ _ _ h hx hy w
      simp only [Rep] at hx hy
      obtain ⟨us, rfl, _⟩ := hx
      obtain ⟨vs, rfl, _⟩ := hy
      refine ⟨⟨?_, ?_⟩, ?_⟩
      · rw [run_eql_struct, hq]; rfl
      · rw [run_neq_struct, hq]; rfl
      · intro op a b
        exact run_eqGuard_agg w op t a b us.toArray vs.toArray hg
    · simp at h
  · simp at h
  · simp at h
  · have hq := equal_of_eqV (P := P) (w := w) h hx hy
    unfold eqV at h
    split at h
    case h_11 =>
      split at h
      · simp only [Rep] at hy; subst hy
        obtain ⟨a, rfl, _⟩ := isNilD_ok h hx
        exact ⟨gives_eq hq (by rintro op (rfl | rfl) <;> rfl), by intro op a b; cases op <;> rfl⟩
      · simp at h
    case h_12 =>
      split at h
      · simp only [Rep] at hx; subst hx
        obtain ⟨a, rfl, _⟩ := isNilD_ok h hy
        exact ⟨gives_eq hq (by rintro op (rfl | rfl) <;> rfl), by intro op a b; cases op <;> rfl⟩
      · simp at h
    case h_13 => simp at h
    all_goals simp only [Rep] at hx hy
    case h_2 =>
      split at h
      · rename_i hu hk
        obtain rfl := Option.some.inj h; subst hx hy
        obtain rfl := of_decide_eq_true hk
        refine ⟨⟨?_, ?_⟩, ?_⟩
        · rw [binOp_eql]; simp [twoB_v]
        · rw [binOp_neq]; simp [twoB_v, bne]
        · intro op a b; cases op <;> rfl
      · simp at h
    case h_3 =>
      split at h
      · rename_i hu
        obtain rfl := Option.some.inj h; subst hx hy
        refine ⟨⟨?_, ?_⟩, ?_⟩
        · simp [binOp, Op.stringOp, eqS_v]
        · simp [binOp, Op.stringOp, eqS_v]
        · intro op a b; cases op <;> rfl
      · simp at h
    all_goals first
      | (split at h
         · rcases hx with ⟨_, _, hx⟩ | ⟨_, _, _, _, _, rfl, _⟩
           · simp [DN.v] at hx
           · subst hy; exact ⟨gives_eq hq (by rintro op (rfl | rfl) <;> rfl), by intro op a b; cases op <;> rfl⟩
         · simp at h)
      | (obtain ⟨_, rfl, _⟩ := hx; subst hy; exact ⟨gives_eq hq (by rintro op (rfl | rfl) <;> rfl), by intro op a b; cases op <;> rfl⟩)
      | (obtain ⟨_, _, rfl⟩ := hx; subst hy; exact ⟨gives_eq hq (by rintro op (rfl | rfl) <;> rfl), by intro op a b; cases op <;> rfl⟩)
      | (obtain ⟨_, _, rfl⟩ := hy; subst hx; exact ⟨gives_eq hq (by rintro op (rfl | rfl) <;> rfl), by intro op a b; cases op <;> rfl⟩)
      | (obtain ⟨⟨_, _, _, rfl⟩, _⟩ := hx; subst hy; exact ⟨gives_eq hq (by rintro op (rfl | rfl) <;> rfl), by intro op a b; cases op <;> rfl⟩)
      | (subst hx hy; exact ⟨gives_eq hq (by rintro op (rfl | rfl) <;> rfl), by intro op a b; cases op <;> rfl⟩)
      | simp at h

omit [Fam] in
theorem catS_v (a b : DS) : (catS a b).v = a.v ++ b.v := by cases a <;> cases b <;> rfl
theorem binV_ok {P : Program} {g : G} {w : World} {op : BinOp} {t : TypeId} {a b : Operand} {x y : DV} {vx vy : Value} {d : DV} (h : (binV P op t x y).Path d) (hx : Rep g w x vx) (hy : Rep g w y vy) :
    Gives P g w (do eqGuard op t a b vx vy; binOp op t vx vy) d := by
  have lift : (eqGuard op t a b vx vy).run P w = .ok () w → Gives P g w (binOp op t vx vy) d → Gives P g w (do eqGuard op t a b vx vy; binOp op t vx vy) d := by
    intro hg ⟨v, hv, hr⟩
    exact ⟨v, by simp [hg, hv], hr⟩
  unfold binV at h
  split at h
  · rename_i k m k' n
    simp only [Rep] at hx hy
    subst hx hy
    refine lift (by cases op <;> rfl) ?_
    have sh : ∀ op' r, op' = .shl ∧ r = shlI k m.v n.v ∨ op' = .shr ∧ r = shrI k m.v n.v → (need1 n (decide (0 ≤ n.v)) (0 ≤ n.v) (.leaf (.int k (two m n r)))).Path d → Gives P g w (binOp op' t (.int k m.v) (.int k' n.v)) d := by
      intro op' r ho h
      have := shift_ok (P := P) (g := g) (w := w) (yk := k') ho h
      rcases ho with ⟨rfl, _⟩ | ⟨rfl, _⟩
      · rw [binOp_shl]; exact this
      · rw [binOp_shr]; exact this
    split at h
    · exact sh _ _ (.inl ⟨rfl, rfl⟩) h
    · exact sh _ _ (.inl ⟨rfl, rfl⟩) h
    · exact sh _ _ (.inr ⟨rfl, rfl⟩) h
    · rename_i hk _ _
      obtain rfl := of_decide_eq_true hk
      exact binInt_ok h
    · exact h.elim
  · rename_i p q
    simp only [Rep] at hx hy
    subst hx hy
    have s1 : ∀ op, binOp op t (.string p.v) (.string q.v) = Op.stringOp op p.v q.v := fun op => by cases op <;> rfl
    refine lift (by cases op <;> rfl) ?_
    rw [s1]
    split at h
    · obtain ⟨h0, h⟩ := h
      obtain rfl : d = _ := h
      refine ⟨.string (p.v ++ q.v), ?_, by simp [Rep, catS_v]⟩
      have h1 : ¬ (((p.v.size + q.v.size : Nat) : Int) > IntKind.i64.max) := by
        have : IntKind.i64.max = 9223372036854775807 := by decide
        rw [this]; omega
      simp only [Op.stringOp, if_neg h1]; rfl
    · obtain rfl : d = _ := h; exact ⟨_, rfl, by simp [Rep, DB.v]⟩
    · obtain rfl : d = _ := h; exact ⟨_, rfl, by simp [Rep, DB.v]⟩
    · obtain rfl : d = _ := h; exact ⟨_, rfl, by simp [Rep, DB.v]⟩
    · obtain rfl : d = _ := h; exact ⟨_, rfl, by simp [Rep, DB.v]⟩
    · obtain rfl : d = _ := h; exact ⟨_, rfl, by simp [Rep, eqS_v]⟩
    · obtain rfl : d = _ := h; exact ⟨_, rfl, by simp [Rep, eqS_v, notB_v]⟩
    · exact h.elim
  · rename_i c x c' y
    obtain ⟨a, rfl, ha⟩ := isNilD_ok (g := g) (w := w) (x := .per (.pt c) x) (r := .sym (Option.isNone x)) rfl hx
    obtain ⟨b, rfl, hb⟩ := isNilD_ok (g := g) (w := w) (x := .per (.pt c') y) (r := .sym (Option.isNone y)) rfl hy
    simp only [DB.v] at ha hb
    have key : (∃ e, underD P t = some (.pointer e)) → (Option.isNone x = true ∨ Option.isNone y = true) → (Op.equal t (.pointer a) (.pointer b)).run P w = .ok (Option.isNone x && Option.isNone y) w := by
      rintro ⟨e, hu⟩ hxy
      rw [ha, hb] at hxy ⊢
      have gen : ∀ n, (Op.equalIn (n + 1) t (.pointer a) (.pointer b)).run P w = .ok (Option.isNone a && Option.isNone b) w := by
        intro n
        cases a <;> cases b <;> simp [Op.equalIn, run_under hu] at hxy ⊢
      exact gen 9999
    split at h
    · rename_i e hu
      obtain ⟨h0, h⟩ := h
      obtain rfl : d = _ := h
      have hq := key ⟨_, hu⟩ h0
      refine lift (by rfl) ⟨_, (gives_eq hq (by rintro op (rfl | rfl) <;> rfl)).1, by simp [Rep, DB.v]⟩
    · rename_i e hu
      obtain ⟨h0, h⟩ := h
      obtain rfl : d = _ := h
      have hq := key ⟨_, hu⟩ h0
      refine lift (by rfl) ⟨_, (gives_eq hq (by rintro op (rfl | rfl) <;> rfl)).2, by simp [Rep, DB.v]⟩
    · exact h.elim
  · split at h
    · split at h
      · rename_i r hr
        obtain rfl : d = _ := h
        obtain ⟨⟨h1, _⟩, h2⟩ := eqO_ok hr hx hy
        exact lift (h2 _ _ _) ⟨_, h1, by simp [Rep]⟩
      · exact h.elim
    · split at h
      · rename_i r hr
        obtain rfl : d = _ := h
        obtain ⟨⟨_, h1⟩, h2⟩ := eqO_ok hr hx hy
        exact lift (h2 _ _ _) ⟨_, h1, by simp [Rep, notB_v]⟩
      · exact h.elim
    · exact h.elim

theorem unV_ok {P : Program} {g : G} {w : World} {op : UnOp} {x : DV} {vx : Value} {d : DV} (h : (unV op x).Path d) (hx : Rep g w x vx) : Gives P g w (Op.unary op vx) d := by
  unfold unV at h
  split at h <;> (try simp only [Rep] at hx)
  · subst hx; obtain rfl : d = _ := h; exact ⟨_, rfl, by simp [Rep, notB_v]⟩
  · subst hx
    rename_i k n
    exact arith_ok (P := P) (g := g) (w := w) h
  · subst hx
    rename_i k n
    obtain rfl : d = _ := h
    exact ⟨.int k (bitsI .xor k (if k.signed then -1 else k.max) n.v), bitsI_eq .xor k (if k.signed then -1 else k.max) n.v (by simp) P w, by simp [Rep, two_v]⟩
  · exact h.elim

theorem convV_ok {P : Program} {g : G} {w : World} {s t : TypeId} {x : DV} {vx : Value} {d : DV} (h : (convV P s t x).Path d) (hx : Rep g w x vx) : Gives P g w (convert s t vx) d := by
  unfold convV at h
  split at h <;> (try simp only [Rep] at hx)
  · rename_i ds k k' n hs ht
    subst hx
    obtain rfl : d = _ := h
    refine ⟨.int k (k.wrap n.v), ?_, by cases n <;> simp [Rep, DI.v]⟩
    have := run_convert_int (P := P) w s t k' n.v
    simp only [convert, Sem.run_bind, run_under hs, run_under ht, Result.andThen_ok, Conv.intToInt]
    cases ds <;> rfl
  · rename_i s' hs ht
    subst hx
    obtain rfl : d = _ := h
    refine ⟨.string s'.v, ?_, by simp [Rep]⟩
    simp [convert, run_under hs, run_under ht]
  · exact h.elim

omit [Fam] in
theorem run_getMap {P : Program} {w : World} {b : Nat} {ms : List MapEntry} {ck : Nat} (h : w.heap[b]? = some (.map ms.toArray ck)) : (getObj b).run P w = .ok (.map ms.toArray ck) w := by
  simp [getObj, Sem.run, h]
theorem lenV_ok {P : Program} {g : G} {hp : Hp} {w : World} (hR : Rel g hp w) {t : TypeId} {x : DV} {vx : Value} {d : DV} {ts : Array TypeId} {vs : Array Value} {ty : TypeId} (h : (lenV P hp t x).Path d) (hx : Rep g w x vx)
    (ht : ts[0]? = some t) (hv : vs[0]? = some vx) : Gives P g w (Builtin.len_ ts ty vs) d := by
  have mapc : ∀ {k e : TypeId}, underD P t = some (.map k e) → ∀ {b : Nat} {ms : List MapEntry} {ck : Nat}, vx = .map (some b) → w.heap[b]? = some (.map ms.toArray ck) → (Builtin.len_ ts ty vs).run P w = .ok (.int .i64 ms.length) w := by
    intro k e hu b ms ck e1 e2
    simp [Builtin.len_, ht, hv, run_under hu, goInt, e1, run_getMap e2]
  unfold lenV at h
  split at h
  · rename_i s hu
    simp only [Rep] at hx
    subst hx
    obtain rfl : d = _ := h
    exact ⟨.int .i64 s.v.size, by simp [Builtin.len_, ht, hv, run_under hu, goInt], by cases s <;> simp [Rep, DI.v, DS.v]⟩
  · rename_i e p n hu
    simp only [Rep] at hx
    obtain rfl : d = _ := h
    rcases hx with ⟨q0, rfl, hn⟩ | ⟨b, o, c, _, _, rfl, _⟩
    · exact ⟨.int .i64 0, by simp [Builtin.len_, ht, hv, run_under hu, goInt], by cases n <;> simp_all [Rep, DI.v, DN.v]⟩
    · exact ⟨.int .i64 n.v, by simp [Builtin.len_, ht, hv, run_under hu, goInt], by cases n <;> simp [Rep, DI.v, DN.v]⟩
  · rename_i e hu
    simp only [Rep] at hx
    subst hx
    obtain rfl : d = _ := h
    exact ⟨.int .i64 0, by simp [Builtin.len_, ht, hv, run_under hu, goInt], by simp [Rep, DI.v]⟩
  · rename_i e c l hu
    obtain rfl : d = _ := h
    simp only [Rep] at hx
    obtain ⟨v', hv', hx⟩ := hx
    simp only [List.cons.injEq, and_true] at hv'
    subst hv'
    rcases hx with ⟨_, rfl, rfl⟩ | ⟨b, o, cap, cs, t', fr, rfl, _⟩
    · exact ⟨.int .i64 0, by simp [Builtin.len_, ht, hv, run_under hu, goInt], by simp [Rep, DI.v]⟩
    · exact ⟨.int .i64 (List.length l), by simp [Builtin.len_, ht, hv, run_under hu, goInt], by simp [Rep, DI.v]⟩
  · rename_i e c l hu
    obtain rfl : d = _ := h
    simp only [Rep] at hx
    replace hx := hx.2
    obtain ⟨v', hv', hx⟩ := hx
    simp only [List.cons.injEq, and_true] at hv'
    subst hv'
    rcases hx with ⟨_, rfl, rfl⟩ | ⟨b, o, cap, cs, t', fr, rfl, _⟩
    · exact ⟨.int .i64 0, by simp [Builtin.len_, ht, hv, run_under hu, goInt], by simp [Rep, DI.v]⟩
    · exact ⟨.int .i64 (List.length l), by simp [Builtin.len_, ht, hv, run_under hu, goInt], by simp [Rep, DI.v]⟩
  · rename_i k e hu
    simp only [Rep] at hx
    subst hx
    obtain rfl : d = _ := h
    exact ⟨.int .i64 0, by simp [Builtin.len_, ht, hv, run_under hu, goInt], by simp [Rep, DI.v]⟩
  · rename_i k e ka kc ea ec l hu
    obtain rfl : d = _ := h
    simp only [Rep] at hx
    obtain ⟨v', hv', hx⟩ := hx
    simp only [List.cons.injEq, and_true] at hv'
    subst hv'
    rcases hx with ⟨rfl, rfl⟩ | ⟨b, ms, ck, rfl, _, h1, _, h2, _⟩
    · exact ⟨.int .i64 0, by simp [Builtin.len_, ht, hv, run_under hu, goInt], by simp [Rep, DI.v]⟩
    · exact ⟨.int .i64 ms.length, mapc hu rfl h1, by simp [Rep, DI.v, h2]⟩
  · rename_i k e i hu
    simp only [Rep] at hx
    obtain ⟨b, hb, rfl⟩ := hx
    split at h
    · rename_i z ka kc ea ec l hl
      obtain rfl : d = _ := h
      obtain ⟨⟨ms, ck, h1, _, h2, _⟩, _⟩ := hR.at hl hb
      exact ⟨.int .i64 ms.length, mapc hu rfl h1, by simp [Rep, DI.v, h2]⟩
    · rename_i z es hl
      obtain rfl : d = _ := h
      obtain ⟨⟨ms, ck, h1, _, h2, _⟩, _⟩ := hR.at hl hb
      have := h2.length
      simp only [List.length_map] at this
      exact ⟨.int .i64 ms.length, mapc hu rfl h1, by simp [Rep, DI.v, this]⟩
    · exact h.elim
  · rename_i _ n _ hu
    obtain rfl : d = _ := h
    exact ⟨.int .i64 n, by simp [Builtin.len_, ht, hv, run_under hu, goInt], by simp [Rep, DI.v]⟩
  · exact h.elim

omit [Fam] in
theorem inIdx_ok {α : Type u} {i : DI} {n : DN} {t : T α} {x : α} (h : (inIdx i n t).Path x) : (0 ≤ i.v ∧ i.v < n.v) ∧ t.Path x := by
  unfold inIdx at h
  split at h
  · split at h
    · rename_i h0 h1
      exact ⟨⟨of_decide_eq_true h0, of_decide_eq_true h1⟩, h⟩
    · exact h.elim
  · exact h

omit [Fam] in
theorem natI_v (i : DI) : (natI i).v = i.v.toNat := by cases i <;> rfl
omit [Fam] in
theorem addN_v (a b : DN) : (addN a b).v = a.v + b.v := by
  unfold addN
  split <;> simp [DN.v]

omit [Fam] in
theorem addr_add' (b off n : Nat) : Addr.add ⟨b, off, none⟩ n = ⟨b, off + n, none⟩ := addr_add b off n

omit [Fam] in
theorem ct2_size (c : CT) : ∀ n, (ct2 c n).size = (n + 1) * c.size
  | 0 => by simp [ct2]
  | n + 1 => by simp only [ct2, CT.size, ct2_size c n]; rw [Nat.add_mul (n + 1) 1]; omega
theorem dat2_ok {w : World} {S : Nat → Prop} {c : CT} {l : List c.D} {cs : List Value} {o : Nat} (h : ∀ (i : Nat) (a : c.D), l[i]? = some a → Rp w S c a ((cs.drop (o + i * c.size)).take c.size)) :
    ∀ (n i : Nat), i + (n + 1) ≤ l.length → Rp w S (ct2 c n) (dat2 c l i n) ((cs.drop (o + i * c.size)).take ((n + 1) * c.size))
  | 0, i, hle => by
    have := h i _ (getD_get (by omega) c.dflt)
    simpa [ct2, dat2] using this
  | n + 1, i, hle => by
    have e : (n + 1 + 1) * c.size = c.size + (n + 1) * c.size := by rw [Nat.add_mul (n + 1) 1]; omega
    have e2 : o + i * c.size + c.size = o + (i + 1) * c.size := by rw [Nat.add_mul]; omega
    rw [e, segs, e2]
    exact ⟨_, _, rfl, h i _ (getD_get (by omega) c.dflt), dat2_ok h n (i + 1) (by omega)⟩
theorem arrPtrV_ok {P : Program} {g : G} {w : World} {t : TypeId} {x : DV} {vx : Value} {d : DV} (h : (arrPtrV P t x).Path d) (hx : Rep g w x vx) : Gives P g w (Instr.arrayAt t vx) d := by
  unfold arrPtrV at h
  split at h
  · rename_i n e c l hu
    split at h
    · rename_i s hs
      split at h
      · obtain ⟨hle, h⟩ := h
        obtain rfl : d = _ := h
        simp only [Rep, Rp] at hx
        obtain ⟨v', hv', hx⟩ := hx
        simp only [List.cons.injEq, and_true] at hv'
        subst hv'
        rcases hx with ⟨_, rfl, rfl⟩ | ⟨b, o, cap, cs, t', fr, rfl, h1, h2, h3, h4, h5⟩
        · simp at hle
        · refine ⟨.pointer (some ⟨b, o, none⟩), ?_, ?_⟩
          · have hle : ¬ List.length l < n + 1 := by omega
            simp [Instr.arrayAt, run_under hu, hle]
          · simp only [Rep]
            refine ⟨b, o, cs, t', fr, rfl, h2, h3, ?_, ?_⟩
            · rw [ct2_size]
              have : (n + 1) * c.size ≤ cap * c.size := Nat.mul_le_mul_right _ (by omega)
              omega
            · have := dat2_ok (o := o) h5 n 0 (by omega)
              rw [ct2_size]
              simpa using this
      · exact h.elim
    · exact h.elim
  · rename_i n e p k hu
    have key : n + 1 ≤ k.v → d = .ptr p → Gives P g w (Instr.arrayAt t vx) d := by
      intro hle hd
      subst hd
      simp only [Rep] at hx
      rcases hx with ⟨_, hx⟩ | ⟨b, o, cap, h1', h2', rfl, h4', _⟩
      · omega
      · have ho : o = g.off p := by rcases h4' with h | h; omega; exact h
        subst ho
        refine ⟨.pointer (some ⟨b, g.off p, none⟩), ?_, by simp only [Rep]; exact ⟨b, h1', rfl⟩⟩
        have hle : ¬ k.v < n + 1 := by omega
        simp [Instr.arrayAt, run_under hu, hle]
    split at h
    · split at h
      · rename_i hb
        exact key (Nat.le_of_ble_eq_true hb) h
      · exact h.elim
    · exact key h.1 h.2
  · exact h.elim

theorem indexAddrV_ok {P : Program} {g : G} {w : World} {t : TypeId} {x i : DV} {vx vi : Value} {d : DV} (h : (indexAddrV P t x i).Path d) (hx : Rep g w x vx) (hi : Rep g w i vi) :
    Gives P g w (Instr.indexAt t vx vi) d := by
  unfold indexAddrV at h
  split at h
  · rename_i k i
    simp only [Rep] at hi
    subst hi
    split at h <;> (try simp only [Rep] at hx)
    · rename_i e p n hu
      split at h
      · rename_i s hs
        split at h
        · rename_i hsz hfld
          obtain ⟨⟨h0, h1⟩, h⟩ := inIdx_ok h
          obtain rfl : d = _ := h
          obtain ⟨b, o, cap, hb, hcap, rfl, ho, _⟩ : ∃ b o cap, g.ρ p.id = some b ∧ n.v ≤ cap ∧ vx = .slice (some ⟨b, o, none⟩) n.v cap ∧ (cap = 0 ∨ o = g.off p) ∧ True := by
            rcases hx with ⟨_, hx⟩ | ⟨b, o, cap, h1', h2', h3', h4', _⟩
            · omega
            · exact ⟨b, o, cap, h1', h2', h3', h4', trivial⟩
          obtain rfl : o = g.off p := by
            rcases ho with ho | ho
            · omega
            · exact ho
          have hsz := Nat.eq_of_beq_eq_true hsz
          have hfld := Nat.eq_of_beq_eq_true hfld
          refine ⟨.pointer (some ⟨b, g.base p.id + ((p.idx.v + i.v.toNat) * p.sz + p.fld), none⟩), ?_, ?_⟩
          · have : g.off p + i.v.toNat * s = g.base p.id + ((p.idx.v + i.v.toNat) * p.sz + p.fld) := by simp only [G.off, DP.off, hsz, hfld]; rw [Nat.add_mul]; omega
            simp [Instr.indexAt, asIntOf, run_under hu, run_sizeD hs, h0, h1, addr_add, this]
          · simp only [Rep]
            refine ⟨b, hb, ?_⟩
            simp [G.off, DP.off, addN_v, natI_v]
        · exact h.elim
      · exact h.elim
    · rename_i e c l hu
      obtain ⟨v', hv', hx⟩ := hx
      simp only [List.cons.injEq, and_true] at hv'
      subst hv'
      split at h
      · rename_i s hs
        split at h
        · rename_i hsz
          have hsz := Nat.eq_of_beq_eq_true hsz
          obtain ⟨⟨h0, h1⟩, h⟩ := inIdx_ok h
          obtain rfl : d = _ := h
          rw [natI_v]
          simp only [DN.v] at h1
          rcases hx with ⟨_, _, rfl⟩ | ⟨b, o, cap, cs, t', fr, rfl, k1, k2, k3, k4, k5⟩
          · simp at h1; omega
          · have hlt : i.v.toNat < List.length l := by omega
            refine ⟨.pointer (some ⟨b, o + i.v.toNat * c.size, none⟩), ?_, ?_⟩
            · simp [Instr.indexAt, asIntOf, run_under hu, run_sizeD hs, h0, h1, addr_add, hsz]
            · simp only [Rep]
              have hle : i.v.toNat * c.size + c.size ≤ cap * c.size := by
                have : (i.v.toNat + 1) * c.size ≤ cap * c.size := Nat.mul_le_mul_right _ (by omega)
                rw [Nat.add_mul] at this; omega
              exact ⟨b, o + i.v.toNat * c.size, cs, t', fr, by simp, k2, k3, by omega, k5 _ _ (getD_get hlt _)⟩
        · exact h.elim
      · exact h.elim
    · rename_i len e p hu
      obtain ⟨b, hb, rfl⟩ := hx
      split at h
      · rename_i s j hs hj
        split at h
        · rename_i hz
          have hz := Nat.eq_of_beq_eq_true hz
          obtain ⟨⟨h0, h1⟩, h⟩ := inIdx_ok h
          obtain rfl : d = _ := h
          have ho : g.off p = g.base p.id := by
            have : p.off = 0 := by simp only [DP.off, hj, DN.v]; exact hz
            simp only [G.off, this, Nat.add_zero]
          simp only [DN.v] at h1
          refine ⟨.pointer (some ⟨b, g.base p.id + i.v.toNat * s, none⟩), ?_, ?_⟩
          · simp [Instr.indexAt, asIntOf, run_under hu, run_sizeD hs, h0, h1, addr_add, Instr.sureAddr, ho]
          · simp only [Rep]
            exact ⟨b, hb, by simp [G.off, DP.off, natI_v]⟩
        · split at h
          · rename_i i
            obtain ⟨⟨h0, h1⟩, h⟩ := inIdx_ok h
            obtain rfl : d = _ := h
            simp only [DN.v, DI.v] at h0 h1
            refine ⟨.pointer (some ⟨b, g.base p.id + (j * p.sz + p.fld + i.toNat * s), none⟩), ?_, ?_⟩
            · simp [Instr.indexAt, asIntOf, run_under hu, run_sizeD hs, h0, h1, addr_add, Instr.sureAddr, DI.v, G.off, DP.off, hj, DN.v, Nat.add_assoc]
            · simp only [Rep]
              exact ⟨b, hb, by simp [G.off, DP.off, DN.v]⟩
          · exact h.elim
      · exact h.elim
    · rename_i len e c a o hu
      obtain ⟨b, o', cs, t', fr, rfl, k1, k2, k3, k4⟩ := hx
      split at h
      · rename_i s i hs
        obtain ⟨⟨h0, h1⟩, h⟩ := inIdx_ok h
        obtain rfl : d = _ := h
        simp only [DN.v, DI.v] at h0 h1
        refine ⟨.pointer (some ⟨b, o' + (o + i.toNat * s), none⟩), ?_, ?_⟩
        · simp [Instr.indexAt, asIntOf, run_under hu, run_sizeD hs, h0, h1, addr_add, Instr.sureAddr, DI.v, Nat.add_assoc]
        · simp only [Rep]
          exact ⟨b, o', cs, t', fr, rfl, k1, k2, k3, k4⟩
      · exact h.elim
    · exact h.elim
  · exact h.elim

theorem indexV_ok {P : Program} {g : G} {w : World} {t : TypeId} {x i : DV} {vx vi : Value} {d : DV} (h : (indexV P t x i).Path d) (hx : Rep g w x vx) (hi : Rep g w i vi) :
    Gives P g w (Instr.index t vx vi) d := by
  unfold indexV at h
  split at h
  · rename_i k i
    simp only [Rep] at hi
    subst hi
    split at h <;> (try simp only [Rep] at hx)
    · rename_i len e cs hu
      obtain ⟨vs, rfl, hc, h1c⟩ := hx
      split at h
      · rename_i s i hs
        obtain ⟨⟨h0, h1⟩, h⟩ := inIdx_ok h
        simp only [DN.v, DI.v] at h0 h1
        obtain ⟨v, hv, hr⟩ := partO_ok hc h1c (T.path_opt h)
        exact ⟨v, by simp [Instr.index, asIntOf, run_under hu, run_sizeD hs, h0, h1, hv, DI.v], hr⟩
      · exact h.elim
    · rename_i s hu
      subst hx
      obtain ⟨⟨h0, h1⟩, h⟩ := inIdx_ok h
      obtain rfl : d = _ := h
      have hsz : i.v.toNat < s.v.size := by
        cases s <;> simp only [DN.v, DS.v] at h1 ⊢ <;> omega
      have hg : s.v[i.v.toNat]? = some s.v[i.v.toNat] := by simp [hsz]
      refine ⟨.int .u8 s.v[i.v.toNat].toNat, ?_, ?_⟩
      · simp [Instr.index, asIntOf, run_under hu, h0, hsz]
      · have e : (s.v.data.toList.getD i.v.toNat 0) = s.v[i.v.toNat] := by
          rw [List.getD_eq_getElem?_getD, List.getElem?_eq_getElem (by simpa using hsz)]; rfl
        cases i <;> cases s <;> simp_all [Rep, DI.v, DS.v]
    · exact h.elim
  · exact h.elim

end Go.DF
