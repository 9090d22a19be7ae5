import Derived.Test.YtnoccknoaihjlaaEng3
set_option linter.unusedVariables false
set_option linter.unusedSimpArgs false
set_option linter.unnecessarySimpa false
/- The engine, part 4: why the evaluator of one silent operation is right. -/
namespace Go.DE
universe u v

theorem gives_eq {P : Program} {t : TypeId} {w : World} {vx vy : Value} {r : Bool} (h : (Op.equal t vx vy).run P w = .ok r w)
    (h1 : ∀ op, op = .eql ∨ op = .neq → binOp op t vx vy = (match op with | .eql => (do pure (.bool (← Op.equal t vx vy))) | _ => (do pure (.bool (!(← Op.equal t vx vy)))))) :
    (binOp .eql t vx vy).run P w = .ok (.bool r) w ∧ (binOp .neq t vx vy).run P w = .ok (.bool (!r)) w := by
  constructor
  · rw [h1 _ (.inl rfl)]; simp [h]
  · rw [h1 _ (.inr rfl)]; simp [h]

theorem eqO_ok {P : Program} {g : G} {w : World} {t : TypeId} {x y : DV} {vx vy : Value} {r : DB} (h : eqO P t x y = some r) (hx : Rep g w x vx) (hy : Rep g w y vy) :
    ((binOp .eql t vx vy).run P w = .ok (.bool r.v) w ∧ (binOp .neq t vx vy).run P w = .ok (.bool (!r.v)) w) ∧ ∀ op a b, (eqGuard op t a b vx vy).run P w = .ok () w := by
  unfold eqO at h
  split at h
  · rename_i xs ys
    split at h
    · rename_i hg
      have hq := eqT_ok (P := P) (g := g) (w := w) 8 9992 _ _ _ _ _ _ h hx hy w
      simp only [Rep] at hx hy
      obtain ⟨us, rfl, _⟩ := hx
      obtain ⟨vs, rfl, _⟩ := hy
      refine ⟨⟨?_, ?_⟩, ?_⟩
      · rw [run_eql_struct, hq]; rfl
      · rw [run_neq_struct, hq]; rfl
      · intro op a b
        exact run_eqGuard_agg w op t a b us.toArray vs.toArray hg
    · simp at h
  · simp at h
  · simp at h
  · have hq := equal_of_eqV (P := P) (w := w) h hx hy
    unfold eqV at h
    split at h <;> (try simp only [Rep] at hx hy)
    case h_2 =>
      split at h
      · rename_i hu hk
        obtain rfl := Option.some.inj h; subst hx hy
        obtain rfl := of_decide_eq_true hk
        refine ⟨⟨?_, ?_⟩, ?_⟩
        · rw [binOp_eql]; simp [twoB_v]
        · rw [binOp_neq]; simp [twoB_v, bne]
        · intro op a b; cases op <;> rfl
      · simp at h
    case h_3 =>
      split at h
      · rename_i hu
        obtain rfl := Option.some.inj h; subst hx hy
        refine ⟨⟨?_, ?_⟩, ?_⟩
        · simp [binOp, Op.stringOp, eqS_v]
        · simp [binOp, Op.stringOp, eqS_v]
        · intro op a b; cases op <;> rfl
      · simp at h
    all_goals first
      | (obtain ⟨_, rfl, _⟩ := hx; subst hy; exact ⟨gives_eq hq (by rintro op (rfl | rfl) <;> rfl), by intro op a b; cases op <;> rfl⟩)
      | (obtain ⟨_, _, rfl⟩ := hx; subst hy; exact ⟨gives_eq hq (by rintro op (rfl | rfl) <;> rfl), by intro op a b; cases op <;> rfl⟩)
      | (obtain ⟨_, _, rfl⟩ := hy; subst hx; exact ⟨gives_eq hq (by rintro op (rfl | rfl) <;> rfl), by intro op a b; cases op <;> rfl⟩)
      | (split at h
         · rcases hx with ⟨_, hx⟩ | ⟨_, _, _, _, _, rfl, _⟩
           · simp [DN.v] at hx
           · subst hy; exact ⟨gives_eq hq (by rintro op (rfl | rfl) <;> rfl), by intro op a b; cases op <;> rfl⟩
         · simp at h)
      | (subst hx hy; exact ⟨gives_eq hq (by rintro op (rfl | rfl) <;> rfl), by intro op a b; cases op <;> rfl⟩)
      | simp at h

theorem binV_ok {P : Program} {g : G} {w : World} {op : BinOp} {t : TypeId} {a b : Operand} {x y : DV} {vx vy : Value} {d : DV} (h : (binV P op t x y).Path d) (hx : Rep g w x vx) (hy : Rep g w y vy) :
    Gives P g w (do eqGuard op t a b vx vy; binOp op t vx vy) d := by
  have lift : (eqGuard op t a b vx vy).run P w = .ok () w → Gives P g w (binOp op t vx vy) d → Gives P g w (do eqGuard op t a b vx vy; binOp op t vx vy) d := by
    intro hg ⟨v, hv, hr⟩
    exact ⟨v, by simp [hg, hv], hr⟩
  unfold binV at h
  split at h
  · rename_i k m k' n
    simp only [Rep] at hx hy
    subst hx hy
    refine lift (by cases op <;> rfl) ?_
    have sh : ∀ op' r, op' = .shl ∧ r = shlI k m.v n.v ∨ op' = .shr ∧ r = shrI k m.v n.v → (need1 n (decide (0 ≤ n.v)) (0 ≤ n.v) (.leaf (.int k (two m n r)))).Path d → Gives P g w (binOp op' t (.int k m.v) (.int k' n.v)) d := by
      intro op' r ho h
      have := shift_ok (P := P) (g := g) (w := w) (yk := k') ho h
      rcases ho with ⟨rfl, _⟩ | ⟨rfl, _⟩
      · rw [binOp_shl]; exact this
      · rw [binOp_shr]; exact this
    split at h
    · exact sh _ _ (.inl ⟨rfl, rfl⟩) h
    · exact sh _ _ (.inl ⟨rfl, rfl⟩) h
    · exact sh _ _ (.inr ⟨rfl, rfl⟩) h
    · rename_i hk _ _
      obtain rfl := of_decide_eq_true hk
      exact binInt_ok h
    · exact h.elim
  · split at h
    · split at h
      · rename_i r hr
        obtain rfl : d = _ := h
        obtain ⟨⟨h1, _⟩, h2⟩ := eqO_ok hr hx hy
        exact lift (h2 _ _ _) ⟨_, h1, by simp [Rep]⟩
      · exact h.elim
    · split at h
      · rename_i r hr
        obtain rfl : d = _ := h
        obtain ⟨⟨_, h1⟩, h2⟩ := eqO_ok hr hx hy
        exact lift (h2 _ _ _) ⟨_, h1, by simp [Rep, notB_v]⟩
      · exact h.elim
    · exact h.elim

theorem unV_ok {P : Program} {g : G} {w : World} {op : UnOp} {x : DV} {vx : Value} {d : DV} (h : (unV op x).Path d) (hx : Rep g w x vx) : Gives P g w (Op.unary op vx) d := by
  unfold unV at h
  split at h <;> (try simp only [Rep] at hx)
  · subst hx; obtain rfl : d = _ := h; exact ⟨_, rfl, by simp [Rep, notB_v]⟩
  · subst hx
    rename_i k n
    exact arith_ok (P := P) (g := g) (w := w) h
  · subst hx
    rename_i k n
    obtain rfl : d = _ := h
    exact ⟨.int k (bitsI .xor k (if k.signed then -1 else k.max) n.v), bitsI_eq .xor k (if k.signed then -1 else k.max) n.v (by simp) P w, by simp [Rep, two_v]⟩
  · exact h.elim

theorem convV_ok {P : Program} {g : G} {w : World} {s t : TypeId} {x : DV} {vx : Value} {d : DV} (h : (convV P s t x).Path d) (hx : Rep g w x vx) : Gives P g w (convert s t vx) d := by
  unfold convV at h
  split at h <;> (try simp only [Rep] at hx)
  · rename_i ds k k' n hs ht
    subst hx
    obtain rfl : d = _ := h
    refine ⟨.int k (k.wrap n.v), ?_, by cases n <;> simp [Rep, DI.v]⟩
    have := run_convert_int (P := P) w s t k' n.v
    simp only [convert, Sem.run_bind, run_under hs, run_under ht, Result.andThen_ok, Conv.intToInt]
    cases ds <;> rfl
  · rename_i s' hs ht
    subst hx
    obtain rfl : d = _ := h
    refine ⟨.string s'.v, ?_, by simp [Rep]⟩
    simp [convert, run_under hs, run_under ht]
  · exact h.elim

theorem lenV_ok {P : Program} {g : G} {w : World} {t : TypeId} {x : DV} {vx : Value} {d : DV} {ts : Array TypeId} {vs : Array Value} {ty : TypeId} (h : (lenV P t x).Path d) (hx : Rep g w x vx)
    (ht : ts[0]? = some t) (hv : vs[0]? = some vx) : Gives P g w (Builtin.len_ ts ty vs) d := by
  unfold lenV at h
  split at h <;> (try simp only [Rep] at hx)
  · rename_i s hu
    subst hx
    obtain rfl : d = _ := h
    exact ⟨.int .i64 s.v.size, by simp [Builtin.len_, ht, hv, run_under hu, goInt], by cases s <;> simp [Rep, DI.v, DS.v]⟩
  · rename_i e p n hu
    obtain rfl : d = _ := h
    rcases hx with ⟨rfl, hn⟩ | ⟨b, o, c, _, _, rfl, _⟩
    · exact ⟨.int .i64 0, by simp [Builtin.len_, ht, hv, run_under hu, goInt], by cases n <;> simp_all [Rep, DI.v, DN.v]⟩
    · exact ⟨.int .i64 n.v, by simp [Builtin.len_, ht, hv, run_under hu, goInt], by cases n <;> simp [Rep, DI.v, DN.v]⟩
  · rename_i e hu
    subst hx
    obtain rfl : d = _ := h
    exact ⟨.int .i64 0, by simp [Builtin.len_, ht, hv, run_under hu, goInt], by simp [Rep, DI.v]⟩
  · rename_i n e hu
    obtain rfl : d = _ := h
    exact ⟨.int .i64 n, by simp [Builtin.len_, ht, hv, run_under hu, goInt], by simp [Rep, DI.v]⟩
  · exact h.elim

theorem inIdx_ok {α : Type u} {i : DI} {n : DN} {t : T α} {x : α} (h : (inIdx i n t).Path x) : (0 ≤ i.v ∧ i.v < n.v) ∧ t.Path x := by
  unfold inIdx at h
  split at h
  · split at h
    · rename_i h0 h1
      exact ⟨⟨of_decide_eq_true h0, of_decide_eq_true h1⟩, h⟩
    · exact h.elim
  · exact h

theorem natI_v (i : DI) : (natI i).v = i.v.toNat := by cases i <;> rfl
theorem addN_v (a b : DN) : (addN a b).v = a.v + b.v := by
  unfold addN
  split <;> simp [DN.v]

theorem addr_add' (b off n : Nat) : Addr.add ⟨b, off, none⟩ n = ⟨b, off + n, none⟩ := addr_add b off n

theorem indexAddrV_ok {P : Program} {g : G} {w : World} {t : TypeId} {x i : DV} {vx vi : Value} {d : DV} (h : (indexAddrV P t x i).Path d) (hx : Rep g w x vx) (hi : Rep g w i vi) :
    Gives P g w (Instr.indexAt t vx vi) d := by
  unfold indexAddrV at h
  split at h
  · rename_i k i
    simp only [Rep] at hi
    subst hi
    split at h <;> (try simp only [Rep] at hx)
    · rename_i e p n hu
      split at h
      · rename_i s hs
        split at h
        · rename_i hsz hfld
          obtain ⟨⟨h0, h1⟩, h⟩ := inIdx_ok h
          obtain rfl : d = _ := h
          obtain ⟨b, o, cap, hb, hcap, rfl, ho, _⟩ : ∃ b o cap, g.ρ p.id = some b ∧ n.v ≤ cap ∧ vx = .slice (some ⟨b, o, none⟩) n.v cap ∧ (cap = 0 ∨ o = g.off p) ∧ True := by
            rcases hx with ⟨_, hx⟩ | ⟨b, o, cap, h1', h2', h3', h4', _⟩
            · omega
            · exact ⟨b, o, cap, h1', h2', h3', h4', trivial⟩
          obtain rfl : o = g.off p := by
            rcases ho with ho | ho
            · omega
            · exact ho
          have hsz := Nat.eq_of_beq_eq_true hsz
          have hfld := Nat.eq_of_beq_eq_true hfld
          refine ⟨.pointer (some ⟨b, g.base p.id + ((p.idx.v + i.v.toNat) * p.sz + p.fld), none⟩), ?_, ?_⟩
          · have : g.off p + i.v.toNat * s = g.base p.id + ((p.idx.v + i.v.toNat) * p.sz + p.fld) := by simp only [G.off, DP.off, hsz, hfld]; rw [Nat.add_mul]; omega
            simp [Instr.indexAt, asIntOf, run_under hu, run_sizeD hs, h0, h1, addr_add, this]
          · simp only [Rep]
            refine ⟨b, hb, ?_⟩
            simp [G.off, DP.off, addN_v, natI_v]
        · exact h.elim
      · exact h.elim
    · rename_i len e p hu
      obtain ⟨b, hb, rfl⟩ := hx
      split at h
      · rename_i s j hs hj
        split at h
        · rename_i hz
          have hz := Nat.eq_of_beq_eq_true hz
          obtain ⟨⟨h0, h1⟩, h⟩ := inIdx_ok h
          obtain rfl : d = _ := h
          have ho : g.off p = g.base p.id := by
            have : p.off = 0 := by simp only [DP.off, hj, DN.v]; exact hz
            simp only [G.off, this, Nat.add_zero]
          simp only [DN.v] at h1
          refine ⟨.pointer (some ⟨b, g.base p.id + i.v.toNat * s, none⟩), ?_, ?_⟩
          · simp [Instr.indexAt, asIntOf, run_under hu, run_sizeD hs, h0, h1, addr_add, Instr.sureAddr, ho]
          · simp only [Rep]
            exact ⟨b, hb, by simp [G.off, DP.off, natI_v]⟩
        · split at h
          · rename_i i
            obtain ⟨⟨h0, h1⟩, h⟩ := inIdx_ok h
            obtain rfl : d = _ := h
            simp only [DN.v, DI.v] at h0 h1
            refine ⟨.pointer (some ⟨b, g.base p.id + (j * p.sz + p.fld + i.toNat * s), none⟩), ?_, ?_⟩
            · simp [Instr.indexAt, asIntOf, run_under hu, run_sizeD hs, h0, h1, addr_add, Instr.sureAddr, DI.v, G.off, DP.off, hj, DN.v, Nat.add_assoc]
            · simp only [Rep]
              exact ⟨b, hb, by simp [G.off, DP.off, DN.v]⟩
          · exact h.elim
      · exact h.elim
    · exact h.elim
  · exact h.elim

theorem indexV_ok {P : Program} {g : G} {w : World} {t : TypeId} {x i : DV} {vx vi : Value} {d : DV} (h : (indexV P t x i).Path d) (hx : Rep g w x vx) (hi : Rep g w i vi) :
    Gives P g w (Instr.index t vx vi) d := by
  unfold indexV at h
  split at h
  · rename_i k i
    simp only [Rep] at hi
    subst hi
    split at h <;> (try simp only [Rep] at hx)
    · rename_i len e cs hu
      obtain ⟨vs, rfl, hc, h1c⟩ := hx
      split at h
      · rename_i s i hs
        obtain ⟨⟨h0, h1⟩, h⟩ := inIdx_ok h
        simp only [DN.v, DI.v] at h0 h1
        obtain ⟨v, hv, hr⟩ := partO_ok hc h1c (T.path_opt h)
        exact ⟨v, by simp [Instr.index, asIntOf, run_under hu, run_sizeD hs, h0, h1, hv, DI.v], hr⟩
      · exact h.elim
    · rename_i s hu
      subst hx
      obtain ⟨⟨h0, h1⟩, h⟩ := inIdx_ok h
      obtain rfl : d = _ := h
      have hsz : i.v.toNat < s.v.size := by
        cases s <;> simp only [DN.v, DS.v] at h1 ⊢ <;> omega
      have hg : s.v[i.v.toNat]? = some s.v[i.v.toNat] := by simp [hsz]
      refine ⟨.int .u8 s.v[i.v.toNat].toNat, ?_, ?_⟩
      · simp [Instr.index, asIntOf, run_under hu, h0, hsz]
      · have e : (s.v.data.toList.getD i.v.toNat 0) = s.v[i.v.toNat] := by
          rw [List.getD_eq_getElem?_getD, List.getElem?_eq_getElem (by simpa using hsz)]; rfl
        cases i <;> cases s <;> simp_all [Rep, DI.v, DS.v]
    · exact h.elim
  · exact h.elim

end Go.DE
