import Derived.Test.YtfacddeaobogjaaF3
set_option linter.unusedVariables false
set_option linter.unusedSimpArgs false
set_option linter.unnecessarySimpa false
/- The engine, part 4: why the evaluator of operations on values is right. -/
namespace Go.DF
universe u v
set_option linter.unusedSimpArgs false
set_option linter.unusedVariables false
variable [Fam]

/-- An operation gives a value, and leaves the world as it is. -/
def Gives (P : Program) (g : G) (w : World) (s : Sem Value) (d : DV) : Prop := ∃ v, s.run P w = .ok v w ∧ Rep g w d v

omit [Fam] in
theorem two_v (a b : DI) (r : Int) : (two a b r).v = r := by cases a <;> cases b <;> rfl
omit [Fam] in
theorem twoB_v (a b : DI) (r : Bool) : (twoB a b r).v = r := by cases a <;> cases b <;> rfl
omit [Fam] in
theorem notB_v (a : DB) : (notB a).v = !a.v := by cases a <;> rfl
omit [Fam] in
theorem andB_v (a b : DB) : (andB a b).v = (a.v && b.v) := by
  rcases a with (_ | _) | _ <;> rcases b with (_ | _) | _ <;> simp [andB, DB.v]
omit [Fam] in
theorem eqB_v (a b : DB) : (eqB a b).v = (a.v == b.v) := by
  rcases a with (_ | _) | _ <;> rcases b with (_ | _) | _ <;> simp [eqB, DB.v]
omit [Fam] in
theorem eqS_v (a b : DS) : (eqS a b).v = (a.v.toList == b.v.toList) := by cases a <;> cases b <;> rfl

theorem arith_ok {P : Program} {g : G} {w : World} {k : IntKind} {a b : DI} {r : Int} {d : DV} (h : (arith k a b r).Path d) : Gives P g w (pure (.int k (k.wrap r))) d := by
  have e : ∀ k', Rep g w (.int k' (.sym (k'.wrap r))) (.int k' (k'.wrap r)) := fun k' => by simp [Rep, DI.v]
  have key : (match k with | .i64 => T.ob (okI64 r) (some inferInstance) (T.leaf (DV.int .i64 (DI.sym r))) | k => T.leaf (DV.int k (DI.sym (k.wrap r)))).Path d → Gives P g w (pure (.int k (k.wrap r))) d := by
    intro h
    cases k
    case i64 =>
      obtain ⟨hr, h⟩ := h
      obtain rfl : d = _ := h
      exact ⟨_, rfl, by simp [Rep, DI.v, IntWalk.i64_in r hr]⟩
    all_goals (obtain rfl : d = _ := h; exact ⟨_, rfl, e _⟩)
  unfold arith at h
  split at h
  · obtain rfl : d = _ := h; exact ⟨_, rfl, by simp [Rep, DI.v]⟩
  · exact key h

theorem need1_ok {a : DI} {c : Bool} {p : Prop} [Decidable p] (hc : c = true → p) {t : T DV} {d : DV} (h : (need1 a c p t).Path d) : p ∧ t.Path d := by
  unfold need1 at h
  split at h
  · split at h
    · exact ⟨hc rfl, h⟩
    · exact h.elim
  · exact h

omit [Fam] in
theorem bitsI_eq (op : BinOp) (k : IntKind) (x y : Int) (h : op = .and ∨ op = .or ∨ op = .xor ∨ op = .andNot) : ∀ P w, (Op.intBits op k x y).run P w = .ok (.int k (bitsI op k x y)) w := by
  intro P w
  rcases h with rfl | rfl | rfl | rfl <;> rfl

theorem shift_ok {P : Program} {g : G} {w : World} {op : BinOp} {k yk : IntKind} {a b : DI} {d : DV} {r : Int} (ho : op = .shl ∧ r = shlI k a.v b.v ∨ op = .shr ∧ r = shrI k a.v b.v)
    (h : (need1 b (decide (0 ≤ b.v)) (0 ≤ b.v) (.leaf (.int k (two a b r)))).Path d) : Gives P g w (Op.shift op k a.v yk b.v) d := by
  obtain ⟨h0, h⟩ := need1_ok (fun h => of_decide_eq_true h) h
  obtain rfl : d = _ := h
  refine ⟨.int k r, ?_, by simp [Rep, two_v]⟩
  have hn : ¬ b.v < 0 := by omega
  rcases ho with ⟨rfl, rfl⟩ | ⟨rfl, rfl⟩
  · simp [Op.shift, hn, shlI]
  · simp [Op.shift, hn, shrI]

theorem binInt_ok {P : Program} {g : G} {w : World} {op : BinOp} {k : IntKind} {t : TypeId} {a b : DI} {d : DV} (h : (binInt op k a b).Path d) :
    Gives P g w (binOp op t (.int k a.v) (.int k b.v)) d := by
  have hb : (!(b.v == 0)) = true → b.v ≠ 0 := by intro h; simpa using h
  cases op
  case add => rw [binOp_add]; exact arith_ok h
  case sub => rw [binOp_sub]; exact arith_ok h
  case mul => rw [binOp_mul]; exact arith_ok h
  case quo =>
    rw [binOp_quo]
    obtain ⟨h0, h⟩ := need1_ok hb h
    simpa [Op.intDiv, h0] using (arith_ok (P := P) (g := g) (w := w) h)
  case rem =>
    rw [binOp_rem]
    obtain ⟨h0, h⟩ := need1_ok hb h
    obtain rfl : d = _ := h
    exact ⟨.int k (a.v.tmod b.v), by simp [Op.intDiv, h0], by simp [Rep, two_v]⟩
  case and => rw [binOp_and]; obtain rfl : d = _ := h; exact ⟨_, bitsI_eq _ _ _ _ (by simp) P w, by simp [Rep, two_v]⟩
  case or => rw [binOp_or]; obtain rfl : d = _ := h; exact ⟨_, bitsI_eq _ _ _ _ (by simp) P w, by simp [Rep, two_v]⟩
  case xor => rw [binOp_xor]; obtain rfl : d = _ := h; exact ⟨_, bitsI_eq _ _ _ _ (by simp) P w, by simp [Rep, two_v]⟩
  case andNot => rw [binOp_andNot]; obtain rfl : d = _ := h; exact ⟨_, bitsI_eq _ _ _ _ (by simp) P w, by simp [Rep, two_v]⟩
  case eql => rw [binOp_eql]; obtain rfl : d = _ := h; exact ⟨_, rfl, by simp [Rep, twoB_v]⟩
  case neq => rw [binOp_neq]; obtain rfl : d = _ := h; exact ⟨_, rfl, by simp [Rep, twoB_v]⟩
  case lss => rw [binOp_lss]; obtain rfl : d = _ := h; exact ⟨_, rfl, by simp [Rep, twoB_v]⟩
  case leq => rw [binOp_leq]; obtain rfl : d = _ := h; exact ⟨_, rfl, by simp [Rep, twoB_v]⟩
  case gtr => rw [binOp_gtr]; obtain rfl : d = _ := h; exact ⟨_, rfl, by simp [Rep, twoB_v]⟩
  case geq => rw [binOp_geq]; obtain rfl : d = _ := h; exact ⟨_, rfl, by simp [Rep, twoB_v]⟩
  case shl => rw [binOp_shl]; exact shift_ok (.inl ⟨rfl, rfl⟩) h
  case shr => rw [binOp_shr]; exact shift_ok (.inr ⟨rfl, rfl⟩) h

/-! ### '==' -/
theorem isNilD_ok {g : G} {w : World} {x : DV} {v : Value} {r : DB} (h : isNilD x = some r) (hx : Rep g w x v) : ∃ a, v = .pointer a ∧ r.v = Option.isNone a := by
  unfold isNilD at h
  split at h
  · obtain rfl := Option.some.inj h
    simp only [Rep] at hx
    obtain ⟨b, _, rfl⟩ := hx
    exact ⟨_, rfl, rfl⟩
  · obtain rfl := Option.some.inj h
    simp only [Rep] at hx
    exact ⟨_, hx, rfl⟩
  · obtain rfl := Option.some.inj h
    simp only [Rep] at hx
    obtain ⟨b, o, cs, t, fr, rfl, _⟩ := hx
    exact ⟨_, rfl, rfl⟩
  · rename_i c x
    obtain rfl := Option.some.inj h
    simp only [Rep] at hx
    obtain ⟨v', hv, hx⟩ := hx
    simp only [List.cons.injEq, and_true] at hv
    subst hv
    rcases hx with ⟨rfl, rfl⟩ | ⟨a, b, o, cs, t, fr, rfl, rfl, _⟩
    · exact ⟨_, rfl, rfl⟩
    · exact ⟨_, rfl, rfl⟩
  · rename_i n a
    obtain rfl := Option.some.inj h
    simp only [Rep] at hx
    obtain ⟨v', hv, hx⟩ := hx
    simp only [List.cons.injEq, and_true] at hv
    subst hv
    obtain ⟨v', hv, hx⟩ := Fam.opn _ _ _ _ _ hx
    simp only [List.cons.injEq, and_true] at hv
    subst hv
    rcases hx with ⟨rfl, e⟩ | ⟨a, b, o, cs, t, fr, e, rfl, _⟩
    · exact ⟨_, rfl, by rw [e]; rfl⟩
    · exact ⟨_, rfl, by rw [e]; rfl⟩
  · simp at h

theorem eqV_ok {P : Program} {g : G} {w : World} {t : TypeId} {x y : DV} {vx vy : Value} {r : DB} (h : eqV P t x y = some r) (hx : Rep g w x vx) (hy : Rep g w y vy)
    (d : Nat) (w' : World) : (Op.equalIn (d + 1) t vx vy).run P w' = .ok r.v w' := by
  unfold eqV at h
  split at h
  · simp only [Rep] at hx hy
    split at h
    · rename_i hu; obtain rfl := Option.some.inj h; subst hx hy
      rw [eqB_v]; exact run_equalIn_bool w' d t _ _ hu
    · simp at h
  · simp only [Rep] at hx hy
    split at h
    · rename_i hu hk
      obtain rfl := Option.some.inj h; subst hx hy
      obtain rfl := of_decide_eq_true hk
      rw [twoB_v]; exact run_equalIn_int w' d t _ _ _ _ hu
    · simp at h
  · simp only [Rep] at hx hy
    split at h
    · rename_i hu; obtain rfl := Option.some.inj h; subst hx hy
      rw [eqS_v]; exact run_equalIn_string w' d t _ _ hu
    · simp at h
  · simp only [Rep] at hx hy
    split at h
    · rename_i hu; obtain rfl := Option.some.inj h; obtain ⟨vs, rfl, _⟩ := hx; subst hy
      simp [Op.equalIn, run_under hu, DB.v]
    · simp at h
  · simp only [Rep] at hx hy
    split at h
    · rename_i hu; obtain rfl := Option.some.inj h; subst hx hy
      simp [Op.equalIn, run_under hu, DB.v]
    · simp at h
  · simp only [Rep] at hx hy
    split at h
    · rename_i hu; obtain rfl := Option.some.inj h; subst hy
      rcases hx with ⟨_, hx⟩ | ⟨_, _, _, _, _, rfl, _⟩
      · simp [DN.v] at hx
      · simp [Op.equalIn, run_under hu, DB.v]
    · simp at h
  · simp only [Rep] at hx hy
    split at h
    · rename_i hu; obtain rfl := Option.some.inj h; subst hx hy
      simp [Op.equalIn, run_under hu, DB.v]
    · simp at h
  · simp only [Rep] at hx hy
    split at h
    · rename_i hu; obtain rfl := Option.some.inj h; subst hy
      obtain ⟨⟨_, _, _, rfl⟩, _⟩ := hx
      simp [Op.equalIn, run_under hu, DB.v]
    · simp at h
  · simp only [Rep] at hx hy
    split at h
    · rename_i hu; obtain rfl := Option.some.inj h; obtain ⟨_, _, rfl⟩ := hx; subst hy
      simp [Op.equalIn, run_under hu, DB.v]
    · simp at h
  · simp only [Rep] at hx hy
    split at h
    · rename_i hu; obtain rfl := Option.some.inj h; subst hx hy
      simp [Op.equalIn, run_under hu, DB.v]
    · simp at h
  · split at h
    · rename_i hu
      simp only [Rep] at hy; subst hy
      obtain ⟨a, rfl, hr⟩ := isNilD_ok h hx
      rw [hr]
      cases a <;> simp [Op.equalIn, run_under hu]
    · simp at h
  · split at h
    · rename_i hu
      simp only [Rep] at hx; subst hx
      obtain ⟨a, rfl, hr⟩ := isNilD_ok h hy
      rw [hr]
      cases a <;> simp [Op.equalIn, run_under hu]
    · simp at h
  · simp at h

/-- What 'eq' says of two values is what Go says. -/
def EqOk (P : Program) (g : G) (w : World) (d : Nat) (eq : TypeId → DV → DV → Option DB) : Prop :=
  ∀ t x y vx vy r, eq t x y = some r → Rep g w x vx → Rep g w y vy → ∀ w', (Op.equalIn d t vx vy).run P w' = .ok r.v w'

theorem eqFs_ok {P : Program} {g : G} {w : World} {d : Nat} {eq : TypeId → DV → DV → Option DB} (he : EqOk P g w d eq) {xs ys : List DV} {us vs : List Value}
    (hx : RepL g w xs us) (hx1 : ∀ u ∈ us, oneC u = true) (hy : RepL g w ys vs) (hy1 : ∀ u ∈ vs, oneC u = true) :
    ∀ (fs : List Field) (r : DB), eqFs P eq xs ys fs = some r → ∀ w', (Op.eqFields d us.toArray vs.toArray fs).run P w' = .ok r.v w'
  | [], r, h, w' => by simp [eqFs] at h; subst h; simp [Op.eqFields, DB.v]
  | f :: fs, r, h, w' => by
    unfold eqFs at h
    split at h
    · simp at h
    · rename_i hn
      split at h
      · rename_i a b ha hb
        split at h
        · rename_i r1 r2 h1 h2
          obtain rfl := Option.some.inj h
          obtain ⟨va, hra, hra'⟩ := partO_ok hx hx1 ha
          obtain ⟨vb, hrb, hrb'⟩ := partO_ok hy hy1 hb
          have hne : f.name ≠ "_" := by simpa using hn
          have hq := he _ _ _ _ _ _ h1 hra' hrb' w'
          have ih := eqFs_ok he hx hx1 hy hy1 fs r2 h2 w'
          simp only [Op.eqFields, hne, ne_eq, not_false_eq_true, if_true, Sem.run_bind, hra, hrb, Result.andThen_ok, hq]
          rw [andB_v]
          cases hr1 : r1.v
          · simp
          · simp [ih]
        · simp at h
      · simp at h

theorem eqIs_ok {P : Program} {g : G} {w : World} {d : Nat} {eq : TypeId → DV → DV → Option DB} (he : EqOk P g w d eq) {e : TypeId} {s : Nat} {xs ys : List DV} {us vs : List Value}
    (hx : RepL g w xs us) (hx1 : ∀ u ∈ us, oneC u = true) (hy : RepL g w ys vs) (hy1 : ∀ u ∈ vs, oneC u = true) :
    ∀ (is : List Nat) (r : DB), eqIs P eq e s xs ys is = some r → ∀ w', (Op.eqItems d e s us.toArray vs.toArray is).run P w' = .ok r.v w'
  | [], r, h, w' => by simp [eqIs] at h; subst h; simp [Op.eqItems, DB.v]
  | i :: is, r, h, w' => by
    unfold eqIs at h
    split at h
    · rename_i a b ha hb
      split at h
      · rename_i r1 r2 h1 h2
        obtain rfl := Option.some.inj h
        obtain ⟨va, hra, hra'⟩ := partO_ok hx hx1 ha
        obtain ⟨vb, hrb, hrb'⟩ := partO_ok hy hy1 hb
        have hq := he _ _ _ _ _ _ h1 hra' hrb' w'
        have ih := eqIs_ok he hx hx1 hy hy1 is r2 h2 w'
        simp only [Op.eqItems, Sem.run_bind, hra, hrb, Result.andThen_ok, hq]
        rw [andB_v]
        cases hr1 : r1.v
        · simp
        · simp [ih]
      · simp at h
    · simp at h

omit [Fam] in
theorem cellsOf_sizeD {P : Program} {e : TypeId} {s : Nat} (h : sizeD P e = some s) : P.cellsOf e = s ∧ ∃ i, P.info? e = some i := by
  unfold sizeD at h
  split at h
  · rename_i i hi; simp at h; exact ⟨by simp [Program.cellsOf, hi, h], i, hi⟩
  · simp at h

theorem eqT_succ {P : Program} (d : Nat) (t : TypeId) (x y : DV) : eqT P (d + 1) t x y = match x, y with
    | .agg xs, .agg ys => match underD P t with
      | some (.struct fs) => match P.stoodInHeld t with
        | false => eqFs P (eqT P d) xs ys fs.toList
        | true => none
      | some (.array n e) => match sizeD P e with
        | some s => eqIs P (eqT P d) e s xs ys (List.range n)
        | none => none
      | _ => none
    | x, y => eqV P t x y := by cases x <;> cases y <;> rfl

theorem eqT_ok {P : Program} {g : G} {w : World} : ∀ (m k : Nat), EqOk P g w (m + k) (eqT P m)
  | 0, k => fun t x y vx vy r h => by simp [eqT] at h
  | m + 1, k => by
    intro t x y vx vy r h hx hy w'
    have ih := eqT_ok (P := P) (g := g) (w := w) m k
    have e1 : m + 1 + k = (m + k) + 1 := by omega
    rw [e1]
    rw [eqT_succ] at h
    split at h
    · rename_i xs ys
      simp only [Rep] at hx hy
      obtain ⟨us, rfl, hx, hx1⟩ := hx
      obtain ⟨vs, rfl, hy, hy1⟩ := hy
      split at h
      · rename_i fs hu
        split at h
        · rename_i hst
          have hf : P.fieldsOf t = fs := by unfold Program.fieldsOf; rw [show P.underlying t = some (.struct fs) from hu]
          rw [run_equalIn_struct w' (m + k) t us.toArray vs.toArray (by rw [hf]; exact hu) hst, hf]
          exact eqFs_ok ih hx hx1 hy hy1 _ _ h w'
        · simp at h
      · rename_i n e hu
        split at h
        · rename_i s hs
          obtain ⟨hc, i, hi⟩ := cellsOf_sizeD hs
          rw [run_equalIn_array w' (m + k) us.toArray vs.toArray hu hi, hc]
          exact eqIs_ok ih hx hx1 hy hy1 _ _ h w'
        · simp at h
      · simp at h
    · exact eqV_ok h hx hy _ _

theorem equal_of_eqV {P : Program} {g : G} {w : World} {t : TypeId} {x y : DV} {vx vy : Value} {r : DB} (h : eqV P t x y = some r) (hx : Rep g w x vx) (hy : Rep g w y vy) :
    (Op.equal t vx vy).run P w = .ok r.v w := eqV_ok h hx hy 9999 w

end Go.DF
