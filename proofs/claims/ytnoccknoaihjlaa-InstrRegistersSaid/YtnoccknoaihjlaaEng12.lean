import Derived.Test.YtnoccknoaihjlaaEng11
set_option linter.unusedVariables false
set_option linter.unusedSimpArgs false
set_option linter.unnecessarySimpa false
/- The engine, part 12: functions that write nothing, by what the evaluator says of their bodies. -/
namespace Go.DE
universe u v

mutual
/-- The two say the same; neither names a block. -/
def deq : DV → DV → Prop
  | d', .bool b => match d' with | .bool b' => b'.v = b.v | _ => False
  | d', .int k b => match d' with | .int k' b' => (match decide (k' = k) with | true => b'.v = b.v | false => False) | _ => False
  | d', .str b => match d' with | .str b' => b'.v = b.v | _ => False
  | d', .nilptr => match d' with | .nilptr => True | _ => False
  | d', .nilslice => match d' with | .nilslice => True | _ => False
  | d', .nilmap => match d' with | .nilmap => True | _ => False
  | d', .func f c => match d' with | .func f' c' => (match Nat.beq f' f with | true => deqL c' c | false => False) | _ => False
  | d', .nilfunc => match d' with | .nilfunc => True | _ => False
  | d', .nilif => match d' with | .nilif => True | _ => False
  | d', .agg c => match d' with | .agg c' => deqL c' c | _ => False
  | d', .tup c => match d' with | .tup c' => deqL c' c | _ => False
  | _, .any => True
  | _, .ptr _ => False
  | _, .slice _ _ => False
  | _, .map _ => False
  | _, .imm _ => False
def deqL : List DV → List DV → Prop
  | ds', [] => match ds' with | [] => True | _ => False
  | ds', d :: ds => match ds' with
    | [] => False
    | d' :: ds' => match ds with
      | [] => (match ds' with | [] => deq d' d | _ => False)
      | _ => deq d' d ∧ deqL ds' ds
end

mutual
theorem deq_rep {g g' : G} {w w' : World} : ∀ (d d' : DV) (v : Value), deq d' d → Rep g w d' v → Rep g' w' d v
  | .any, _, _, _, _ => by simp [Rep]
  | .ptr _, _, _, h, _ => by unfold deq at h; exact h.elim
  | .slice _ _, _, _, h, _ => by unfold deq at h; exact h.elim
  | .map _, _, _, h, _ => by unfold deq at h; exact h.elim
  | .bool b, d', v, h, r => by
    unfold deq at h
    split at h
    · simp only [Rep] at r ⊢; rw [r, h]
    · exact h.elim
  | .int k b, d', v, h, r => by
    unfold deq at h
    split at h
    · split at h
      · rename_i hk; simp only [Rep] at r ⊢; rw [r, h, of_decide_eq_true hk]
      · exact h.elim
    · exact h.elim
  | .str b, d', v, h, r => by
    unfold deq at h
    split at h
    · simp only [Rep] at r ⊢; rw [r, h]
    · exact h.elim
  | .nilptr, d', v, h, r => by
    unfold deq at h
    split at h
    · simpa [Rep] using r
    · exact h.elim
  | .nilslice, d', v, h, r => by
    unfold deq at h
    split at h
    · simpa [Rep] using r
    · exact h.elim
  | .nilmap, d', v, h, r => by
    unfold deq at h
    split at h
    · simpa [Rep] using r
    · exact h.elim
  | .func f c, d', v, h, r => by
    unfold deq at h
    split at h
    · split at h
      · rename_i hf
        simp only [Rep] at r ⊢
        obtain ⟨vs, rfl, r⟩ := r
        exact ⟨vs, by rw [Nat.eq_of_beq_eq_true hf], deqL_rep _ _ _ h r⟩
      · exact h.elim
    · exact h.elim
  | .nilfunc, d', v, h, r => by
    unfold deq at h
    split at h
    · simpa [Rep] using r
    · exact h.elim
  | .nilif, d', v, h, r => by
    unfold deq at h
    split at h
    · simpa [Rep] using r
    · exact h.elim
  | .agg c, d', v, h, r => by
    unfold deq at h
    split at h
    · simp only [Rep] at r ⊢
      obtain ⟨vs, rfl, r, r1⟩ := r
      exact ⟨vs, rfl, deqL_rep _ _ _ h r, r1⟩
    · exact h.elim
  | .tup c, d', v, h, r => by
    unfold deq at h
    split at h
    · simp only [Rep] at r ⊢
      obtain ⟨vs, rfl, r⟩ := r
      exact ⟨vs, rfl, deqL_rep _ _ _ h r⟩
    · exact h.elim
  | .imm _, _, _, h, _ => by unfold deq at h; exact h.elim
theorem deqL_rep {g g' : G} {w w' : World} : ∀ (ds ds' : List DV) (vs : List Value), deqL ds' ds → RepL g w ds' vs → RepL g' w' ds vs
  | [], ds', vs, h, r => by
    unfold deqL at h
    split at h
    · simpa [RepL] using r
    · exact h.elim
  | d :: ds, ds', vs, h, r => by
    unfold deqL at h
    split at h
    · exact h.elim
    · rename_i d' ds'
      simp only [RepL] at r
      obtain ⟨v, us, rfl, r1, r2⟩ := r
      split at h
      · split at h
        · simp only [RepL] at r2; subst r2
          exact RepL.cons (deq_rep _ _ _ h r1) RepL.nil
        · exact h.elim
      · exact RepL.cons (deq_rep _ _ _ h.1 r1) (deqL_rep _ _ _ h.2 r2)
end

/-- It names no block and nothing behind a value. -/
def dataD (d : DV) : Bool := match idf d with | true => noImm d | false => false

mutual
theorem data_rep {g g' : G} {w w' : World} : ∀ (d : DV) (v : Value), idf d = true → noImm d = true → Rep g w d v → Rep g' w' d v
  | .bool _, _, _, _, r => by simpa only [Rep] using r
  | .int _ _, _, _, _, r => by simpa only [Rep] using r
  | .str _, _, _, _, r => by simpa only [Rep] using r
  | .ptr _, _, h, _, _ => by simp [idf] at h
  | .nilptr, _, _, _, r => by simpa only [Rep] using r
  | .slice _ _, _, h, _, _ => by simp [idf] at h
  | .nilslice, _, _, _, r => by simpa only [Rep] using r
  | .map _, _, h, _, _ => by simp [idf] at h
  | .nilmap, _, _, _, r => by simpa only [Rep] using r
  | .func f c, _, h, k, r => by
    simp only [Rep] at r ⊢
    obtain ⟨vs, h1, h2⟩ := r
    exact ⟨vs, h1, dataL_rep c vs (by simpa [idf] using h) (by simpa [noImm] using k) h2⟩
  | .nilfunc, _, _, _, r => by simpa only [Rep] using r
  | .nilif, _, _, _, r => by simpa only [Rep] using r
  | .agg c, _, h, k, r => by
    simp only [Rep] at r ⊢
    obtain ⟨vs, h1, h2, h3⟩ := r
    exact ⟨vs, h1, dataL_rep c vs (by simpa [idf] using h) (by simpa [noImm] using k) h2, h3⟩
  | .tup c, _, h, k, r => by
    simp only [Rep] at r ⊢
    obtain ⟨vs, h1, h2⟩ := r
    exact ⟨vs, h1, dataL_rep c vs (by simpa [idf] using h) (by simpa [noImm] using k) h2⟩
  | .imm m, _, _, k, _ => by simp [noImm] at k
  | .any, _, _, _, _ => by simp only [Rep]
theorem dataL_rep {g g' : G} {w w' : World} : ∀ (ds : List DV) (vs : List Value), idfL ds = true → noImmL ds = true → RepL g w ds vs → RepL g' w' ds vs
  | [], _, _, _, r => by simpa only [RepL] using r
  | d :: ds, vs, h, k, r => by
    simp only [RepL] at r ⊢
    obtain ⟨v, us, rfl, r1, r2⟩ := r
    have h' := (idfL_cons d ds).1 h
    have k' : noImm d = true ∧ noImmL ds = true := by
      cases hd : noImm d <;> simp [noImmL, hd] at k ⊢; exact k
    exact ⟨v, us, rfl, data_rep d v h'.1 k'.1 r1, dataL_rep ds us h'.2 k'.2 r2⟩
end

/-- The two say the same, and name no block; what is literally so is not owed. -/
def deqP (d' d : DV) : Prop :=
  match uniD [] d' d with
  | some ([], ps) => allP ps
  | _ => False

theorem deqP_rep {g g' : G} {w w' : World} {d d' : DV} {v : Value} (hd : dataD d = true) (h : deqP d' d) (r : Rep g w d' v) : Rep g' w' d v := by
  unfold deqP at h
  split at h
  · rename_i ps hu
    obtain ⟨_, _, h3⟩ := uniD_ok _ _ _ _ _ hu
    have := h3 (allP_ok h) [] (SubS.refl _) g w v r
    unfold dataD at hd
    split at hd
    · rename_i hi; exact data_rep d v hi hd this
    · simp at hd
  · exact h.elim

/-- ████ A function that works on data alone, by the evaluator. -/
theorem pure_of_exec {P : Program} {ct : Cx P} {f : FuncId} {fn : Func} {args : List DV} {d : DV} (invs : List (Nat × LInv)) (hf : P.funcs[f]? = some fn) (ha : idfL args = true)
    (hn : Nat.ble args.length fn.ntmps = true) (hd : dataD d = true) (h : execF P ct 0 invs fn args [] 0 (fun d' _ => deqP d' d)) : Pure1 P f args d := by
  intro g w vs r hpr
  let g1 : G := ⟨fun _ => none, g.pr, fun _ => 0⟩
  have hR : Rel g1 [] w := ⟨fun i o hi => by simp [look] at hi, fun i j oi oj b hi => by simp [look] at hi, hpr⟩
  refine (calls_of_exec hf h (Nat.le_of_ble_eq_true hn) (Nat.le_refl _) g1 w vs hR (fun _ _ => rfl) (idfL_rep (g := g) (g' := g1) rfl _ _ ha r)).mono ?_
  rintro e w' ⟨v, d', st', g', rfl, hk, hR', hr, hE, hK, _, _⟩
  refine ⟨v, rfl, ⟨hK.os, hK.tape, hK.output, hK.size, fun b hb => hK.kept b hb ?_⟩, ?_⟩
  · rintro ⟨i, o, _, hi, _⟩; simp [look] at hi
  · exact deqP_rep hd hk hr

theorem cast_goal {p q : Prop} (h : p = q) (hp : p) : q := h ▸ hp

theorem hasBody_of {P : Program} {f : FuncId} {fn : Func} (hf : P.funcs[f]? = some fn) (hn : (fn.name == "runtime.NumGoroutine") = false) (hb : fn.body.isNone = false) : HasBody P f := ⟨fn, hf, hn, hb⟩

theorem Pure1.congr {P : Program} {f : FuncId} {args args' : List DV} {d d' : DV} (h : Pure1 P f args' d') (ha : deqL args args') (hd : deq d' d) : Pure1 P f args d := by
  intro g w vs r hp
  refine (h g w vs (deqL_rep _ _ _ ha r) hp).mono ?_
  rintro e w' ⟨v, rfl, hs, hr⟩
  exact ⟨v, rfl, hs, deq_rep _ _ _ hd hr⟩

/-- as the first: of a literal a literal -/
def as1 (a : DI) (r : Int) : DI := match a with | .lit _ => .lit r | .sym _ => .sym r
def as1B (a : DI) (r : Bool) : DB := match a with | .lit _ => .lit r | .sym _ => .sym r
def as1S (a : DI) (r : ByteArray) : DS := match a with | .lit _ => .lit r | .sym _ => .sym r
@[simp] theorem DI.lit_v (n : Int) : (DI.lit n).v = n := rfl
@[simp] theorem DI.sym_v (n : Int) : (DI.sym n).v = n := rfl
@[simp] theorem DN.lit_v (n : Nat) : (DN.lit n).v = n := rfl
@[simp] theorem DN.sym_v (n : Nat) : (DN.sym n).v = n := rfl
@[simp] theorem DB.lit_v (n : Bool) : (DB.lit n).v = n := rfl
@[simp] theorem DB.sym_v (n : Bool) : (DB.sym n).v = n := rfl
@[simp] theorem DS.lit_v (n : ByteArray) : (DS.lit n).v = n := rfl
@[simp] theorem DS.sym_v (n : ByteArray) : (DS.sym n).v = n := rfl
@[simp] theorem as1_v (a : DI) (r : Int) : (as1 a r).v = r := by cases a <;> rfl
@[simp] theorem as1B_v (a : DI) (r : Bool) : (as1B a r).v = r := by cases a <;> rfl
@[simp] theorem as1S_v (a : DI) (r : ByteArray) : (as1S a r).v = r := by cases a <;> rfl

/-- ████ A function that reads or writes memory, by the evaluator. -/
theorem can_of_exec {P : Program} {ct : Cx P} {f : FuncId} {fn : Func} {args : List DV} {hp hp' : Hp} {n n' rb : Nat} {d : DV} (invs : List (Nat × LInv)) (hf : P.funcs[f]? = some fn)
    (hn : Nat.ble args.length fn.ntmps = true) (hrb : Nat.ble rb n = true)
    (h : execF P ct rb invs fn args hp n (fun d' st => subS n ⟨[(0, d')], st.hp, st.nx⟩ ⟨[(0, d)], hp', n'⟩ True)) :
    DCall P f args hp n rb (fun d' st => subS n ⟨[(0, d')], st.hp, st.nx⟩ ⟨[(0, d)], hp', n'⟩ True) :=
  calls_of_exec hf h (Nat.le_of_ble_eq_true hn) (Nat.le_of_ble_eq_true hrb)

end Go.DE
