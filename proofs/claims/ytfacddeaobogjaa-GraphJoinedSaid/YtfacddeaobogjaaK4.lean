import Derived.Test.YtfacddeaobogjaaO
import Derived.WalkKit
import Derived.ProofKit
import Derived.OpenShut
import Derived.ChangeMaps5
import Derived.Carry
import Derived.Lib.SmallJoins
import Derived.Laws.IdiomArrays
set_option linter.unusedVariables false
set_option linter.unusedSimpArgs false
set_option linter.unnecessarySimpa false
set_option linter.unusedVariables false
set_option linter.unusedSimpArgs false
set_option linter.unnecessarySimpa false
/- From what the engine shows of a law's function to what the statement's row asks. -/
namespace Go.DF
open Go.ChangeShapes Go.WideShapes Go.ChangeAt Go.RowKit Go.Deep
universe u
variable {H : Type} {P : Program} {enc : TypeId × Value → H}

theorem Silent.keptBut {W w' : World} (h : Silent W w') (may : MemPlace → Prop) : W.keptBut w' may := by
  refine ⟨h.os, h.output, fun i hi => ?_⟩
  rw [h.kept i hi]
  cases W.heap[i]? with
  | none => trivial
  | some o => cases o <;> simp
theorem Silent.frozen {W w' : World} (h : Silent W w') (a : Addr) (ha : a.block < W.heap.size) : w'.frozen? a = W.frozen? a := by
  simp only [World.frozen?, h.kept a.block ha]
theorem Silent.sameAt {W w' : World} (h : Silent W w') (p : MemPlace) (hp : p.block < W.heap.size) : W.sameAt w' p := by
  cases p with
  | cell b off => simp only [World.sameAt, World.cell?]; rw [h.kept b hp]
  | map b => exact h.kept b hp

theorem trodAll_stays {W W' : World} {sp : Nat → Bool} (hl : laidOutB P = true) (hs : Silent W W') : ∀ {ts : List TypeId} {vs : List Value} {ds : List (DataW H)} {ps : List MemPlace},
    (∀ t ∈ ts, P.readableRec t = true ∧ t < P.types.size) → DataW.TrodAll enc P W 0 (fun _ => true) true ts vs ds ps → (∀ p ∈ ps, p.block < W.heap.size) → (∀ p ∈ ps, sp p.block = true) →
    DataW.TrodAll enc P W' 0 sp true ts vs ds ps
  | [], vs, ds, ps, _, h, _, _ => by
    obtain ⟨rfl, rfl, rfl⟩ := trodAll_nil h
    exact trodAll_mk0
  | t :: ts, vs, ds, ps, hr, h, hlt, hsp => by
    obtain ⟨v, vs', d, ds', p, q, rfl, rfl, rfl, h0, h1⟩ := trodAll_cons h
    have ht := hr t (by simp)
    exact trodAll_cons_mk (WideElems.Trod_stays hl ht.1 ht.2 h0 (fun x hx => hs.sameAt x (hlt x (by simp [hx]))) (fun x hx => hsp x (by simp [hx])))
      (trodAll_stays hl hs (fun t' h' => hr t' (by simp [h'])) h1 (fun x hx => hlt x (by simp [hx])) (fun x hx => hsp x (by simp [hx])))

/-- A law's row: it returned true, and no block that was there has turned. -/
theorem law_post {f : Func} {s : ChangeSpec} {apart fresh handsOn again : Bool} {W W' : World} {args : Array Value} {ds : List (DataW H)} {before : List MemPlace} {tb : TypeId}
    (hl : laidOutB P = true) (hr : (f.params.toList.all fun t => P.readableRec t && decide (t < P.types.size)) = true) (hvars : s.vars = []) (hres : f.resultTypes = #[tb]) (htb : P.underlying tb = some .bool)
    (hW : DataW.Whole enc P f.params.toList s.vars apart W args.toList ds [] before) (hfn : s.fn H (ds ++ []) = { results := [.lit (.bool true)], args := ds }) (hs : Silent W W') :
    s.post enc P f apart fresh handsOn again W args (.bool true) W' := by
  have hold : ∀ p ∈ before, (fun b => decide (b < W.heap.size)) p.block = true := fun p hp => by simpa using hW.lt p hp
  have hlt := hW.lt
  have hrr : ∀ t ∈ f.params.toList, P.readableRec t = true ∧ t < P.types.size := fun t ht => by
    have := List.all_eq_true.1 hr t ht
    simpa using this
  have hW0 := hW
  obtain ⟨p, q, hA, hV, rfl, hz, hn⟩ := hW
  rw [hvars] at hV
  obtain ⟨_, rfl⟩ := trodVars_none hV
  simp only [List.append_nil] at *
  have hargs : ∀ sp : Nat → Bool, (∀ x ∈ p, sp x.block = true) → DataW.TrodAll enc P W' 0 sp true f.params.toList args.toList ds p := fun sp hsp => trodAll_stays hl hs hrr hA hlt hsp
  have hresT : ∀ (b : Nat) (sp : Nat → Bool) (hd : Bool), DataW.TrodAll enc P W' b sp hd f.resultTypes.toList ((Value.bool true).resultList f.resultTypes.size) [.lit (.bool true)] [] := by
    intro b sp hd
    rw [hres]
    exact trodAll_cons_mk (shut_bool htb true) trodAll_mk0
  refine ⟨ds, [], p, [], p, [], hW0, ?_, ?_, ?_, World.keptBut_mono (fun x hx => ⟨hx, ?_⟩) (hs.keptBut (· ∈ p)), fun _ => ?_⟩
  · simp only [List.append_nil]; rw [hfn]; exact hresT _ _ _
  · simp only [List.append_nil]; rw [hfn]; exact hargs _ hold
  · simp only [List.append_nil]; rw [hfn, hvars]; rfl
  · exact Or.inr (by simpa using hx)
  · refine ⟨ok_one hres rfl (okWide_bool_mk htb true), _, [], ([] ++ p) ++ [], ⟨[] ++ p, [], trodAll_append (hargs _ (fun _ _ => rfl)) (hresT _ _ _), ?_, rfl, ?_, ?_⟩, ?_⟩
    · rw [hvars]; rfl
    · intro b off hp
      have hp' : MemPlace.cell b off ∈ p := by simpa using hp
      rw [hs.frozen _ (hlt _ hp')]
      exact hz b off hp'
    · intro ha
      simpa using hn ha
    · intro x hx _
      simpa using hx

section
variable [Fam]
/-- No block has a number; all that is there is written no more. -/
def gIn (w : World) : G := { ρ := fun _ => Option.none, pr := fun b => b < w.heap.size, base := fun _ => 0, sub := fun _ _ => Option.none }
/-- A law that writes nothing: it returns true. -/
theorem calls_true {f : FuncId} {args : List DV} (h : Pure1 P f args (.bool (.sym true))) (w : World) (vs : List Value) (hr : RepL (gIn w) w args vs) :
    Calls P f vs.toArray w fun e w' => e = .returned (.bool true) ∧ Silent w w' := by
  refine (h (gIn w) w vs hr (fun b hb => hb)).mono fun e w' ⟨v, g', he, hs, _, hv⟩ => ⟨?_, hs⟩
  rw [he]
  have : v = .bool true := by simpa [Rep] using hv
  rw [this]
/-- What comes in: a slice. -/
theorem open_sl {w : World} {held : Bool} {t : TypeId} {c : CT} {q : Option Addr} {n m : Nat} {d : DataW H} {p : List MemPlace} (hl : lay P 20 t (.sl c) = true) (h : DataW.Trod enc P w 0 (fun _ => true) held t (.slice q n m) d p) :
    ∃ l : List c.D, (CT.sl c).wf l ∧ Rep (gIn w) w (.per (.sl c) l) (.slice q n m) := by
  obtain ⟨fuel, h⟩ := h
  obtain ⟨l, h1, h2⟩ := trod_rp 20 t (.sl c) hl fuel _ _ h
  exact ⟨l, h1, by simp only [Rep]; exact h2⟩
end
theorem lit_u32 {a : Int} (h : (Lit.int .u32 a).wf = true) : 0 ≤ a ∧ a < 4294967296 := by
  simp only [Lit.wf, Bool.and_eq_true, decide_eq_true_eq] at h
  have e1 : IntKind.u32.min = 0 := by decide
  have e2 : IntKind.u32.max = 4294967295 := by decide
  rw [e1, e2] at h; omega
theorem lit_u8 {a : Int} (h : (Lit.int .u8 a).wf = true) : 0 ≤ a ∧ a < 256 := by
  simp only [Lit.wf, Bool.and_eq_true, decide_eq_true_eq] at h
  have e1 : IntKind.u8.min = 0 := by decide
  have e2 : IntKind.u8.max = 255 := by decide
  rw [e1, e2] at h; omega
/-! what comes in, opened -/
variable {w : World} {base : Nat} {spare : Nat → Bool} {held : Bool}
theorem open_str4 {r : Reach} {b0 : Nat} {t : TypeId} {f0 f1 f2 f3 : Field} {v : Value} {d : DataW H} {p : List MemPlace} {k0 k1 k2 k3 : IntKind} (hs : P.underlying t = some (.struct #[f0, f1, f2, f3])) (hone : oneCellFields P #[f0, f1, f2, f3] = true) (hC : P.cellsOf t = 4)
    (u0 : P.underlying f0.type = some (.int k0)) (u1 : P.underlying f1.type = some (.int k1)) (u2 : P.underlying f2.type = some (.int k2)) (u3 : P.underlying f3.type = some (.int k3))
    (hv : Value.okWide P w r b0 t v) (h : DataW.Trod enc P w base spare held t v d p) :
    ∃ a0 a1 a2 a3 : Int, v = .agg #[.int k0 a0, .int k1 a1, .int k2 a2, .int k3 a3] ∧ (Lit.int k0 a0).wf = true ∧ (Lit.int k1 a1).wf = true ∧ (Lit.int k2 a2).wf = true ∧ (Lit.int k3 a3).wf = true := by
  obtain ⟨v0, v1, v2, v3, y0, y1, y2, y3, n, rfl, _, _, h0, h1, h2, h3⟩ := Joins.open_agg4 hs hone hC hv h
  obtain ⟨a0, e0, _, w0⟩ := DataW.trod_int u0 h0
  obtain ⟨a1, e1, _, w1⟩ := DataW.trod_int u1 h1
  obtain ⟨a2, e2, _, w2⟩ := DataW.trod_int u2 h2
  obtain ⟨a3, e3, _, w3⟩ := DataW.trod_int u3 h3
  simp only [List.cons.injEq, and_true] at e0 e1 e2 e3
  subst e0; subst e1; subst e2; subst e3
  exact ⟨a0, a1, a2, a3, rfl, w0, w1, w2, w3⟩
theorem open_arr4 {r : Reach} {b0 : Nat} {t e : TypeId} {v : Value} {d : DataW H} {p : List MemPlace} {k : IntKind} (ht : P.underlying t = some (.array 4 e)) (hce : P.cellsOf e = 1) (hC : P.cellsOf t = 4) (he : P.underlying e = some (.int k))
    (hv : Value.okWide P w r b0 t v) (h : DataW.Trod enc P w base spare held t v d p) :
    ∃ a0 a1 a2 a3 : Int, v = .agg #[.int k a0, .int k a1, .int k a2, .int k a3] ∧ (Lit.int k a0).wf = true ∧ (Lit.int k a1).wf = true ∧ (Lit.int k a2).wf = true ∧ (Lit.int k a3).wf = true := by
  simp only [Value.okWide, ht] at hv
  obtain ⟨cs, rfl, hsz, _⟩ := hv
  obtain ⟨c0, c1, c2, c3, rfl⟩ := Joins.array4 (hsz.trans hC)
  obtain ⟨n, h⟩ := h
  have h : DataW.trod enc P w base spare held n t [c0, c1, c2, c3] = some (d, p) := h
  obtain ⟨y0, y1, y2, y3, n, _, h0, h1, h2, h3⟩ := trod_array4 ht hce h
  obtain ⟨a0, e0, _, w0⟩ := DataW.trod_int he h0
  obtain ⟨a1, e1, _, w1⟩ := DataW.trod_int he h1
  obtain ⟨a2, e2, _, w2⟩ := DataW.trod_int he h2
  obtain ⟨a3, e3, _, w3⟩ := DataW.trod_int he h3
  simp only [List.cons.injEq, and_true] at e0 e1 e2 e3
  subst e0; subst e1; subst e2; subst e3
  exact ⟨a0, a1, a2, a3, rfl, w0, w1, w2, w3⟩
end Go.DF
