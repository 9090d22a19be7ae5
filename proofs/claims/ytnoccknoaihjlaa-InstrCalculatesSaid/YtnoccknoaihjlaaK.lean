import Derived.Test.YtnoccknoaihjlaaI4
import Derived.WalkKit
import Derived.ProofKit
import Derived.OpenShut
set_option linter.unusedVariables false
set_option linter.unusedSimpArgs false
set_option linter.unnecessarySimpa false
/- From what the engine shows of a law's function to what the statement's row asks. -/
namespace Go.DE
open Go.ChangeShapes Go.WideShapes Go.ChangeAt Go.RowKit
universe u
variable {H : Type} {P : Program} {enc : TypeId × Value → H}

def GrownE (W w' : World) : Prop := W.keptBut w' (fun _ => False) ∧ (∀ a, a.block < W.heap.size → w'.frozen? a = W.frozen? a) ∧ W.heap.size ≤ w'.heap.size
theorem Silent.grown {W w' : World} (h : Silent W w') : GrownE W w' := by
  refine ⟨⟨h.os, h.output, fun i hi => ?_⟩, fun a ha => ?_, h.size⟩
  · rw [h.kept i hi]
    cases W.heap[i]? with
    | none => trivial
    | some o => cases o <;> simp
  · simp only [World.frozen?, h.kept a.block ha]
theorem GrownE.frame {W w' : World} (h : GrownE W w') (may : MemPlace → Prop) : W.keptBut w' may := World.keptBut_mono (fun _ f => f.elim) h.1

theorem post_of_grown {f : Func} {s : ChangeSpec} {apart fresh handsOn again : Bool} {W W' : World} {args : Array Value} {v : Value} {ds gs : List (DataW H)} {before pa pv : List MemPlace}
    (hW : DataW.Whole enc P f.params.toList s.vars apart W args.toList ds gs before)
    (hres : ∀ (b : Nat) (sp : Nat → Bool) (hd : Bool), DataW.TrodAll enc P W' b sp hd f.resultTypes.toList (v.resultList f.resultTypes.size) (s.fn H (ds ++ gs)).results [])
    (hargs : ∀ sp : Nat → Bool, (∀ p ∈ before, sp p.block = true) → DataW.TrodAll enc P W' 0 sp true f.params.toList args.toList (s.fn H (ds ++ gs)).args pa)
    (hvars : ∀ sp : Nat → Bool, (∀ p ∈ before, sp p.block = true) → DataW.TrodVars enc P W' sp s.vars (s.fn H (ds ++ gs)).vars pv)
    (hps : before = pa ++ pv) (hk : W.keptBut W' (· ∈ before)) (hfz : ∀ a, a.block < W.heap.size → W'.frozen? a = W.frozen? a)
    (hok : ∀ (j : Nat) (t : TypeId) (r : Value), f.resultTypes[j]? = some t → (v.resultList f.resultTypes.size)[j]? = some r → Value.okWide P W' .any 0 t r) :
    s.post enc P f apart fresh handsOn again W args v W' := by
  have hold : ∀ p ∈ before, (fun b => decide (b < W.heap.size)) p.block = true := fun p hp => by simpa using hW.lt p hp
  have hlt := hW.lt
  refine ⟨ds, gs, before, [], pa, pv, hW, hres _ _ _, hargs _ hold, hvars _ hold, World.keptBut_mono (fun p hp => ⟨hp, ?_⟩) hk, fun _ => ?_⟩
  · rw [hps, List.mem_append] at hp
    exact Or.inr hp
  · obtain ⟨_, _, _, _, _, hz, hn⟩ := hW
    refine ⟨hok, _, _, ([] ++ pa) ++ pv, ⟨[] ++ pa, pv, trodAll_append (hargs _ (fun _ _ => rfl)) (hres _ _ _), hvars _ (fun _ _ => rfl), rfl, ?_, ?_⟩, ?_⟩
    · intro b off hp
      have hp' : MemPlace.cell b off ∈ before := by rw [hps]; simpa using hp
      rw [hfz _ (hlt _ hp')]
      exact hz b off hp'
    · intro ha
      have := hn ha
      rw [hps] at this
      simpa using this
    · intro p hp _
      rw [hps]
      simpa using hp

/-- No block is known. -/
def gNone : G := { ρ := fun _ => Option.none, pr := fun _ => False }
/-- A law of plain arguments: it returns true. -/
theorem calls_true {f : FuncId} {args : List DV} (h : Pure1 P f args (.bool (.sym true))) (w : World) (vs : List Value) (hr : RepL gNone w args vs) :
    Calls P f vs.toArray w fun e w' => e = .returned (.bool true) ∧ GrownE w w' := by
  refine (h gNone w vs hr (fun b hb => hb.elim)).mono fun e w' ⟨v, he, hs, hv⟩ => ⟨?_, hs.grown⟩
  rw [he]
  have : v = .bool true := by simpa [Rep] using hv
  rw [this]
theorem lit_u32 {a : Int} (h : (Lit.int .u32 a).wf = true) : 0 ≤ a ∧ a < 4294967296 := by
  simp only [Lit.wf, Bool.and_eq_true, decide_eq_true_eq] at h
  have e1 : IntKind.u32.min = 0 := by decide
  have e2 : IntKind.u32.max = 4294967295 := by decide
  rw [e1, e2] at h; omega
end Go.DE
