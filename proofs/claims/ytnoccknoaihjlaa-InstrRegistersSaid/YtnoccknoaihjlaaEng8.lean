import Derived.Test.YtnoccknoaihjlaaEng7
set_option linter.unusedVariables false
set_option linter.unusedSimpArgs false
set_option linter.unnecessarySimpa false
/- The engine, part 8: a region that draws its order. -/
namespace Go.DE
universe u v

def dvOf (tr : List (Bool × DV × Fr)) (i : Nat) : DV := match tr[i]? with | some x => x.2.1 | none => .any

theorem mem_done {ops : List Oper} {tr : List (Bool × DV × Fr)} (hl : tr.length = ops.length) {j t : Nat} {e : DV} :
    (some t, e) ∈ (((ops.take j).zip (tr.take j)).map fun x => (x.1.dst, x.2.2.1)) ↔ ∃ i o, i < j ∧ ops[i]? = some o ∧ o.dst = some t ∧ e = dvOf tr i := by
  constructor
  · intro h
    obtain ⟨x, hx, he⟩ := List.mem_map.1 h
    obtain ⟨i, hi⟩ := List.mem_iff_getElem?.1 hx
    obtain ⟨h1, h2⟩ := List.getElem?_zip_eq_some.1 hi
    rw [List.getElem?_take] at h1 h2
    split at h1
    · rename_i hij
      rw [if_pos hij] at h2
      simp only [Prod.mk.injEq] at he
      exact ⟨i, x.1, hij, h1, he.1, by simp [dvOf, h2, he.2]⟩
    · simp at h1
  · rintro ⟨i, o, hij, ho, hd, rfl⟩
    have hlt : i < ops.length := by
      rcases Nat.lt_or_ge i ops.length with h | h
      · exact h
      · rw [List.getElem?_eq_none h] at ho; simp at ho
    have ht : ∃ x, tr[i]? = some x := ⟨tr[i]'(by omega), List.getElem?_eq_getElem _⟩
    obtain ⟨x, hx⟩ := ht
    refine List.mem_map.2 ⟨(o, x), ?_, by simp [hd, dvOf, hx]⟩
    refine List.mem_iff_getElem?.2 ⟨i, ?_⟩
    exact List.getElem?_zip_eq_some.2 ⟨by rw [List.getElem?_take, if_pos hij]; exact ho, by rw [List.getElem?_take, if_pos hij]; exact hx⟩

structure Inv (g : G) (N : Nat) (ops : Array Oper) (tr : List (Bool × DV × Fr)) (a : Act) (w : World) (listed : Array Bool) (a' : Act) (w' : World) : Prop where
  sil : Silent w w'
  size : a'.tmps.size = N
  dfr : a'.defers = []
  lst : ∀ (i : Nat) (o : Oper) (t : Nat), listed[i]? = some true → ops.toList[i]? = some o → o.dst = some t → ∃ v, a'.tmps[t]? = some v ∧ Rep g w' (dvOf tr i) v
  old : ∀ t, (∀ (i : Nat) (o : Oper), ops.toList[i]? = some o → o.dst ≠ some t) → a'.tmps[t]? = a.tmps[t]?
  lsz : listed.size = ops.size

section
variable {P : Program} {ct : Cx P} {N : Nat} {hp : Hp} {ops : Array Oper} {Q : Exit → Act → World → Prop} {g : G} {fr fr' : Fr} {a : Act} {w : World} {tr : List (Bool × DV × Fr)}

theorem slot_ok (hok : drawOk ops.toList = true) (hR : Rel g hp w) (hF : FrOk g N fr a w) (hl : tr.length = ops.toList.length) {listed : Array Bool} {a' : Act} {w' : World} (hI : Inv g N ops tr a w listed a' w')
    {j : Nat} {o : Oper} (hj : ops.toList[j]? = some o) (he : ∀ e, e ∈ o.after.toList → Region.binds .any e = true → listed[e.on]? = some true)
    {f : Fr} (hp : Prov fr (((ops.toList.take j).zip (tr.take j)).map fun x => (x.1.dst, x.2.2.1)) f) {t : Nat} (ht : t ∈ readsO ops.toList o) {d : DV} (hd : look f t = some d) :
    ∃ v, a'.tmps[t]? = some v ∧ Rep g w' d v := by
  obtain ⟨h1, h2, _⟩ := drawOk_spec hok hj
  rcases hp t d hd with ⟨e, hm, hi⟩ | ⟨hm, d0, h0, hi⟩
  · obtain ⟨i, oi, hij, hoi, hdi, rfl⟩ := (mem_done hl).1 hm
    obtain ⟨ed, hed, rfl, hb⟩ := h2 t ht i oi hoi hdi
    obtain ⟨v, hv, hr⟩ := hI.lst _ oi t (he ed hed hb) hoi hdi
    exact ⟨v, hv, hi _ _ _ hr⟩
  · have hnone : ∀ (i : Nat) (oi : Oper), ops.toList[i]? = some oi → oi.dst ≠ some t := by
      intro i oi hoi hdi
      obtain ⟨ed, hed, rfl, hb⟩ := h2 t ht i oi hoi hdi
      exact hm (dvOf tr ed.on) ((mem_done hl).2 ⟨ed.on, oi, h1 ed hed hb, hoi, hdi, rfl⟩)
    obtain ⟨v, hv, hr⟩ := hF.frm t d0 h0
    exact ⟨v, (hI.old t hnone).trans hv, Rep.ext (hR.extS hI.sil) _ _ (hi _ _ _ hr)⟩

theorem inv_put (hok : drawOk ops.toList = true) (hR : Rel g hp w) {listed : Array Bool} {a' : Act} {w' w'' : World} (hI : Inv g N ops tr a w listed a' w') (hs : Silent w' w'')
    {j : Nat} {o : Oper} (hj : ops.toList[j]? = some o) {v : Value} (hr : Rep g w'' (dvOf tr j) v) (hN : ∀ t, o.dst = some t → t < N) :
    Inv g N ops tr a w (listed.setIfInBounds j true) (a'.put o.dst v) w'' := by
  obtain ⟨_, _, h3⟩ := drawOk_spec hok hj
  have hjl : j < listed.size := by
    rw [hI.lsz]
    rcases Nat.lt_or_ge j ops.size with h | h
    · exact h
    · rw [List.getElem?_eq_none (by simpa using h)] at hj; simp at hj
  have hext : Ext g w' g w'' := (hR.silent hI.sil).extS hs
  refine ⟨hI.sil.trans hs, ?_, ?_, ?_, ?_, by simp [hI.lsz]⟩
  · cases o.dst <;> simp [Act.put, hI.size]
  · cases o.dst <;> simp [Act.put, hI.dfr]
  · intro i oi t hi hoi hdi
    by_cases hij : i = j
    · subst hij
      obtain rfl : oi = o := by rw [hj] at hoi; exact (Option.some.inj hoi).symm
      rw [hdi]
      exact ⟨v, by simp [Act.put, hI.size, hN t hdi], hr⟩
    · have hi' : listed[i]? = some true := by rw [Array.getElem?_setIfInBounds_ne (fun e => hij e.symm)] at hi; exact hi
      obtain ⟨u, hu, hur⟩ := hI.lst i oi t hi' hoi hdi
      refine ⟨u, ?_, Rep.ext hext _ _ hur⟩
      cases hdj : o.dst with
      | none => simpa [Act.put] using hu
      | some s =>
        have hst : s ≠ t := by
          intro e; subst e
          exact hij (h3 s hdj i oi hoi hdi)
        simp only [Act.put]
        rw [Array.getElem?_setIfInBounds_ne hst]
        exact hu
  · intro t ht
    rw [← hI.old t ht]
    cases hdj : o.dst with
    | none => rfl
    | some s =>
      have hst : s ≠ t := by intro e; subst e; exact ht j o hj hdj
      simp only [Act.put]
      rw [Array.getElem?_setIfInBounds_ne hst]

/-- How many are still to come. -/
def unl (ops : Array Oper) (listed : Array Bool) : Nat := ((List.range ops.size).filter fun i => !listed.getD i true).length

theorem all_listed {listed : Array Bool} (hl : listed.size = ops.size) (h : ∀ i, i < ops.size → listed.getD i true = true) : ∀ i, i < ops.size → listed[i]? = some true := by
  intro i hi
  have := h i hi
  rw [Array.getD_eq_getD_getElem?] at this
  cases hx : listed[i]? with
  | none => rw [Array.getElem?_eq_none_iff] at hx; omega
  | some b => rw [hx] at this; simpa using this

theorem listed_of_ready_nil (hok : drawOk ops.toList = true) {listed : Array Bool} (hr : Region.ready .any ops listed = []) : ∀ i, i < ops.size → listed.getD i true = true := by
  intro i
  induction i using Nat.strongRecOn with
  | _ i ih =>
    intro hi
    cases hg : listed.getD i true with
    | true => rfl
    | false =>
      have ho : ops[i]? = some ops[i] := Array.getElem?_eq_getElem hi
      have hj : ops.toList[i]? = some ops[i] := by simpa using ho
      obtain ⟨h1, _, _⟩ := drawOk_spec hok hj
      have hm : i ∈ Region.ready .any ops listed := by
        unfold Region.ready
        refine List.mem_filter.2 ⟨List.mem_range.2 hi, ?_⟩
        simp only [hg, Bool.not_false, Bool.true_and, ho, Option.map_some, Option.getD_some]
        rw [Array.all_eq_true_iff_forall_mem]
        intro e he
        cases hb : Region.binds .any e with
        | false => rfl
        | true =>
          have hlt := h1 e (by simpa using he) hb
          have := ih e.on hlt (by omega)
          rw [Array.getD_eq_getD_getElem?] at this ⊢
          cases hx : listed[e.on]? with
          | none =>
            exfalso
            rw [Array.getElem?_eq_none_iff] at hx
            have h2 : listed.getD i true = true := by
              rw [Array.getD_eq_getD_getElem?, Array.getElem?_eq_none_iff.2 (by omega)]; rfl
            rw [h2] at hg; simp at hg
          | some b => rw [hx] at this; simpa using this
      rw [hr] at hm
      simp at hm

theorem draw_step (hok : drawOk ops.toList = true) (hR : Rel g hp w) (hF : FrOk g N fr a w) (hl : tr.length = ops.toList.length)
    (hall : ∀ (j : Nat) (o : Oper) (b : Bool) (d : DV) (fi : Fr), ops.toList[j]? = some o → tr[j]? = some (b, d, fi) →
      Prov fr (((ops.toList.take j).zip (tr.take j)).map fun x => (x.1.dst, x.2.2.1)) fi ∧ (∃ fg, (guardT ops.toList fg o).Path (b, fi) ∧ Prov fr (((ops.toList.take j).zip (tr.take j)).map fun x => (x.1.dst, x.2.2.1)) fg) ∧
      (b = true → (evS P ct hp (lkF fi) o.op).Path d) ∧ (b = false → d = .tup []) ∧ (∀ t, o.dst = some t → t < N))
    (hQ : ∀ a' w', Silent w w' → a'.tmps.size = N → a'.defers = [] → (∀ listed : Array Bool, (∀ i : Nat, i < ops.size → listed[i]? = some true) → Inv g N ops tr a w listed a' w' → Q .normal a' w')) :
    ∀ (fuel : Nat) (listed : Array Bool) (a' : Act) (w' : World), unl ops listed ≤ fuel → Inv g N ops tr a w listed a' w' → wpAny P .any ops Q fuel listed a' w' := by
  have fin : ∀ (listed : Array Bool) (a' : Act) (w' : World), Inv g N ops tr a w listed a' w' → (∀ i, i < ops.size → listed.getD i true = true) → Q .normal a' w' :=
    fun listed a' w' hI h => hQ a' w' hI.sil hI.size hI.dfr listed (all_listed hI.lsz h) hI
  intro fuel
  induction fuel with
  | zero =>
    intro listed a' w' hu hI
    have h0 : (List.range ops.size).filter (fun i => !listed.getD i true) = [] := List.length_eq_zero_iff.1 (by unfold unl at hu; omega)
    have hall' : ∀ i, i < ops.size → listed.getD i true = true := by
      intro i hi
      have := List.filter_eq_nil_iff.1 h0 i (List.mem_range.2 hi)
      simpa using this
    refine ⟨?_, fin listed a' w' hI hall'⟩
    unfold Region.ready
    refine List.filter_eq_nil_iff.2 fun i hi => ?_
    simp [hall' i (List.mem_range.1 hi)]
  | succ fuel ih =>
    intro listed a' w' hu hI
    refine ⟨fun hr => fin listed a' w' hI (listed_of_ready_nil hok hr), ?_⟩
    intro j hj
    unfold Region.ready at hj
    obtain ⟨hjr, hjc⟩ := List.mem_filter.1 hj
    have hjn := List.mem_range.1 hjr
    simp only [Bool.and_eq_true, Bool.not_eq_true'] at hjc
    obtain ⟨hju, hje⟩ := hjc
    have ho : ops[j]? = some ops[j] := Array.getElem?_eq_getElem hjn
    have hol : ops.toList[j]? = some ops[j] := by simpa using ho
    rw [ho] at hje
    simp only [Option.map_some, Option.getD_some, Array.all_eq_true_iff_forall_mem] at hje
    have hedge : ∀ e, e ∈ ops[j].after.toList → Region.binds .any e = true → listed[e.on]? = some true := by
      intro e he hb
      have := hje e (by simpa using he)
      simp only [hb, Bool.not_true, Bool.false_or] at this
      rw [Array.getD_eq_getD_getElem?] at this
      cases hx : listed[e.on]? with
      | none => rw [hx] at this; simp at this
      | some b => rw [hx] at this; simpa using this
    have hjt : ∃ x, tr[j]? = some x := ⟨tr[j]'(by rw [hl]; simpa using hjn), List.getElem?_eq_getElem _⟩
    obtain ⟨⟨b, d, fi⟩, hjt⟩ := hjt
    obtain ⟨hpi, ⟨fg, hg, hpg⟩, hev, hun, hN⟩ := hall j _ b d fi hol hjt
    have hdv : dvOf tr j = d := by simp [dvOf, hjt]
    have hu' : unl ops (listed.setIfInBounds j true) ≤ fuel := by
      have hlt : unl ops (listed.setIfInBounds j true) < unl ops listed := by
        unfold unl
        have hjl : j < listed.size := by rw [hI.lsz]; exact hjn
        have e : (List.range ops.size).filter (fun i => !(listed.setIfInBounds j true).getD i true) = ((List.range ops.size).filter (fun i => !listed.getD i true)).filter (fun i => decide (i ≠ j)) := by
          rw [List.filter_filter]
          refine List.filter_congr fun i _ => ?_
          rw [Array.getD_eq_getD_getElem?, Array.getD_eq_getD_getElem?]
          by_cases hij : i = j
          · subst hij; simp [hjl]
          · rw [Array.getElem?_setIfInBounds_ne (fun e => hij e.symm)]; simp [hij]
        rw [e]
        refine List.length_filter_lt_length_iff_exists.2 ⟨j, ?_, by simp⟩
        exact List.mem_filter.2 ⟨hjr, by simpa using hju⟩
      omega
    have hguard : Region.wanted ops[j] (yielded ops a'.tmps) = b := by
      refine guardT_wanted (g := g) (w := w') hg ?_
      intro t ht dd hdd
      exact slot_ok hok hR hF hl hI hol hedge hpg (by simp [readsO, ht]) hdd
    unfold wpOp
    rw [ho]
    simp only [hguard]
    cases b with
    | false =>
      simp only [Bool.false_eq_true, if_false]
      refine ih _ _ _ hu' (inv_put hok hR hI (Silent.refl _) hol ?_ hN)
      rw [hdv, hun rfl]
      exact rep_undef g w'
    | true =>
      simp only [if_true]
      refine .inl (evS_ok (hR.silent hI.sil) ?_ (hev rfl) a' _ Q rfl ?_)
      · intro x hx dd hdd
        refine lkF_rep ?_ hdd
        intro t hxt d' hd'
        subst hxt
        exact slot_ok hok hR hF hl hI hol hedge hpi (by
          unfold readsO
          refine List.mem_append.2 (.inl (List.mem_flatMap.2 ⟨_, hx, by simp [tmpO]⟩))) hd'
      · intro v w'' hs hr
        refine ih _ _ _ hu' (inv_put hok hR hI hs hol ?_ hN)
        rw [hdv]; exact hr

theorem region_draw (hm : P.follows .mixedOrders = true) (hok : drawOk ops.toList = true) {id : Nat} (h : (runS P ct N hp ops.toList ops.toList fr).Path fr') (hR : Rel g hp w) (hF : FrOk g N fr a w)
    (hQ : ∀ a' w', Silent w w' → FrOk g N fr' a' w' → Q .normal a' w') : (Code.region id ops true).wp P Q a w := by
  obtain ⟨tr, ht⟩ := trace_of_path _ _ _ h
  obtain ⟨hl, hfin, hall⟩ := trace_prov (fr0 := fr) _ _ _ _ [] ht (fun t d hd => .inr ⟨by simp, d, hd, Imp.refl _⟩)
  simp only [List.nil_append] at hfin hall
  refine wp_region_any hm ?_
  have hs0 : Silent w { w with drawn := w.drawn + 1 } := Silent.drew w
  refine draw_step (fr := fr) (tr := tr) (w := { w with drawn := w.drawn + 1 }) (a := a) (N := N) (g := g) hok (hR.silent hs0) (hF.ext (hR.extS hs0)) hl hall ?_ _ _ _ _ ?_ ?_
  · intro a' w' hs hsz hd listed hlall hI
    refine hQ a' w' (hs0.trans hs) ⟨fun t d hd' => ?_, hsz, hd⟩
    have hfin' : Prov fr (((ops.toList.take ops.toList.length).zip (tr.take ops.toList.length)).map fun x => (x.1.dst, x.2.2.1)) fr' := by
      rw [List.take_length, ← hl, List.take_length]; exact hfin
    rcases hfin' t d hd' with ⟨e, hme, hi⟩ | ⟨hme, d0, h0, hi⟩
    · obtain ⟨i, oi, hij, hoi, hdi, rfl⟩ := (mem_done hl).1 hme
      obtain ⟨v, hv, hr⟩ := hI.lst i oi t (hlall i (by simpa using hij)) hoi hdi
      exact ⟨v, hv, hi _ _ _ hr⟩
    · have hnone : ∀ (i : Nat) (oi : Oper), ops.toList[i]? = some oi → oi.dst ≠ some t := by
        intro i oi hoi hdi
        have hlt : i < ops.toList.length := by
          rcases Nat.lt_or_ge i ops.toList.length with h | h
          · exact h
          · rw [List.getElem?_eq_none h] at hoi; simp at hoi
        exact hme (dvOf tr i) ((mem_done hl).2 ⟨i, oi, hlt, hoi, hdi, rfl⟩)
      obtain ⟨v, hv, hr⟩ := hF.frm t d0 h0
      exact ⟨v, (hI.old t hnone).trans hv, Rep.ext (hR.extS (hs0.trans hs)) _ _ (hi _ _ _ hr)⟩
  · unfold unl
    exact Nat.le_trans (List.length_filter_le _ _) (by simp)
  · refine ⟨Silent.refl _, hF.size, hF.dfr, ?_, fun _ _ => rfl, by simp⟩
    intro i o t hi
    rw [Array.getElem?_replicate] at hi
    split at hi <;> simp at hi

end
end Go.DE
