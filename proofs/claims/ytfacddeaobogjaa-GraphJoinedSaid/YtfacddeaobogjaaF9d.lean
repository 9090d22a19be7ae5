import Derived.Test.YtfacddeaobogjaaF9b
set_option linter.unusedVariables false
set_option linter.unusedSimpArgs false
set_option linter.unnecessarySimpa false
/- The engine, part 9d: a region that draws its order, whole. -/
namespace Go.DF
universe u v
set_option linter.unusedSimpArgs false
set_option linter.unusedVariables false
variable [Fam]

section
variable {P : Program} {ct : Cx P} {N : Nat} {ops : Array Oper} {Q : Exit → Act → World → Prop} {g g' : G} {st : St} {nxE : Nat} {a a' : Act} {w w' : World} {tr : List TE} {h : Nat → Hp} {n : Nat → Nat} {H : Hp} {listed : Array Bool}

/-- How many are still to come. -/
def unl (ops : Array Oper) (listed : Array Bool) : Nat := ((List.range ops.size).filter fun i => !listed.getD i true).length

omit [Fam] in
theorem all_listed {listed : Array Bool} (hl : listed.size = ops.size) (h : ∀ i, i < ops.size → listed.getD i true = true) : ∀ i, i < ops.size → listed[i]? = some true := by
  intro i hi
  have := h i hi
  rw [Array.getD_eq_getD_getElem?] at this
  cases hx : listed[i]? with
  | none => rw [Array.getElem?_eq_none_iff] at hx; omega
  | some b => rw [hx] at this; simpa using this

omit [Fam] in
theorem listed_of_ready_nil (hok : drawOk ops.toList = true) {listed : Array Bool} (hr : Region.ready .any ops listed = []) : ∀ i, i < ops.size → listed.getD i true = true := by
  intro i
  induction i using Nat.strongRecOn with
  | _ i ih =>
    intro hi
    cases hg : listed.getD i true with
    | true => rfl
    | false =>
      have ho : ops[i]? = some ops[i] := Array.getElem?_eq_getElem hi
      have hj : ops.toList[i]? = some ops[i] := by simpa using ho
      obtain ⟨h1, _, _⟩ := drawOk_spec hok hj
      have hm : i ∈ Region.ready .any ops listed := by
        unfold Region.ready
        refine List.mem_filter.2 ⟨List.mem_range.2 hi, ?_⟩
        simp only [hg, Bool.not_false, Bool.true_and, ho, Option.map_some, Option.getD_some]
        rw [Array.all_eq_true_iff_forall_mem]
        intro e he
        cases hb : Region.binds .any e with
        | false => rfl
        | true =>
          have hlt := h1 e (by simpa using he) hb
          have := ih e.on hlt (by omega)
          rw [Array.getD_eq_getD_getElem?] at this ⊢
          cases hx : listed[e.on]? with
          | none =>
            exfalso
            rw [Array.getElem?_eq_none_iff] at hx
            have h2 : listed.getD i true = true := by
              rw [Array.getD_eq_getD_getElem?, Array.getElem?_eq_none_iff.2 (by omega)]; rfl
            rw [h2] at hg; simp at hg
          | some b => rw [hx] at this; simpa using this
      rw [hr] at hm
      simp at hm

theorem draw_step {rd : Option Nat} (hok : drawOk ops.toList = true) (hF : FrOk g N st.fr a w) (hl : tr.length = ops.toList.length) (hall : AllT P ct N ops.toList st.fr tr h n) (hc : Conf ops.toList tr) (hn0 : n 0 = st.nx) (hnE : n ops.size = nxE)
    (hnb : nxE ≤ noBlock) (hfr : ∀ i, st.nx ≤ i → g.ρ i = none)
    (hQ : ∀ listed g' a' w' H, (∀ i : Nat, i < ops.size → listed[i]? = some true) → Inv g w st nxE N ops tr h a listed g' a' w' H → Q .normal a' w') :
    ∀ (fuel : Nat) (listed : Array Bool) (g' : G) (a' : Act) (w' : World) (H : Hp), unl ops listed ≤ fuel → Inv g w st nxE N ops tr h a listed g' a' w' H → wpAnyIn (fz rd) 0 P .any ops Q fuel listed a' w' := by
  have fin : ∀ (listed : Array Bool) (g' : G) (a' : Act) (w' : World) (H : Hp), Inv g w st nxE N ops tr h a listed g' a' w' H → (∀ i, i < ops.size → listed.getD i true = true) → Q .normal a' w' :=
    fun listed g' a' w' H hI h => hQ listed g' a' w' H (all_listed hI.lsz h) hI
  intro fuel
  induction fuel with
  | zero =>
    intro listed g' a' w' H hu hI
    have h0 : (List.range ops.size).filter (fun i => !listed.getD i true) = [] := List.length_eq_zero_iff.1 (by unfold unl at hu; omega)
    have hall' : ∀ i, i < ops.size → listed.getD i true = true := by
      intro i hi
      have := List.filter_eq_nil_iff.1 h0 i (List.mem_range.2 hi)
      simpa using this
    refine ⟨?_, fin listed g' a' w' H hI hall'⟩
    unfold Region.ready
    refine List.filter_eq_nil_iff.2 fun i hi => ?_
    simp [hall' i (List.mem_range.1 hi)]
  | succ fuel ih =>
    intro listed g' a' w' H hu hI
    refine ⟨fun hr => fin listed g' a' w' H hI (listed_of_ready_nil hok hr), ?_⟩
    intro j hj
    unfold Region.ready at hj
    obtain ⟨hjr, hjc⟩ := List.mem_filter.1 hj
    have hjn := List.mem_range.1 hjr
    simp only [Bool.and_eq_true, Bool.not_eq_true'] at hjc
    obtain ⟨hju, hje⟩ := hjc
    have ho : ops[j]? = some ops[j] := Array.getElem?_eq_getElem hjn
    have hol : ops.toList[j]? = some ops[j] := by simpa using ho
    rw [ho] at hje
    simp only [Option.map_some, Option.getD_some, Array.all_eq_true_iff_forall_mem] at hje
    have hedge : ∀ e, e ∈ ops[j].after.toList → Region.binds .any e = true → listed[e.on]? = some true := by
      intro e he hb
      have := hje e (by simpa using he)
      simp only [hb, Bool.not_true, Bool.false_or] at this
      rw [Array.getD_eq_getD_getElem?] at this
      cases hx : listed[e.on]? with
      | none => rw [hx] at this; simp at this
      | some b => rw [hx] at this; simpa using this
    have hjt : ∃ x, tr[j]? = some x := ⟨tr[j]'(by rw [hl]; simpa using hjn), List.getElem?_eq_getElem _⟩
    obtain ⟨x, hjt⟩ := hjt
    obtain ⟨q1, q2, q3, q4, q5, hpi, ⟨fg, hg, hpg⟩, hev, hun, hN⟩ := hall j _ x hol hjt
    have hdv : dvOf tr j = x.d := by simp [dvOf, hjt]
    have hjU : listed[j]? ≠ some true := by
      intro e
      rw [Array.getD_eq_getD_getElem?, e] at hju
      simp at hju
    have hu' : unl ops (listed.setIfInBounds j true) ≤ fuel := by
      have hlt : unl ops (listed.setIfInBounds j true) < unl ops listed := by
        unfold unl
        have hjl : j < listed.size := by rw [hI.lsz]; exact hjn
        have e : (List.range ops.size).filter (fun i => !(listed.setIfInBounds j true).getD i true) = ((List.range ops.size).filter (fun i => !listed.getD i true)).filter (fun i => decide (i ≠ j)) := by
          rw [List.filter_filter]
          refine List.filter_congr fun i _ => ?_
          rw [Array.getD_eq_getD_getElem?, Array.getD_eq_getD_getElem?]
          by_cases hij : i = j
          · subst hij; simp [hjl]
          · rw [Array.getElem?_setIfInBounds_ne (fun e => hij e.symm)]; simp [hij]
        rw [e]
        refine List.length_filter_lt_length_iff_exists.2 ⟨j, ?_, by simp⟩
        exact List.mem_filter.2 ⟨hjr, by simpa using hju⟩
      omega
    have hguard : Region.wanted ops[j] (yielded ops a'.tmps) = x.b := by
      refine guardT_wanted (g := g') (w := w') hg ?_
      intro t ht dd hdd
      exact slot_ok hok hF hl hI hol hjU hedge hpg (by simp [readsO, ht]) hdd
    unfold wpOpIn
    rw [ho]
    simp only [hguard]
    cases hb : x.b with
    | false =>
      simp only [Bool.false_eq_true, if_false]
      obtain ⟨hd, hs⟩ := hun hb
      refine ⟨fun _ _ => trivial, ?_⟩
      have hP : Post g' w' H x.nx g' w' (aftH x.s x.FF x.hx H) x.nx' := by
        rw [hs]
        exact (Post.refl (nx := x.nx) hI.post.rel).span (Nat.le_refl _) q5
      refine ih _ _ _ _ _ hu' (inv_put hok hall hl hc hn0 hnE hI hol hjt hjU hedge hP ?_ hN)
      rw [hdv, hd]
      exact rep_undef g' w'
    | true =>
      simp only [if_true]
      refine (op_step (o := ops[j]) (x := x) (ev := a'.eval) hI.post.rel (fun i hi => ?_) (fun i h1 h2 => hI.fresh j x i hjt hjU h1 h2) (fun i hi => ?_) ?_ (hev hb) rd a' _ Q rfl ?_)
      · rw [q1]
        exact look_at hall hl hc hI hol hjt hjU hedge (by simp [TE.FF, hi])
      · have hle := hI.post.le
        rw [hI.post.out i (.inr (by omega))]
        exact hfr i (by omega)
      · intro y hy dd hdd
        refine lkF_rep ?_ hdd
        intro t hxt d' hd'
        subst hxt
        exact slot_ok hok hF hl hI hol hjU hedge hpi (by
          unfold readsO
          refine List.mem_append.2 (.inl (List.mem_flatMap.2 ⟨_, hy, by simp [tmpO]⟩))) hd'
      · intro v w'' g'' hP hr
        refine ih _ _ _ _ _ hu' (inv_put hok hall hl hc hn0 hnE hI hol hjt hjU hedge hP ?_ hN)
        rw [hdv]; exact hr

theorem region_draw {rd : Option Nat} (hm : P.follows .mixedOrders = true) (hok : drawOk ops.toList = true) {id : Nat} {fs : List (List Nat × Bool)} {st' : St} (hp : (runT P ct N true ops.toList ops.toList st).Path (fs, st')) (hd : drawH ops.toList fs = true) (hnb : st'.nx ≤ noBlock)
    (hR : Rel g st.hp w) (hF : FrOk g N st.fr a w) (hfr : ∀ i, st.nx ≤ i → g.ρ i = none)
    (hQ : ∀ g' a' w', Post g w st.hp st.nx g' w' st'.hp st'.nx → FrOk g' N st'.fr a' w' → a'.defers = a.defers → Q .normal a' w') : (Code.region id ops true).wpIn (fz rd) 0 P Q a w := by
  obtain ⟨tr, ht⟩ := trace_of_path _ _ _ _ hp
  obtain ⟨h, n, e1, e2, e3, e4, hl, hfs, hfin, hall⟩ := trace_spec (fr0 := st.fr) _ _ _ _ _ [] ht (fun t d hd => .inr ⟨by simp, d, hd, Imp.refl _⟩)
  simp only [List.nil_append] at hfin hall
  have hall : AllT P ct N ops.toList st.fr tr h n := hall
  have hc : Conf ops.toList tr := conf_of (by rw [← hfs]; exact hd)
  have hsz : ops.toList.length = ops.size := by simp
  rw [hsz] at e3 e4
  have hle : st.nx ≤ st'.nx := by
    have := nx_mono hall hl ops.size 0 (by omega)
    rw [Nat.zero_add, e2, e4] at this
    exact this
  refine wpIn_region_any hm ?_
  have hs0 : Silent w { w with drawn := w.drawn + 1 } := Silent.drew w
  have hP0 : Post g w st.hp st.nx g { w with drawn := w.drawn + 1 } st.hp st'.nx := (Post.silent (nx := st.nx) hR hs0 (GX.refl fun b hb => Nat.lt_of_lt_of_le (hR.prl b hb) hs0.size)).span (Nat.le_refl _) hle
  refine draw_step (st := st) (tr := tr) (w := w) (a := a) (N := N) (g := g) (nxE := st'.nx) (h := h) (n := n) hok hF hl hall hc e2 e4 hnb hfr ?_ _ _ g a _ st.hp ?_ ?_
  · intro listed g' a' w' H hla hI
    have hH : ∀ i, look st'.hp i = look H i := by
      intro i
      obtain ⟨c, hcn, h1, h2, h3⟩ := hI.cut i
      rw [h3, ← e3]
      have := untouched hall hl (i := i) (ops.size - c) c (by omega) (fun k hk1 hk2 hT => by
        obtain ⟨y, hy, hy2⟩ := hT
        exact h2 k hk1 ⟨y, hy, hy2⟩ (hla k (by omega)))
      have e : c + (ops.size - c) = ops.size := by omega
      rw [e] at this
      exact this
    refine hQ g' a' w' (hI.post.as hH) ⟨fun t d hd' => ?_, hI.size⟩ hI.dfr
    have hfin' : Prov st.fr (((ops.toList.take ops.toList.length).zip (tr.take ops.toList.length)).map fun x => (x.1.dst, x.2.d)) st'.fr := by
      rw [List.take_length, ← hl, List.take_length]; exact hfin
    rcases hfin' t d hd' with ⟨e, hme, hi⟩ | ⟨hme, d0, h0, hi⟩
    · obtain ⟨i, oi, hij, hoi, hdi, rfl⟩ := (mem_done hl).1 hme
      obtain ⟨v, hv, hr⟩ := hI.lst i oi t (hla i (by simpa using hij)) hoi hdi
      exact ⟨v, hv, hi _ _ _ hr⟩
    · have hnone : ∀ (i : Nat) (oi : Oper), ops.toList[i]? = some oi → oi.dst ≠ some t := by
        intro i oi hoi hdi
        have hlt : i < ops.toList.length := by
          rcases Nat.lt_or_ge i ops.toList.length with h | h
          · exact h
          · rw [List.getElem?_eq_none h] at hoi; simp at hoi
        exact hme (dvOf tr i) ((mem_done hl).2 ⟨i, oi, hlt, hoi, hdi, rfl⟩)
      obtain ⟨v, hv, hr⟩ := hF.frm t d0 h0
      exact ⟨v, (hI.old t (fun i oi _ => hnone i oi)).trans hv, Rep.ext hI.post.ext _ _ (hi _ _ _ hr)⟩
  · unfold unl
    exact Nat.le_trans (List.length_filter_le _ _) (by simp)
  · have hno : ∀ i : Nat, (Array.replicate ops.size false)[i]? ≠ some true := by
      intro i hi
      rw [Array.getElem?_replicate] at hi
      split at hi <;> simp at hi
    refine ⟨hP0, hF.size, rfl, fun i o t hi => (hno i hi).elim, fun _ _ => rfl, by simp, fun k o e hk => (hno k hk).elim, fun k x i hx _ h1 h2 => ?_, fun i => ⟨0, Nat.zero_le _, fun k hk => by omega, fun k _ _ => hno k, by rw [e1]⟩⟩
    have hkn : k < ops.size := by
      rcases Nat.lt_or_ge k tr.length with h | h
      · rw [hl] at h; simpa using h
      · rw [List.getElem?_eq_none h] at hx; simp at hx
    obtain ⟨_, f2, _⟩ := hall k _ x (List.getElem?_eq_getElem (by simpa using hkn)) hx
    have := nx_mono hall hl k 0 (by omega)
    rw [Nat.zero_add, e2] at this
    exact hfr i (by omega)
end
end Go.DF
