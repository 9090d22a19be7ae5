import Derived.Test.YtfacddeaobogjaaF12
import Derived.Shelf.Sort.Plain
import Derived.Shelf.Slices.In.SortNone
import Derived.Shelf.Slices.CompactI
set_option linter.unusedVariables false
set_option linter.unusedSimpArgs false
set_option linter.unnecessarySimpa false
set_option linter.unusedVariables false
set_option linter.unusedSimpArgs false
/- The library's sort, and what it leaves out of equal neighbours: said of the evaluator's memory. -/
namespace Go.DF
open Go.Shelf Go.Sort Go.RowKit Go.Proofs
def srt (l : List Int) : List Int := l.mergeSort fun x y => decide (x ≤ y)
def srtN (n : Nat) (l : List Int) : List Int := srt (l.take n) ++ l.drop n
theorem srt_len (l : List Int) : (srt l).length = l.length := by simp [srt]
theorem srtN_len (n : Nat) (l : List Int) : (srtN n l).length = l.length := by
  simp only [srtN, List.length_append, srt_len, List.length_take, List.length_drop]; omega
variable [Fam]

section
variable {g : G} {w : World} {l : List Int} {t : TypeId} {b n : Nat}
/-- A list of one's own: its cells hold it, and none is shared. -/
theorem own_holds (hR : Rel g [(0, (false, .arr t (.int .i64) l))] w) (hbk : g.ρ 0 = some b) (hn : n ≤ l.length) :
    Holds (Value.int .i64) w b (g.base 0) (l.take n).toArray ∧ b < w.heap.size := by
  have hl : look ([(0, (false, .arr t (.int .i64) l))] : Hp) 0 = some (false, .arr t (.int .i64) l) := rfl
  obtain ⟨⟨us, r1, r2, r3, r4⟩, hpr⟩ := hR.at hl hbk
  have hints : (us.drop (g.base 0)).take l.length = l.map (Value.int .i64) := elems_ints r4
  have hcell : ∀ j, j < l.length → us[g.base 0 + j]? = some (Value.int .i64 (l.getD j 0)) := by
    intro j hj
    have h1 : ((us.drop (g.base 0)).take l.length)[j]? = (l.map (Value.int .i64))[j]? := by rw [hints]
    rw [seg_get, if_pos hj, List.getElem?_map, List.getElem?_eq_getElem hj] at h1
    rw [h1, List.getD_eq_getElem?_getD, List.getElem?_eq_getElem hj]; rfl
  have hlen : (l.take n).length = n := by rw [List.length_take]; omega
  have hH : Holds (Value.int .i64) w b (g.base 0) (l.take n).toArray := by
    intro j hj
    have hj' : j < n := by simp at hj; omega
    have hjl : j < l.length := by omega
    refine ⟨?_, ?_⟩
    · rw [cell_at r1, hcell j hjl]
      rw [getElem!_pos ((l.take n).toArray : Array Int) j hj]
      simp [List.getD_eq_getElem?_getD, List.getElem?_eq_getElem hjl]
    · simp only [World.frozen?, r1]
      simp
  exact ⟨hH, lt_of_heap r1⟩
/-- Its first numbers are written anew. -/
theorem own_put (hR : Rel g [(0, (false, .arr t (.int .i64) l))] w) (hbk : g.ρ 0 = some b) (m : List Int) (hml : m.length ≤ l.length) (n0 : Nat) (os : Array Obj) :
    Post g w [(0, (false, .arr t (.int .i64) l))] 1 g (grow (putRow (Value.int .i64) (Sort.ahead w n0) b (g.base 0) m.toArray) os) [(0, (false, .arr t (.int .i64) (m ++ l.drop m.length)))] 1 := by
  have hl : look ([(0, (false, .arr t (.int .i64) l))] : Hp) 0 = some (false, .arr t (.int .i64) l) := rfl
  obtain ⟨⟨us, r1, r2, r3, r4⟩, hpr⟩ := hR.at hl hbk
  have r3' : g.base 0 + l.length * 1 ≤ us.length := r3
  generalize hw1 : putRow (Value.int .i64) (Sort.ahead w n0) b (g.base 0) m.toArray = w1
  have hheap : w1.heap = w.heap.modify b (onCells (putCells (Value.int .i64) (g.base 0) m.toArray)) := by subst hw1; rfl
  have hW : Upd b w w1 := by
    refine ⟨by subst hw1; rfl, by subst hw1; rfl, by subst hw1; rfl, by rw [hheap]; simp, fun c hcn => ?_, fun cs t fr h => ?_⟩
    · rw [hheap, Array.getElem?_modify, if_neg (Ne.symm hcn)]
    · refine ⟨_, by rw [hheap, Array.getElem?_modify, if_pos rfl, h]; rfl, by simp [putCells]⟩
  have hP : Post g w [(0, (false, .arr t (.int .i64) l))] 1 g w1 [(0, (false, .arr t (.int .i64) (m ++ l.drop m.length)))] 1 := by
    refine Post.write (o' := .arr t (.int .i64) (m ++ l.drop m.length)) hR hW hl rfl hbk (fun hE => ?_)
    have hm : (m.map (Value.int .i64)).length = m.length := by rw [List.length_map]
    have hsplit : (putCells (Value.int .i64) (g.base 0) m.toArray us.toArray).toList = us.take (g.base 0 + 0 * 1) ++ m.map (Value.int .i64) ++ us.drop (g.base 0 + 0 * 1 + (m.map (Value.int .i64)).length) := by
      apply List.ext_getElem?
      intro k
      rw [Nat.zero_mul, Nat.add_zero, setRange_get (by omega), hm, Array.getElem?_toList]
      simp only [putCells, Array.getElem?_mapIdx, List.getElem?_toArray, List.size_toArray]
      by_cases h1 : k < g.base 0
      · rw [if_pos h1]
        have : ¬ (g.base 0 ≤ k ∧ k < g.base 0 + m.length) := by omega
        simp only [this, if_false]; cases us[k]? <;> rfl
      · rw [if_neg h1]
        by_cases h2 : k < g.base 0 + m.length
        · have h3 : k < us.length := by omega
          have h4 : k - g.base 0 < m.length := by omega
          have : g.base 0 ≤ k ∧ k < g.base 0 + m.length := by omega
          rw [if_pos h2, List.getElem?_eq_getElem h3, List.getElem?_map, List.getElem?_eq_getElem h4]
          simp only [Option.map_some, this, and_self, if_true]
          rw [getElem!_pos (m.toArray : Array Int) (k - g.base 0) (by simpa using h4)]
          simp
        · rw [if_neg h2]
          have : ¬ (g.base 0 ≤ k ∧ k < g.base 0 + m.length) := by omega
          simp only [this, if_false]; cases us[k]? <;> rfl
    have hE2 : Elems w g.pr (.int .i64) (m.map (Value.int .i64)) 0 m := by
      intro j a hj
      have hj : m[j]? = some a := hj
      show ((m.map (Value.int .i64)).drop (0 + j * 1)).take 1 = [Value.int .i64 a]
      apply List.ext_getElem?
      intro q
      rw [seg_get]
      rcases q with _ | q
      · simp [hj]; rfl
      · simp
    have hov := Elems.over (i := 0) r4 hE2 (by rw [hm]; show m.length = m.length * 1; omega) (by show 0 + m.length ≤ l.length; omega) r3
    refine ⟨us.take (g.base 0 + 0 * 1) ++ m.map (Value.int .i64) ++ us.drop (g.base 0 + 0 * 1 + (m.map (Value.int .i64)).length), ?_, ?_, ?_, ?_⟩
    · rw [← hsplit, hheap, Array.getElem?_modify, if_pos rfl, r1]; rfl
    · intro u hu
      rw [List.mem_append, List.mem_append] at hu
      rcases hu with (hu | hu) | hu
      · exact r2 u (List.mem_of_mem_take hu)
      · obtain ⟨z, _, rfl⟩ := List.mem_map.1 hu; rfl
      · exact r2 u (List.mem_of_mem_drop hu)
    · show g.base 0 + (m ++ l.drop m.length).length * 1 ≤ _
      rw [List.length_append, List.length_drop]
      simp only [List.length_append, List.length_take, List.length_drop, hm]
      omega
    · have he : (l.take 0 ++ (m ++ l.drop (0 + m.length))) = m ++ l.drop m.length := by
        simp
      have hov := he ▸ hov
      exact hov.mono (fun _ h => h) hE.at'
  refine hP.trans (Post.silent hP.rel ⟨rfl, rfl, rfl, by simp [grow], fun c hcl => ?_⟩ ?_)
  · show (w1.heap ++ os)[c]? = _
    rw [Array.getElem?_append_left hcl]
  · exact GX.refl fun c hc => by
      have := hP.rel.prl c hc
      simp only [grow, Array.size_append]; omega
end

/-- What is asked of a call that writes its slice's numbers anew: the two cases. -/
theorem row_call {P : Program} {f : FuncId} {n : Nat} {l m : List Int} {t : TypeId} {K : DV → St → Prop} (hn : n ≤ l.length)
    (h0 : ∀ q cap w, n = 0 → Calls P f #[.slice q 0 cap] w fun e w' => w' = w ∧ ∃ v d, e = .returned v ∧ K d ⟨[], [(0, (false, .arr t (.int .i64) l))], 1⟩ ∧ ∀ g : G, Rep g w (.slice ⟨0, .lit 0, 1, 0⟩ (.sym 0)) (.slice q 0 cap) → Rep g w d v)
    (h1 : ∀ b o cap w, Holds (Value.int .i64) w b o (l.take n).toArray → b < w.heap.size → 0 < n → n ≤ cap → Calls P f #[.slice (some ⟨b, o, none⟩) n cap] w fun e w' => ∃ n0 os v d, e = .returned v ∧ w' = grow (putRow (Value.int .i64) (Sort.ahead w n0) b o m.toArray) os ∧
      K d ⟨[], [(0, (false, .arr t (.int .i64) (m ++ l.drop m.length)))], 1⟩ ∧ ∀ g : G, Rep g w' (.slice ⟨0, .lit 0, 1, 0⟩ (.sym n)) (.slice (some ⟨b, o, none⟩) n cap) → Rep g w' d v)
    (hm : m.length ≤ l.length) : DCall P f [.slice ⟨0, .lit 0, 1, 0⟩ (.sym n)] [(0, (false, .arr t (.int .i64) l))] 1 K := by
  intro g w vs hR hfr ha
  simp only [RepL] at ha
  obtain ⟨v, us, rfl, rv, rfl⟩ := ha
  have hl : look ([(0, (false, .arr t (.int .i64) l))] : Hp) 0 = some (false, .arr t (.int .i64) l) := rfl
  have fin : ∀ (w' : World) (l' : List Int) (v : Value) (d : DV), Post g w [(0, (false, .arr t (.int .i64) l))] 1 g w' [(0, (false, .arr t (.int .i64) l'))] 1 → Rep g w' d v → K d ⟨[], [(0, (false, .arr t (.int .i64) l'))], 1⟩ →
      ∃ v' d st' g', Ending.returned v = .returned v' ∧ K d st' ∧ Rel g' st'.hp w' ∧ Rep g' w' d v' ∧ Ext g w g' w' ∧
        Kept (Mine g [(0, (false, .arr t (.int .i64) l))]) w w' ∧ (∀ i, st'.nx ≤ i → g'.ρ i = none) ∧ (∀ b, Mine g' st'.hp b → Mine g [(0, (false, .arr t (.int .i64) l))] b ∨ w.heap.size ≤ b) ∧
        (∀ b, g'.pr b → g.pr b ∨ Mine g [(0, (false, .arr t (.int .i64) l))] b ∨ w.heap.size ≤ b) ∧ (∀ i, i < 1 → g'.ρ i = g.ρ i) := fun w' l' v d hP hr hk =>
    ⟨v, d, ⟨[], [(0, (false, .arr t (.int .i64) l'))], 1⟩, g, rfl, hk, hP.rel, hr, hP.ext, hP.kept, hfr, hP.mine, hP.prg, fun _ _ => rfl⟩
  have zero : ∀ q cap, v = .slice q 0 cap → n = 0 → DRun (Calls P f [v].toArray w) g w [(0, (false, .arr t (.int .i64) l))] 1 K := by
    intro q cap hv hz
    subst hv hz
    refine (h0 q cap w rfl).mono ?_
    rintro e w' ⟨rfl, v, d, rfl, hk, hr⟩
    exact fin w' l v d (Post.refl hR) (hr g rv) hk
  have rv0 := rv
  simp only [Rep] at rv
  rcases rv with ⟨q, rfl, hz⟩ | ⟨b, o, cap, hbk, hcap, rfl, ho, cs, t', fr, k1, k2⟩
  · exact zero q 0 rfl hz
  · have hcap : n ≤ cap := hcap
    have zero' := zero (some ⟨b, o, none⟩) cap
    show DRun (Calls P f [.slice (some ⟨b, o, none⟩) n cap].toArray w) g w _ 1 _
    rcases Nat.eq_zero_or_pos n with hz | hpos
    · exact zero' (by rw [hz]; rfl) hz
    · clear zero zero'
      have ho : o = g.base 0 := by
        rcases ho with ho | ho
        · omega
        · rw [ho]; simp [G.off, DP.off, DN.v]
      subst ho
      obtain ⟨hH, hb⟩ := own_holds (n := n) hR hbk hn
      refine (h1 b (g.base 0) cap w hH hb hpos hcap).mono ?_
      rintro e w' ⟨n0, os, v, d, rfl, rfl, hk, hr⟩
      have hP := own_put hR hbk m hm n0 os
      exact fin _ _ v d hP (hr g (rv0.ext hP.ext)) hk

theorem sort_ok {P : Program} {ρ : Ren} (Ly : Lays.n189 P ρ) (n : Nat) (l : List Int) (t : TypeId) (hn : n ≤ l.length) (hb : n < 4611686018427387904) :
    DCall P (ρ.f 189) [.slice ⟨0, .lit 0, 1, 0⟩ (.sym n)] [(0, (false, .arr t (.int .i64) l))] 1 (fun d st => d = .tup [] ∧ st.hp = [(0, (false, .arr t (.int .i64) (srtN n l)))] ∧ st.nx = 1) := by
  have hlen : (l.take n).length = n := by rw [List.length_take]; omega
  have hsl : (srt (l.take n)).length = n := by rw [srt_len, hlen]
  refine row_call (m := srt (l.take n)) hn (fun q cap w hz => ?_) (fun b o cap w hH hbl hpos hcap => ?_) (by omega)
  · subst hz
    refine (Any.slices_Sort_int_none Ly q cap w).mono ?_
    rintro e w' ⟨rfl, rfl⟩
    refine ⟨rfl, _, .tup [], rfl, ⟨rfl, ?_, rfl⟩, fun g _ => by simp only [Rep]; exact ⟨[], rfl, RepL.nil⟩⟩
    simp [srtN, srt]
  · have hc := Any.slices_Sort_int Ly b o cap (l.take n) w hH hbl (by omega)
    rw [hlen] at hc
    refine hc.mono ?_
    rintro e w' ⟨rfl, n0, os, rfl⟩
    refine ⟨n0, os, _, .tup [], rfl, rfl, ⟨rfl, ?_, rfl⟩, fun g _ => by simp only [Rep]; exact ⟨[], rfl, RepL.nil⟩⟩
    rw [hsl]; rfl

/-- Of the first n numbers those that differ from the one before, then zeros, then the rest. -/
def cmpN (n : Nat) (l : List Int) : List Int := Lib.compact (l.take n) ++ List.replicate (n - (Lib.compact (l.take n)).length) 0 ++ l.drop n
omit [Fam] in
theorem compact_len (l : List Int) : (Lib.compact l).length ≤ l.length := by
  simp only [Lib.compact, Lib.compactUpTo, List.length_map]
  exact Nat.le_trans (List.length_filter_le _ _) (by simp)
theorem compact_ok {P : Program} {ρ : Ren} (Ly : Lays2.n20 P ρ) (n : Nat) (l : List Int) (t : TypeId) (hn : n ≤ l.length) (hb : n ≤ 9223372036854775807) :
    DCall P (ρ.f 20) [.slice ⟨0, .lit 0, 1, 0⟩ (.sym n)] [(0, (false, .arr t (.int .i64) l))] 1 (fun d st => d = .slice ⟨0, .lit 0, 1, 0⟩ (.sym (Lib.compact (l.take n)).length) ∧ st.hp = [(0, (false, .arr t (.int .i64) (cmpN n l)))] ∧ st.nx = 1) := by
  have hlen : (l.take n).length = n := by rw [List.length_take]; omega
  have hcl := compact_len (l.take n)
  have hsl : (Lib.compact (l.take n) ++ List.replicate (n - (Lib.compact (l.take n)).length) 0).length = n := by
    rw [List.length_append, List.length_replicate]; omega
  refine row_call (m := Lib.compact (l.take n) ++ List.replicate (n - (Lib.compact (l.take n)).length) 0) hn (fun q cap w hz => ?_) (fun b o cap w hH hbl hpos hcap => ?_) (by omega)
  · subst hz
    refine (Any.slices_Compact_int_empty Ly q cap w).mono ?_
    rintro e w' ⟨rfl, rfl⟩
    have e0 : Lib.compact (List.take 0 l) = [] := rfl
    refine ⟨rfl, _, _, rfl, ⟨rfl, ?_, rfl⟩, fun g h => ?_⟩
    · simp [cmpN, e0, show Lib.compact ([] : List Int) = [] from rfl]
    · exact h
  · have hc := Any.slices_Compact_int Ly b o cap (l.take n) w hH (by omega) (by omega)
    rw [hlen] at hc
    refine hc.mono ?_
    rintro e w' ⟨rfl, n0, rfl⟩
    refine ⟨n0, #[], _, _, rfl, (grow_empty _).symm, ⟨rfl, ?_, rfl⟩, fun g h => ?_⟩
    · rw [hsl]; rfl
    · simp only [Rep] at h ⊢
      rcases h with ⟨q, h, hz⟩ | ⟨b', o', cap', hbk, hcap', he, ho, cs, t', fr, k1, k2⟩
      · have : n = 0 := hz
        omega
      · simp only [Value.slice.injEq, Option.some.injEq, Addr.mk.injEq] at he
        obtain ⟨⟨rfl, rfl, _⟩, _, rfl⟩ := he
        refine .inr ⟨_, _, _, hbk, ?_, rfl, ho, cs, t', fr, k1, k2⟩
        show (Lib.compact (l.take n)).length ≤ cap
        omega

/-- What is in cells, if they are numbers. -/
def intsOf : List DV → Option (List Int)
  | [] => some []
  | .int .i64 x :: r => match intsOf r with | some l => some (x.v :: l) | none => none
  | _ => none
def inferA : List DV → Hp → Option (Option (List Int × Nat))
  | [.nilslice], _ => some none
  | [.slice p n], hp => match look hp p.id with
    | some (_, .arr _ (.int .i64) l) => some (some (l, n.v))
    | some (_, .cells _ cs) => match intsOf cs with | some l => some (some (l, n.v)) | none => none
    | _ => none
  | _, _ => none
theorem nil_call {P : Program} {f : FuncId} {K : DV → St → Prop} (h : ∀ w, Calls P f #[.slice none 0 0] w fun e w' => w' = w ∧ ∃ v d, e = .returned v ∧ K d ⟨[], [], 1⟩ ∧ ∀ g : G, Rep g w d v) : DCall P f [.nilslice] [] 1 K := by
  intro g w vs hR hfr ha
  simp only [RepL] at ha
  obtain ⟨v, us, rfl, rv, rfl⟩ := ha
  simp only [Rep] at rv
  subst rv
  refine (h w).mono ?_
  rintro e w' ⟨rfl, v, d, rfl, hk, hr⟩
  have hP := Post.refl (nx := 1) hR
  exact ⟨v, d, ⟨[], [], 1⟩, g, rfl, hk, hP.rel, hr g, hP.ext, hP.kept, hfr, hP.mine, hP.prg, fun _ _ => rfl⟩
theorem DCall.imp {P : Program} {f : FuncId} {args : List DV} {hp : Hp} {n : Nat} {K K' : DV → St → Prop} (h : DCall P f args hp n K) (hk : ∀ d st, K d st → K' d st) : DCall P f args hp n K' := by
  intro g w vs hR hfr ha
  refine (h g w vs hR hfr ha).mono ?_
  rintro e w' ⟨v, d, st, g', h1, h2, h3⟩
  exact ⟨v, d, st, g', h1, hk _ _ h2, h3⟩
theorem castL_self (c : CT) (l : List c.D) : castL c c l = some l := by
  unfold castL
  split
  · rfl
  · rename_i h _; exact absurd rfl h
omit [Fam] in
theorem beq_self (t : Nat) : Nat.beq t t = true := by simp
def sortC {P : Program} {ρ : Ren} (Ly : Lays.n189 P ρ) (f : FuncId) (hf : ρ.f 189 = f) (t : TypeId) (body : HasBody P f) : CanC P where
  f := f
  α := Option (List Int × Nat)
  args := fun x => match x with | none => [.nilslice] | some x => [.slice ⟨0, .lit 0, 1, 0⟩ (.sym x.2)]
  hp := fun x => match x with | none => [] | some x => [(0, (false, .arr t (.int .i64) x.1))]
  n := 1
  infer := inferA
  pre := fun x => match x with | none => True | some x => x.2 ≤ x.1.length ∧ x.2 < 4611686018427387904
  out := fun x => match x with | none => .leaf (.tup [], [], 1) | some x => .leaf (.tup [], [(0, (false, .arr t (.int .i64) (srtN x.2 x.1)))], 1)
  body := body
  ok := fun x hx => by
    subst hf
    match x, hx with
    | none, _ =>
      refine nil_call (fun w => (Any.slices_Sort_int_none Ly none 0 w).mono ?_)
      rintro e w' ⟨rfl, rfl⟩
      refine ⟨rfl, _, .tup [], rfl, ?_, fun g => by simp only [Rep]; exact ⟨[], rfl, RepL.nil⟩⟩
      show subS _ _ _ _
      simp [subS, plan, healAll, perInF, perIn, perInH, sgF, sgH, sgD, look, ghosts, T.Holds, uniF, uniD, uniL, perInL, allP, uniH, idS, keysLt, noBlock, show Nat.blt 0 1 = true from rfl]
    | some (l, n), ⟨h1, h2⟩ =>
      refine (sort_ok Ly n l t h1 h2).imp ?_
      rintro d ⟨fr, hp, nx⟩ ⟨rfl, rfl, rfl⟩
      show subS _ _ _ _
      simp [subS, plan, healAll, perInF, perIn, perInH, sgF, sgH, sgD, look, ghosts, T.Holds, uniF, uniD, uniL, perInL, allP, uniH, uniO, show ∀ l : List Int, castL (.int .i64) (.int .i64) l = some l from fun l => castL_self (.int .i64) l, beq_self, idS, keysLt, noBlock, show Nat.blt 0 1 = true from rfl]
      rfl
def compactC {P : Program} {ρ : Ren} (Ly : Lays2.n20 P ρ) (f : FuncId) (hf : ρ.f 20 = f) (t : TypeId) (body : HasBody P f) : CanC P where
  f := f
  α := Option (List Int × Nat)
  args := fun x => match x with | none => [.nilslice] | some x => [.slice ⟨0, .lit 0, 1, 0⟩ (.sym x.2)]
  hp := fun x => match x with | none => [] | some x => [(0, (false, .arr t (.int .i64) x.1))]
  n := 1
  infer := inferA
  pre := fun x => match x with | none => True | some x => x.2 ≤ x.1.length ∧ x.2 ≤ 9223372036854775807
  out := fun x => match x with | none => .leaf (.nilslice, [], 1) | some x => .leaf (.slice ⟨0, .lit 0, 1, 0⟩ (.sym (Lib.compact (x.1.take x.2)).length), [(0, (false, .arr t (.int .i64) (cmpN x.2 x.1)))], 1)
  body := body
  ok := fun x hx => by
    subst hf
    match x, hx with
    | none, _ =>
      refine nil_call (fun w => (Any.slices_Compact_int_empty Ly none 0 w).mono ?_)
      rintro e w' ⟨rfl, rfl⟩
      refine ⟨rfl, _, .nilslice, rfl, ?_, fun g => by simp only [Rep]⟩
      show subS _ _ _ _
      simp [subS, plan, healAll, perInF, perIn, perInH, sgF, sgH, sgD, look, ghosts, T.Holds, uniF, uniD, uniL, perInL, allP, uniH, idS, keysLt, noBlock, show Nat.blt 0 1 = true from rfl]
    | some (l, n), ⟨h1, h2⟩ =>
      refine (compact_ok Ly n l t h1 h2).imp ?_
      rintro d ⟨fr, hp, nx⟩ ⟨rfl, rfl, rfl⟩
      show subS _ _ _ _
      simp [subS, plan, healAll, perInF, perIn, perInH, sgF, sgH, sgD, look, ghosts, T.Holds, uniF, uniD, uniP, uniI, eqN, uniL, perInL, allP, uniH, uniO, show ∀ l : List Int, castL (.int .i64) (.int .i64) l = some l from fun l => castL_self (.int .i64) l, beq_self, idS, keysLt, noBlock, show Nat.blt 0 1 = true from rfl]
      rfl
end Go.DF
