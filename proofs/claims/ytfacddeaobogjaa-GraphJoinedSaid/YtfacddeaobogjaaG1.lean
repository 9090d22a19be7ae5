import Derived.Test.YtfacddeaobogjaaF12
import Derived.Test.YtfacddeaobogjaaProg
import Derived.Test.YtfacddeaobogjaaP
import Derived.Test.YtfacddeaobogjaaH
import Derived.Test.YtfacddeaobogjaaLaid
set_option linter.unusedVariables false
set_option linter.unusedSimpArgs false
set_option linter.unnecessarySimpa false
set_option linter.unusedVariables false
set_option linter.unusedSimpArgs false
/- graph.New. -/
namespace Go.Proofs.Ytfacddeaobogjaa.N
open Go.DF
set_option maxRecDepth 100000
abbrev eC : CT := .pair (.int .i64) (.int .i64)
abbrev rC : CT := .sl (.sl (.int .i64))
abbrev gC : CT := .pt (.pair rC rC)
abbrev Es := List (Int × Int)
abbrev Rows := List (List Int)
def c53 : CanC Try.prog := sortC Try.lays189 53 (by kernel_rfl) 3 (hasBody_of Try.func53 (by kernel_rfl) (by kernel_rfl))
def c65 : CanC Try.prog := compactC Try.lays220 65 (by kernel_rfl) 3 (hasBody_of Try.func65 (by kernel_rfl) (by kernel_rfl))
noncomputable def bodies1 : List (Body Try.prog) := [⟨47, Try.f47, Try.func47, by kernel_rfl, by kernel_rfl, false⟩, ⟨37, Try.f37, Try.func37, by kernel_rfl, by kernel_rfl, false⟩, ⟨23, Try.f23, Try.func23, by kernel_rfl, by kernel_rfl, false⟩]
/-- What the first k edges say of node i's followers, and of those before it. -/
def outs (es : Es) (k : Nat) (i : Nat) : List Int := ((es.take k).filter fun x => x.1 == (i : Int)).map (·.2)
def ins (es : Es) (k : Nat) (i : Nat) : List Int := ((es.take k).filter fun x => x.2 == (i : Int)).map (·.1)
def rowsA (n : Int) (es : Es) (k : Nat) : Rows := (List.range n.toNat).map (outs es k)
def rowsB (n : Int) (es : Es) (k : Nat) : Rows := (List.range n.toNat).map (ins es k)
/-- The first k rows in order, without doubles. -/
def setTo (ls : Rows) (k : Nat) : Rows := (ls.take k).map uniq ++ ls.drop k
def badE (n : Int) (x : Int × Int) : Bool := !(decide (0 ≤ x.1) && decide (x.1 < n)) || !(decide (0 ≤ x.2) && decide (x.2 < n))
def gErr (n : Int) (es : Es) : Int := if n < 0 ∨ 4096 < n then 2 else if 65536 < (es.length : Int) then 9 else if es.any (badE n) then 8 else 0
def gDat (n : Int) (es : Es) : Option (Rows × Rows) := if gErr n es = 0 then some (setTo (rowsA n es es.length) n.toNat, setTo (rowsB n es es.length) n.toNat) else none
theorem outs_succ (es : Es) (a i : Nat) (h : a < es.length) : outs es (a + 1) i = if (es.getD a (0, 0)).1 = (i : Int) then outs es a i ++ [(es.getD a (0, 0)).2] else outs es a i := by
  have e : es.getD a (0, 0) = es[a] := by rw [List.getD_eq_getElem?_getD, List.getElem?_eq_getElem h]; rfl
  rw [e]
  unfold outs
  rw [List.take_add_one, List.getElem?_eq_getElem h, List.filter_append, List.map_append]
  by_cases hx : es[a].1 = (i : Int)
  · simp [hx]
  · simp [hx]
theorem ins_succ (es : Es) (a i : Nat) (h : a < es.length) : ins es (a + 1) i = if (es.getD a (0, 0)).2 = (i : Int) then ins es a i ++ [(es.getD a (0, 0)).1] else ins es a i := by
  have e : es.getD a (0, 0) = es[a] := by rw [List.getD_eq_getElem?_getD, List.getElem?_eq_getElem h]; rfl
  rw [e]
  unfold ins
  rw [List.take_add_one, List.getElem?_eq_getElem h, List.filter_append, List.map_append]
  by_cases hx : es[a].2 = (i : Int)
  · simp [hx]
  · simp [hx]
theorem outs_len (es : Es) (k i : Nat) : (outs es k i).length ≤ es.length := by
  unfold outs
  rw [List.length_map]
  exact Nat.le_trans (List.length_filter_le _ _) (by rw [List.length_take]; omega)
theorem ins_len (es : Es) (k i : Nat) : (ins es k i).length ≤ es.length := by
  unfold ins
  rw [List.length_map]
  exact Nat.le_trans (List.length_filter_le _ _) (by rw [List.length_take]; omega)
theorem rowsA_len (n : Int) (es : Es) (k : Nat) : (rowsA n es k).length = n.toNat := by simp [rowsA]
theorem rowsB_len (n : Int) (es : Es) (k : Nat) : (rowsB n es k).length = n.toNat := by simp [rowsB]
theorem rowsA_get (n : Int) (es : Es) (k i : Nat) (h : i < n.toNat) : (rowsA n es k).getD i [] = outs es k i := by
  rw [List.getD_eq_getElem?_getD]; simp [rowsA, h]
theorem rowsB_get (n : Int) (es : Es) (k i : Nat) (h : i < n.toNat) : (rowsB n es k).getD i [] = ins es k i := by
  rw [List.getD_eq_getElem?_getD]; simp [rowsB, h]
theorem rows_set (n : Nat) (f g : Nat → List Int) (i : Nat) (v : List Int) (hi : g i = v) (ho : ∀ j, j ≠ i → g j = f j) : ((List.range n).map f).set i v = (List.range n).map g := by
  apply List.ext_getElem?
  intro j
  rw [List.getElem?_set, List.getElem?_map, List.getElem?_map]
  by_cases h : j < n
  · rw [List.getElem?_eq_getElem (by simpa using h)]
    simp only [List.getElem_range, Option.map_some]
    by_cases e : i = j
    · subst e; simp [h, hi]
    · rw [if_neg e, ho j (Ne.symm e)]
  · rw [List.getElem?_eq_none (by simp; omega)]
    by_cases e : i = j
    · subst e; simp; omega
    · simp [e]
theorem rowsA_step (n : Int) (es : Es) (a : Nat) (h : a < es.length) (h0 : 0 ≤ (es.getD a (0, 0)).1) : (rowsA n es a).set (es.getD a (0, 0)).1.toNat (outs es a (es.getD a (0, 0)).1.toNat ++ [(es.getD a (0, 0)).2]) = rowsA n es (a + 1) :=
  rows_set _ _ _ _ _ (by rw [outs_succ es a _ h, if_pos (by omega)]) (fun j hj => by rw [outs_succ es a _ h, if_neg (by omega)])
theorem rowsB_step (n : Int) (es : Es) (a : Nat) (h : a < es.length) (h0 : 0 ≤ (es.getD a (0, 0)).2) : (rowsB n es a).set (es.getD a (0, 0)).2.toNat (ins es a (es.getD a (0, 0)).2.toNat ++ [(es.getD a (0, 0)).1]) = rowsB n es (a + 1) :=
  rows_set _ _ _ _ _ (by rw [ins_succ es a _ h, if_pos (by omega)]) (fun j hj => by rw [ins_succ es a _ h, if_neg (by omega)])
theorem setTo_len (ls : Rows) (k : Nat) : (setTo ls k).length = ls.length := by
  simp only [setTo, List.length_append, List.length_map, List.length_take, List.length_drop]; omega
theorem setTo_zero (ls : Rows) : setTo ls 0 = ls := by simp [setTo]
theorem setTo_get (ls : Rows) (k i : Nat) (h : k ≤ i) (hi : i < ls.length) : (setTo ls k).getD i [] = ls.getD i [] := by
  unfold setTo
  rw [List.getD_eq_getElem?_getD, List.getElem?_append, List.getD_eq_getElem?_getD]
  rw [if_neg (by simp; omega), List.getElem?_drop]
  congr 2
  simp; omega
theorem setTo_step (ls : Rows) (k : Nat) (h : k < ls.length) : (setTo ls k).set k (uniq (ls.getD k [])) = setTo ls (k + 1) := by
  unfold setTo
  have hl : ((ls.take k).map uniq).length = k := by simp; omega
  rw [List.set_append_right _ _ (by omega), hl, Nat.sub_self]
  have hg : ls.getD k [] = ls[k] := by rw [List.getD_eq_getElem?_getD, List.getElem?_eq_getElem h]; rfl
  rw [List.drop_eq_getElem_cons h, List.set_cons_zero, List.take_add_one, List.getElem?_eq_getElem h, hg, List.map_append, List.append_assoc]
  rfl
theorem leafU {n : Nat} {l : List Int} (h : l.length = n) : (Lib.compact ((srtN n l).take n)).length ≤ (cmpN n (srtN n l)).length ∧ (cmpN n (srtN n l)).take (Lib.compact ((srtN n l).take n)).length = uniq l := by
  have e : srtN n l = srt l := by simp only [srtN, List.take_of_length_le (Nat.le_of_eq h), List.drop_eq_nil_of_le (Nat.le_of_eq h), List.append_nil]
  have e2 : (srt l).take n = srt l := List.take_of_length_le (by rw [srt_len]; omega)
  have e3 : Lib.compact (srt l) = uniq l := rfl
  rw [e, e2, e3]
  unfold cmpN
  rw [e2, e3, List.append_assoc]
  exact ⟨by simp only [List.length_append]; omega, List.take_left⟩
theorem any_all (n : Int) (es : Es) : es.all (fun x => !badE n x) = !es.any (badE n) := by
  induction es with
  | nil => rfl
  | cons a r ih => simp [List.all_cons, List.any_cons, ih, Bool.not_or]
theorem rowsA_zero (n : Int) (es : Es) : List.replicate n.toNat [] = rowsA n es 0 := by
  symm; rw [List.eq_replicate_iff]
  refine ⟨rowsA_len n es 0, fun b hb => ?_⟩
  obtain ⟨i, _, rfl⟩ := List.mem_map.1 hb
  simp [outs]
theorem rowsB_zero (n : Int) (es : Es) : List.replicate n.toNat [] = rowsB n es 0 := by
  symm; rw [List.eq_replicate_iff]
  refine ⟨rowsB_len n es 0, fun b hb => ?_⟩
  obtain ⟨i, _, rfl⟩ := List.mem_map.1 hb
  simp [ins]
/-- A row is written anew by one number more. -/
theorem row_more (l : List Int) (x : Int) : (l.take l.length ++ [x]).length = l.length + 1 ∧ (l.take l.length ++ [x]).take (l.length + 1) = l ++ [x] := by
  rw [List.take_length]
  exact ⟨by simp, List.take_of_length_le (by simp)⟩
def inv7 (n : Int) (es : Es) : LInv where
  α := Nat
  S := fun k => ⟨[(0, .int .i64 (.sym n)), (6, .ptr ⟨0, .lit 0, 0, 0⟩), (27, .per (.sl eC) es), (28, .int .i64 (.sym es.length)), (29, .int .i64 (.sym k))],
    [(0, (false, .cells 77 [.slice ⟨1, .lit 0, 1, 0⟩ (.sym n.toNat), .slice ⟨2, .lit 0, 1, 0⟩ (.sym n.toNat)])), (1, (false, .rows 30 3 (.int .i64) (rowsA n es k) none)), (2, (false, .rows 30 3 (.int .i64) (rowsB n es k) none))], 3⟩
  p := fun k => k ≤ es.length ∧ (es.take k).all (fun x => !badE n x) = true
  m := fun k => es.length - k
def inv15 (n : Int) (A B : Rows) : LInv where
  α := Nat
  S := fun k => ⟨[(6, .ptr ⟨0, .lit 0, 0, 0⟩), (84, .int .i64 (.sym n)), (85, .int .i64 (.sym k))],
    [(0, (false, .cells 77 [.slice ⟨1, .lit 0, 1, 0⟩ (.sym n.toNat), .slice ⟨2, .lit 0, 1, 0⟩ (.sym n.toNat)])), (1, (false, .rows 30 3 (.int .i64) (setTo A k) none)), (2, (false, .rows 30 3 (.int .i64) (setTo B k) none))], 3⟩
  p := fun k => k ≤ n.toNat
  m := fun k => n.toNat - k
set_option maxHeartbeats 0 in
theorem p20 (n : Int) (es : Es) : Pure1 Try.prog 20 [.int .i64 (.sym n), .per (.sl eC) es] (.tup [.per gC (gDat n es), .int .i64 (.sym (gErr n es))]) := by
  refine pure1_of_exec (ct := (cx0 [] [c53, c65] []).deep bodies1 100 20) [(7, inv7 n es), (15, inv15 n (rowsA n es es.length) (rowsB n es es.length))] Try.func20 rfl rfl ?_
  refine cast_goal (p := ((Decidable.decide (n < (0 : Int)) || Decidable.decide ((4096 : Int) < n)) = Bool.true → (Option.none = Go.Proofs.Ytfacddeaobogjaa.N.gDat n es ∧ (2 : Int) = Go.Proofs.Ytfacddeaobogjaa.N.gErr n es) ∧ True) ∧ ((Decidable.decide (n < (0 : Int)) || Decidable.decide ((4096 : Int) < n)) = Bool.false → (Decidable.decide ((65536 : Int) < (↑(List.length es) : Int)) = Bool.true → (Option.none = Go.Proofs.Ytfacddeaobogjaa.N.gDat n es ∧ (9 : Int) = Go.Proofs.Ytfacddeaobogjaa.N.gErr n es) ∧ True) ∧ (Decidable.decide ((65536 : Int) < (↑(List.length es) : Int)) = Bool.false → ((0 : Int) ≤ n ∧ n ≤ n ∧ n * (↑(24 : Nat) : Int) ≤ (140737488355328 : Int) ∧ n ≤ (9223372036854775807 : Int)) ∧ n = n ∧ ((0 : Int) ≤ n ∧ n ≤ n ∧ n * (↑(24 : Nat) : Int) ≤ (140737488355328 : Int) ∧ n ≤ (9223372036854775807 : Int)) ∧ n = n ∧ (∃ (a : Nat), (n = n ∧ es = es ∧ (↑(List.length es) : Int) = (↑(List.length es) : Int) ∧ (0 : Int) = (↑a : Int) ∧ Int.toNat n = Int.toNat n ∧ Int.toNat n = Int.toNat n ∧ List.replicate (Int.toNat n) [] = Go.Proofs.Ytfacddeaobogjaa.N.rowsA n es a ∧ List.replicate (Int.toNat n) [] = Go.Proofs.Ytfacddeaobogjaa.N.rowsB n es a) ∧ a ≤ List.length es ∧ (List.all (List.take a es) fun (x : Int × Int) => !Go.Proofs.Ytfacddeaobogjaa.N.badE n x) = Bool.true) ∧ ∀ (a : Nat), a ≤ List.length es ∧ (List.all (List.take a es) fun (x : Int × Int) => !Go.Proofs.Ytfacddeaobogjaa.N.badE n x) = Bool.true → (Decidable.decide ((↑a : Int) < (↑(List.length es) : Int)) = Bool.true → ((0 : Int) ≤ (↑a : Int) ∧ (↑a : Int) < (↑(List.length es) : Int)) ∧ (Decidable.decide ((0 : Int) ≤ Prod.fst (List.getD es (Int.toNat (↑a : Int)) ((0 : Int), (0 : Int)))) = Bool.true → ((!Decidable.decide (Prod.fst (List.getD es (Int.toNat (↑a : Int)) ((0 : Int), (0 : Int))) < (↑(Int.toNat n) : Int))) = Bool.true → (Option.none = Go.Proofs.Ytfacddeaobogjaa.N.gDat n es ∧ (8 : Int) = Go.Proofs.Ytfacddeaobogjaa.N.gErr n es) ∧ True) ∧ ((!Decidable.decide (Prod.fst (List.getD es (Int.toNat (↑a : Int)) ((0 : Int), (0 : Int))) < (↑(Int.toNat n) : Int))) = Bool.false → (Decidable.decide ((0 : Int) ≤ Prod.snd (List.getD es (Int.toNat (↑a : Int)) ((0 : Int), (0 : Int)))) = Bool.true → ((!Decidable.decide (Prod.snd (List.getD es (Int.toNat (↑a : Int)) ((0 : Int), (0 : Int))) < (↑(Int.toNat n) : Int))) = Bool.true → (Option.none = Go.Proofs.Ytfacddeaobogjaa.N.gDat n es ∧ (8 : Int) = Go.Proofs.Ytfacddeaobogjaa.N.gErr n es) ∧ True) ∧ ((!Decidable.decide (Prod.snd (List.getD es (Int.toNat (↑a : Int)) ((0 : Int), (0 : Int))) < (↑(Int.toNat n) : Int))) = Bool.false → ((0 : Int) ≤ Prod.fst (List.getD es (Int.toNat (↑a : Int)) ((0 : Int), (0 : Int))) ∧ Prod.fst (List.getD es (Int.toNat (↑a : Int)) ((0 : Int), (0 : Int))) < (↑(Int.toNat n) : Int)) ∧ Int.toNat (Prod.fst (List.getD es (Int.toNat (↑a : Int)) ((0 : Int), (0 : Int)))) < List.length (Go.Proofs.Ytfacddeaobogjaa.N.rowsA n es a) ∧ (0 : Nat) + List.length (List.getD (Go.Proofs.Ytfacddeaobogjaa.N.rowsA n es a) (Int.toNat (Prod.fst (List.getD es (Int.toNat (↑a : Int)) ((0 : Int), (0 : Int))))) []) ≤ List.length (List.getD (Go.Proofs.Ytfacddeaobogjaa.N.rowsA n es a) (Int.toNat (Prod.fst (List.getD es (Int.toNat (↑a : Int)) ((0 : Int), (0 : Int))))) []) ∧ ((List.length (List.getD (Go.Proofs.Ytfacddeaobogjaa.N.rowsA n es a) (Int.toNat (Prod.fst (List.getD es (Int.toNat (↑a : Int)) ((0 : Int), (0 : Int))))) []) + List.length [Prod.snd (List.getD es (Int.toNat (↑a : Int)) ((0 : Int), (0 : Int)))]) * (8 : Nat) ≤ (140737488355328 : Nat) ∧ List.length (List.getD (Go.Proofs.Ytfacddeaobogjaa.N.rowsA n es a) (Int.toNat (Prod.fst (List.getD es (Int.toNat (↑a : Int)) ((0 : Int), (0 : Int))))) []) + List.length [Prod.snd (List.getD es (Int.toNat (↑a : Int)) ((0 : Int), (0 : Int)))] ≤ Go.maxLen) ∧ ((0 : Int) ≤ Prod.fst (List.getD es (Int.toNat (↑a : Int)) ((0 : Int), (0 : Int))) ∧ Prod.fst (List.getD es (Int.toNat (↑a : Int)) ((0 : Int), (0 : Int))) < (↑(Int.toNat n) : Int)) ∧ (Int.toNat (Prod.fst (List.getD es (Int.toNat (↑a : Int)) ((0 : Int), (0 : Int)))) < List.length (Go.Proofs.Ytfacddeaobogjaa.N.rowsA n es a) ∧ (0 : Nat) + (List.length (List.getD (Go.Proofs.Ytfacddeaobogjaa.N.rowsA n es a) (Int.toNat (Prod.fst (List.getD es (Int.toNat (↑a : Int)) ((0 : Int), (0 : Int))))) []) + (1 : Nat)) ≤ List.length (List.take (List.length (List.getD (Go.Proofs.Ytfacddeaobogjaa.N.rowsA n es a) (Int.toNat (Prod.fst (List.getD es (Int.toNat (↑a : Int)) ((0 : Int), (0 : Int))))) [])) (List.getD (Go.Proofs.Ytfacddeaobogjaa.N.rowsA n es a) (Int.toNat (Prod.fst (List.getD es (Int.toNat (↑a : Int)) ((0 : Int), (0 : Int))))) []) ++ [Prod.snd (List.getD es (Int.toNat (↑a : Int)) ((0 : Int), (0 : Int)))]) ∧ Int.toNat (Prod.fst (List.getD es (Int.toNat (↑a : Int)) ((0 : Int), (0 : Int)))) = Int.toNat (Prod.fst (List.getD es (Int.toNat (↑a : Int)) ((0 : Int), (0 : Int))))) ∧ ((0 : Int) ≤ Prod.snd (List.getD es (Int.toNat (↑a : Int)) ((0 : Int), (0 : Int))) ∧ Prod.snd (List.getD es (Int.toNat (↑a : Int)) ((0 : Int), (0 : Int))) < (↑(Int.toNat n) : Int)) ∧ Int.toNat (Prod.snd (List.getD es (Int.toNat (↑a : Int)) ((0 : Int), (0 : Int)))) < List.length (Go.Proofs.Ytfacddeaobogjaa.N.rowsB n es a) ∧ (0 : Nat) + List.length (List.getD (Go.Proofs.Ytfacddeaobogjaa.N.rowsB n es a) (Int.toNat (Prod.snd (List.getD es (Int.toNat (↑a : Int)) ((0 : Int), (0 : Int))))) []) ≤ List.length (List.getD (Go.Proofs.Ytfacddeaobogjaa.N.rowsB n es a) (Int.toNat (Prod.snd (List.getD es (Int.toNat (↑a : Int)) ((0 : Int), (0 : Int))))) []) ∧ ((List.length (List.getD (Go.Proofs.Ytfacddeaobogjaa.N.rowsB n es a) (Int.toNat (Prod.snd (List.getD es (Int.toNat (↑a : Int)) ((0 : Int), (0 : Int))))) []) + List.length [Prod.fst (List.getD es (Int.toNat (↑a : Int)) ((0 : Int), (0 : Int)))]) * (8 : Nat) ≤ (140737488355328 : Nat) ∧ List.length (List.getD (Go.Proofs.Ytfacddeaobogjaa.N.rowsB n es a) (Int.toNat (Prod.snd (List.getD es (Int.toNat (↑a : Int)) ((0 : Int), (0 : Int))))) []) + List.length [Prod.fst (List.getD es (Int.toNat (↑a : Int)) ((0 : Int), (0 : Int)))] ≤ Go.maxLen) ∧ ((0 : Int) ≤ Prod.snd (List.getD es (Int.toNat (↑a : Int)) ((0 : Int), (0 : Int))) ∧ Prod.snd (List.getD es (Int.toNat (↑a : Int)) ((0 : Int), (0 : Int))) < (↑(Int.toNat n) : Int)) ∧ (Int.toNat (Prod.snd (List.getD es (Int.toNat (↑a : Int)) ((0 : Int), (0 : Int)))) < List.length (Go.Proofs.Ytfacddeaobogjaa.N.rowsB n es a) ∧ (0 : Nat) + (List.length (List.getD (Go.Proofs.Ytfacddeaobogjaa.N.rowsB n es a) (Int.toNat (Prod.snd (List.getD es (Int.toNat (↑a : Int)) ((0 : Int), (0 : Int))))) []) + (1 : Nat)) ≤ List.length (List.take (List.length (List.getD (Go.Proofs.Ytfacddeaobogjaa.N.rowsB n es a) (Int.toNat (Prod.snd (List.getD es (Int.toNat (↑a : Int)) ((0 : Int), (0 : Int))))) [])) (List.getD (Go.Proofs.Ytfacddeaobogjaa.N.rowsB n es a) (Int.toNat (Prod.snd (List.getD es (Int.toNat (↑a : Int)) ((0 : Int), (0 : Int))))) []) ++ [Prod.fst (List.getD es (Int.toNat (↑a : Int)) ((0 : Int), (0 : Int)))]) ∧ Int.toNat (Prod.snd (List.getD es (Int.toNat (↑a : Int)) ((0 : Int), (0 : Int)))) = Int.toNat (Prod.snd (List.getD es (Int.toNat (↑a : Int)) ((0 : Int), (0 : Int))))) ∧ Go.DF.okI64 ((↑a : Int) + (1 : Int)) ∧ ∃ (a' : Nat), (n = n ∧ es = es ∧ (↑(List.length es) : Int) = (↑(List.length es) : Int) ∧ (↑a : Int) + (1 : Int) = (↑a' : Int) ∧ Int.toNat n = Int.toNat n ∧ Int.toNat n = Int.toNat n ∧ List.set (Go.Proofs.Ytfacddeaobogjaa.N.rowsA n es a) (Int.toNat (Prod.fst (List.getD es (Int.toNat (↑a : Int)) ((0 : Int), (0 : Int))))) (List.take (List.length (List.getD (Go.Proofs.Ytfacddeaobogjaa.N.rowsA n es a) (Int.toNat (Prod.fst (List.getD es (Int.toNat (↑a : Int)) ((0 : Int), (0 : Int))))) []) + (1 : Nat)) (List.take (List.length (List.getD (Go.Proofs.Ytfacddeaobogjaa.N.rowsA n es a) (Int.toNat (Prod.fst (List.getD es (Int.toNat (↑a : Int)) ((0 : Int), (0 : Int))))) [])) (List.getD (Go.Proofs.Ytfacddeaobogjaa.N.rowsA n es a) (Int.toNat (Prod.fst (List.getD es (Int.toNat (↑a : Int)) ((0 : Int), (0 : Int))))) []) ++ [Prod.snd (List.getD es (Int.toNat (↑a : Int)) ((0 : Int), (0 : Int)))])) = Go.Proofs.Ytfacddeaobogjaa.N.rowsA n es a' ∧ List.set (Go.Proofs.Ytfacddeaobogjaa.N.rowsB n es a) (Int.toNat (Prod.snd (List.getD es (Int.toNat (↑a : Int)) ((0 : Int), (0 : Int))))) (List.take (List.length (List.getD (Go.Proofs.Ytfacddeaobogjaa.N.rowsB n es a) (Int.toNat (Prod.snd (List.getD es (Int.toNat (↑a : Int)) ((0 : Int), (0 : Int))))) []) + (1 : Nat)) (List.take (List.length (List.getD (Go.Proofs.Ytfacddeaobogjaa.N.rowsB n es a) (Int.toNat (Prod.snd (List.getD es (Int.toNat (↑a : Int)) ((0 : Int), (0 : Int))))) [])) (List.getD (Go.Proofs.Ytfacddeaobogjaa.N.rowsB n es a) (Int.toNat (Prod.snd (List.getD es (Int.toNat (↑a : Int)) ((0 : Int), (0 : Int))))) []) ++ [Prod.fst (List.getD es (Int.toNat (↑a : Int)) ((0 : Int), (0 : Int)))])) = Go.Proofs.Ytfacddeaobogjaa.N.rowsB n es a') ∧ (a' ≤ List.length es ∧ (List.all (List.take a' es) fun (x : Int × Int) => !Go.Proofs.Ytfacddeaobogjaa.N.badE n x) = Bool.true) ∧ List.length es - a' < List.length es - a)) ∧ (Decidable.decide ((0 : Int) ≤ Prod.snd (List.getD es (Int.toNat (↑a : Int)) ((0 : Int), (0 : Int)))) = Bool.false → (Option.none = Go.Proofs.Ytfacddeaobogjaa.N.gDat n es ∧ (8 : Int) = Go.Proofs.Ytfacddeaobogjaa.N.gErr n es) ∧ True))) ∧ (Decidable.decide ((0 : Int) ≤ Prod.fst (List.getD es (Int.toNat (↑a : Int)) ((0 : Int), (0 : Int)))) = Bool.false → (Option.none = Go.Proofs.Ytfacddeaobogjaa.N.gDat n es ∧ (8 : Int) = Go.Proofs.Ytfacddeaobogjaa.N.gErr n es) ∧ True)) ∧ (Decidable.decide ((↑a : Int) < (↑(List.length es) : Int)) = Bool.false → (∃ (a_3 : Nat), (n = n ∧ (0 : Int) = (↑a_3 : Int) ∧ Int.toNat n = Int.toNat n ∧ Int.toNat n = Int.toNat n ∧ Go.Proofs.Ytfacddeaobogjaa.N.rowsA n es a = Go.Proofs.Ytfacddeaobogjaa.N.setTo (Go.Proofs.Ytfacddeaobogjaa.N.rowsA n es (List.length es)) a_3 ∧ Go.Proofs.Ytfacddeaobogjaa.N.rowsB n es a = Go.Proofs.Ytfacddeaobogjaa.N.setTo (Go.Proofs.Ytfacddeaobogjaa.N.rowsB n es (List.length es)) a_3) ∧ a_3 ≤ Int.toNat n) ∧ ∀ (a : Nat), a ≤ Int.toNat n → (Decidable.decide ((↑a : Int) < n) = Bool.true → ((0 : Int) ≤ (↑a : Int) ∧ (↑a : Int) < (↑(Int.toNat n) : Int)) ∧ Int.toNat (↑a : Int) < List.length (Go.Proofs.Ytfacddeaobogjaa.N.setTo (Go.Proofs.Ytfacddeaobogjaa.N.rowsA n es (List.length es)) a) ∧ (List.length (List.getD (Go.Proofs.Ytfacddeaobogjaa.N.setTo (Go.Proofs.Ytfacddeaobogjaa.N.rowsA n es (List.length es)) a) (Int.toNat (↑a : Int)) []) = List.length (List.getD (Go.Proofs.Ytfacddeaobogjaa.N.setTo (Go.Proofs.Ytfacddeaobogjaa.N.rowsA n es (List.length es)) a) (Int.toNat (↑a : Int)) []) ∧ List.getD (Go.Proofs.Ytfacddeaobogjaa.N.setTo (Go.Proofs.Ytfacddeaobogjaa.N.rowsA n es (List.length es)) a) (Int.toNat (↑a : Int)) [] = List.getD (Go.Proofs.Ytfacddeaobogjaa.N.setTo (Go.Proofs.Ytfacddeaobogjaa.N.rowsA n es (List.length es)) a) (Int.toNat (↑a : Int)) [] ∧ List.length (List.getD (Go.Proofs.Ytfacddeaobogjaa.N.setTo (Go.Proofs.Ytfacddeaobogjaa.N.rowsA n es (List.length es)) a) (Int.toNat (↑a : Int)) []) ≤ List.length (List.getD (Go.Proofs.Ytfacddeaobogjaa.N.setTo (Go.Proofs.Ytfacddeaobogjaa.N.rowsA n es (List.length es)) a) (Int.toNat (↑a : Int)) []) ∧ List.length (List.getD (Go.Proofs.Ytfacddeaobogjaa.N.setTo (Go.Proofs.Ytfacddeaobogjaa.N.rowsA n es (List.length es)) a) (Int.toNat (↑a : Int)) []) < (4611686018427387904 : Nat)) ∧ (List.length (List.getD (Go.Proofs.Ytfacddeaobogjaa.N.setTo (Go.Proofs.Ytfacddeaobogjaa.N.rowsA n es (List.length es)) a) (Int.toNat (↑a : Int)) []) = List.length (List.getD (Go.Proofs.Ytfacddeaobogjaa.N.setTo (Go.Proofs.Ytfacddeaobogjaa.N.rowsA n es (List.length es)) a) (Int.toNat (↑a : Int)) []) ∧ Go.DF.srtN (List.length (List.getD (Go.Proofs.Ytfacddeaobogjaa.N.setTo (Go.Proofs.Ytfacddeaobogjaa.N.rowsA n es (List.length es)) a) (Int.toNat (↑a : Int)) [])) (List.getD (Go.Proofs.Ytfacddeaobogjaa.N.setTo (Go.Proofs.Ytfacddeaobogjaa.N.rowsA n es (List.length es)) a) (Int.toNat (↑a : Int)) []) = Go.DF.srtN (List.length (List.getD (Go.Proofs.Ytfacddeaobogjaa.N.setTo (Go.Proofs.Ytfacddeaobogjaa.N.rowsA n es (List.length es)) a) (Int.toNat (↑a : Int)) [])) (List.getD (Go.Proofs.Ytfacddeaobogjaa.N.setTo (Go.Proofs.Ytfacddeaobogjaa.N.rowsA n es (List.length es)) a) (Int.toNat (↑a : Int)) []) ∧ List.length (List.getD (Go.Proofs.Ytfacddeaobogjaa.N.setTo (Go.Proofs.Ytfacddeaobogjaa.N.rowsA n es (List.length es)) a) (Int.toNat (↑a : Int)) []) ≤ List.length (Go.DF.srtN (List.length (List.getD (Go.Proofs.Ytfacddeaobogjaa.N.setTo (Go.Proofs.Ytfacddeaobogjaa.N.rowsA n es (List.length es)) a) (Int.toNat (↑a : Int)) [])) (List.getD (Go.Proofs.Ytfacddeaobogjaa.N.setTo (Go.Proofs.Ytfacddeaobogjaa.N.rowsA n es (List.length es)) a) (Int.toNat (↑a : Int)) [])) ∧ List.length (List.getD (Go.Proofs.Ytfacddeaobogjaa.N.setTo (Go.Proofs.Ytfacddeaobogjaa.N.rowsA n es (List.length es)) a) (Int.toNat (↑a : Int)) []) ≤ (9223372036854775807 : Nat)) ∧ ((0 : Int) ≤ (↑a : Int) ∧ (↑a : Int) < (↑(Int.toNat n) : Int)) ∧ Int.toNat (↑a : Int) < List.length (Go.Proofs.Ytfacddeaobogjaa.N.setTo (Go.Proofs.Ytfacddeaobogjaa.N.rowsB n es (List.length es)) a) ∧ (List.length (List.getD (Go.Proofs.Ytfacddeaobogjaa.N.setTo (Go.Proofs.Ytfacddeaobogjaa.N.rowsB n es (List.length es)) a) (Int.toNat (↑a : Int)) []) = List.length (List.getD (Go.Proofs.Ytfacddeaobogjaa.N.setTo (Go.Proofs.Ytfacddeaobogjaa.N.rowsB n es (List.length es)) a) (Int.toNat (↑a : Int)) []) ∧ List.getD (Go.Proofs.Ytfacddeaobogjaa.N.setTo (Go.Proofs.Ytfacddeaobogjaa.N.rowsB n es (List.length es)) a) (Int.toNat (↑a : Int)) [] = List.getD (Go.Proofs.Ytfacddeaobogjaa.N.setTo (Go.Proofs.Ytfacddeaobogjaa.N.rowsB n es (List.length es)) a) (Int.toNat (↑a : Int)) [] ∧ List.length (List.getD (Go.Proofs.Ytfacddeaobogjaa.N.setTo (Go.Proofs.Ytfacddeaobogjaa.N.rowsB n es (List.length es)) a) (Int.toNat (↑a : Int)) []) ≤ List.length (List.getD (Go.Proofs.Ytfacddeaobogjaa.N.setTo (Go.Proofs.Ytfacddeaobogjaa.N.rowsB n es (List.length es)) a) (Int.toNat (↑a : Int)) []) ∧ List.length (List.getD (Go.Proofs.Ytfacddeaobogjaa.N.setTo (Go.Proofs.Ytfacddeaobogjaa.N.rowsB n es (List.length es)) a) (Int.toNat (↑a : Int)) []) < (4611686018427387904 : Nat)) ∧ (List.length (List.getD (Go.Proofs.Ytfacddeaobogjaa.N.setTo (Go.Proofs.Ytfacddeaobogjaa.N.rowsB n es (List.length es)) a) (Int.toNat (↑a : Int)) []) = List.length (List.getD (Go.Proofs.Ytfacddeaobogjaa.N.setTo (Go.Proofs.Ytfacddeaobogjaa.N.rowsB n es (List.length es)) a) (Int.toNat (↑a : Int)) []) ∧ Go.DF.srtN (List.length (List.getD (Go.Proofs.Ytfacddeaobogjaa.N.setTo (Go.Proofs.Ytfacddeaobogjaa.N.rowsB n es (List.length es)) a) (Int.toNat (↑a : Int)) [])) (List.getD (Go.Proofs.Ytfacddeaobogjaa.N.setTo (Go.Proofs.Ytfacddeaobogjaa.N.rowsB n es (List.length es)) a) (Int.toNat (↑a : Int)) []) = Go.DF.srtN (List.length (List.getD (Go.Proofs.Ytfacddeaobogjaa.N.setTo (Go.Proofs.Ytfacddeaobogjaa.N.rowsB n es (List.length es)) a) (Int.toNat (↑a : Int)) [])) (List.getD (Go.Proofs.Ytfacddeaobogjaa.N.setTo (Go.Proofs.Ytfacddeaobogjaa.N.rowsB n es (List.length es)) a) (Int.toNat (↑a : Int)) []) ∧ List.length (List.getD (Go.Proofs.Ytfacddeaobogjaa.N.setTo (Go.Proofs.Ytfacddeaobogjaa.N.rowsB n es (List.length es)) a) (Int.toNat (↑a : Int)) []) ≤ List.length (Go.DF.srtN (List.length (List.getD (Go.Proofs.Ytfacddeaobogjaa.N.setTo (Go.Proofs.Ytfacddeaobogjaa.N.rowsB n es (List.length es)) a) (Int.toNat (↑a : Int)) [])) (List.getD (Go.Proofs.Ytfacddeaobogjaa.N.setTo (Go.Proofs.Ytfacddeaobogjaa.N.rowsB n es (List.length es)) a) (Int.toNat (↑a : Int)) [])) ∧ List.length (List.getD (Go.Proofs.Ytfacddeaobogjaa.N.setTo (Go.Proofs.Ytfacddeaobogjaa.N.rowsB n es (List.length es)) a) (Int.toNat (↑a : Int)) []) ≤ (9223372036854775807 : Nat)) ∧ ((0 : Int) ≤ (↑a : Int) ∧ (↑a : Int) < (↑(Int.toNat n) : Int)) ∧ (Int.toNat (↑a : Int) < List.length (Go.Proofs.Ytfacddeaobogjaa.N.setTo (Go.Proofs.Ytfacddeaobogjaa.N.rowsA n es (List.length es)) a) ∧ (0 : Nat) + List.length (Go.Lib.compact (List.take (List.length (List.getD (Go.Proofs.Ytfacddeaobogjaa.N.setTo (Go.Proofs.Ytfacddeaobogjaa.N.rowsA n es (List.length es)) a) (Int.toNat (↑a : Int)) [])) (Go.DF.srtN (List.length (List.getD (Go.Proofs.Ytfacddeaobogjaa.N.setTo (Go.Proofs.Ytfacddeaobogjaa.N.rowsA n es (List.length es)) a) (Int.toNat (↑a : Int)) [])) (List.getD (Go.Proofs.Ytfacddeaobogjaa.N.setTo (Go.Proofs.Ytfacddeaobogjaa.N.rowsA n es (List.length es)) a) (Int.toNat (↑a : Int)) [])))) ≤ List.length (Go.DF.cmpN (List.length (List.getD (Go.Proofs.Ytfacddeaobogjaa.N.setTo (Go.Proofs.Ytfacddeaobogjaa.N.rowsA n es (List.length es)) a) (Int.toNat (↑a : Int)) [])) (Go.DF.srtN (List.length (List.getD (Go.Proofs.Ytfacddeaobogjaa.N.setTo (Go.Proofs.Ytfacddeaobogjaa.N.rowsA n es (List.length es)) a) (Int.toNat (↑a : Int)) [])) (List.getD (Go.Proofs.Ytfacddeaobogjaa.N.setTo (Go.Proofs.Ytfacddeaobogjaa.N.rowsA n es (List.length es)) a) (Int.toNat (↑a : Int)) []))) ∧ Int.toNat (↑a : Int) = Int.toNat (↑a : Int)) ∧ ((0 : Int) ≤ (↑a : Int) ∧ (↑a : Int) < (↑(Int.toNat n) : Int)) ∧ (Int.toNat (↑a : Int) < List.length (Go.Proofs.Ytfacddeaobogjaa.N.setTo (Go.Proofs.Ytfacddeaobogjaa.N.rowsB n es (List.length es)) a) ∧ (0 : Nat) + List.length (Go.Lib.compact (List.take (List.length (List.getD (Go.Proofs.Ytfacddeaobogjaa.N.setTo (Go.Proofs.Ytfacddeaobogjaa.N.rowsB n es (List.length es)) a) (Int.toNat (↑a : Int)) [])) (Go.DF.srtN (List.length (List.getD (Go.Proofs.Ytfacddeaobogjaa.N.setTo (Go.Proofs.Ytfacddeaobogjaa.N.rowsB n es (List.length es)) a) (Int.toNat (↑a : Int)) [])) (List.getD (Go.Proofs.Ytfacddeaobogjaa.N.setTo (Go.Proofs.Ytfacddeaobogjaa.N.rowsB n es (List.length es)) a) (Int.toNat (↑a : Int)) [])))) ≤ List.length (Go.DF.cmpN (List.length (List.getD (Go.Proofs.Ytfacddeaobogjaa.N.setTo (Go.Proofs.Ytfacddeaobogjaa.N.rowsB n es (List.length es)) a) (Int.toNat (↑a : Int)) [])) (Go.DF.srtN (List.length (List.getD (Go.Proofs.Ytfacddeaobogjaa.N.setTo (Go.Proofs.Ytfacddeaobogjaa.N.rowsB n es (List.length es)) a) (Int.toNat (↑a : Int)) [])) (List.getD (Go.Proofs.Ytfacddeaobogjaa.N.setTo (Go.Proofs.Ytfacddeaobogjaa.N.rowsB n es (List.length es)) a) (Int.toNat (↑a : Int)) []))) ∧ Int.toNat (↑a : Int) = Int.toNat (↑a : Int)) ∧ Go.DF.okI64 ((↑a : Int) + (1 : Int)) ∧ ∃ (a' : Nat), (n = n ∧ (↑a : Int) + (1 : Int) = (↑a' : Int) ∧ Int.toNat n = Int.toNat n ∧ Int.toNat n = Int.toNat n ∧ List.set (Go.Proofs.Ytfacddeaobogjaa.N.setTo (Go.Proofs.Ytfacddeaobogjaa.N.rowsA n es (List.length es)) a) (Int.toNat (↑a : Int)) (List.take (List.length (Go.Lib.compact (List.take (List.length (List.getD (Go.Proofs.Ytfacddeaobogjaa.N.setTo (Go.Proofs.Ytfacddeaobogjaa.N.rowsA n es (List.length es)) a) (Int.toNat (↑a : Int)) [])) (Go.DF.srtN (List.length (List.getD (Go.Proofs.Ytfacddeaobogjaa.N.setTo (Go.Proofs.Ytfacddeaobogjaa.N.rowsA n es (List.length es)) a) (Int.toNat (↑a : Int)) [])) (List.getD (Go.Proofs.Ytfacddeaobogjaa.N.setTo (Go.Proofs.Ytfacddeaobogjaa.N.rowsA n es (List.length es)) a) (Int.toNat (↑a : Int)) []))))) (Go.DF.cmpN (List.length (List.getD (Go.Proofs.Ytfacddeaobogjaa.N.setTo (Go.Proofs.Ytfacddeaobogjaa.N.rowsA n es (List.length es)) a) (Int.toNat (↑a : Int)) [])) (Go.DF.srtN (List.length (List.getD (Go.Proofs.Ytfacddeaobogjaa.N.setTo (Go.Proofs.Ytfacddeaobogjaa.N.rowsA n es (List.length es)) a) (Int.toNat (↑a : Int)) [])) (List.getD (Go.Proofs.Ytfacddeaobogjaa.N.setTo (Go.Proofs.Ytfacddeaobogjaa.N.rowsA n es (List.length es)) a) (Int.toNat (↑a : Int)) [])))) = Go.Proofs.Ytfacddeaobogjaa.N.setTo (Go.Proofs.Ytfacddeaobogjaa.N.rowsA n es (List.length es)) a' ∧ List.set (Go.Proofs.Ytfacddeaobogjaa.N.setTo (Go.Proofs.Ytfacddeaobogjaa.N.rowsB n es (List.length es)) a) (Int.toNat (↑a : Int)) (List.take (List.length (Go.Lib.compact (List.take (List.length (List.getD (Go.Proofs.Ytfacddeaobogjaa.N.setTo (Go.Proofs.Ytfacddeaobogjaa.N.rowsB n es (List.length es)) a) (Int.toNat (↑a : Int)) [])) (Go.DF.srtN (List.length (List.getD (Go.Proofs.Ytfacddeaobogjaa.N.setTo (Go.Proofs.Ytfacddeaobogjaa.N.rowsB n es (List.length es)) a) (Int.toNat (↑a : Int)) [])) (List.getD (Go.Proofs.Ytfacddeaobogjaa.N.setTo (Go.Proofs.Ytfacddeaobogjaa.N.rowsB n es (List.length es)) a) (Int.toNat (↑a : Int)) []))))) (Go.DF.cmpN (List.length (List.getD (Go.Proofs.Ytfacddeaobogjaa.N.setTo (Go.Proofs.Ytfacddeaobogjaa.N.rowsB n es (List.length es)) a) (Int.toNat (↑a : Int)) [])) (Go.DF.srtN (List.length (List.getD (Go.Proofs.Ytfacddeaobogjaa.N.setTo (Go.Proofs.Ytfacddeaobogjaa.N.rowsB n es (List.length es)) a) (Int.toNat (↑a : Int)) [])) (List.getD (Go.Proofs.Ytfacddeaobogjaa.N.setTo (Go.Proofs.Ytfacddeaobogjaa.N.rowsB n es (List.length es)) a) (Int.toNat (↑a : Int)) [])))) = Go.Proofs.Ytfacddeaobogjaa.N.setTo (Go.Proofs.Ytfacddeaobogjaa.N.rowsB n es (List.length es)) a') ∧ a' ≤ Int.toNat n ∧ Int.toNat n - a' < Int.toNat n - a) ∧ (Decidable.decide ((↑a : Int) < n) = Bool.false → ((0 : Nat) + Int.toNat n ≤ List.length (Go.Proofs.Ytfacddeaobogjaa.N.setTo (Go.Proofs.Ytfacddeaobogjaa.N.rowsA n es (List.length es)) a) ∧ (0 : Nat) + Int.toNat n ≤ List.length (Go.Proofs.Ytfacddeaobogjaa.N.setTo (Go.Proofs.Ytfacddeaobogjaa.N.rowsB n es (List.length es)) a) ∧ Option.some (List.take (Int.toNat n) (Go.Proofs.Ytfacddeaobogjaa.N.setTo (Go.Proofs.Ytfacddeaobogjaa.N.rowsA n es (List.length es)) a), List.take (Int.toNat n) (Go.Proofs.Ytfacddeaobogjaa.N.setTo (Go.Proofs.Ytfacddeaobogjaa.N.rowsB n es (List.length es)) a)) = Go.Proofs.Ytfacddeaobogjaa.N.gDat n es ∧ (0 : Int) = Go.Proofs.Ytfacddeaobogjaa.N.gErr n es) ∧ True))))) (by kernel_rfl) ?_
  have gE : gErr n es = if n < 0 ∨ 4096 < n then 2 else if 65536 < (es.length : Int) then 9 else if es.any (badE n) then 8 else 0 := rfl
  have none : ∀ e : Int, gErr n es = e → e ≠ 0 → (none = gDat n es ∧ e = gErr n es) ∧ True := fun e he h0 => ⟨⟨by unfold gDat; rw [if_neg (by rw [he]; exact h0)], he.symm⟩, trivial⟩
  refine ⟨fun h => none 2 (by rw [gE, if_pos (by simpa using h)]) (by decide), fun h1 => ?_⟩
  have h1 : ¬ (n < 0 ∨ 4096 < n) := by
    simp only [Bool.or_eq_false_iff, decide_eq_false_iff_not] at h1; omega
  refine ⟨fun h => none 9 (by rw [gE, if_neg h1, if_pos (of_decide_eq_true h)]) (by decide), fun h2 => ?_⟩
  have h2 : ¬ (65536 < (es.length : Int)) := of_decide_eq_false h2
  have hbad : ∀ a, a < es.length → badE n (es.getD a (0, 0)) = true → gErr n es = 8 := fun a ha hb => by
    rw [gE, if_neg h1, if_neg h2, if_pos]
    rw [List.any_eq_true]
    exact ⟨_, List.getElem_mem ha, by rw [List.getD_eq_getElem?_getD, List.getElem?_eq_getElem ha] at hb; exact hb⟩
  refine ⟨⟨by omega, by omega, by omega, by omega⟩, rfl, ⟨by omega, by omega, by omega, by omega⟩, rfl, ⟨0, ⟨rfl, rfl, rfl, rfl, rfl, rfl, ?_, ?_⟩, Nat.zero_le _, rfl⟩, fun a ⟨ha, hall⟩ => ⟨fun hlt => ?_, fun hge => ?_⟩⟩
  · exact rowsA_zero n es
  · exact rowsB_zero n es
  · have hlt : a < es.length := by have := of_decide_eq_true hlt; omega
    have e : Int.toNat (a : Int) = a := by omega
    simp only [e]
    have hb := hbad a hlt
    have hstep := rowsA_step n es a hlt
    have hstepB := rowsB_step n es a hlt
    have hallS : es.take (a + 1) = es.take a ++ [es.getD a (0, 0)] := by
      rw [List.take_add_one, List.getD_eq_getElem?_getD, List.getElem?_eq_getElem hlt]; rfl
    generalize es.getD a (0, 0) = x at hb hstep hstepB hallS ⊢
    have bad : (¬ (0 ≤ x.1 ∧ x.1 < n) ∨ ¬ (0 ≤ x.2 ∧ x.2 < n)) → badE n x = true := fun h => by
      unfold badE
      simp only [Bool.or_eq_true, Bool.not_eq_true', Bool.and_eq_false_iff, decide_eq_false_iff_not]
      omega
    refine ⟨⟨by omega, by omega⟩, fun k1 => ⟨fun k2 => ?_, fun k2 => ⟨fun k3 => ⟨fun k4 => ?_, fun k4 => ?_⟩, fun k3 => ?_⟩⟩, fun k1 => ?_⟩
    · exact none 8 (hb (bad (by simp at k2; omega))) (by decide)
    · exact none 8 (hb (bad (by simp at k4; omega))) (by decide)
    · have k1 := of_decide_eq_true k1
      have k2 : x.1 < n := by simp at k2; omega
      have k3 := of_decide_eq_true k3
      have k4 : x.2 < n := by simp at k4; omega
      have gA := rowsA_get n es a x.1.toNat (by omega)
      have gB := rowsB_get n es a x.2.toNat (by omega)
      have lA := outs_len es a x.1.toNat
      have lB := ins_len es a x.2.toNat
      have rA := rowsA_len n es a
      have rB := rowsB_len n es a
      have mA := row_more (outs es a x.1.toNat) x.2
      have mB := row_more (ins es a x.2.toNat) x.1
      have sA := hstep k1
      have sB := hstepB k3
      simp only [gA, gB, List.length_singleton]
      rw [mA.1, mB.1, mA.2, mB.2, sA, sB]
      have hmax : maxLen = 9223372036854775807 := rfl
      refine ⟨⟨k1, by omega⟩, by omega, by omega, ⟨by omega, by omega⟩, ⟨k1, by omega⟩, ⟨by omega, by omega, trivial⟩, ⟨k3, by omega⟩, by omega, by omega, ⟨by omega, by omega⟩, ⟨k3, by omega⟩, ⟨by omega, by omega, trivial⟩, by unfold okI64; omega, a + 1, ⟨trivial, trivial, trivial, by omega, trivial, trivial, rfl, rfl⟩, ⟨by omega, ?_⟩, by omega⟩
      rw [hallS, List.all_append, hall, Bool.true_and]
      have : badE n x = false := by
        unfold badE
        simp [k1, k2, k3, k4]
      simp [this]
    · exact none 8 (hb (bad (by simp at k3; omega))) (by decide)
    · exact none 8 (hb (bad (by simp at k1; omega))) (by decide)
  · have hge : a = es.length := by have := of_decide_eq_false hge; omega
    subst hge
    have g0 : gErr n es = 0 := by
      rw [gE, if_neg h1, if_neg h2, if_neg]
      rw [List.take_length, any_all] at hall
      simpa using hall
    refine ⟨⟨0, ⟨rfl, rfl, rfl, rfl, (setTo_zero _).symm, (setTo_zero _).symm⟩, Nat.zero_le _⟩, fun a ha => ⟨fun hlt => ?_, fun hge => ?_⟩⟩
    · have hlt : a < n.toNat := by have := of_decide_eq_true hlt; omega
      have e : Int.toNat (a : Int) = a := by omega
      have rA := rowsA_len n es es.length
      have rB := rowsB_len n es es.length
      have gA : (setTo (rowsA n es es.length) a).getD a [] = outs es es.length a := (setTo_get _ a a (Nat.le_refl _) (by omega)).trans (rowsA_get n es _ a hlt)
      have gB : (setTo (rowsB n es es.length) a).getD a [] = ins es es.length a := (setTo_get _ a a (Nat.le_refl _) (by omega)).trans (rowsB_get n es _ a hlt)
      have lA := outs_len es es.length a
      have lB := ins_len es es.length a
      have sA := setTo_step (rowsA n es es.length) a (by omega)
      have sB := setTo_step (rowsB n es es.length) a (by omega)
      rw [rowsA_get n es _ a hlt] at sA
      rw [rowsB_get n es _ a hlt] at sB
      have uA := leafU (n := (outs es es.length a).length) rfl
      have uB := leafU (n := (ins es es.length a).length) rfl
      simp only [e, gA, gB, setTo_len, rA, rB, srtN_len, uA.2, uB.2, sA, sB, Nat.zero_add]
      refine ⟨⟨by omega, by omega⟩, hlt, ⟨trivial, trivial, Nat.le_refl _, by omega⟩, ⟨trivial, trivial, Nat.le_refl _, by omega⟩, ⟨by omega, by omega⟩, hlt, ⟨trivial, trivial, Nat.le_refl _, by omega⟩, ⟨trivial, trivial, Nat.le_refl _, by omega⟩, ⟨by omega, by omega⟩, ⟨hlt, uA.1, trivial⟩, ⟨by omega, by omega⟩, ⟨hlt, uB.1, trivial⟩, by unfold okI64; omega, a + 1, ⟨trivial, by omega, trivial, trivial, rfl, rfl⟩, by omega, by omega⟩
    · have : a = n.toNat := by have := of_decide_eq_false hge; omega
      subst this
      have rA := rowsA_len n es es.length
      have rB := rowsB_len n es es.length
      refine ⟨⟨by rw [setTo_len]; omega, by rw [setTo_len]; omega, ?_, g0.symm⟩, trivial⟩
      unfold gDat
      rw [if_pos g0, List.take_of_length_le (by rw [setTo_len]; omega), List.take_of_length_le (by rw [setTo_len]; omega)]
end Go.Proofs.Ytfacddeaobogjaa.N
