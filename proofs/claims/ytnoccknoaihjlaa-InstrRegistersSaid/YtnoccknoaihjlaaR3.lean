import Derived.Test.YtnoccknoaihjlaaF12
import Derived.Test.YtnoccknoaihjlaaR
import Derived.Test.YtnoccknoaihjlaaS
import Derived.Test.YtnoccknoaihjlaaLaid
set_option linter.unusedVariables false
set_option linter.unusedSimpArgs false
set_option linter.unnecessarySimpa false
set_option linter.unusedVariables false
set_option linter.unusedSimpArgs false
/- Reads. -/
namespace Go.Proofs.Ytnoccknoaihjlaa.N
open Go.DF
set_option maxRecDepth 100000
def c78 : CanC Try.prog := sortC Try.lays189 78 (by kernel_rfl) 3 (hasBody_of Try.func78 (by kernel_rfl) (by kernel_rfl))
def c79 : CanC Try.prog := compactC Try.lays220 79 (by kernel_rfl) 3 (hasBody_of Try.func79 (by kernel_rfl) (by kernel_rfl))
def inv77 (l : List Int) (v : Int) : LInv where
  α := Nat
  S := fun k => ⟨[(0, .per (.sl (.int .i64)) l), (1, .int .i64 (.sym v)), (7, .int .i64 (.sym l.length)), (8, .int .i64 (.sym k))], [], 0⟩
  p := fun k => k ≤ l.length ∧ ∀ j, j < k → l.getD j 0 ≠ v
  m := fun k => l.length - k
def idx (l : List Int) (v : Int) : Int := match l.findIdx? (· == v) with | some i => i | none => -1
theorem p77 (l : List Int) (v : Int) (hn : l.length ≤ 1000000) : Pure1 Try.prog 77 [.per (.sl (.int .i64)) l, .int .i64 (.sym v)] (.int .i64 (.sym (idx l v))) := by
  refine pure1_of_exec (ct := cx0 [] [] []) [(2, inv77 l v)] Try.func77 rfl rfl ?_
  refine cast_goal (p := (∃ (a : Nat), (l = l ∧ v = v ∧ (↑(List.length l) : Int) = (↑(List.length l) : Int) ∧ (0 : Int) = (↑a : Int)) ∧ a ≤ List.length l ∧ ∀ (j : Nat), j < a → List.getD l j (0 : Int) ≠ v) ∧ ∀ (a : Nat), (a ≤ List.length l ∧ ∀ (j : Nat), j < a → List.getD l j (0 : Int) ≠ v) → (Decidable.decide ((↑a : Int) < (↑(List.length l) : Int)) = Bool.true → ((0 : Int) ≤ (↑a : Int) ∧ (↑a : Int) < (↑(List.length l) : Int)) ∧ ((v == List.getD l (Int.toNat (↑a : Int)) (0 : Int)) = Bool.true → (↑a : Int) = Go.Proofs.Ytnoccknoaihjlaa.N.idx l v ∧ True) ∧ ((v == List.getD l (Int.toNat (↑a : Int)) (0 : Int)) = Bool.false → Go.DF.okI64 ((↑a : Int) + (1 : Int)) ∧ ∃ (a' : Nat), (l = l ∧ v = v ∧ (↑(List.length l) : Int) = (↑(List.length l) : Int) ∧ (↑a : Int) + (1 : Int) = (↑a' : Int)) ∧ (a' ≤ List.length l ∧ ∀ (j : Nat), j < a' → List.getD l j (0 : Int) ≠ v) ∧ List.length l - a' < List.length l - a)) ∧ (Decidable.decide ((↑a : Int) < (↑(List.length l) : Int)) = Bool.false → (-1 : Int) = Go.Proofs.Ytnoccknoaihjlaa.N.idx l v ∧ True)) (by kernel_rfl) ?_
  refine ⟨⟨0, ⟨rfl, rfl, rfl, rfl⟩, Nat.zero_le _, fun j hj => absurd hj (Nat.not_lt_zero j)⟩, fun a ⟨h1, h2⟩ => ⟨fun hlt => ?_, fun hge => ⟨?_, trivial⟩⟩⟩
  · have hlt : a < l.length := by have := of_decide_eq_true hlt; omega
    have e : Int.toNat (a : Int) = a := by omega
    simp only [e]
    have hget : l.getD a 0 = l[a] := by rw [List.getD_eq_getElem?_getD, List.getElem?_eq_getElem hlt]; rfl
    refine ⟨⟨by omega, by omega⟩, fun hb => ⟨?_, trivial⟩, fun hb => ⟨by unfold okI64; omega, a + 1, ⟨trivial, trivial, trivial, by omega⟩, ⟨by omega, fun j hj => ?_⟩, by omega⟩⟩
    · have hb := eq_of_beq hb
      have : l.findIdx? (· == v) = some a := by
        rw [List.findIdx?_eq_some_iff_getElem]
        refine ⟨hlt, by rw [← hget, ← hb]; simp, fun j hj => ?_⟩
        have := h2 j hj
        rw [List.getD_eq_getElem?_getD, List.getElem?_eq_getElem (by omega)] at this
        simpa using this
      unfold idx; rw [this]
    · rcases Nat.lt_or_ge j a with h | h
      · exact h2 j h
      · have : j = a := by omega
        subst this
        intro e; rw [e] at hb; simp at hb
  · have hge : a = l.length := by have := of_decide_eq_false hge; omega
    subst hge
    have : l.findIdx? (· == v) = none := by
      rw [List.findIdx?_eq_none_iff]
      intro x hx
      obtain ⟨j, hj, rfl⟩ := List.mem_iff_getElem.1 hx
      have := h2 j hj
      rw [List.getD_eq_getElem?_getD, List.getElem?_eq_getElem hj] at this
      simpa using this
    unfold idx; rw [this]
def c77 : PureC Try.prog where
  f := 77
  sig := [.dat false (.sl (.int .i64)), .dat false (.int .i64)]
  per := false
  spec := fun x => .ob (x.1.length ≤ 1000000) none (.leaf (.int .i64 (.sym (idx x.1 x.2.1))))
  body := hasBody_of Try.func77 (by kernel_rfl) (by kernel_rfl)
  ok := fun x d h => by
    obtain ⟨h1, h⟩ := h
    obtain rfl : d = _ := h
    exact p77 x.1 x.2.1 h1
theorem p61 (l : List Int) (v : Int) (hn : l.length ≤ 1000000) : Pure1 Try.prog 61 [.per (.sl (.int .i64)) l, .int .i64 (.sym v)] (.bool (.sym (l.contains v))) := by
  refine pure1_of_exec (ct := cx0 [c77] [] []) [] Try.func61 rfl rfl ?_
  refine cast_goal (p := List.length l ≤ (1000000 : Nat) ∧ Decidable.decide ((0 : Int) ≤ Go.Proofs.Ytnoccknoaihjlaa.N.idx l v) = List.contains l v ∧ True) (by kernel_rfl) ?_
  refine ⟨hn, ?_, trivial⟩
  unfold idx
  cases h : l.findIdx? (· == v) with
  | none =>
    rw [List.findIdx?_eq_none_iff] at h
    have : ¬ v ∈ l := fun hv => by have := h v hv; simp at this
    simp [this]
  | some a =>
    rw [List.findIdx?_eq_some_iff_getElem] at h
    obtain ⟨h1, h2, _⟩ := h
    have : v ∈ l := by rw [← eq_of_beq h2]; exact List.getElem_mem h1
    simp [this]
def c61 : PureC Try.prog where
  f := 61
  sig := [.dat false (.sl (.int .i64)), .dat false (.int .i64)]
  per := false
  spec := fun x => .ob (x.1.length ≤ 1000000) none (.leaf (.bool (.sym (List.contains (α := Int) x.1 x.2.1))))
  body := hasBody_of Try.func61 (by kernel_rfl) (by kernel_rfl)
  ok := fun x d h => by
    obtain ⟨h1, h⟩ := h
    obtain rfl : d = _ := h
    exact p61 x.1 x.2.1 h1
noncomputable def bodies : List (Body Try.prog) := [⟨62, Try.f62, Try.func62, by kernel_rfl, by kernel_rfl, false⟩]
def inA (op : Int) : Bool := ([3, 18, 20, 22, 23, 25] : List Int).contains op
def rdE (i : Ins) : List Int := (bif inA i.1 then [i.2.1] else []) ++ (bif hB (formI i.1) then [i.2.2.1] else []) ++ (bif formI i.1 == 3 then [i.2.2.2] else [])
def rdL (i : Ins) : List Int := bif chkJ i != 0 then [] else uniq (rdE i)
theorem leafL {n : Nat} {l : List Int} (h : l.length = n) : (Lib.compact ((srtN n l).take n)).length ≤ (cmpN n (srtN n l)).length ∧ (cmpN n (srtN n l)).take (Lib.compact ((srtN n l).take n)).length = uniq l := by
  have e : srtN n l = srt l := by simp only [srtN, List.take_of_length_le (Nat.le_of_eq h), List.drop_eq_nil_of_le (Nat.le_of_eq h), List.append_nil]
  have e2 : (srt l).take n = srt l := List.take_of_length_le (by rw [srt_len]; omega)
  have e3 : Lib.compact (srt l) = uniq l := rfl
  rw [e, e2, e3]
  unfold cmpN
  rw [e2, e3, List.append_assoc]
  exact ⟨by simp only [List.length_append]; omega, List.take_left⟩
theorem p42 (i : Ins) : Pure1 Try.prog 42 [insV i] (.per (.sl (.int .i64)) (rdL i)) := by
  refine pure1_of_exec (ct := (cx0 [c15, c46, c48, c61] [c78, c79] []).deep bodies 100 20) [] Try.func42 rfl rfl ?_
  refine cast_goal (p := ((Go.Proofs.Ytnoccknoaihjlaa.N.chkJ i != (0 : Int)) = Bool.true → [] = Go.Proofs.Ytnoccknoaihjlaa.N.rdL i ∧ True) ∧ ((Go.Proofs.Ytnoccknoaihjlaa.N.chkJ i != (0 : Int)) = Bool.false → List.length [(3 : Int), (18 : Int), (20 : Int), (22 : Int), (23 : Int), (25 : Int)] ≤ (1000000 : Nat) ∧ (List.contains [(3 : Int), (18 : Int), (20 : Int), (22 : Int), (23 : Int), (25 : Int)] (Prod.fst i) = Bool.true → (((0 : Nat) + List.length [Prod.fst (Prod.snd i)]) * (8 : Nat) ≤ (140737488355328 : Nat) ∧ (0 : Nat) + List.length [Prod.fst (Prod.snd i)] ≤ Go.maxLen) ∧ (Go.Proofs.Ytnoccknoaihjlaa.hB (Go.Proofs.Ytnoccknoaihjlaa.formI (Prod.fst i)) = Bool.true → (0 : Nat) + (1 : Nat) ≤ List.length ([] ++ [Prod.fst (Prod.snd i)]) ∧ (((1 : Nat) + List.length [Prod.fst (Prod.snd (Prod.snd i))]) * (8 : Nat) ≤ (140737488355328 : Nat) ∧ (1 : Nat) + List.length [Prod.fst (Prod.snd (Prod.snd i))] ≤ Go.maxLen) ∧ ((Go.Proofs.Ytnoccknoaihjlaa.formI (Prod.fst i) == (3 : Int)) = Bool.true → (0 : Nat) + (2 : Nat) ≤ List.length (List.take (1 : Nat) ([] ++ [Prod.fst (Prod.snd i)]) ++ [Prod.fst (Prod.snd (Prod.snd i))]) ∧ (((2 : Nat) + List.length [Prod.snd (Prod.snd (Prod.snd i))]) * (8 : Nat) ≤ (140737488355328 : Nat) ∧ (2 : Nat) + List.length [Prod.snd (Prod.snd (Prod.snd i))] ≤ Go.maxLen) ∧ ((3 : Nat) = (3 : Nat) ∧ List.take (2 : Nat) (List.take (1 : Nat) ([] ++ [Prod.fst (Prod.snd i)]) ++ [Prod.fst (Prod.snd (Prod.snd i))]) ++ [Prod.snd (Prod.snd (Prod.snd i))] = List.take (2 : Nat) (List.take (1 : Nat) ([] ++ [Prod.fst (Prod.snd i)]) ++ [Prod.fst (Prod.snd (Prod.snd i))]) ++ [Prod.snd (Prod.snd (Prod.snd i))] ∧ (3 : Nat) ≤ List.length (List.take (2 : Nat) (List.take (1 : Nat) ([] ++ [Prod.fst (Prod.snd i)]) ++ [Prod.fst (Prod.snd (Prod.snd i))]) ++ [Prod.snd (Prod.snd (Prod.snd i))]) ∧ (3 : Nat) < (4611686018427387904 : Nat)) ∧ ((3 : Nat) = (3 : Nat) ∧ Go.DF.srtN (3 : Nat) (List.take (2 : Nat) (List.take (1 : Nat) ([] ++ [Prod.fst (Prod.snd i)]) ++ [Prod.fst (Prod.snd (Prod.snd i))]) ++ [Prod.snd (Prod.snd (Prod.snd i))]) = Go.DF.srtN (3 : Nat) (List.take (2 : Nat) (List.take (1 : Nat) ([] ++ [Prod.fst (Prod.snd i)]) ++ [Prod.fst (Prod.snd (Prod.snd i))]) ++ [Prod.snd (Prod.snd (Prod.snd i))]) ∧ (3 : Nat) ≤ List.length (Go.DF.srtN (3 : Nat) (List.take (2 : Nat) (List.take (1 : Nat) ([] ++ [Prod.fst (Prod.snd i)]) ++ [Prod.fst (Prod.snd (Prod.snd i))]) ++ [Prod.snd (Prod.snd (Prod.snd i))])) ∧ (3 : Nat) ≤ (9223372036854775807 : Nat)) ∧ ((0 : Nat) + List.length (Go.Lib.compact (List.take (3 : Nat) (Go.DF.srtN (3 : Nat) (List.take (2 : Nat) (List.take (1 : Nat) ([] ++ [Prod.fst (Prod.snd i)]) ++ [Prod.fst (Prod.snd (Prod.snd i))]) ++ [Prod.snd (Prod.snd (Prod.snd i))])))) ≤ List.length (Go.DF.cmpN (3 : Nat) (Go.DF.srtN (3 : Nat) (List.take (2 : Nat) (List.take (1 : Nat) ([] ++ [Prod.fst (Prod.snd i)]) ++ [Prod.fst (Prod.snd (Prod.snd i))]) ++ [Prod.snd (Prod.snd (Prod.snd i))]))) ∧ List.take (List.length (Go.Lib.compact (List.take (3 : Nat) (Go.DF.srtN (3 : Nat) (List.take (2 : Nat) (List.take (1 : Nat) ([] ++ [Prod.fst (Prod.snd i)]) ++ [Prod.fst (Prod.snd (Prod.snd i))]) ++ [Prod.snd (Prod.snd (Prod.snd i))]))))) (Go.DF.cmpN (3 : Nat) (Go.DF.srtN (3 : Nat) (List.take (2 : Nat) (List.take (1 : Nat) ([] ++ [Prod.fst (Prod.snd i)]) ++ [Prod.fst (Prod.snd (Prod.snd i))]) ++ [Prod.snd (Prod.snd (Prod.snd i))]))) = Go.Proofs.Ytnoccknoaihjlaa.N.rdL i) ∧ True) ∧ ((Go.Proofs.Ytnoccknoaihjlaa.formI (Prod.fst i) == (3 : Int)) = Bool.false → ((2 : Nat) = (2 : Nat) ∧ List.take (1 : Nat) ([] ++ [Prod.fst (Prod.snd i)]) ++ [Prod.fst (Prod.snd (Prod.snd i))] = List.take (1 : Nat) ([] ++ [Prod.fst (Prod.snd i)]) ++ [Prod.fst (Prod.snd (Prod.snd i))] ∧ (2 : Nat) ≤ List.length (List.take (1 : Nat) ([] ++ [Prod.fst (Prod.snd i)]) ++ [Prod.fst (Prod.snd (Prod.snd i))]) ∧ (2 : Nat) < (4611686018427387904 : Nat)) ∧ ((2 : Nat) = (2 : Nat) ∧ Go.DF.srtN (2 : Nat) (List.take (1 : Nat) ([] ++ [Prod.fst (Prod.snd i)]) ++ [Prod.fst (Prod.snd (Prod.snd i))]) = Go.DF.srtN (2 : Nat) (List.take (1 : Nat) ([] ++ [Prod.fst (Prod.snd i)]) ++ [Prod.fst (Prod.snd (Prod.snd i))]) ∧ (2 : Nat) ≤ List.length (Go.DF.srtN (2 : Nat) (List.take (1 : Nat) ([] ++ [Prod.fst (Prod.snd i)]) ++ [Prod.fst (Prod.snd (Prod.snd i))])) ∧ (2 : Nat) ≤ (9223372036854775807 : Nat)) ∧ ((0 : Nat) + List.length (Go.Lib.compact (List.take (2 : Nat) (Go.DF.srtN (2 : Nat) (List.take (1 : Nat) ([] ++ [Prod.fst (Prod.snd i)]) ++ [Prod.fst (Prod.snd (Prod.snd i))])))) ≤ List.length (Go.DF.cmpN (2 : Nat) (Go.DF.srtN (2 : Nat) (List.take (1 : Nat) ([] ++ [Prod.fst (Prod.snd i)]) ++ [Prod.fst (Prod.snd (Prod.snd i))]))) ∧ List.take (List.length (Go.Lib.compact (List.take (2 : Nat) (Go.DF.srtN (2 : Nat) (List.take (1 : Nat) ([] ++ [Prod.fst (Prod.snd i)]) ++ [Prod.fst (Prod.snd (Prod.snd i))]))))) (Go.DF.cmpN (2 : Nat) (Go.DF.srtN (2 : Nat) (List.take (1 : Nat) ([] ++ [Prod.fst (Prod.snd i)]) ++ [Prod.fst (Prod.snd (Prod.snd i))]))) = Go.Proofs.Ytnoccknoaihjlaa.N.rdL i) ∧ True)) ∧ (Go.Proofs.Ytnoccknoaihjlaa.hB (Go.Proofs.Ytnoccknoaihjlaa.formI (Prod.fst i)) = Bool.false → ((Go.Proofs.Ytnoccknoaihjlaa.formI (Prod.fst i) == (3 : Int)) = Bool.true → (0 : Nat) + (1 : Nat) ≤ List.length ([] ++ [Prod.fst (Prod.snd i)]) ∧ (((1 : Nat) + List.length [Prod.snd (Prod.snd (Prod.snd i))]) * (8 : Nat) ≤ (140737488355328 : Nat) ∧ (1 : Nat) + List.length [Prod.snd (Prod.snd (Prod.snd i))] ≤ Go.maxLen) ∧ ((2 : Nat) = (2 : Nat) ∧ List.take (1 : Nat) ([] ++ [Prod.fst (Prod.snd i)]) ++ [Prod.snd (Prod.snd (Prod.snd i))] = List.take (1 : Nat) ([] ++ [Prod.fst (Prod.snd i)]) ++ [Prod.snd (Prod.snd (Prod.snd i))] ∧ (2 : Nat) ≤ List.length (List.take (1 : Nat) ([] ++ [Prod.fst (Prod.snd i)]) ++ [Prod.snd (Prod.snd (Prod.snd i))]) ∧ (2 : Nat) < (4611686018427387904 : Nat)) ∧ ((2 : Nat) = (2 : Nat) ∧ Go.DF.srtN (2 : Nat) (List.take (1 : Nat) ([] ++ [Prod.fst (Prod.snd i)]) ++ [Prod.snd (Prod.snd (Prod.snd i))]) = Go.DF.srtN (2 : Nat) (List.take (1 : Nat) ([] ++ [Prod.fst (Prod.snd i)]) ++ [Prod.snd (Prod.snd (Prod.snd i))]) ∧ (2 : Nat) ≤ List.length (Go.DF.srtN (2 : Nat) (List.take (1 : Nat) ([] ++ [Prod.fst (Prod.snd i)]) ++ [Prod.snd (Prod.snd (Prod.snd i))])) ∧ (2 : Nat) ≤ (9223372036854775807 : Nat)) ∧ ((0 : Nat) + List.length (Go.Lib.compact (List.take (2 : Nat) (Go.DF.srtN (2 : Nat) (List.take (1 : Nat) ([] ++ [Prod.fst (Prod.snd i)]) ++ [Prod.snd (Prod.snd (Prod.snd i))])))) ≤ List.length (Go.DF.cmpN (2 : Nat) (Go.DF.srtN (2 : Nat) (List.take (1 : Nat) ([] ++ [Prod.fst (Prod.snd i)]) ++ [Prod.snd (Prod.snd (Prod.snd i))]))) ∧ List.take (List.length (Go.Lib.compact (List.take (2 : Nat) (Go.DF.srtN (2 : Nat) (List.take (1 : Nat) ([] ++ [Prod.fst (Prod.snd i)]) ++ [Prod.snd (Prod.snd (Prod.snd i))]))))) (Go.DF.cmpN (2 : Nat) (Go.DF.srtN (2 : Nat) (List.take (1 : Nat) ([] ++ [Prod.fst (Prod.snd i)]) ++ [Prod.snd (Prod.snd (Prod.snd i))]))) = Go.Proofs.Ytnoccknoaihjlaa.N.rdL i) ∧ True) ∧ ((Go.Proofs.Ytnoccknoaihjlaa.formI (Prod.fst i) == (3 : Int)) = Bool.false → ((1 : Nat) = (1 : Nat) ∧ [] ++ [Prod.fst (Prod.snd i)] = [] ++ [Prod.fst (Prod.snd i)] ∧ (1 : Nat) ≤ List.length ([] ++ [Prod.fst (Prod.snd i)]) ∧ (1 : Nat) < (4611686018427387904 : Nat)) ∧ ((1 : Nat) = (1 : Nat) ∧ Go.DF.srtN (1 : Nat) ([] ++ [Prod.fst (Prod.snd i)]) = Go.DF.srtN (1 : Nat) ([] ++ [Prod.fst (Prod.snd i)]) ∧ (1 : Nat) ≤ List.length (Go.DF.srtN (1 : Nat) ([] ++ [Prod.fst (Prod.snd i)])) ∧ (1 : Nat) ≤ (9223372036854775807 : Nat)) ∧ ((0 : Nat) + List.length (Go.Lib.compact (List.take (1 : Nat) (Go.DF.srtN (1 : Nat) ([] ++ [Prod.fst (Prod.snd i)])))) ≤ List.length (Go.DF.cmpN (1 : Nat) (Go.DF.srtN (1 : Nat) ([] ++ [Prod.fst (Prod.snd i)]))) ∧ List.take (List.length (Go.Lib.compact (List.take (1 : Nat) (Go.DF.srtN (1 : Nat) ([] ++ [Prod.fst (Prod.snd i)]))))) (Go.DF.cmpN (1 : Nat) (Go.DF.srtN (1 : Nat) ([] ++ [Prod.fst (Prod.snd i)]))) = Go.Proofs.Ytnoccknoaihjlaa.N.rdL i) ∧ True))) ∧ (List.contains [(3 : Int), (18 : Int), (20 : Int), (22 : Int), (23 : Int), (25 : Int)] (Prod.fst i) = Bool.false → (Go.Proofs.Ytnoccknoaihjlaa.hB (Go.Proofs.Ytnoccknoaihjlaa.formI (Prod.fst i)) = Bool.true → (((0 : Nat) + List.length [Prod.fst (Prod.snd (Prod.snd i))]) * (8 : Nat) ≤ (140737488355328 : Nat) ∧ (0 : Nat) + List.length [Prod.fst (Prod.snd (Prod.snd i))] ≤ Go.maxLen) ∧ ((Go.Proofs.Ytnoccknoaihjlaa.formI (Prod.fst i) == (3 : Int)) = Bool.true → (0 : Nat) + (1 : Nat) ≤ List.length ([] ++ [Prod.fst (Prod.snd (Prod.snd i))]) ∧ (((1 : Nat) + List.length [Prod.snd (Prod.snd (Prod.snd i))]) * (8 : Nat) ≤ (140737488355328 : Nat) ∧ (1 : Nat) + List.length [Prod.snd (Prod.snd (Prod.snd i))] ≤ Go.maxLen) ∧ ((2 : Nat) = (2 : Nat) ∧ List.take (1 : Nat) ([] ++ [Prod.fst (Prod.snd (Prod.snd i))]) ++ [Prod.snd (Prod.snd (Prod.snd i))] = List.take (1 : Nat) ([] ++ [Prod.fst (Prod.snd (Prod.snd i))]) ++ [Prod.snd (Prod.snd (Prod.snd i))] ∧ (2 : Nat) ≤ List.length (List.take (1 : Nat) ([] ++ [Prod.fst (Prod.snd (Prod.snd i))]) ++ [Prod.snd (Prod.snd (Prod.snd i))]) ∧ (2 : Nat) < (4611686018427387904 : Nat)) ∧ ((2 : Nat) = (2 : Nat) ∧ Go.DF.srtN (2 : Nat) (List.take (1 : Nat) ([] ++ [Prod.fst (Prod.snd (Prod.snd i))]) ++ [Prod.snd (Prod.snd (Prod.snd i))]) = Go.DF.srtN (2 : Nat) (List.take (1 : Nat) ([] ++ [Prod.fst (Prod.snd (Prod.snd i))]) ++ [Prod.snd (Prod.snd (Prod.snd i))]) ∧ (2 : Nat) ≤ List.length (Go.DF.srtN (2 : Nat) (List.take (1 : Nat) ([] ++ [Prod.fst (Prod.snd (Prod.snd i))]) ++ [Prod.snd (Prod.snd (Prod.snd i))])) ∧ (2 : Nat) ≤ (9223372036854775807 : Nat)) ∧ ((0 : Nat) + List.length (Go.Lib.compact (List.take (2 : Nat) (Go.DF.srtN (2 : Nat) (List.take (1 : Nat) ([] ++ [Prod.fst (Prod.snd (Prod.snd i))]) ++ [Prod.snd (Prod.snd (Prod.snd i))])))) ≤ List.length (Go.DF.cmpN (2 : Nat) (Go.DF.srtN (2 : Nat) (List.take (1 : Nat) ([] ++ [Prod.fst (Prod.snd (Prod.snd i))]) ++ [Prod.snd (Prod.snd (Prod.snd i))]))) ∧ List.take (List.length (Go.Lib.compact (List.take (2 : Nat) (Go.DF.srtN (2 : Nat) (List.take (1 : Nat) ([] ++ [Prod.fst (Prod.snd (Prod.snd i))]) ++ [Prod.snd (Prod.snd (Prod.snd i))]))))) (Go.DF.cmpN (2 : Nat) (Go.DF.srtN (2 : Nat) (List.take (1 : Nat) ([] ++ [Prod.fst (Prod.snd (Prod.snd i))]) ++ [Prod.snd (Prod.snd (Prod.snd i))]))) = Go.Proofs.Ytnoccknoaihjlaa.N.rdL i) ∧ True) ∧ ((Go.Proofs.Ytnoccknoaihjlaa.formI (Prod.fst i) == (3 : Int)) = Bool.false → ((1 : Nat) = (1 : Nat) ∧ [] ++ [Prod.fst (Prod.snd (Prod.snd i))] = [] ++ [Prod.fst (Prod.snd (Prod.snd i))] ∧ (1 : Nat) ≤ List.length ([] ++ [Prod.fst (Prod.snd (Prod.snd i))]) ∧ (1 : Nat) < (4611686018427387904 : Nat)) ∧ ((1 : Nat) = (1 : Nat) ∧ Go.DF.srtN (1 : Nat) ([] ++ [Prod.fst (Prod.snd (Prod.snd i))]) = Go.DF.srtN (1 : Nat) ([] ++ [Prod.fst (Prod.snd (Prod.snd i))]) ∧ (1 : Nat) ≤ List.length (Go.DF.srtN (1 : Nat) ([] ++ [Prod.fst (Prod.snd (Prod.snd i))])) ∧ (1 : Nat) ≤ (9223372036854775807 : Nat)) ∧ ((0 : Nat) + List.length (Go.Lib.compact (List.take (1 : Nat) (Go.DF.srtN (1 : Nat) ([] ++ [Prod.fst (Prod.snd (Prod.snd i))])))) ≤ List.length (Go.DF.cmpN (1 : Nat) (Go.DF.srtN (1 : Nat) ([] ++ [Prod.fst (Prod.snd (Prod.snd i))]))) ∧ List.take (List.length (Go.Lib.compact (List.take (1 : Nat) (Go.DF.srtN (1 : Nat) ([] ++ [Prod.fst (Prod.snd (Prod.snd i))]))))) (Go.DF.cmpN (1 : Nat) (Go.DF.srtN (1 : Nat) ([] ++ [Prod.fst (Prod.snd (Prod.snd i))]))) = Go.Proofs.Ytnoccknoaihjlaa.N.rdL i) ∧ True)) ∧ (Go.Proofs.Ytnoccknoaihjlaa.hB (Go.Proofs.Ytnoccknoaihjlaa.formI (Prod.fst i)) = Bool.false → ((Go.Proofs.Ytnoccknoaihjlaa.formI (Prod.fst i) == (3 : Int)) = Bool.true → (((0 : Nat) + List.length [Prod.snd (Prod.snd (Prod.snd i))]) * (8 : Nat) ≤ (140737488355328 : Nat) ∧ (0 : Nat) + List.length [Prod.snd (Prod.snd (Prod.snd i))] ≤ Go.maxLen) ∧ ((1 : Nat) = (1 : Nat) ∧ [] ++ [Prod.snd (Prod.snd (Prod.snd i))] = [] ++ [Prod.snd (Prod.snd (Prod.snd i))] ∧ (1 : Nat) ≤ List.length ([] ++ [Prod.snd (Prod.snd (Prod.snd i))]) ∧ (1 : Nat) < (4611686018427387904 : Nat)) ∧ ((1 : Nat) = (1 : Nat) ∧ Go.DF.srtN (1 : Nat) ([] ++ [Prod.snd (Prod.snd (Prod.snd i))]) = Go.DF.srtN (1 : Nat) ([] ++ [Prod.snd (Prod.snd (Prod.snd i))]) ∧ (1 : Nat) ≤ List.length (Go.DF.srtN (1 : Nat) ([] ++ [Prod.snd (Prod.snd (Prod.snd i))])) ∧ (1 : Nat) ≤ (9223372036854775807 : Nat)) ∧ ((0 : Nat) + List.length (Go.Lib.compact (List.take (1 : Nat) (Go.DF.srtN (1 : Nat) ([] ++ [Prod.snd (Prod.snd (Prod.snd i))])))) ≤ List.length (Go.DF.cmpN (1 : Nat) (Go.DF.srtN (1 : Nat) ([] ++ [Prod.snd (Prod.snd (Prod.snd i))]))) ∧ List.take (List.length (Go.Lib.compact (List.take (1 : Nat) (Go.DF.srtN (1 : Nat) ([] ++ [Prod.snd (Prod.snd (Prod.snd i))]))))) (Go.DF.cmpN (1 : Nat) (Go.DF.srtN (1 : Nat) ([] ++ [Prod.snd (Prod.snd (Prod.snd i))]))) = Go.Proofs.Ytnoccknoaihjlaa.N.rdL i) ∧ True) ∧ ((Go.Proofs.Ytnoccknoaihjlaa.formI (Prod.fst i) == (3 : Int)) = Bool.false → True ∧ True ∧ [] = Go.Proofs.Ytnoccknoaihjlaa.N.rdL i ∧ True))))) (by kernel_rfl) ?_
  have hA : ([3, 18, 20, 22, 23, 25] : List Int).contains i.1 = inA i.1 := rfl
  rw [hA]
  refine ⟨fun h => ⟨by simp only [rdL, h, cond_true], trivial⟩, fun h => ⟨by decide, fun h1 => ⟨⟨by simp, by unfold maxLen; simp⟩, fun h2 => ⟨by simp, ⟨by simp, by unfold maxLen; simp⟩, fun h3 => ?_, fun h3 => ?_⟩, fun h2 => ⟨fun h3 => ?_, fun h3 => ?_⟩⟩, fun h1 => ⟨fun h2 => ⟨⟨by simp, by unfold maxLen; simp⟩, fun h3 => ?_, fun h3 => ?_⟩, fun h2 => ⟨fun h3 => ?_, fun h3 => ?_⟩⟩⟩⟩
  all_goals
    have hr : rdL i = uniq (rdE i) := by simp only [rdL, h, cond_false]
    rw [hr]
    simp only [rdE, h1, h2, h3, cond_true, cond_false, List.nil_append, List.append_nil, List.cons_append, List.take_succ_cons, List.take_zero, List.length_cons, List.length_nil, srtN_len, Nat.zero_add, Nat.reduceAdd, Nat.reduceMul, maxLen]
    try simp only [(leafL (n := 1) (l := [_]) rfl).2, (leafL (n := 2) (l := [_, _]) rfl).2, (leafL (n := 3) (l := [_, _, _]) rfl).2]
    repeat' (refine And.intro ?_ ?_)
  all_goals first
    | trivial
    | exact (leafL (n := 1) (l := [_]) rfl).1
    | exact (leafL (n := 2) (l := [_, _]) rfl).1
    | exact (leafL (n := 3) (l := [_, _, _]) rfl).1
    | rfl
    | (simp; done)
    | exact rise_ext List.Pairwise.nil (uniq_rise []) (fun x => (uniq_mem [] x).symm)
    | exact rise_ext (uniq_rise []) List.Pairwise.nil (fun x => uniq_mem [] x)
theorem l8_get (B : List Bool) (h : B.length = 8) : l8 (B.getD 0 false, B.getD 1 false, B.getD 2 false, B.getD 3 false, B.getD 4 false, B.getD 5 false, B.getD 6 false, B.getD 7 false) = B := by
  match B, h with
  | [_, _, _, _, _, _, _, _], _ => rfl
def marks (l : List Int) : List Bool := l.foldl (fun B x => B.set x.toNat true) [false, false, false, false, false, false, false, false]
theorem fold_get : ∀ (l : List Int) (B : List Bool), B.length = 8 → (∀ x ∈ l, 0 ≤ x ∧ x < 8) → ∀ j : Nat, j < 8 → ((l.foldl (fun B x => B.set x.toNat true) B).getD j false = true ↔ (B.getD j false = true ∨ (j : Int) ∈ l))
  | [], B, _, _, j, _ => by simp
  | a :: l, B, hB, h, j, hj => by
    rw [List.foldl_cons, fold_get l _ (by simpa using hB) (fun x hx => h x (List.mem_cons_of_mem _ hx)) j hj, List.mem_cons]
    have ha := h a (List.mem_cons_self ..)
    rw [List.getD_eq_getElem?_getD, List.getElem?_set, List.getD_eq_getElem?_getD]
    by_cases e : a.toNat = j
    · have : (j : Int) = a := by omega
      simp [e, this, show j < B.length by omega]
    · have : ¬ (j : Int) = a := by omega
      simp [e, this]
theorem set8_marks (l : List Int) (h : ∀ x ∈ l, 0 ≤ x ∧ x < 8) : set8 (marks l) 8 = uniq l := by
  refine rise_ext ?_ (uniq_rise l) fun x => ?_
  · unfold set8
    rw [List.pairwise_map]
    exact (List.pairwise_lt_range.filter _).imp fun h => by omega
  · rw [uniq_mem]
    unfold set8
    rw [List.mem_map]
    constructor
    · rintro ⟨j, hj, rfl⟩
      obtain ⟨h1, h2⟩ := List.mem_filter.1 hj
      have hj8 := List.mem_range.1 h1
      rcases (fold_get l _ rfl h j hj8).1 h2 with h' | h'
      · have : j = 0 ∨ j = 1 ∨ j = 2 ∨ j = 3 ∨ j = 4 ∨ j = 5 ∨ j = 6 ∨ j = 7 := by omega
        rcases this with rfl | rfl | rfl | rfl | rfl | rfl | rfl | rfl <;> simp at h'
      · exact h'
    · intro hx
      have h1 := h x hx
      refine ⟨x.toNat, List.mem_filter.2 ⟨List.mem_range.2 (by omega), ?_⟩, by omega⟩
      exact (fold_get l _ rfl h x.toNat (by omega)).2 (.inr (by rw [show ((x.toNat : Nat) : Int) = x by omega]; exact hx))
theorem marks_len (l : List Int) : (marks l).length = 8 := by
  have : ∀ (l : List Int) (B : List Bool), (l.foldl (fun B x => B.set x.toNat true) B).length = B.length := by
    intro l
    induction l with
    | nil => intro B; rfl
    | cons a l ih => intro B; rw [List.foldl_cons, ih, List.length_set]
  exact this l _
theorem fin8 (L : List Int) (h : ∀ x ∈ L, 0 ≤ x ∧ x < 8) : set8 (l8 ((marks L).getD 0 false, (marks L).getD 1 false, (marks L).getD 2 false, (marks L).getD 3 false, (marks L).getD 4 false, (marks L).getD 5 false, (marks L).getD 6 false, (marks L).getD 7 false)) 8 = uniq L := by
  rw [l8_get _ (marks_len L)]; exact set8_marks L h
theorem rg_iff (x : Int) : rg x = true ↔ 0 ≤ x ∧ x < 8 := by simp [rg]
theorem chk0 {i : Ins} (h : chkJ i = 0) : (0 ≤ i.2.1 ∧ i.2.1 < 8) ∧ (0 ≤ i.2.2.1 ∧ i.2.2.1 < 8) ∧ ((formI i.1 == 3) = true → 0 ≤ i.2.2.2 ∧ i.2.2.2 < 8) := by
  unfold chkJ chk at h
  split at h
  · split at h
    · omega
    · split at h
      · omega
      · rename_i h2
        rw [Bool.not_eq_true] at h2
        unfold rngE at h2
        simp only [Bool.or_eq_false_iff, Bool.not_eq_false'] at h2
        refine ⟨(rg_iff _).1 h2.1, (rg_iff _).1 h2.2.1, fun h3 => ?_⟩
        have h4 := h2.2.2
        rw [h3] at h4
        simp only [cond_true, Bool.or_eq_false_iff, Bool.not_eq_false'] at h4
        exact (rg_iff _).1 h4.1
  · omega
theorem p43 (i : Ins) : Pure1 Try.prog 43 [insV i] (.per (.sl (.int .i64)) (rdL i)) := by
  refine pure1_of_exec (ct := cx0 [c31, c16, c53, c63] [] []) [] Try.func43 rfl rfl ?_
  refine cast_goal (p := ((Go.Proofs.Ytnoccknoaihjlaa.N.chkJ i != (0 : Int)) = Bool.true → [] = Go.Proofs.Ytnoccknoaihjlaa.N.rdL i ∧ True) ∧ ((Go.Proofs.Ytnoccknoaihjlaa.N.chkJ i != (0 : Int)) = Bool.false → ((Prod.fst i == (3 : Int) || (Prod.fst i == (18 : Int) || (Prod.fst i == (20 : Int) || (Prod.fst i == (22 : Int) || (Prod.fst i == (23 : Int) || Prod.fst i == (25 : Int)))))) = Bool.true → ((0 : Int) ≤ Prod.fst (Prod.snd i) ∧ Prod.fst (Prod.snd i) < (↑(8 : Nat) : Int)) ∧ Int.toNat (Prod.fst (Prod.snd i)) < List.length [Bool.false, Bool.false, Bool.false, Bool.false, Bool.false, Bool.false, Bool.false, Bool.false] ∧ (Go.Proofs.Ytnoccknoaihjlaa.hB (Go.Proofs.Ytnoccknoaihjlaa.formI (Prod.fst i)) = Bool.true → ((0 : Int) ≤ Prod.fst (Prod.snd (Prod.snd i)) ∧ Prod.fst (Prod.snd (Prod.snd i)) < (↑(8 : Nat) : Int)) ∧ Int.toNat (Prod.fst (Prod.snd (Prod.snd i))) < List.length (List.set [Bool.false, Bool.false, Bool.false, Bool.false, Bool.false, Bool.false, Bool.false, Bool.false] (Int.toNat (Prod.fst (Prod.snd i))) Bool.true) ∧ ((Go.Proofs.Ytnoccknoaihjlaa.formI (Prod.fst i) == (3 : Int)) = Bool.true → ((0 : Int) ≤ Prod.snd (Prod.snd (Prod.snd i)) ∧ Prod.snd (Prod.snd (Prod.snd i)) < (↑(8 : Nat) : Int)) ∧ Int.toNat (Prod.snd (Prod.snd (Prod.snd i))) < List.length (List.set (List.set [Bool.false, Bool.false, Bool.false, Bool.false, Bool.false, Bool.false, Bool.false, Bool.false] (Int.toNat (Prod.fst (Prod.snd i))) Bool.true) (Int.toNat (Prod.fst (Prod.snd (Prod.snd i)))) Bool.true) ∧ (8 : Nat) ≤ List.length (List.set (List.set (List.set [Bool.false, Bool.false, Bool.false, Bool.false, Bool.false, Bool.false, Bool.false, Bool.false] (Int.toNat (Prod.fst (Prod.snd i))) Bool.true) (Int.toNat (Prod.fst (Prod.snd (Prod.snd i)))) Bool.true) (Int.toNat (Prod.snd (Prod.snd (Prod.snd i)))) Bool.true) ∧ Go.Proofs.Ytnoccknoaihjlaa.N.set8 (Go.Proofs.Ytnoccknoaihjlaa.N.l8 (List.getD (List.set (List.set (List.set [Bool.false, Bool.false, Bool.false, Bool.false, Bool.false, Bool.false, Bool.false, Bool.false] (Int.toNat (Prod.fst (Prod.snd i))) Bool.true) (Int.toNat (Prod.fst (Prod.snd (Prod.snd i)))) Bool.true) (Int.toNat (Prod.snd (Prod.snd (Prod.snd i)))) Bool.true) (0 : Nat) Bool.false, List.getD (List.set (List.set (List.set [Bool.false, Bool.false, Bool.false, Bool.false, Bool.false, Bool.false, Bool.false, Bool.false] (Int.toNat (Prod.fst (Prod.snd i))) Bool.true) (Int.toNat (Prod.fst (Prod.snd (Prod.snd i)))) Bool.true) (Int.toNat (Prod.snd (Prod.snd (Prod.snd i)))) Bool.true) (1 : Nat) Bool.false, List.getD (List.set (List.set (List.set [Bool.false, Bool.false, Bool.false, Bool.false, Bool.false, Bool.false, Bool.false, Bool.false] (Int.toNat (Prod.fst (Prod.snd i))) Bool.true) (Int.toNat (Prod.fst (Prod.snd (Prod.snd i)))) Bool.true) (Int.toNat (Prod.snd (Prod.snd (Prod.snd i)))) Bool.true) (2 : Nat) Bool.false, List.getD (List.set (List.set (List.set [Bool.false, Bool.false, Bool.false, Bool.false, Bool.false, Bool.false, Bool.false, Bool.false] (Int.toNat (Prod.fst (Prod.snd i))) Bool.true) (Int.toNat (Prod.fst (Prod.snd (Prod.snd i)))) Bool.true) (Int.toNat (Prod.snd (Prod.snd (Prod.snd i)))) Bool.true) (3 : Nat) Bool.false, List.getD (List.set (List.set (List.set [Bool.false, Bool.false, Bool.false, Bool.false, Bool.false, Bool.false, Bool.false, Bool.false] (Int.toNat (Prod.fst (Prod.snd i))) Bool.true) (Int.toNat (Prod.fst (Prod.snd (Prod.snd i)))) Bool.true) (Int.toNat (Prod.snd (Prod.snd (Prod.snd i)))) Bool.true) (4 : Nat) Bool.false, List.getD (List.set (List.set (List.set [Bool.false, Bool.false, Bool.false, Bool.false, Bool.false, Bool.false, Bool.false, Bool.false] (Int.toNat (Prod.fst (Prod.snd i))) Bool.true) (Int.toNat (Prod.fst (Prod.snd (Prod.snd i)))) Bool.true) (Int.toNat (Prod.snd (Prod.snd (Prod.snd i)))) Bool.true) (5 : Nat) Bool.false, List.getD (List.set (List.set (List.set [Bool.false, Bool.false, Bool.false, Bool.false, Bool.false, Bool.false, Bool.false, Bool.false] (Int.toNat (Prod.fst (Prod.snd i))) Bool.true) (Int.toNat (Prod.fst (Prod.snd (Prod.snd i)))) Bool.true) (Int.toNat (Prod.snd (Prod.snd (Prod.snd i)))) Bool.true) (6 : Nat) Bool.false, List.getD (List.set (List.set (List.set [Bool.false, Bool.false, Bool.false, Bool.false, Bool.false, Bool.false, Bool.false, Bool.false] (Int.toNat (Prod.fst (Prod.snd i))) Bool.true) (Int.toNat (Prod.fst (Prod.snd (Prod.snd i)))) Bool.true) (Int.toNat (Prod.snd (Prod.snd (Prod.snd i)))) Bool.true) (7 : Nat) Bool.false)) (8 : Nat) = Go.Proofs.Ytnoccknoaihjlaa.N.rdL i ∧ True) ∧ ((Go.Proofs.Ytnoccknoaihjlaa.formI (Prod.fst i) == (3 : Int)) = Bool.false → (8 : Nat) ≤ List.length (List.set (List.set [Bool.false, Bool.false, Bool.false, Bool.false, Bool.false, Bool.false, Bool.false, Bool.false] (Int.toNat (Prod.fst (Prod.snd i))) Bool.true) (Int.toNat (Prod.fst (Prod.snd (Prod.snd i)))) Bool.true) ∧ Go.Proofs.Ytnoccknoaihjlaa.N.set8 (Go.Proofs.Ytnoccknoaihjlaa.N.l8 (List.getD (List.set (List.set [Bool.false, Bool.false, Bool.false, Bool.false, Bool.false, Bool.false, Bool.false, Bool.false] (Int.toNat (Prod.fst (Prod.snd i))) Bool.true) (Int.toNat (Prod.fst (Prod.snd (Prod.snd i)))) Bool.true) (0 : Nat) Bool.false, List.getD (List.set (List.set [Bool.false, Bool.false, Bool.false, Bool.false, Bool.false, Bool.false, Bool.false, Bool.false] (Int.toNat (Prod.fst (Prod.snd i))) Bool.true) (Int.toNat (Prod.fst (Prod.snd (Prod.snd i)))) Bool.true) (1 : Nat) Bool.false, List.getD (List.set (List.set [Bool.false, Bool.false, Bool.false, Bool.false, Bool.false, Bool.false, Bool.false, Bool.false] (Int.toNat (Prod.fst (Prod.snd i))) Bool.true) (Int.toNat (Prod.fst (Prod.snd (Prod.snd i)))) Bool.true) (2 : Nat) Bool.false, List.getD (List.set (List.set [Bool.false, Bool.false, Bool.false, Bool.false, Bool.false, Bool.false, Bool.false, Bool.false] (Int.toNat (Prod.fst (Prod.snd i))) Bool.true) (Int.toNat (Prod.fst (Prod.snd (Prod.snd i)))) Bool.true) (3 : Nat) Bool.false, List.getD (List.set (List.set [Bool.false, Bool.false, Bool.false, Bool.false, Bool.false, Bool.false, Bool.false, Bool.false] (Int.toNat (Prod.fst (Prod.snd i))) Bool.true) (Int.toNat (Prod.fst (Prod.snd (Prod.snd i)))) Bool.true) (4 : Nat) Bool.false, List.getD (List.set (List.set [Bool.false, Bool.false, Bool.false, Bool.false, Bool.false, Bool.false, Bool.false, Bool.false] (Int.toNat (Prod.fst (Prod.snd i))) Bool.true) (Int.toNat (Prod.fst (Prod.snd (Prod.snd i)))) Bool.true) (5 : Nat) Bool.false, List.getD (List.set (List.set [Bool.false, Bool.false, Bool.false, Bool.false, Bool.false, Bool.false, Bool.false, Bool.false] (Int.toNat (Prod.fst (Prod.snd i))) Bool.true) (Int.toNat (Prod.fst (Prod.snd (Prod.snd i)))) Bool.true) (6 : Nat) Bool.false, List.getD (List.set (List.set [Bool.false, Bool.false, Bool.false, Bool.false, Bool.false, Bool.false, Bool.false, Bool.false] (Int.toNat (Prod.fst (Prod.snd i))) Bool.true) (Int.toNat (Prod.fst (Prod.snd (Prod.snd i)))) Bool.true) (7 : Nat) Bool.false)) (8 : Nat) = Go.Proofs.Ytnoccknoaihjlaa.N.rdL i ∧ True)) ∧ (Go.Proofs.Ytnoccknoaihjlaa.hB (Go.Proofs.Ytnoccknoaihjlaa.formI (Prod.fst i)) = Bool.false → ((Go.Proofs.Ytnoccknoaihjlaa.formI (Prod.fst i) == (3 : Int)) = Bool.true → ((0 : Int) ≤ Prod.snd (Prod.snd (Prod.snd i)) ∧ Prod.snd (Prod.snd (Prod.snd i)) < (↑(8 : Nat) : Int)) ∧ Int.toNat (Prod.snd (Prod.snd (Prod.snd i))) < List.length (List.set [Bool.false, Bool.false, Bool.false, Bool.false, Bool.false, Bool.false, Bool.false, Bool.false] (Int.toNat (Prod.fst (Prod.snd i))) Bool.true) ∧ (8 : Nat) ≤ List.length (List.set (List.set [Bool.false, Bool.false, Bool.false, Bool.false, Bool.false, Bool.false, Bool.false, Bool.false] (Int.toNat (Prod.fst (Prod.snd i))) Bool.true) (Int.toNat (Prod.snd (Prod.snd (Prod.snd i)))) Bool.true) ∧ Go.Proofs.Ytnoccknoaihjlaa.N.set8 (Go.Proofs.Ytnoccknoaihjlaa.N.l8 (List.getD (List.set (List.set [Bool.false, Bool.false, Bool.false, Bool.false, Bool.false, Bool.false, Bool.false, Bool.false] (Int.toNat (Prod.fst (Prod.snd i))) Bool.true) (Int.toNat (Prod.snd (Prod.snd (Prod.snd i)))) Bool.true) (0 : Nat) Bool.false, List.getD (List.set (List.set [Bool.false, Bool.false, Bool.false, Bool.false, Bool.false, Bool.false, Bool.false, Bool.false] (Int.toNat (Prod.fst (Prod.snd i))) Bool.true) (Int.toNat (Prod.snd (Prod.snd (Prod.snd i)))) Bool.true) (1 : Nat) Bool.false, List.getD (List.set (List.set [Bool.false, Bool.false, Bool.false, Bool.false, Bool.false, Bool.false, Bool.false, Bool.false] (Int.toNat (Prod.fst (Prod.snd i))) Bool.true) (Int.toNat (Prod.snd (Prod.snd (Prod.snd i)))) Bool.true) (2 : Nat) Bool.false, List.getD (List.set (List.set [Bool.false, Bool.false, Bool.false, Bool.false, Bool.false, Bool.false, Bool.false, Bool.false] (Int.toNat (Prod.fst (Prod.snd i))) Bool.true) (Int.toNat (Prod.snd (Prod.snd (Prod.snd i)))) Bool.true) (3 : Nat) Bool.false, List.getD (List.set (List.set [Bool.false, Bool.false, Bool.false, Bool.false, Bool.false, Bool.false, Bool.false, Bool.false] (Int.toNat (Prod.fst (Prod.snd i))) Bool.true) (Int.toNat (Prod.snd (Prod.snd (Prod.snd i)))) Bool.true) (4 : Nat) Bool.false, List.getD (List.set (List.set [Bool.false, Bool.false, Bool.false, Bool.false, Bool.false, Bool.false, Bool.false, Bool.false] (Int.toNat (Prod.fst (Prod.snd i))) Bool.true) (Int.toNat (Prod.snd (Prod.snd (Prod.snd i)))) Bool.true) (5 : Nat) Bool.false, List.getD (List.set (List.set [Bool.false, Bool.false, Bool.false, Bool.false, Bool.false, Bool.false, Bool.false, Bool.false] (Int.toNat (Prod.fst (Prod.snd i))) Bool.true) (Int.toNat (Prod.snd (Prod.snd (Prod.snd i)))) Bool.true) (6 : Nat) Bool.false, List.getD (List.set (List.set [Bool.false, Bool.false, Bool.false, Bool.false, Bool.false, Bool.false, Bool.false, Bool.false] (Int.toNat (Prod.fst (Prod.snd i))) Bool.true) (Int.toNat (Prod.snd (Prod.snd (Prod.snd i)))) Bool.true) (7 : Nat) Bool.false)) (8 : Nat) = Go.Proofs.Ytnoccknoaihjlaa.N.rdL i ∧ True) ∧ ((Go.Proofs.Ytnoccknoaihjlaa.formI (Prod.fst i) == (3 : Int)) = Bool.false → (8 : Nat) ≤ List.length (List.set [Bool.false, Bool.false, Bool.false, Bool.false, Bool.false, Bool.false, Bool.false, Bool.false] (Int.toNat (Prod.fst (Prod.snd i))) Bool.true) ∧ Go.Proofs.Ytnoccknoaihjlaa.N.set8 (Go.Proofs.Ytnoccknoaihjlaa.N.l8 (List.getD (List.set [Bool.false, Bool.false, Bool.false, Bool.false, Bool.false, Bool.false, Bool.false, Bool.false] (Int.toNat (Prod.fst (Prod.snd i))) Bool.true) (0 : Nat) Bool.false, List.getD (List.set [Bool.false, Bool.false, Bool.false, Bool.false, Bool.false, Bool.false, Bool.false, Bool.false] (Int.toNat (Prod.fst (Prod.snd i))) Bool.true) (1 : Nat) Bool.false, List.getD (List.set [Bool.false, Bool.false, Bool.false, Bool.false, Bool.false, Bool.false, Bool.false, Bool.false] (Int.toNat (Prod.fst (Prod.snd i))) Bool.true) (2 : Nat) Bool.false, List.getD (List.set [Bool.false, Bool.false, Bool.false, Bool.false, Bool.false, Bool.false, Bool.false, Bool.false] (Int.toNat (Prod.fst (Prod.snd i))) Bool.true) (3 : Nat) Bool.false, List.getD (List.set [Bool.false, Bool.false, Bool.false, Bool.false, Bool.false, Bool.false, Bool.false, Bool.false] (Int.toNat (Prod.fst (Prod.snd i))) Bool.true) (4 : Nat) Bool.false, List.getD (List.set [Bool.false, Bool.false, Bool.false, Bool.false, Bool.false, Bool.false, Bool.false, Bool.false] (Int.toNat (Prod.fst (Prod.snd i))) Bool.true) (5 : Nat) Bool.false, List.getD (List.set [Bool.false, Bool.false, Bool.false, Bool.false, Bool.false, Bool.false, Bool.false, Bool.false] (Int.toNat (Prod.fst (Prod.snd i))) Bool.true) (6 : Nat) Bool.false, List.getD (List.set [Bool.false, Bool.false, Bool.false, Bool.false, Bool.false, Bool.false, Bool.false, Bool.false] (Int.toNat (Prod.fst (Prod.snd i))) Bool.true) (7 : Nat) Bool.false)) (8 : Nat) = Go.Proofs.Ytnoccknoaihjlaa.N.rdL i ∧ True))) ∧ ((Prod.fst i == (3 : Int) || (Prod.fst i == (18 : Int) || (Prod.fst i == (20 : Int) || (Prod.fst i == (22 : Int) || (Prod.fst i == (23 : Int) || Prod.fst i == (25 : Int)))))) = Bool.false → (Go.Proofs.Ytnoccknoaihjlaa.hB (Go.Proofs.Ytnoccknoaihjlaa.formI (Prod.fst i)) = Bool.true → ((0 : Int) ≤ Prod.fst (Prod.snd (Prod.snd i)) ∧ Prod.fst (Prod.snd (Prod.snd i)) < (↑(8 : Nat) : Int)) ∧ Int.toNat (Prod.fst (Prod.snd (Prod.snd i))) < List.length [Bool.false, Bool.false, Bool.false, Bool.false, Bool.false, Bool.false, Bool.false, Bool.false] ∧ ((Go.Proofs.Ytnoccknoaihjlaa.formI (Prod.fst i) == (3 : Int)) = Bool.true → ((0 : Int) ≤ Prod.snd (Prod.snd (Prod.snd i)) ∧ Prod.snd (Prod.snd (Prod.snd i)) < (↑(8 : Nat) : Int)) ∧ Int.toNat (Prod.snd (Prod.snd (Prod.snd i))) < List.length (List.set [Bool.false, Bool.false, Bool.false, Bool.false, Bool.false, Bool.false, Bool.false, Bool.false] (Int.toNat (Prod.fst (Prod.snd (Prod.snd i)))) Bool.true) ∧ (8 : Nat) ≤ List.length (List.set (List.set [Bool.false, Bool.false, Bool.false, Bool.false, Bool.false, Bool.false, Bool.false, Bool.false] (Int.toNat (Prod.fst (Prod.snd (Prod.snd i)))) Bool.true) (Int.toNat (Prod.snd (Prod.snd (Prod.snd i)))) Bool.true) ∧ Go.Proofs.Ytnoccknoaihjlaa.N.set8 (Go.Proofs.Ytnoccknoaihjlaa.N.l8 (List.getD (List.set (List.set [Bool.false, Bool.false, Bool.false, Bool.false, Bool.false, Bool.false, Bool.false, Bool.false] (Int.toNat (Prod.fst (Prod.snd (Prod.snd i)))) Bool.true) (Int.toNat (Prod.snd (Prod.snd (Prod.snd i)))) Bool.true) (0 : Nat) Bool.false, List.getD (List.set (List.set [Bool.false, Bool.false, Bool.false, Bool.false, Bool.false, Bool.false, Bool.false, Bool.false] (Int.toNat (Prod.fst (Prod.snd (Prod.snd i)))) Bool.true) (Int.toNat (Prod.snd (Prod.snd (Prod.snd i)))) Bool.true) (1 : Nat) Bool.false, List.getD (List.set (List.set [Bool.false, Bool.false, Bool.false, Bool.false, Bool.false, Bool.false, Bool.false, Bool.false] (Int.toNat (Prod.fst (Prod.snd (Prod.snd i)))) Bool.true) (Int.toNat (Prod.snd (Prod.snd (Prod.snd i)))) Bool.true) (2 : Nat) Bool.false, List.getD (List.set (List.set [Bool.false, Bool.false, Bool.false, Bool.false, Bool.false, Bool.false, Bool.false, Bool.false] (Int.toNat (Prod.fst (Prod.snd (Prod.snd i)))) Bool.true) (Int.toNat (Prod.snd (Prod.snd (Prod.snd i)))) Bool.true) (3 : Nat) Bool.false, List.getD (List.set (List.set [Bool.false, Bool.false, Bool.false, Bool.false, Bool.false, Bool.false, Bool.false, Bool.false] (Int.toNat (Prod.fst (Prod.snd (Prod.snd i)))) Bool.true) (Int.toNat (Prod.snd (Prod.snd (Prod.snd i)))) Bool.true) (4 : Nat) Bool.false, List.getD (List.set (List.set [Bool.false, Bool.false, Bool.false, Bool.false, Bool.false, Bool.false, Bool.false, Bool.false] (Int.toNat (Prod.fst (Prod.snd (Prod.snd i)))) Bool.true) (Int.toNat (Prod.snd (Prod.snd (Prod.snd i)))) Bool.true) (5 : Nat) Bool.false, List.getD (List.set (List.set [Bool.false, Bool.false, Bool.false, Bool.false, Bool.false, Bool.false, Bool.false, Bool.false] (Int.toNat (Prod.fst (Prod.snd (Prod.snd i)))) Bool.true) (Int.toNat (Prod.snd (Prod.snd (Prod.snd i)))) Bool.true) (6 : Nat) Bool.false, List.getD (List.set (List.set [Bool.false, Bool.false, Bool.false, Bool.false, Bool.false, Bool.false, Bool.false, Bool.false] (Int.toNat (Prod.fst (Prod.snd (Prod.snd i)))) Bool.true) (Int.toNat (Prod.snd (Prod.snd (Prod.snd i)))) Bool.true) (7 : Nat) Bool.false)) (8 : Nat) = Go.Proofs.Ytnoccknoaihjlaa.N.rdL i ∧ True) ∧ ((Go.Proofs.Ytnoccknoaihjlaa.formI (Prod.fst i) == (3 : Int)) = Bool.false → (8 : Nat) ≤ List.length (List.set [Bool.false, Bool.false, Bool.false, Bool.false, Bool.false, Bool.false, Bool.false, Bool.false] (Int.toNat (Prod.fst (Prod.snd (Prod.snd i)))) Bool.true) ∧ Go.Proofs.Ytnoccknoaihjlaa.N.set8 (Go.Proofs.Ytnoccknoaihjlaa.N.l8 (List.getD (List.set [Bool.false, Bool.false, Bool.false, Bool.false, Bool.false, Bool.false, Bool.false, Bool.false] (Int.toNat (Prod.fst (Prod.snd (Prod.snd i)))) Bool.true) (0 : Nat) Bool.false, List.getD (List.set [Bool.false, Bool.false, Bool.false, Bool.false, Bool.false, Bool.false, Bool.false, Bool.false] (Int.toNat (Prod.fst (Prod.snd (Prod.snd i)))) Bool.true) (1 : Nat) Bool.false, List.getD (List.set [Bool.false, Bool.false, Bool.false, Bool.false, Bool.false, Bool.false, Bool.false, Bool.false] (Int.toNat (Prod.fst (Prod.snd (Prod.snd i)))) Bool.true) (2 : Nat) Bool.false, List.getD (List.set [Bool.false, Bool.false, Bool.false, Bool.false, Bool.false, Bool.false, Bool.false, Bool.false] (Int.toNat (Prod.fst (Prod.snd (Prod.snd i)))) Bool.true) (3 : Nat) Bool.false, List.getD (List.set [Bool.false, Bool.false, Bool.false, Bool.false, Bool.false, Bool.false, Bool.false, Bool.false] (Int.toNat (Prod.fst (Prod.snd (Prod.snd i)))) Bool.true) (4 : Nat) Bool.false, List.getD (List.set [Bool.false, Bool.false, Bool.false, Bool.false, Bool.false, Bool.false, Bool.false, Bool.false] (Int.toNat (Prod.fst (Prod.snd (Prod.snd i)))) Bool.true) (5 : Nat) Bool.false, List.getD (List.set [Bool.false, Bool.false, Bool.false, Bool.false, Bool.false, Bool.false, Bool.false, Bool.false] (Int.toNat (Prod.fst (Prod.snd (Prod.snd i)))) Bool.true) (6 : Nat) Bool.false, List.getD (List.set [Bool.false, Bool.false, Bool.false, Bool.false, Bool.false, Bool.false, Bool.false, Bool.false] (Int.toNat (Prod.fst (Prod.snd (Prod.snd i)))) Bool.true) (7 : Nat) Bool.false)) (8 : Nat) = Go.Proofs.Ytnoccknoaihjlaa.N.rdL i ∧ True)) ∧ (Go.Proofs.Ytnoccknoaihjlaa.hB (Go.Proofs.Ytnoccknoaihjlaa.formI (Prod.fst i)) = Bool.false → ((Go.Proofs.Ytnoccknoaihjlaa.formI (Prod.fst i) == (3 : Int)) = Bool.true → ((0 : Int) ≤ Prod.snd (Prod.snd (Prod.snd i)) ∧ Prod.snd (Prod.snd (Prod.snd i)) < (↑(8 : Nat) : Int)) ∧ Int.toNat (Prod.snd (Prod.snd (Prod.snd i))) < List.length [Bool.false, Bool.false, Bool.false, Bool.false, Bool.false, Bool.false, Bool.false, Bool.false] ∧ (8 : Nat) ≤ List.length (List.set [Bool.false, Bool.false, Bool.false, Bool.false, Bool.false, Bool.false, Bool.false, Bool.false] (Int.toNat (Prod.snd (Prod.snd (Prod.snd i)))) Bool.true) ∧ Go.Proofs.Ytnoccknoaihjlaa.N.set8 (Go.Proofs.Ytnoccknoaihjlaa.N.l8 (List.getD (List.set [Bool.false, Bool.false, Bool.false, Bool.false, Bool.false, Bool.false, Bool.false, Bool.false] (Int.toNat (Prod.snd (Prod.snd (Prod.snd i)))) Bool.true) (0 : Nat) Bool.false, List.getD (List.set [Bool.false, Bool.false, Bool.false, Bool.false, Bool.false, Bool.false, Bool.false, Bool.false] (Int.toNat (Prod.snd (Prod.snd (Prod.snd i)))) Bool.true) (1 : Nat) Bool.false, List.getD (List.set [Bool.false, Bool.false, Bool.false, Bool.false, Bool.false, Bool.false, Bool.false, Bool.false] (Int.toNat (Prod.snd (Prod.snd (Prod.snd i)))) Bool.true) (2 : Nat) Bool.false, List.getD (List.set [Bool.false, Bool.false, Bool.false, Bool.false, Bool.false, Bool.false, Bool.false, Bool.false] (Int.toNat (Prod.snd (Prod.snd (Prod.snd i)))) Bool.true) (3 : Nat) Bool.false, List.getD (List.set [Bool.false, Bool.false, Bool.false, Bool.false, Bool.false, Bool.false, Bool.false, Bool.false] (Int.toNat (Prod.snd (Prod.snd (Prod.snd i)))) Bool.true) (4 : Nat) Bool.false, List.getD (List.set [Bool.false, Bool.false, Bool.false, Bool.false, Bool.false, Bool.false, Bool.false, Bool.false] (Int.toNat (Prod.snd (Prod.snd (Prod.snd i)))) Bool.true) (5 : Nat) Bool.false, List.getD (List.set [Bool.false, Bool.false, Bool.false, Bool.false, Bool.false, Bool.false, Bool.false, Bool.false] (Int.toNat (Prod.snd (Prod.snd (Prod.snd i)))) Bool.true) (6 : Nat) Bool.false, List.getD (List.set [Bool.false, Bool.false, Bool.false, Bool.false, Bool.false, Bool.false, Bool.false, Bool.false] (Int.toNat (Prod.snd (Prod.snd (Prod.snd i)))) Bool.true) (7 : Nat) Bool.false)) (8 : Nat) = Go.Proofs.Ytnoccknoaihjlaa.N.rdL i ∧ True) ∧ ((Go.Proofs.Ytnoccknoaihjlaa.formI (Prod.fst i) == (3 : Int)) = Bool.false → Go.Proofs.Ytnoccknoaihjlaa.N.set8 (Go.Proofs.Ytnoccknoaihjlaa.N.l8 (Bool.false, Bool.false, Bool.false, Bool.false, Bool.false, Bool.false, Bool.false, Bool.false)) (8 : Nat) = Go.Proofs.Ytnoccknoaihjlaa.N.rdL i ∧ True))))) (by kernel_rfl) ?_
  have hA : (i.1 == (3 : Int) || (i.1 == (18 : Int) || (i.1 == (20 : Int) || (i.1 == (22 : Int) || (i.1 == (23 : Int) || i.1 == (25 : Int)))))) = inA i.1 := by
    simp only [inA, List.contains, List.elem]
    cases i.1 == 3 <;> cases i.1 == 18 <;> cases i.1 == 20 <;> cases i.1 == 22 <;> cases i.1 == 23 <;> cases i.1 == 25 <;> rfl
  rw [hA]
  refine ⟨fun h => ⟨by simp only [rdL, h, cond_true], trivial⟩, fun h => ?_⟩
  have hc : chkJ i = 0 := by simpa using h
  obtain ⟨ra, rb, rc⟩ := chk0 hc
  have hr : rdL i = uniq (rdE i) := by simp only [rdL, h, cond_false]
  have m0 := set8_marks [] (by simp)
  have m1 : ∀ x : Int, (0 ≤ x ∧ x < 8) → set8 (l8 ((marks [x]).getD 0 false, (marks [x]).getD 1 false, (marks [x]).getD 2 false, (marks [x]).getD 3 false, (marks [x]).getD 4 false, (marks [x]).getD 5 false, (marks [x]).getD 6 false, (marks [x]).getD 7 false)) 8 = uniq [x] := fun x hx => fin8 [x] (by simpa using hx)
  have m2 : ∀ x y : Int, (0 ≤ x ∧ x < 8) → (0 ≤ y ∧ y < 8) → set8 (l8 ((marks [x, y]).getD 0 false, (marks [x, y]).getD 1 false, (marks [x, y]).getD 2 false, (marks [x, y]).getD 3 false, (marks [x, y]).getD 4 false, (marks [x, y]).getD 5 false, (marks [x, y]).getD 6 false, (marks [x, y]).getD 7 false)) 8 = uniq [x, y] := fun x y hx hy => fin8 [x, y] (by simp only [List.mem_cons, List.not_mem_nil, or_false]; rintro z (rfl | rfl) <;> assumption)
  have m3 : ∀ x y z : Int, (0 ≤ x ∧ x < 8) → (0 ≤ y ∧ y < 8) → (0 ≤ z ∧ z < 8) → set8 (l8 ((marks [x, y, z]).getD 0 false, (marks [x, y, z]).getD 1 false, (marks [x, y, z]).getD 2 false, (marks [x, y, z]).getD 3 false, (marks [x, y, z]).getD 4 false, (marks [x, y, z]).getD 5 false, (marks [x, y, z]).getD 6 false, (marks [x, y, z]).getD 7 false)) 8 = uniq [x, y, z] := fun x y z hx hy hz => fin8 [x, y, z] (by simp only [List.mem_cons, List.not_mem_nil, or_false]; rintro q (rfl | rfl | rfl) <;> assumption)
  refine ⟨fun h1 => ⟨⟨by omega, by omega⟩, by simp; omega, fun h2 => ⟨⟨by omega, by omega⟩, by simp; omega, fun h3 => ⟨by have := rc h3; omega, by have := rc h3; simp; omega, by simp, ?_⟩, fun h3 => ⟨by simp, ?_⟩⟩, fun h2 => ⟨fun h3 => ⟨by have := rc h3; omega, by have := rc h3; simp; omega, by simp, ?_⟩, fun h3 => ⟨by simp, ?_⟩⟩⟩,
    fun h1 => ⟨fun h2 => ⟨⟨by omega, by omega⟩, by simp; omega, fun h3 => ⟨by have := rc h3; omega, by have := rc h3; simp; omega, by simp, ?_⟩, fun h3 => ⟨by simp, ?_⟩⟩, fun h2 => ⟨fun h3 => ⟨by have := rc h3; omega, by have := rc h3; simp; omega, by simp, ?_⟩, fun h3 => ?_⟩⟩⟩
  all_goals
    rw [hr]
    simp only [rdE, h1, h2, h3, cond_true, cond_false, List.nil_append, List.append_nil, List.cons_append]
    refine ⟨?_, trivial⟩
  · exact m3 _ _ _ ra rb (rc h3)
  · exact m2 _ _ ra rb
  · exact m2 _ _ ra (rc h3)
  · exact m1 _ ra
  · exact m2 _ _ rb (rc h3)
  · exact m1 _ rb
  · exact m1 _ (rc h3)
  · exact m0
def noWr (i : Ins) : Bool := chkJ i != 0 || (decide (i.1 < 1) || decide (17 < i.1) && (i.1 != 19 && i.1 != 24))
def wrL (i : Ins) : List Int := bif noWr i then [] else [i.2.1]
theorem p44 (i : Ins) : Pure1 Try.prog 44 [insV i] (.per (.sl (.int .i64)) (wrL i)) := by
  refine pure1_of_exec (ct := cx0 [c15] [] []) [] Try.func44 rfl rfl ?_
  refine cast_goal (p := ((Go.Proofs.Ytnoccknoaihjlaa.N.chkJ i != (0 : Int) || (Decidable.decide (Prod.fst i < (1 : Int)) || Decidable.decide ((17 : Int) < Prod.fst i) && (Prod.fst i != (19 : Int) && Prod.fst i != (24 : Int)))) = Bool.true → [] = Go.Proofs.Ytnoccknoaihjlaa.N.wrL i ∧ True) ∧ ((Go.Proofs.Ytnoccknoaihjlaa.N.chkJ i != (0 : Int) || (Decidable.decide (Prod.fst i < (1 : Int)) || Decidable.decide ((17 : Int) < Prod.fst i) && (Prod.fst i != (19 : Int) && Prod.fst i != (24 : Int)))) = Bool.false → [Prod.fst (Prod.snd i)] = Go.Proofs.Ytnoccknoaihjlaa.N.wrL i ∧ True)) (by kernel_rfl) ?_
  have e : (chkJ i != 0 || (decide (i.1 < 1) || decide (17 < i.1) && (i.1 != 19 && i.1 != 24))) = noWr i := rfl
  rw [e]
  exact ⟨fun h => ⟨by simp only [wrL, h, cond_true], trivial⟩, fun h => ⟨by simp only [wrL, h, cond_false], trivial⟩⟩
theorem uniq_one (x : Int) : uniq [x] = [x] := rise_ext (uniq_rise _) (List.pairwise_singleton ..) (uniq_mem _)
theorem uniq_nil : uniq [] = [] := rise_ext (uniq_rise _) List.Pairwise.nil (uniq_mem _)
theorem p45 (i : Ins) : Pure1 Try.prog 45 [insV i] (.per (.sl (.int .i64)) (wrL i)) := by
  refine pure1_of_exec (ct := cx0 [c16, c63] [] []) [] Try.func45 rfl rfl ?_
  refine cast_goal (p := ((Go.Proofs.Ytnoccknoaihjlaa.N.chkJ i == (0 : Int) && bif Decidable.decide ((1 : Int) ≤ Prod.fst i) then Decidable.decide (Prod.fst i ≤ (17 : Int)) || (Prod.fst i == (19 : Int) || Prod.fst i == (24 : Int)) else Prod.fst i == (19 : Int) || Prod.fst i == (24 : Int)) = Bool.true → ((0 : Int) ≤ Prod.fst (Prod.snd i) ∧ Prod.fst (Prod.snd i) < (↑(8 : Nat) : Int)) ∧ Int.toNat (Prod.fst (Prod.snd i)) < List.length [Bool.false, Bool.false, Bool.false, Bool.false, Bool.false, Bool.false, Bool.false, Bool.false] ∧ (8 : Nat) ≤ List.length (List.set [Bool.false, Bool.false, Bool.false, Bool.false, Bool.false, Bool.false, Bool.false, Bool.false] (Int.toNat (Prod.fst (Prod.snd i))) Bool.true) ∧ Go.Proofs.Ytnoccknoaihjlaa.N.set8 (Go.Proofs.Ytnoccknoaihjlaa.N.l8 (List.getD (List.set [Bool.false, Bool.false, Bool.false, Bool.false, Bool.false, Bool.false, Bool.false, Bool.false] (Int.toNat (Prod.fst (Prod.snd i))) Bool.true) (0 : Nat) Bool.false, List.getD (List.set [Bool.false, Bool.false, Bool.false, Bool.false, Bool.false, Bool.false, Bool.false, Bool.false] (Int.toNat (Prod.fst (Prod.snd i))) Bool.true) (1 : Nat) Bool.false, List.getD (List.set [Bool.false, Bool.false, Bool.false, Bool.false, Bool.false, Bool.false, Bool.false, Bool.false] (Int.toNat (Prod.fst (Prod.snd i))) Bool.true) (2 : Nat) Bool.false, List.getD (List.set [Bool.false, Bool.false, Bool.false, Bool.false, Bool.false, Bool.false, Bool.false, Bool.false] (Int.toNat (Prod.fst (Prod.snd i))) Bool.true) (3 : Nat) Bool.false, List.getD (List.set [Bool.false, Bool.false, Bool.false, Bool.false, Bool.false, Bool.false, Bool.false, Bool.false] (Int.toNat (Prod.fst (Prod.snd i))) Bool.true) (4 : Nat) Bool.false, List.getD (List.set [Bool.false, Bool.false, Bool.false, Bool.false, Bool.false, Bool.false, Bool.false, Bool.false] (Int.toNat (Prod.fst (Prod.snd i))) Bool.true) (5 : Nat) Bool.false, List.getD (List.set [Bool.false, Bool.false, Bool.false, Bool.false, Bool.false, Bool.false, Bool.false, Bool.false] (Int.toNat (Prod.fst (Prod.snd i))) Bool.true) (6 : Nat) Bool.false, List.getD (List.set [Bool.false, Bool.false, Bool.false, Bool.false, Bool.false, Bool.false, Bool.false, Bool.false] (Int.toNat (Prod.fst (Prod.snd i))) Bool.true) (7 : Nat) Bool.false)) (8 : Nat) = Go.Proofs.Ytnoccknoaihjlaa.N.wrL i ∧ True) ∧ ((Go.Proofs.Ytnoccknoaihjlaa.N.chkJ i == (0 : Int) && bif Decidable.decide ((1 : Int) ≤ Prod.fst i) then Decidable.decide (Prod.fst i ≤ (17 : Int)) || (Prod.fst i == (19 : Int) || Prod.fst i == (24 : Int)) else Prod.fst i == (19 : Int) || Prod.fst i == (24 : Int)) = Bool.false → Go.Proofs.Ytnoccknoaihjlaa.N.set8 (Go.Proofs.Ytnoccknoaihjlaa.N.l8 (Bool.false, Bool.false, Bool.false, Bool.false, Bool.false, Bool.false, Bool.false, Bool.false)) (8 : Nat) = Go.Proofs.Ytnoccknoaihjlaa.N.wrL i ∧ True)) (by kernel_rfl) ?_
  have e : (chkJ i == (0 : Int) && bif decide ((1 : Int) ≤ i.1) then decide (i.1 ≤ (17 : Int)) || (i.1 == (19 : Int) || i.1 == (24 : Int)) else i.1 == (19 : Int) || i.1 == (24 : Int)) = !noWr i := by
    have e1 : (chkJ i != 0) = !(chkJ i == 0) := rfl
    have e2 : decide (i.1 < 1) = !decide (1 ≤ i.1) := by
      by_cases h : 1 ≤ i.1
      · simp [h] <;> omega
      · simp [h] <;> omega
    have e3 : decide (17 < i.1) = !decide (i.1 ≤ 17) := by
      by_cases h : i.1 ≤ 17
      · simp [h] <;> omega
      · simp [h] <;> omega
    have e4 : (i.1 != 19) = !(i.1 == 19) := rfl
    have e5 : (i.1 != 24) = !(i.1 == 24) := rfl
    have e6 : decide (1 ≤ i.1) = false → (i.1 == 19) = false ∧ (i.1 == 24) = false := fun h => by
      have := of_decide_eq_false h
      constructor <;> rw [beq_eq_false_iff_ne] <;> omega
    unfold noWr
    rw [e1, e2, e3, e4, e5]
    revert e6
    clear e1 e2 e3 e4 e5
    generalize decide (1 ≤ i.1) = d1
    generalize decide (i.1 ≤ 17) = d2
    generalize (i.1 == 19) = d3
    generalize (i.1 == 24) = d4
    generalize (chkJ i == 0) = d5
    revert d1 d2 d3 d4 d5
    decide
  rw [e]
  have z := chk0 (i := i)
  refine ⟨fun h => ?_, fun h => ?_⟩
  · have h' : noWr i = false := by simpa using h
    have hc : chkJ i = 0 := by
      unfold noWr at h'
      have := (Bool.or_eq_false_iff.1 h').1
      simpa using this
    obtain ⟨ra, _, _⟩ := z hc
    refine ⟨⟨by omega, by omega⟩, by simp; omega, by simp, ?_, trivial⟩
    have hw : wrL i = [i.2.1] := by simp only [wrL, h', cond_false]
    rw [hw]
    exact (fin8 [i.2.1] (by simpa using ra)).trans (uniq_one _)
  · have h' : noWr i = true := by simpa using h
    have hw : wrL i = [] := by simp only [wrL, h', cond_true]
    rw [hw]
    exact ⟨(set8_marks [] (by simp)).trans uniq_nil, trivial⟩
end Go.Proofs.Ytnoccknoaihjlaa.N

set_option linter.unusedVariables false
set_option linter.unusedSimpArgs false
/- The law on Reads and Writes. -/
namespace Go.Proofs.Ytnoccknoaihjlaa.N
open Go.DF
set_option maxRecDepth 100000
abbrev iL : CT := .sl (.int .i64)
def eqL (l m : List Int) : Bool := decide (l = m)
def c41 : PureC Try.prog where
  f := 41
  sig := [.dat false iL, .dat false iL]
  per := false
  spec := fun x => .ob (x.1.length ≤ 1000000) none (.leaf (.bool (.sym (eqL x.1 x.2.1))))
  body := hasBody_of Try.func41 (by kernel_rfl) (by kernel_rfl)
  ok := fun x d h => by
    obtain ⟨h1, h⟩ := h
    obtain rfl : d = _ := h
    exact p41 x.1 x.2.1 h1
def c42 : PureC Try.prog where
  f := 42
  sig := [.dat true iC]
  per := true
  spec := fun x => .leaf (.per iL (rdL x.1))
  body := hasBody_of Try.func42 (by kernel_rfl) (by kernel_rfl)
  ok := fun x d h => by obtain rfl : d = _ := h; exact p42 x.1
def c43 : PureC Try.prog where
  f := 43
  sig := [.dat true iC]
  per := true
  spec := fun x => .leaf (.per iL (rdL x.1))
  body := hasBody_of Try.func43 (by kernel_rfl) (by kernel_rfl)
  ok := fun x d h => by obtain rfl : d = _ := h; exact p43 x.1
def c44 : PureC Try.prog where
  f := 44
  sig := [.dat true iC]
  per := true
  spec := fun x => .leaf (.per iL (wrL x.1))
  body := hasBody_of Try.func44 (by kernel_rfl) (by kernel_rfl)
  ok := fun x d h => by obtain rfl : d = _ := h; exact p44 x.1
def c45 : PureC Try.prog where
  f := 45
  sig := [.dat true iC]
  per := true
  spec := fun x => .leaf (.per iL (wrL x.1))
  body := hasBody_of Try.func45 (by kernel_rfl) (by kernel_rfl)
  ok := fun x d h => by obtain rfl : d = _ := h; exact p45 x.1
theorem uniq_len (l : List Int) : (uniq l).length ≤ l.length := Nat.le_trans (compact_len _) (Nat.le_of_eq (srt_len l))
theorem rdL_len (i : Ins) : (rdL i).length ≤ 3 := by
  unfold rdL
  cases chkJ i != 0
  · refine Nat.le_trans (uniq_len _) ?_
    unfold rdE
    cases inA i.1 <;> cases hB (formI i.1) <;> cases (formI i.1 == 3) <;> simp
  · simp
theorem wrL_len (i : Ins) : (wrL i).length ≤ 1 := by
  unfold wrL
  cases noWr i <;> simp
theorem p12 (i : Ins) : Pure1 Try.prog 12 [insV i] (.bool (.sym true)) := by
  refine pure1_of_exec (ct := cx0 [c13, c14, c41, c42, c43, c44, c45] [] []) [] Try.func12 rfl rfl ?_
  refine cast_goal (p := (List.length (Go.Proofs.Ytnoccknoaihjlaa.N.rdL i) ≤ (1000000 : Nat) ∧ (Go.Proofs.Ytnoccknoaihjlaa.N.eqL (Go.Proofs.Ytnoccknoaihjlaa.N.rdL i) (Go.Proofs.Ytnoccknoaihjlaa.N.rdL i) = Bool.true → List.length (Go.Proofs.Ytnoccknoaihjlaa.N.wrL i) ≤ (1000000 : Nat) ∧ True) ∧ (Go.Proofs.Ytnoccknoaihjlaa.N.eqL (Go.Proofs.Ytnoccknoaihjlaa.N.rdL i) (Go.Proofs.Ytnoccknoaihjlaa.N.rdL i) = Bool.false → True)) ∧ (Go.Proofs.Ytnoccknoaihjlaa.N.eqL (Go.Proofs.Ytnoccknoaihjlaa.N.rdL i) (Go.Proofs.Ytnoccknoaihjlaa.N.rdL i) && Go.Proofs.Ytnoccknoaihjlaa.N.eqL (Go.Proofs.Ytnoccknoaihjlaa.N.wrL i) (Go.Proofs.Ytnoccknoaihjlaa.N.wrL i)) = Bool.true ∧ True) (by kernel_rfl) ?_
  have h1 := rdL_len i
  have h2 := wrL_len i
  have e1 : eqL (rdL i) (rdL i) = true := by simp [eqL]
  have e2 : eqL (wrL i) (wrL i) = true := by simp [eqL]
  rw [e1, e2]
  exact ⟨⟨by omega, fun _ => ⟨by omega, trivial⟩, fun h => absurd h (by simp)⟩, rfl, trivial⟩
end Go.Proofs.Ytnoccknoaihjlaa.N
