import Derived.Test.YtnoccknoaihjlaaEng12
import Derived.Test.YtnoccknoaihjlaaI5
set_option linter.unusedVariables false
set_option linter.unusedSimpArgs false
set_option linter.unnecessarySimpa false
/- Find, and the law on the forms. -/
namespace Go.Proofs.Ytnoccknoaihjlaa
open Go.DE
set_option maxRecDepth 100000
set_option linter.unusedVariables false
set_option linter.unusedSimpArgs false

def wordsC : List DV := [.str (DS.lit ⟨#[104, 97, 108, 116]⟩), .str (DS.lit ⟨#[109, 111, 118, 101]⟩), .str (DS.lit ⟨#[115, 101, 116]⟩), .str (DS.lit ⟨#[104, 105, 103, 104]⟩), .str (DS.lit ⟨#[97, 100, 100]⟩), .str (DS.lit ⟨#[115, 117, 98]⟩), .str (DS.lit ⟨#[109, 117, 108]⟩), .str (DS.lit ⟨#[100, 105, 118]⟩), .str (DS.lit ⟨#[109, 111, 100]⟩), .str (DS.lit ⟨#[97, 110, 100]⟩), .str (DS.lit ⟨#[111, 114]⟩), .str (DS.lit ⟨#[120, 111, 114]⟩), .str (DS.lit ⟨#[115, 104, 108]⟩), .str (DS.lit ⟨#[115, 104, 114]⟩), .str (DS.lit ⟨#[108, 101, 115, 115]⟩), .str (DS.lit ⟨#[101, 113, 117, 97, 108]⟩), .str (DS.lit ⟨#[97, 100, 100, 105]⟩), .str (DS.lit ⟨#[108, 111, 97, 100]⟩), .str (DS.lit ⟨#[115, 116, 111, 114, 101]⟩), .str (DS.lit ⟨#[108, 111, 97, 100, 98]⟩), .str (DS.lit ⟨#[115, 116, 111, 114, 101, 98]⟩), .str (DS.lit ⟨#[106, 117, 109, 112]⟩), .str (DS.lit ⟨#[106, 117, 109, 112, 122]⟩), .str (DS.lit ⟨#[106, 117, 109, 112, 110, 122]⟩), .str (DS.lit ⟨#[99, 97, 108, 108]⟩), .str (DS.lit ⟨#[98, 97, 99, 107]⟩), .str (DS.lit ⟨#[116, 114, 97, 112]⟩)]
def wordsB : List ByteArray := words.map fun l => ⟨l.toArray⟩
theorem pw : DCall Try.prog 60 [] [] 0 0 (fun d st => subS 0 ⟨[(0, d)], st.hp, st.nx⟩ ⟨[(0, .slice ⟨0, .lit 0, 1, 0⟩ (.lit 27))], [(0, .cells 9 wordsC)], 1⟩ True) :=
  can_of_exec (ct := ⟨[], []⟩) [] Try.func60 rfl rfl (by
    refine cast_goal (p := True ∧ True) (by kernel_rfl) ?_
    trivial)
def c60 : CanC Try.prog where
  f := 60
  α := Unit
  args := fun _ => []
  hp := fun _ => []
  n := 0
  rb := 0
  infer := fun a _ => match a with | [] => some () | _ => none
  pre := fun _ => True
  res := fun _ => .slice ⟨0, .lit 0, 1, 0⟩ (.lit 27)
  hp' := fun _ => [(0, .cells 9 wordsC)]
  n' := 1
  rbn := rfl
  nn := rfl
  body := hasBody_of Try.func60 (by kernel_rfl) (by kernel_rfl)
  ok := fun _ _ => pw
/-- the loop over the words -/
def inv35 (w : ByteArray) : LInv where
  α := Int
  S := fun i => ⟨[(0, .str (.sym w)), (4, .slice ⟨0, .lit 0, 1, 0⟩ (.lit 27)), (5, .int .i64 (.sym i))], [(0, .arr 9 .str wordsB)], 1⟩
  p := fun i => 0 ≤ i ∧ i ≤ 27 ∧ ∀ j : Nat, (j : Int) < i → ((wordsB.getD j ByteArray.empty).toList == w.toList) = false
  m := fun i => (27 - i).toNat

def idxW (w : ByteArray) : Nat := wordsB.findIdx fun x => x.toList == w.toList
theorem idx_at (w : ByteArray) (i : Int) (h0 : 0 ≤ i) (h1 : i < 27) (he : ((wordsB.getD i.toNat ByteArray.empty).toList == w.toList) = true) (hn : ∀ j : Nat, (j : Int) < i → ((wordsB.getD j ByteArray.empty).toList == w.toList) = false) : (idxW w : Int) = i := by
  have hl : wordsB.length = 27 := rfl
  have hi : i.toNat < wordsB.length := by omega
  have key : idxW w = i.toNat := by
    unfold idxW
    rw [List.findIdx_eq hi]
    refine ⟨?_, fun j hj => ?_⟩
    · rw [List.getD_eq_getElem?_getD, List.getElem?_eq_getElem hi] at he; exact he
    · have := hn j (by omega)
      rw [List.getD_eq_getElem?_getD, List.getElem?_eq_getElem (by omega)] at this; exact this
  omega
theorem idx_none (w : ByteArray) (hn : ∀ j : Nat, (j : Int) < 27 → ((wordsB.getD j ByteArray.empty).toList == w.toList) = false) : idxW w = 27 := by
  have hl : wordsB.length = 27 := rfl
  unfold idxW
  rw [← hl, List.findIdx_eq_length]
  intro x hx
  obtain ⟨j, hj, rfl⟩ := List.mem_iff_getElem.1 hx
  have := hn j (by omega)
  rw [List.getD_eq_getElem?_getD, List.getElem?_eq_getElem hj] at this; exact this
theorem idx_le (w : ByteArray) : idxW w ≤ 27 := List.findIdx_le_length
def fI (w : ByteArray) : Int := if idxW w < 27 then idxW w else 0
def fB (w : ByteArray) : Bool := decide (idxW w < 27)
def fM (w : ByteArray) : Int := if idxW w < 27 then idxW w else -1
theorem upto (w : ByteArray) (i : Int) (h0 : 0 ≤ i) (hn : ∀ j : Nat, (j : Int) < i → ((wordsB.getD j ByteArray.empty).toList == w.toList) = false) (he : ((wordsB.getD i.toNat ByteArray.empty).toList == w.toList) = false) :
    ∀ j : Nat, (j : Int) < i + 1 → ((wordsB.getD j ByteArray.empty).toList == w.toList) = false := by
  intro j hj
  by_cases h : (j : Int) < i
  · exact hn j h
  · have : j = i.toNat := by omega
    rw [this]; exact he
theorem p35 (w : ByteArray) : Pure1 Try.prog 35 [.str (.sym w)] (.tup [.int .i64 (.sym (fI w)), .bool (.sym (fB w))]) := by
  refine pure_of_exec (ct := ⟨[], [c60]⟩) [(3, inv35 w)] Try.func35 rfl rfl rfl ?_
  refine cast_goal (p := True ∧ (∃ (a : Int), (w = w ∧ (0 : Int) = a ∧ [Go.DE.DS.v (Go.DE.DS.lit (ByteArray.mk #[(104 : UInt8), (97 : UInt8), (108 : UInt8), (116 : UInt8)])), Go.DE.DS.v (Go.DE.DS.lit (ByteArray.mk #[(109 : UInt8), (111 : UInt8), (118 : UInt8), (101 : UInt8)])), Go.DE.DS.v (Go.DE.DS.lit (ByteArray.mk #[(115 : UInt8), (101 : UInt8), (116 : UInt8)])), Go.DE.DS.v (Go.DE.DS.lit (ByteArray.mk #[(104 : UInt8), (105 : UInt8), (103 : UInt8), (104 : UInt8)])), Go.DE.DS.v (Go.DE.DS.lit (ByteArray.mk #[(97 : UInt8), (100 : UInt8), (100 : UInt8)])), Go.DE.DS.v (Go.DE.DS.lit (ByteArray.mk #[(115 : UInt8), (117 : UInt8), (98 : UInt8)])), Go.DE.DS.v (Go.DE.DS.lit (ByteArray.mk #[(109 : UInt8), (117 : UInt8), (108 : UInt8)])), Go.DE.DS.v (Go.DE.DS.lit (ByteArray.mk #[(100 : UInt8), (105 : UInt8), (118 : UInt8)])), Go.DE.DS.v (Go.DE.DS.lit (ByteArray.mk #[(109 : UInt8), (111 : UInt8), (100 : UInt8)])), Go.DE.DS.v (Go.DE.DS.lit (ByteArray.mk #[(97 : UInt8), (110 : UInt8), (100 : UInt8)])), Go.DE.DS.v (Go.DE.DS.lit (ByteArray.mk #[(111 : UInt8), (114 : UInt8)])), Go.DE.DS.v (Go.DE.DS.lit (ByteArray.mk #[(120 : UInt8), (111 : UInt8), (114 : UInt8)])), Go.DE.DS.v (Go.DE.DS.lit (ByteArray.mk #[(115 : UInt8), (104 : UInt8), (108 : UInt8)])), Go.DE.DS.v (Go.DE.DS.lit (ByteArray.mk #[(115 : UInt8), (104 : UInt8), (114 : UInt8)])), Go.DE.DS.v (Go.DE.DS.lit (ByteArray.mk #[(108 : UInt8), (101 : UInt8), (115 : UInt8), (115 : UInt8)])), Go.DE.DS.v (Go.DE.DS.lit (ByteArray.mk #[(101 : UInt8), (113 : UInt8), (117 : UInt8), (97 : UInt8), (108 : UInt8)])), Go.DE.DS.v (Go.DE.DS.lit (ByteArray.mk #[(97 : UInt8), (100 : UInt8), (100 : UInt8), (105 : UInt8)])), Go.DE.DS.v (Go.DE.DS.lit (ByteArray.mk #[(108 : UInt8), (111 : UInt8), (97 : UInt8), (100 : UInt8)])), Go.DE.DS.v (Go.DE.DS.lit (ByteArray.mk #[(115 : UInt8), (116 : UInt8), (111 : UInt8), (114 : UInt8), (101 : UInt8)])), Go.DE.DS.v (Go.DE.DS.lit (ByteArray.mk #[(108 : UInt8), (111 : UInt8), (97 : UInt8), (100 : UInt8), (98 : UInt8)])), Go.DE.DS.v (Go.DE.DS.lit (ByteArray.mk #[(115 : UInt8), (116 : UInt8), (111 : UInt8), (114 : UInt8), (101 : UInt8), (98 : UInt8)])), Go.DE.DS.v (Go.DE.DS.lit (ByteArray.mk #[(106 : UInt8), (117 : UInt8), (109 : UInt8), (112 : UInt8)])), Go.DE.DS.v (Go.DE.DS.lit (ByteArray.mk #[(106 : UInt8), (117 : UInt8), (109 : UInt8), (112 : UInt8), (122 : UInt8)])), Go.DE.DS.v (Go.DE.DS.lit (ByteArray.mk #[(106 : UInt8), (117 : UInt8), (109 : UInt8), (112 : UInt8), (110 : UInt8), (122 : UInt8)])), Go.DE.DS.v (Go.DE.DS.lit (ByteArray.mk #[(99 : UInt8), (97 : UInt8), (108 : UInt8), (108 : UInt8)])), Go.DE.DS.v (Go.DE.DS.lit (ByteArray.mk #[(98 : UInt8), (97 : UInt8), (99 : UInt8), (107 : UInt8)])), Go.DE.DS.v (Go.DE.DS.lit (ByteArray.mk #[(116 : UInt8), (114 : UInt8), (97 : UInt8), (112 : UInt8)]))] = [(fun (l : List UInt8) => ByteArray.mk (List.toArray l)) [(104 : UInt8), (97 : UInt8), (108 : UInt8), (116 : UInt8)], (fun (l : List UInt8) => ByteArray.mk (List.toArray l)) [(109 : UInt8), (111 : UInt8), (118 : UInt8), (101 : UInt8)], (fun (l : List UInt8) => ByteArray.mk (List.toArray l)) [(115 : UInt8), (101 : UInt8), (116 : UInt8)], (fun (l : List UInt8) => ByteArray.mk (List.toArray l)) [(104 : UInt8), (105 : UInt8), (103 : UInt8), (104 : UInt8)], (fun (l : List UInt8) => ByteArray.mk (List.toArray l)) [(97 : UInt8), (100 : UInt8), (100 : UInt8)], (fun (l : List UInt8) => ByteArray.mk (List.toArray l)) [(115 : UInt8), (117 : UInt8), (98 : UInt8)], (fun (l : List UInt8) => ByteArray.mk (List.toArray l)) [(109 : UInt8), (117 : UInt8), (108 : UInt8)], (fun (l : List UInt8) => ByteArray.mk (List.toArray l)) [(100 : UInt8), (105 : UInt8), (118 : UInt8)], (fun (l : List UInt8) => ByteArray.mk (List.toArray l)) [(109 : UInt8), (111 : UInt8), (100 : UInt8)], (fun (l : List UInt8) => ByteArray.mk (List.toArray l)) [(97 : UInt8), (110 : UInt8), (100 : UInt8)], (fun (l : List UInt8) => ByteArray.mk (List.toArray l)) [(111 : UInt8), (114 : UInt8)], (fun (l : List UInt8) => ByteArray.mk (List.toArray l)) [(120 : UInt8), (111 : UInt8), (114 : UInt8)], (fun (l : List UInt8) => ByteArray.mk (List.toArray l)) [(115 : UInt8), (104 : UInt8), (108 : UInt8)], (fun (l : List UInt8) => ByteArray.mk (List.toArray l)) [(115 : UInt8), (104 : UInt8), (114 : UInt8)], (fun (l : List UInt8) => ByteArray.mk (List.toArray l)) [(108 : UInt8), (101 : UInt8), (115 : UInt8), (115 : UInt8)], (fun (l : List UInt8) => ByteArray.mk (List.toArray l)) [(101 : UInt8), (113 : UInt8), (117 : UInt8), (97 : UInt8), (108 : UInt8)], (fun (l : List UInt8) => ByteArray.mk (List.toArray l)) [(97 : UInt8), (100 : UInt8), (100 : UInt8), (105 : UInt8)], (fun (l : List UInt8) => ByteArray.mk (List.toArray l)) [(108 : UInt8), (111 : UInt8), (97 : UInt8), (100 : UInt8)], (fun (l : List UInt8) => ByteArray.mk (List.toArray l)) [(115 : UInt8), (116 : UInt8), (111 : UInt8), (114 : UInt8), (101 : UInt8)], (fun (l : List UInt8) => ByteArray.mk (List.toArray l)) [(108 : UInt8), (111 : UInt8), (97 : UInt8), (100 : UInt8), (98 : UInt8)], (fun (l : List UInt8) => ByteArray.mk (List.toArray l)) [(115 : UInt8), (116 : UInt8), (111 : UInt8), (114 : UInt8), (101 : UInt8), (98 : UInt8)], (fun (l : List UInt8) => ByteArray.mk (List.toArray l)) [(106 : UInt8), (117 : UInt8), (109 : UInt8), (112 : UInt8)], (fun (l : List UInt8) => ByteArray.mk (List.toArray l)) [(106 : UInt8), (117 : UInt8), (109 : UInt8), (112 : UInt8), (122 : UInt8)], (fun (l : List UInt8) => ByteArray.mk (List.toArray l)) [(106 : UInt8), (117 : UInt8), (109 : UInt8), (112 : UInt8), (110 : UInt8), (122 : UInt8)], (fun (l : List UInt8) => ByteArray.mk (List.toArray l)) [(99 : UInt8), (97 : UInt8), (108 : UInt8), (108 : UInt8)], (fun (l : List UInt8) => ByteArray.mk (List.toArray l)) [(98 : UInt8), (97 : UInt8), (99 : UInt8), (107 : UInt8)], (fun (l : List UInt8) => ByteArray.mk (List.toArray l)) [(116 : UInt8), (114 : UInt8), (97 : UInt8), (112 : UInt8)]]) ∧ (0 : Int) ≤ a ∧ a ≤ (27 : Int) ∧ ∀ (j : Nat), (↑j : Int) < a → (ByteArray.toList (List.getD Go.Proofs.Ytnoccknoaihjlaa.wordsB j ByteArray.empty) == ByteArray.toList w) = Bool.false) ∧ ∀ (a : Int), ((0 : Int) ≤ a ∧ a ≤ (27 : Int) ∧ ∀ (j : Nat), (↑j : Int) < a → (ByteArray.toList (List.getD Go.Proofs.Ytnoccknoaihjlaa.wordsB j ByteArray.empty) == ByteArray.toList w) = Bool.false) → (Decidable.decide (a < (↑(27 : Nat) : Int)) = Bool.true → ((0 : Int) ≤ a ∧ a < (↑(27 : Nat) : Int)) ∧ Int.toNat a < List.length Go.Proofs.Ytnoccknoaihjlaa.wordsB ∧ ((ByteArray.toList (List.getD Go.Proofs.Ytnoccknoaihjlaa.wordsB (Int.toNat a) (Go.DE.CT.dflt Go.DE.CT.str)) == ByteArray.toList w) = Bool.true → a = Go.Proofs.Ytnoccknoaihjlaa.fI w ∧ Bool.true = Go.Proofs.Ytnoccknoaihjlaa.fB w) ∧ ((ByteArray.toList (List.getD Go.Proofs.Ytnoccknoaihjlaa.wordsB (Int.toNat a) (Go.DE.CT.dflt Go.DE.CT.str)) == ByteArray.toList w) = Bool.false → Go.DE.okI64 (a + (1 : Int)) ∧ ∃ (a' : Int), (w = w ∧ a + (1 : Int) = a' ∧ Go.DE.DO.arr (9 : Nat) Go.DE.CT.str [(fun (l : List UInt8) => ByteArray.mk (List.toArray l)) [(104 : UInt8), (97 : UInt8), (108 : UInt8), (116 : UInt8)], (fun (l : List UInt8) => ByteArray.mk (List.toArray l)) [(109 : UInt8), (111 : UInt8), (118 : UInt8), (101 : UInt8)], (fun (l : List UInt8) => ByteArray.mk (List.toArray l)) [(115 : UInt8), (101 : UInt8), (116 : UInt8)], (fun (l : List UInt8) => ByteArray.mk (List.toArray l)) [(104 : UInt8), (105 : UInt8), (103 : UInt8), (104 : UInt8)], (fun (l : List UInt8) => ByteArray.mk (List.toArray l)) [(97 : UInt8), (100 : UInt8), (100 : UInt8)], (fun (l : List UInt8) => ByteArray.mk (List.toArray l)) [(115 : UInt8), (117 : UInt8), (98 : UInt8)], (fun (l : List UInt8) => ByteArray.mk (List.toArray l)) [(109 : UInt8), (117 : UInt8), (108 : UInt8)], (fun (l : List UInt8) => ByteArray.mk (List.toArray l)) [(100 : UInt8), (105 : UInt8), (118 : UInt8)], (fun (l : List UInt8) => ByteArray.mk (List.toArray l)) [(109 : UInt8), (111 : UInt8), (100 : UInt8)], (fun (l : List UInt8) => ByteArray.mk (List.toArray l)) [(97 : UInt8), (110 : UInt8), (100 : UInt8)], (fun (l : List UInt8) => ByteArray.mk (List.toArray l)) [(111 : UInt8), (114 : UInt8)], (fun (l : List UInt8) => ByteArray.mk (List.toArray l)) [(120 : UInt8), (111 : UInt8), (114 : UInt8)], (fun (l : List UInt8) => ByteArray.mk (List.toArray l)) [(115 : UInt8), (104 : UInt8), (108 : UInt8)], (fun (l : List UInt8) => ByteArray.mk (List.toArray l)) [(115 : UInt8), (104 : UInt8), (114 : UInt8)], (fun (l : List UInt8) => ByteArray.mk (List.toArray l)) [(108 : UInt8), (101 : UInt8), (115 : UInt8), (115 : UInt8)], (fun (l : List UInt8) => ByteArray.mk (List.toArray l)) [(101 : UInt8), (113 : UInt8), (117 : UInt8), (97 : UInt8), (108 : UInt8)], (fun (l : List UInt8) => ByteArray.mk (List.toArray l)) [(97 : UInt8), (100 : UInt8), (100 : UInt8), (105 : UInt8)], (fun (l : List UInt8) => ByteArray.mk (List.toArray l)) [(108 : UInt8), (111 : UInt8), (97 : UInt8), (100 : UInt8)], (fun (l : List UInt8) => ByteArray.mk (List.toArray l)) [(115 : UInt8), (116 : UInt8), (111 : UInt8), (114 : UInt8), (101 : UInt8)], (fun (l : List UInt8) => ByteArray.mk (List.toArray l)) [(108 : UInt8), (111 : UInt8), (97 : UInt8), (100 : UInt8), (98 : UInt8)], (fun (l : List UInt8) => ByteArray.mk (List.toArray l)) [(115 : UInt8), (116 : UInt8), (111 : UInt8), (114 : UInt8), (101 : UInt8), (98 : UInt8)], (fun (l : List UInt8) => ByteArray.mk (List.toArray l)) [(106 : UInt8), (117 : UInt8), (109 : UInt8), (112 : UInt8)], (fun (l : List UInt8) => ByteArray.mk (List.toArray l)) [(106 : UInt8), (117 : UInt8), (109 : UInt8), (112 : UInt8), (122 : UInt8)], (fun (l : List UInt8) => ByteArray.mk (List.toArray l)) [(106 : UInt8), (117 : UInt8), (109 : UInt8), (112 : UInt8), (110 : UInt8), (122 : UInt8)], (fun (l : List UInt8) => ByteArray.mk (List.toArray l)) [(99 : UInt8), (97 : UInt8), (108 : UInt8), (108 : UInt8)], (fun (l : List UInt8) => ByteArray.mk (List.toArray l)) [(98 : UInt8), (97 : UInt8), (99 : UInt8), (107 : UInt8)], (fun (l : List UInt8) => ByteArray.mk (List.toArray l)) [(116 : UInt8), (114 : UInt8), (97 : UInt8), (112 : UInt8)]] = Go.DE.DO.arr (9 : Nat) Go.DE.CT.str [(fun (l : List UInt8) => ByteArray.mk (List.toArray l)) [(104 : UInt8), (97 : UInt8), (108 : UInt8), (116 : UInt8)], (fun (l : List UInt8) => ByteArray.mk (List.toArray l)) [(109 : UInt8), (111 : UInt8), (118 : UInt8), (101 : UInt8)], (fun (l : List UInt8) => ByteArray.mk (List.toArray l)) [(115 : UInt8), (101 : UInt8), (116 : UInt8)], (fun (l : List UInt8) => ByteArray.mk (List.toArray l)) [(104 : UInt8), (105 : UInt8), (103 : UInt8), (104 : UInt8)], (fun (l : List UInt8) => ByteArray.mk (List.toArray l)) [(97 : UInt8), (100 : UInt8), (100 : UInt8)], (fun (l : List UInt8) => ByteArray.mk (List.toArray l)) [(115 : UInt8), (117 : UInt8), (98 : UInt8)], (fun (l : List UInt8) => ByteArray.mk (List.toArray l)) [(109 : UInt8), (117 : UInt8), (108 : UInt8)], (fun (l : List UInt8) => ByteArray.mk (List.toArray l)) [(100 : UInt8), (105 : UInt8), (118 : UInt8)], (fun (l : List UInt8) => ByteArray.mk (List.toArray l)) [(109 : UInt8), (111 : UInt8), (100 : UInt8)], (fun (l : List UInt8) => ByteArray.mk (List.toArray l)) [(97 : UInt8), (110 : UInt8), (100 : UInt8)], (fun (l : List UInt8) => ByteArray.mk (List.toArray l)) [(111 : UInt8), (114 : UInt8)], (fun (l : List UInt8) => ByteArray.mk (List.toArray l)) [(120 : UInt8), (111 : UInt8), (114 : UInt8)], (fun (l : List UInt8) => ByteArray.mk (List.toArray l)) [(115 : UInt8), (104 : UInt8), (108 : UInt8)], (fun (l : List UInt8) => ByteArray.mk (List.toArray l)) [(115 : UInt8), (104 : UInt8), (114 : UInt8)], (fun (l : List UInt8) => ByteArray.mk (List.toArray l)) [(108 : UInt8), (101 : UInt8), (115 : UInt8), (115 : UInt8)], (fun (l : List UInt8) => ByteArray.mk (List.toArray l)) [(101 : UInt8), (113 : UInt8), (117 : UInt8), (97 : UInt8), (108 : UInt8)], (fun (l : List UInt8) => ByteArray.mk (List.toArray l)) [(97 : UInt8), (100 : UInt8), (100 : UInt8), (105 : UInt8)], (fun (l : List UInt8) => ByteArray.mk (List.toArray l)) [(108 : UInt8), (111 : UInt8), (97 : UInt8), (100 : UInt8)], (fun (l : List UInt8) => ByteArray.mk (List.toArray l)) [(115 : UInt8), (116 : UInt8), (111 : UInt8), (114 : UInt8), (101 : UInt8)], (fun (l : List UInt8) => ByteArray.mk (List.toArray l)) [(108 : UInt8), (111 : UInt8), (97 : UInt8), (100 : UInt8), (98 : UInt8)], (fun (l : List UInt8) => ByteArray.mk (List.toArray l)) [(115 : UInt8), (116 : UInt8), (111 : UInt8), (114 : UInt8), (101 : UInt8), (98 : UInt8)], (fun (l : List UInt8) => ByteArray.mk (List.toArray l)) [(106 : UInt8), (117 : UInt8), (109 : UInt8), (112 : UInt8)], (fun (l : List UInt8) => ByteArray.mk (List.toArray l)) [(106 : UInt8), (117 : UInt8), (109 : UInt8), (112 : UInt8), (122 : UInt8)], (fun (l : List UInt8) => ByteArray.mk (List.toArray l)) [(106 : UInt8), (117 : UInt8), (109 : UInt8), (112 : UInt8), (110 : UInt8), (122 : UInt8)], (fun (l : List UInt8) => ByteArray.mk (List.toArray l)) [(99 : UInt8), (97 : UInt8), (108 : UInt8), (108 : UInt8)], (fun (l : List UInt8) => ByteArray.mk (List.toArray l)) [(98 : UInt8), (97 : UInt8), (99 : UInt8), (107 : UInt8)], (fun (l : List UInt8) => ByteArray.mk (List.toArray l)) [(116 : UInt8), (114 : UInt8), (97 : UInt8), (112 : UInt8)]]) ∧ ((0 : Int) ≤ a' ∧ a' ≤ (27 : Int) ∧ ∀ (j : Nat), (↑j : Int) < a' → (ByteArray.toList (List.getD Go.Proofs.Ytnoccknoaihjlaa.wordsB j ByteArray.empty) == ByteArray.toList w) = Bool.false) ∧ Int.toNat ((27 : Int) - a') < Int.toNat ((27 : Int) - a))) ∧ (Decidable.decide (a < (↑(27 : Nat) : Int)) = Bool.false → (0 : Int) = Go.Proofs.Ytnoccknoaihjlaa.fI w ∧ Bool.false = Go.Proofs.Ytnoccknoaihjlaa.fB w)) (by kernel_rfl) ?_
  refine ⟨trivial, ⟨(0 : Int), ⟨rfl, rfl, rfl⟩, Int.le_refl 0, by decide, fun j hj => absurd hj (by have : (0 : Int) ≤ (j : Int) := Int.natCast_nonneg j; exact Int.not_lt.2 this)⟩, ?_⟩
  intro (i : Int) ⟨h0, h1, hn⟩
  have h0 : 0 ≤ i := h0
  have h1 : i ≤ 27 := h1
  refine ⟨fun hlt => ?_, fun hge => ?_⟩
  · have hlt : i < 27 := of_decide_eq_true hlt
    refine ⟨⟨h0, hlt⟩, by show i.toNat < 27; omega, fun he => ?_, fun he => ?_⟩
    · have := idx_at w i h0 hlt he hn
      have h27 : idxW w < 27 := by omega
      refine ⟨?_, ?_⟩
      · simp only [fI, if_pos h27]; exact this.symm
      · simp only [fB, decide_eq_true h27]
    · refine ⟨by unfold okI64; omega, (i + 1 : Int), ⟨rfl, rfl, rfl⟩, ⟨(by omega : (0:Int) ≤ i + 1), (by omega : i + 1 ≤ 27), upto w i h0 hn he⟩, (by omega : (27 - (i + 1)).toNat < (27 - i).toNat)⟩
  · have hge : ¬ i < 27 := of_decide_eq_false hge
    have : i = 27 := by omega
    subst this
    have := idx_none w hn
    simp [fI, fB, this]
def c35 : PureC Try.prog where
  f := 35
  spec := fun args => match args with
    | [.str w] => some (none, .tup [.int .i64 (match w with | .lit w => .lit (fI w) | .sym w => .sym (fI w)), .bool (match w with | .lit w => .lit (fB w) | .sym w => .sym (fB w))])
    | _ => none
  body := hasBody_of Try.func35 (by kernel_rfl) (by kernel_rfl)
  ok := by
    intro args p d h hp
    split at h
    · rename_i w; cases h; exact (p35 w.v).congr (by simp [deqL, deq]) (by cases w <;> simp [deq, deqL])
    · cases h

def opCT : CT := .pair .str (.pair (.int .i64) (.pair (.int .i64) (.int .i64)))
def opsL : List opCT.D := (List.range 27).map fun k => ((⟨(words.getD k []).toArray⟩ : ByteArray), (forms.getD k 0, lows.getD k 0, highs.getD k 0))
def opsC : List DV := match d57 with | .agg l => l | _ => []
/-- the closure of Find -/
def c59 : CanC Try.prog where
  f := 59
  α := ByteArray × Int × Int × Int × ByteArray
  args := fun x => [.agg [.str (.sym x.1), .int .i64 (.sym x.2.1), .int .i64 (.sym x.2.2.1), .int .i64 (.sym x.2.2.2.1)], .ptr ⟨0, .lit 0, 0, 0⟩]
  hp := fun x => [(0, .cells 9 [.str (.sym x.2.2.2.2)])]
  n := 1
  rb := 1
  infer := fun a hp => match a with
    | [.agg [.str s, .int _ f, .int _ lo, .int _ hi], .ptr p] => match Go.DE.look hp p.id with
      | some (.cells _ [.str w]) => some (s.v, f.v, lo.v, hi.v, w.v)
      | _ => none
    | _ => none
  pre := fun _ => True
  res := fun x => .bool (.sym (x.1.toList == x.2.2.2.2.toList))
  hp' := fun x => [(0, .cells 9 [.str (.sym x.2.2.2.2)])]
  n' := 1
  rbn := rfl
  nn := rfl
  body := hasBody_of Try.func59 (by kernel_rfl) (by kernel_rfl)
  ok := fun x _ => can_of_exec (ct := ⟨[], []⟩) [] Try.func59 rfl rfl (by
    refine cast_goal (p := ((ByteArray.toList (Prod.fst x) == ByteArray.toList (Prod.snd (Prod.snd (Prod.snd (Prod.snd x))))) = (ByteArray.toList (Prod.fst x) == ByteArray.toList (Prod.snd (Prod.snd (Prod.snd (Prod.snd x))))) ∧ Prod.snd (Prod.snd (Prod.snd (Prod.snd x))) = Prod.snd (Prod.snd (Prod.snd (Prod.snd x)))) ∧ True) (by kernel_rfl) ?_
    simp)
def inv58 (w : ByteArray) : LInv where
  α := Int
  S := fun i => ⟨[(0, .slice ⟨0, .lit 0, 4, 0⟩ (.lit 27)), (1, .func 59 [.ptr ⟨1, .lit 0, 0, 0⟩]), (7, .int .i64 (.lit 27)), (8, .int .i64 (.sym i))], [(0, .arr 93 opCT opsL), (1, .cells 9 [.str (.sym w)])], 2⟩
  p := fun i => 0 ≤ i ∧ i ≤ 27 ∧ ∀ j : Nat, (j : Int) < i → ((wordsB.getD j ByteArray.empty).toList == w.toList) = false
  m := fun i => (27 - i).toNat

theorem ops_fst (i : Nat) (h : i < 27) : (opsL.getD i opCT.dflt).1 = wordsB.getD i ByteArray.empty := by
  have hc : i = 0 ∨ i = 1 ∨ i = 2 ∨ i = 3 ∨ i = 4 ∨ i = 5 ∨ i = 6 ∨ i = 7 ∨ i = 8 ∨ i = 9 ∨ i = 10 ∨ i = 11 ∨ i = 12 ∨ i = 13 ∨ i = 14 ∨ i = 15 ∨ i = 16 ∨ i = 17 ∨ i = 18 ∨ i = 19 ∨ i = 20 ∨ i = 21 ∨ i = 22 ∨ i = 23 ∨ i = 24 ∨ i = 25 ∨ i = 26 := by omega
  rcases hc with rfl | rfl | rfl | rfl | rfl | rfl | rfl | rfl | rfl | rfl | rfl | rfl | rfl | rfl | rfl | rfl | rfl | rfl | rfl | rfl | rfl | rfl | rfl | rfl | rfl | rfl | rfl <;> rfl
theorem p58 (w : ByteArray) : DCall Try.prog 58 [.slice ⟨0, .lit 0, 4, 0⟩ (.lit 27), .func 59 [.ptr ⟨1, .lit 0, 0, 0⟩]] [(0, .cells 93 opsC), (1, .cells 9 [.str (.sym w)])] 2 2
    (fun d st => subS 2 ⟨[(0, d)], st.hp, st.nx⟩ ⟨[(0, .int .i64 (.sym (fM w)))], [(0, .arr 93 opCT opsL), (1, .cells 9 [.str (.sym w)])], 2⟩ True) :=
  can_of_exec (ct := ⟨[], [c59]⟩) [(2, inv58 w)] Try.func58 rfl rfl (by
    refine cast_goal (p := (∃ (a : Int), ((0 : Int) = a ∧ [(Go.DE.DS.v (Go.DE.DS.lit (ByteArray.mk #[(104 : UInt8), (97 : UInt8), (108 : UInt8), (116 : UInt8)])), (0 : Int), (0 : Int), (0 : Int)), (Go.DE.DS.v (Go.DE.DS.lit (ByteArray.mk #[(109 : UInt8), (111 : UInt8), (118 : UInt8), (101 : UInt8)])), (2 : Int), (0 : Int), (0 : Int)), (Go.DE.DS.v (Go.DE.DS.lit (ByteArray.mk #[(115 : UInt8), (101 : UInt8), (116 : UInt8)])), (4 : Int), (-32768 : Int), (32767 : Int)), (Go.DE.DS.v (Go.DE.DS.lit (ByteArray.mk #[(104 : UInt8), (105 : UInt8), (103 : UInt8), (104 : UInt8)])), (4 : Int), (0 : Int), (65535 : Int)), (Go.DE.DS.v (Go.DE.DS.lit (ByteArray.mk #[(97 : UInt8), (100 : UInt8), (100 : UInt8)])), (3 : Int), (0 : Int), (0 : Int)), (Go.DE.DS.v (Go.DE.DS.lit (ByteArray.mk #[(115 : UInt8), (117 : UInt8), (98 : UInt8)])), (3 : Int), (0 : Int), (0 : Int)), (Go.DE.DS.v (Go.DE.DS.lit (ByteArray.mk #[(109 : UInt8), (117 : UInt8), (108 : UInt8)])), (3 : Int), (0 : Int), (0 : Int)), (Go.DE.DS.v (Go.DE.DS.lit (ByteArray.mk #[(100 : UInt8), (105 : UInt8), (118 : UInt8)])), (3 : Int), (0 : Int), (0 : Int)), (Go.DE.DS.v (Go.DE.DS.lit (ByteArray.mk #[(109 : UInt8), (111 : UInt8), (100 : UInt8)])), (3 : Int), (0 : Int), (0 : Int)), (Go.DE.DS.v (Go.DE.DS.lit (ByteArray.mk #[(97 : UInt8), (110 : UInt8), (100 : UInt8)])), (3 : Int), (0 : Int), (0 : Int)), (Go.DE.DS.v (Go.DE.DS.lit (ByteArray.mk #[(111 : UInt8), (114 : UInt8)])), (3 : Int), (0 : Int), (0 : Int)), (Go.DE.DS.v (Go.DE.DS.lit (ByteArray.mk #[(120 : UInt8), (111 : UInt8), (114 : UInt8)])), (3 : Int), (0 : Int), (0 : Int)), (Go.DE.DS.v (Go.DE.DS.lit (ByteArray.mk #[(115 : UInt8), (104 : UInt8), (108 : UInt8)])), (3 : Int), (0 : Int), (0 : Int)), (Go.DE.DS.v (Go.DE.DS.lit (ByteArray.mk #[(115 : UInt8), (104 : UInt8), (114 : UInt8)])), (3 : Int), (0 : Int), (0 : Int)), (Go.DE.DS.v (Go.DE.DS.lit (ByteArray.mk #[(108 : UInt8), (101 : UInt8), (115 : UInt8), (115 : UInt8)])), (3 : Int), (0 : Int), (0 : Int)), (Go.DE.DS.v (Go.DE.DS.lit (ByteArray.mk #[(101 : UInt8), (113 : UInt8), (117 : UInt8), (97 : UInt8), (108 : UInt8)])), (3 : Int), (0 : Int), (0 : Int)), (Go.DE.DS.v (Go.DE.DS.lit (ByteArray.mk #[(97 : UInt8), (100 : UInt8), (100 : UInt8), (105 : UInt8)])), (5 : Int), (-32768 : Int), (32767 : Int)), (Go.DE.DS.v (Go.DE.DS.lit (ByteArray.mk #[(108 : UInt8), (111 : UInt8), (97 : UInt8), (100 : UInt8)])), (5 : Int), (-32768 : Int), (32767 : Int)), (Go.DE.DS.v (Go.DE.DS.lit (ByteArray.mk #[(115 : UInt8), (116 : UInt8), (111 : UInt8), (114 : UInt8), (101 : UInt8)])), (5 : Int), (-32768 : Int), (32767 : Int)), (Go.DE.DS.v (Go.DE.DS.lit (ByteArray.mk #[(108 : UInt8), (111 : UInt8), (97 : UInt8), (100 : UInt8), (98 : UInt8)])), (5 : Int), (-32768 : Int), (32767 : Int)), (Go.DE.DS.v (Go.DE.DS.lit (ByteArray.mk #[(115 : UInt8), (116 : UInt8), (111 : UInt8), (114 : UInt8), (101 : UInt8), (98 : UInt8)])), (5 : Int), (-32768 : Int), (32767 : Int)), (Go.DE.DS.v (Go.DE.DS.lit (ByteArray.mk #[(106 : UInt8), (117 : UInt8), (109 : UInt8), (112 : UInt8)])), (6 : Int), (0 : Int), (4095 : Int)), (Go.DE.DS.v (Go.DE.DS.lit (ByteArray.mk #[(106 : UInt8), (117 : UInt8), (109 : UInt8), (112 : UInt8), (122 : UInt8)])), (4 : Int), (0 : Int), (4095 : Int)), (Go.DE.DS.v (Go.DE.DS.lit (ByteArray.mk #[(106 : UInt8), (117 : UInt8), (109 : UInt8), (112 : UInt8), (110 : UInt8), (122 : UInt8)])), (4 : Int), (0 : Int), (4095 : Int)), (Go.DE.DS.v (Go.DE.DS.lit (ByteArray.mk #[(99 : UInt8), (97 : UInt8), (108 : UInt8), (108 : UInt8)])), (4 : Int), (0 : Int), (4095 : Int)), (Go.DE.DS.v (Go.DE.DS.lit (ByteArray.mk #[(98 : UInt8), (97 : UInt8), (99 : UInt8), (107 : UInt8)])), (1 : Int), (0 : Int), (0 : Int)), (Go.DE.DS.v (Go.DE.DS.lit (ByteArray.mk #[(116 : UInt8), (114 : UInt8), (97 : UInt8), (112 : UInt8)])), (6 : Int), (0 : Int), (255 : Int))] = [(ByteArray.mk (List.toArray (List.getD Go.Proofs.Ytnoccknoaihjlaa.words (nat_lit 0) [])), (0 : Int), (0 : Int), (0 : Int)), (ByteArray.mk (List.toArray (List.getD Go.Proofs.Ytnoccknoaihjlaa.words (nat_lit 1) [])), (2 : Int), (0 : Int), (0 : Int)), (ByteArray.mk (List.toArray (List.getD Go.Proofs.Ytnoccknoaihjlaa.words (nat_lit 2) [])), (4 : Int), (-32768 : Int), (32767 : Int)), (ByteArray.mk (List.toArray (List.getD Go.Proofs.Ytnoccknoaihjlaa.words (nat_lit 3) [])), (4 : Int), (0 : Int), (65535 : Int)), (ByteArray.mk (List.toArray (List.getD Go.Proofs.Ytnoccknoaihjlaa.words (nat_lit 4) [])), (3 : Int), (0 : Int), (0 : Int)), (ByteArray.mk (List.toArray (List.getD Go.Proofs.Ytnoccknoaihjlaa.words (nat_lit 5) [])), (3 : Int), (0 : Int), (0 : Int)), (ByteArray.mk (List.toArray (List.getD Go.Proofs.Ytnoccknoaihjlaa.words (nat_lit 6) [])), (3 : Int), (0 : Int), (0 : Int)), (ByteArray.mk (List.toArray (List.getD Go.Proofs.Ytnoccknoaihjlaa.words (nat_lit 7) [])), (3 : Int), (0 : Int), (0 : Int)), (ByteArray.mk (List.toArray (List.getD Go.Proofs.Ytnoccknoaihjlaa.words (nat_lit 8) [])), (3 : Int), (0 : Int), (0 : Int)), (ByteArray.mk (List.toArray (List.getD Go.Proofs.Ytnoccknoaihjlaa.words (nat_lit 9) [])), (3 : Int), (0 : Int), (0 : Int)), (ByteArray.mk (List.toArray (List.getD Go.Proofs.Ytnoccknoaihjlaa.words (nat_lit 10) [])), (3 : Int), (0 : Int), (0 : Int)), (ByteArray.mk (List.toArray (List.getD Go.Proofs.Ytnoccknoaihjlaa.words (nat_lit 11) [])), (3 : Int), (0 : Int), (0 : Int)), (ByteArray.mk (List.toArray (List.getD Go.Proofs.Ytnoccknoaihjlaa.words (nat_lit 12) [])), (3 : Int), (0 : Int), (0 : Int)), (ByteArray.mk (List.toArray (List.getD Go.Proofs.Ytnoccknoaihjlaa.words (nat_lit 13) [])), (3 : Int), (0 : Int), (0 : Int)), (ByteArray.mk (List.toArray (List.getD Go.Proofs.Ytnoccknoaihjlaa.words (nat_lit 14) [])), (3 : Int), (0 : Int), (0 : Int)), (ByteArray.mk (List.toArray (List.getD Go.Proofs.Ytnoccknoaihjlaa.words (nat_lit 15) [])), (3 : Int), (0 : Int), (0 : Int)), (ByteArray.mk (List.toArray (List.getD Go.Proofs.Ytnoccknoaihjlaa.words (nat_lit 16) [])), (5 : Int), (-32768 : Int), (32767 : Int)), (ByteArray.mk (List.toArray (List.getD Go.Proofs.Ytnoccknoaihjlaa.words (nat_lit 17) [])), (5 : Int), (-32768 : Int), (32767 : Int)), (ByteArray.mk (List.toArray (List.getD Go.Proofs.Ytnoccknoaihjlaa.words (nat_lit 18) [])), (5 : Int), (-32768 : Int), (32767 : Int)), (ByteArray.mk (List.toArray (List.getD Go.Proofs.Ytnoccknoaihjlaa.words (nat_lit 19) [])), (5 : Int), (-32768 : Int), (32767 : Int)), (ByteArray.mk (List.toArray (List.getD Go.Proofs.Ytnoccknoaihjlaa.words (nat_lit 20) [])), (5 : Int), (-32768 : Int), (32767 : Int)), (ByteArray.mk (List.toArray (List.getD Go.Proofs.Ytnoccknoaihjlaa.words (nat_lit 21) [])), (6 : Int), (0 : Int), (4095 : Int)), (ByteArray.mk (List.toArray (List.getD Go.Proofs.Ytnoccknoaihjlaa.words (nat_lit 22) [])), (4 : Int), (0 : Int), (4095 : Int)), (ByteArray.mk (List.toArray (List.getD Go.Proofs.Ytnoccknoaihjlaa.words (nat_lit 23) [])), (4 : Int), (0 : Int), (4095 : Int)), (ByteArray.mk (List.toArray (List.getD Go.Proofs.Ytnoccknoaihjlaa.words (nat_lit 24) [])), (4 : Int), (0 : Int), (4095 : Int)), (ByteArray.mk (List.toArray (List.getD Go.Proofs.Ytnoccknoaihjlaa.words (nat_lit 25) [])), (1 : Int), (0 : Int), (0 : Int)), (ByteArray.mk (List.toArray (List.getD Go.Proofs.Ytnoccknoaihjlaa.words (nat_lit 26) [])), (6 : Int), (0 : Int), (255 : Int))] ∧ w = w) ∧ (0 : Int) ≤ a ∧ a ≤ (27 : Int) ∧ ∀ (j : Nat), (↑j : Int) < a → (ByteArray.toList (List.getD Go.Proofs.Ytnoccknoaihjlaa.wordsB j ByteArray.empty) == ByteArray.toList w) = Bool.false) ∧ ∀ (a : Int), ((0 : Int) ≤ a ∧ a ≤ (27 : Int) ∧ ∀ (j : Nat), (↑j : Int) < a → (ByteArray.toList (List.getD Go.Proofs.Ytnoccknoaihjlaa.wordsB j ByteArray.empty) == ByteArray.toList w) = Bool.false) → (Decidable.decide (a < (27 : Int)) = Bool.true → ((0 : Int) ≤ a ∧ a < (↑(27 : Nat) : Int)) ∧ Int.toNat a < List.length Go.Proofs.Ytnoccknoaihjlaa.opsL ∧ (Prod.fst (List.getD Go.Proofs.Ytnoccknoaihjlaa.opsL (Int.toNat a) (Go.DE.CT.dflt Go.Proofs.Ytnoccknoaihjlaa.opCT)) = Prod.fst (Prod.fst (List.getD Go.Proofs.Ytnoccknoaihjlaa.opsL (Int.toNat a) (Go.DE.CT.dflt Go.Proofs.Ytnoccknoaihjlaa.opCT)), Prod.fst (Prod.snd (List.getD Go.Proofs.Ytnoccknoaihjlaa.opsL (Int.toNat a) (Go.DE.CT.dflt Go.Proofs.Ytnoccknoaihjlaa.opCT))), Prod.fst (Prod.snd (Prod.snd (List.getD Go.Proofs.Ytnoccknoaihjlaa.opsL (Int.toNat a) (Go.DE.CT.dflt Go.Proofs.Ytnoccknoaihjlaa.opCT)))), Prod.snd (Prod.snd (Prod.snd (List.getD Go.Proofs.Ytnoccknoaihjlaa.opsL (Int.toNat a) (Go.DE.CT.dflt Go.Proofs.Ytnoccknoaihjlaa.opCT)))), w) ∧ Prod.fst (Prod.snd (List.getD Go.Proofs.Ytnoccknoaihjlaa.opsL (Int.toNat a) (Go.DE.CT.dflt Go.Proofs.Ytnoccknoaihjlaa.opCT))) = Prod.fst (Prod.snd (Prod.fst (List.getD Go.Proofs.Ytnoccknoaihjlaa.opsL (Int.toNat a) (Go.DE.CT.dflt Go.Proofs.Ytnoccknoaihjlaa.opCT)), Prod.fst (Prod.snd (List.getD Go.Proofs.Ytnoccknoaihjlaa.opsL (Int.toNat a) (Go.DE.CT.dflt Go.Proofs.Ytnoccknoaihjlaa.opCT))), Prod.fst (Prod.snd (Prod.snd (List.getD Go.Proofs.Ytnoccknoaihjlaa.opsL (Int.toNat a) (Go.DE.CT.dflt Go.Proofs.Ytnoccknoaihjlaa.opCT)))), Prod.snd (Prod.snd (Prod.snd (List.getD Go.Proofs.Ytnoccknoaihjlaa.opsL (Int.toNat a) (Go.DE.CT.dflt Go.Proofs.Ytnoccknoaihjlaa.opCT)))), w)) ∧ Prod.fst (Prod.snd (Prod.snd (List.getD Go.Proofs.Ytnoccknoaihjlaa.opsL (Int.toNat a) (Go.DE.CT.dflt Go.Proofs.Ytnoccknoaihjlaa.opCT)))) = Prod.fst (Prod.snd (Prod.snd (Prod.fst (List.getD Go.Proofs.Ytnoccknoaihjlaa.opsL (Int.toNat a) (Go.DE.CT.dflt Go.Proofs.Ytnoccknoaihjlaa.opCT)), Prod.fst (Prod.snd (List.getD Go.Proofs.Ytnoccknoaihjlaa.opsL (Int.toNat a) (Go.DE.CT.dflt Go.Proofs.Ytnoccknoaihjlaa.opCT))), Prod.fst (Prod.snd (Prod.snd (List.getD Go.Proofs.Ytnoccknoaihjlaa.opsL (Int.toNat a) (Go.DE.CT.dflt Go.Proofs.Ytnoccknoaihjlaa.opCT)))), Prod.snd (Prod.snd (Prod.snd (List.getD Go.Proofs.Ytnoccknoaihjlaa.opsL (Int.toNat a) (Go.DE.CT.dflt Go.Proofs.Ytnoccknoaihjlaa.opCT)))), w))) ∧ Prod.snd (Prod.snd (Prod.snd (List.getD Go.Proofs.Ytnoccknoaihjlaa.opsL (Int.toNat a) (Go.DE.CT.dflt Go.Proofs.Ytnoccknoaihjlaa.opCT)))) = Prod.fst (Prod.snd (Prod.snd (Prod.snd (Prod.fst (List.getD Go.Proofs.Ytnoccknoaihjlaa.opsL (Int.toNat a) (Go.DE.CT.dflt Go.Proofs.Ytnoccknoaihjlaa.opCT)), Prod.fst (Prod.snd (List.getD Go.Proofs.Ytnoccknoaihjlaa.opsL (Int.toNat a) (Go.DE.CT.dflt Go.Proofs.Ytnoccknoaihjlaa.opCT))), Prod.fst (Prod.snd (Prod.snd (List.getD Go.Proofs.Ytnoccknoaihjlaa.opsL (Int.toNat a) (Go.DE.CT.dflt Go.Proofs.Ytnoccknoaihjlaa.opCT)))), Prod.snd (Prod.snd (Prod.snd (List.getD Go.Proofs.Ytnoccknoaihjlaa.opsL (Int.toNat a) (Go.DE.CT.dflt Go.Proofs.Ytnoccknoaihjlaa.opCT)))), w)))) ∧ w = Prod.snd (Prod.snd (Prod.snd (Prod.snd (Prod.fst (List.getD Go.Proofs.Ytnoccknoaihjlaa.opsL (Int.toNat a) (Go.DE.CT.dflt Go.Proofs.Ytnoccknoaihjlaa.opCT)), Prod.fst (Prod.snd (List.getD Go.Proofs.Ytnoccknoaihjlaa.opsL (Int.toNat a) (Go.DE.CT.dflt Go.Proofs.Ytnoccknoaihjlaa.opCT))), Prod.fst (Prod.snd (Prod.snd (List.getD Go.Proofs.Ytnoccknoaihjlaa.opsL (Int.toNat a) (Go.DE.CT.dflt Go.Proofs.Ytnoccknoaihjlaa.opCT)))), Prod.snd (Prod.snd (Prod.snd (List.getD Go.Proofs.Ytnoccknoaihjlaa.opsL (Int.toNat a) (Go.DE.CT.dflt Go.Proofs.Ytnoccknoaihjlaa.opCT)))), w)))) ∧ True) ∧ ((ByteArray.toList (Prod.fst (Prod.fst (List.getD Go.Proofs.Ytnoccknoaihjlaa.opsL (Int.toNat a) (Go.DE.CT.dflt Go.Proofs.Ytnoccknoaihjlaa.opCT)), Prod.fst (Prod.snd (List.getD Go.Proofs.Ytnoccknoaihjlaa.opsL (Int.toNat a) (Go.DE.CT.dflt Go.Proofs.Ytnoccknoaihjlaa.opCT))), Prod.fst (Prod.snd (Prod.snd (List.getD Go.Proofs.Ytnoccknoaihjlaa.opsL (Int.toNat a) (Go.DE.CT.dflt Go.Proofs.Ytnoccknoaihjlaa.opCT)))), Prod.snd (Prod.snd (Prod.snd (List.getD Go.Proofs.Ytnoccknoaihjlaa.opsL (Int.toNat a) (Go.DE.CT.dflt Go.Proofs.Ytnoccknoaihjlaa.opCT)))), w)) == ByteArray.toList (Prod.snd (Prod.snd (Prod.snd (Prod.snd (Prod.fst (List.getD Go.Proofs.Ytnoccknoaihjlaa.opsL (Int.toNat a) (Go.DE.CT.dflt Go.Proofs.Ytnoccknoaihjlaa.opCT)), Prod.fst (Prod.snd (List.getD Go.Proofs.Ytnoccknoaihjlaa.opsL (Int.toNat a) (Go.DE.CT.dflt Go.Proofs.Ytnoccknoaihjlaa.opCT))), Prod.fst (Prod.snd (Prod.snd (List.getD Go.Proofs.Ytnoccknoaihjlaa.opsL (Int.toNat a) (Go.DE.CT.dflt Go.Proofs.Ytnoccknoaihjlaa.opCT)))), Prod.snd (Prod.snd (Prod.snd (List.getD Go.Proofs.Ytnoccknoaihjlaa.opsL (Int.toNat a) (Go.DE.CT.dflt Go.Proofs.Ytnoccknoaihjlaa.opCT)))), w)))))) = Bool.true → (a = Go.Proofs.Ytnoccknoaihjlaa.fM w ∧ Go.DE.DO.arr (93 : Nat) (Go.DE.CT.pair Go.DE.CT.str (Go.DE.CT.pair (Go.DE.CT.int Go.IntKind.i64) (Go.DE.CT.pair (Go.DE.CT.int Go.IntKind.i64) (Go.DE.CT.int Go.IntKind.i64)))) [(ByteArray.mk (List.toArray (List.getD Go.Proofs.Ytnoccknoaihjlaa.words (nat_lit 0) [])), (0 : Int), (0 : Int), (0 : Int)), (ByteArray.mk (List.toArray (List.getD Go.Proofs.Ytnoccknoaihjlaa.words (nat_lit 1) [])), (2 : Int), (0 : Int), (0 : Int)), (ByteArray.mk (List.toArray (List.getD Go.Proofs.Ytnoccknoaihjlaa.words (nat_lit 2) [])), (4 : Int), (-32768 : Int), (32767 : Int)), (ByteArray.mk (List.toArray (List.getD Go.Proofs.Ytnoccknoaihjlaa.words (nat_lit 3) [])), (4 : Int), (0 : Int), (65535 : Int)), (ByteArray.mk (List.toArray (List.getD Go.Proofs.Ytnoccknoaihjlaa.words (nat_lit 4) [])), (3 : Int), (0 : Int), (0 : Int)), (ByteArray.mk (List.toArray (List.getD Go.Proofs.Ytnoccknoaihjlaa.words (nat_lit 5) [])), (3 : Int), (0 : Int), (0 : Int)), (ByteArray.mk (List.toArray (List.getD Go.Proofs.Ytnoccknoaihjlaa.words (nat_lit 6) [])), (3 : Int), (0 : Int), (0 : Int)), (ByteArray.mk (List.toArray (List.getD Go.Proofs.Ytnoccknoaihjlaa.words (nat_lit 7) [])), (3 : Int), (0 : Int), (0 : Int)), (ByteArray.mk (List.toArray (List.getD Go.Proofs.Ytnoccknoaihjlaa.words (nat_lit 8) [])), (3 : Int), (0 : Int), (0 : Int)), (ByteArray.mk (List.toArray (List.getD Go.Proofs.Ytnoccknoaihjlaa.words (nat_lit 9) [])), (3 : Int), (0 : Int), (0 : Int)), (ByteArray.mk (List.toArray (List.getD Go.Proofs.Ytnoccknoaihjlaa.words (nat_lit 10) [])), (3 : Int), (0 : Int), (0 : Int)), (ByteArray.mk (List.toArray (List.getD Go.Proofs.Ytnoccknoaihjlaa.words (nat_lit 11) [])), (3 : Int), (0 : Int), (0 : Int)), (ByteArray.mk (List.toArray (List.getD Go.Proofs.Ytnoccknoaihjlaa.words (nat_lit 12) [])), (3 : Int), (0 : Int), (0 : Int)), (ByteArray.mk (List.toArray (List.getD Go.Proofs.Ytnoccknoaihjlaa.words (nat_lit 13) [])), (3 : Int), (0 : Int), (0 : Int)), (ByteArray.mk (List.toArray (List.getD Go.Proofs.Ytnoccknoaihjlaa.words (nat_lit 14) [])), (3 : Int), (0 : Int), (0 : Int)), (ByteArray.mk (List.toArray (List.getD Go.Proofs.Ytnoccknoaihjlaa.words (nat_lit 15) [])), (3 : Int), (0 : Int), (0 : Int)), (ByteArray.mk (List.toArray (List.getD Go.Proofs.Ytnoccknoaihjlaa.words (nat_lit 16) [])), (5 : Int), (-32768 : Int), (32767 : Int)), (ByteArray.mk (List.toArray (List.getD Go.Proofs.Ytnoccknoaihjlaa.words (nat_lit 17) [])), (5 : Int), (-32768 : Int), (32767 : Int)), (ByteArray.mk (List.toArray (List.getD Go.Proofs.Ytnoccknoaihjlaa.words (nat_lit 18) [])), (5 : Int), (-32768 : Int), (32767 : Int)), (ByteArray.mk (List.toArray (List.getD Go.Proofs.Ytnoccknoaihjlaa.words (nat_lit 19) [])), (5 : Int), (-32768 : Int), (32767 : Int)), (ByteArray.mk (List.toArray (List.getD Go.Proofs.Ytnoccknoaihjlaa.words (nat_lit 20) [])), (5 : Int), (-32768 : Int), (32767 : Int)), (ByteArray.mk (List.toArray (List.getD Go.Proofs.Ytnoccknoaihjlaa.words (nat_lit 21) [])), (6 : Int), (0 : Int), (4095 : Int)), (ByteArray.mk (List.toArray (List.getD Go.Proofs.Ytnoccknoaihjlaa.words (nat_lit 22) [])), (4 : Int), (0 : Int), (4095 : Int)), (ByteArray.mk (List.toArray (List.getD Go.Proofs.Ytnoccknoaihjlaa.words (nat_lit 23) [])), (4 : Int), (0 : Int), (4095 : Int)), (ByteArray.mk (List.toArray (List.getD Go.Proofs.Ytnoccknoaihjlaa.words (nat_lit 24) [])), (4 : Int), (0 : Int), (4095 : Int)), (ByteArray.mk (List.toArray (List.getD Go.Proofs.Ytnoccknoaihjlaa.words (nat_lit 25) [])), (1 : Int), (0 : Int), (0 : Int)), (ByteArray.mk (List.toArray (List.getD Go.Proofs.Ytnoccknoaihjlaa.words (nat_lit 26) [])), (6 : Int), (0 : Int), (255 : Int))] = Go.DE.DO.arr (93 : Nat) (Go.DE.CT.pair Go.DE.CT.str (Go.DE.CT.pair (Go.DE.CT.int Go.IntKind.i64) (Go.DE.CT.pair (Go.DE.CT.int Go.IntKind.i64) (Go.DE.CT.int Go.IntKind.i64)))) [(ByteArray.mk (List.toArray (List.getD Go.Proofs.Ytnoccknoaihjlaa.words (nat_lit 0) [])), (0 : Int), (0 : Int), (0 : Int)), (ByteArray.mk (List.toArray (List.getD Go.Proofs.Ytnoccknoaihjlaa.words (nat_lit 1) [])), (2 : Int), (0 : Int), (0 : Int)), (ByteArray.mk (List.toArray (List.getD Go.Proofs.Ytnoccknoaihjlaa.words (nat_lit 2) [])), (4 : Int), (-32768 : Int), (32767 : Int)), (ByteArray.mk (List.toArray (List.getD Go.Proofs.Ytnoccknoaihjlaa.words (nat_lit 3) [])), (4 : Int), (0 : Int), (65535 : Int)), (ByteArray.mk (List.toArray (List.getD Go.Proofs.Ytnoccknoaihjlaa.words (nat_lit 4) [])), (3 : Int), (0 : Int), (0 : Int)), (ByteArray.mk (List.toArray (List.getD Go.Proofs.Ytnoccknoaihjlaa.words (nat_lit 5) [])), (3 : Int), (0 : Int), (0 : Int)), (ByteArray.mk (List.toArray (List.getD Go.Proofs.Ytnoccknoaihjlaa.words (nat_lit 6) [])), (3 : Int), (0 : Int), (0 : Int)), (ByteArray.mk (List.toArray (List.getD Go.Proofs.Ytnoccknoaihjlaa.words (nat_lit 7) [])), (3 : Int), (0 : Int), (0 : Int)), (ByteArray.mk (List.toArray (List.getD Go.Proofs.Ytnoccknoaihjlaa.words (nat_lit 8) [])), (3 : Int), (0 : Int), (0 : Int)), (ByteArray.mk (List.toArray (List.getD Go.Proofs.Ytnoccknoaihjlaa.words (nat_lit 9) [])), (3 : Int), (0 : Int), (0 : Int)), (ByteArray.mk (List.toArray (List.getD Go.Proofs.Ytnoccknoaihjlaa.words (nat_lit 10) [])), (3 : Int), (0 : Int), (0 : Int)), (ByteArray.mk (List.toArray (List.getD Go.Proofs.Ytnoccknoaihjlaa.words (nat_lit 11) [])), (3 : Int), (0 : Int), (0 : Int)), (ByteArray.mk (List.toArray (List.getD Go.Proofs.Ytnoccknoaihjlaa.words (nat_lit 12) [])), (3 : Int), (0 : Int), (0 : Int)), (ByteArray.mk (List.toArray (List.getD Go.Proofs.Ytnoccknoaihjlaa.words (nat_lit 13) [])), (3 : Int), (0 : Int), (0 : Int)), (ByteArray.mk (List.toArray (List.getD Go.Proofs.Ytnoccknoaihjlaa.words (nat_lit 14) [])), (3 : Int), (0 : Int), (0 : Int)), (ByteArray.mk (List.toArray (List.getD Go.Proofs.Ytnoccknoaihjlaa.words (nat_lit 15) [])), (3 : Int), (0 : Int), (0 : Int)), (ByteArray.mk (List.toArray (List.getD Go.Proofs.Ytnoccknoaihjlaa.words (nat_lit 16) [])), (5 : Int), (-32768 : Int), (32767 : Int)), (ByteArray.mk (List.toArray (List.getD Go.Proofs.Ytnoccknoaihjlaa.words (nat_lit 17) [])), (5 : Int), (-32768 : Int), (32767 : Int)), (ByteArray.mk (List.toArray (List.getD Go.Proofs.Ytnoccknoaihjlaa.words (nat_lit 18) [])), (5 : Int), (-32768 : Int), (32767 : Int)), (ByteArray.mk (List.toArray (List.getD Go.Proofs.Ytnoccknoaihjlaa.words (nat_lit 19) [])), (5 : Int), (-32768 : Int), (32767 : Int)), (ByteArray.mk (List.toArray (List.getD Go.Proofs.Ytnoccknoaihjlaa.words (nat_lit 20) [])), (5 : Int), (-32768 : Int), (32767 : Int)), (ByteArray.mk (List.toArray (List.getD Go.Proofs.Ytnoccknoaihjlaa.words (nat_lit 21) [])), (6 : Int), (0 : Int), (4095 : Int)), (ByteArray.mk (List.toArray (List.getD Go.Proofs.Ytnoccknoaihjlaa.words (nat_lit 22) [])), (4 : Int), (0 : Int), (4095 : Int)), (ByteArray.mk (List.toArray (List.getD Go.Proofs.Ytnoccknoaihjlaa.words (nat_lit 23) [])), (4 : Int), (0 : Int), (4095 : Int)), (ByteArray.mk (List.toArray (List.getD Go.Proofs.Ytnoccknoaihjlaa.words (nat_lit 24) [])), (4 : Int), (0 : Int), (4095 : Int)), (ByteArray.mk (List.toArray (List.getD Go.Proofs.Ytnoccknoaihjlaa.words (nat_lit 25) [])), (1 : Int), (0 : Int), (0 : Int)), (ByteArray.mk (List.toArray (List.getD Go.Proofs.Ytnoccknoaihjlaa.words (nat_lit 26) [])), (6 : Int), (0 : Int), (255 : Int))] ∧ w = w) ∧ True) ∧ ((ByteArray.toList (Prod.fst (Prod.fst (List.getD Go.Proofs.Ytnoccknoaihjlaa.opsL (Int.toNat a) (Go.DE.CT.dflt Go.Proofs.Ytnoccknoaihjlaa.opCT)), Prod.fst (Prod.snd (List.getD Go.Proofs.Ytnoccknoaihjlaa.opsL (Int.toNat a) (Go.DE.CT.dflt Go.Proofs.Ytnoccknoaihjlaa.opCT))), Prod.fst (Prod.snd (Prod.snd (List.getD Go.Proofs.Ytnoccknoaihjlaa.opsL (Int.toNat a) (Go.DE.CT.dflt Go.Proofs.Ytnoccknoaihjlaa.opCT)))), Prod.snd (Prod.snd (Prod.snd (List.getD Go.Proofs.Ytnoccknoaihjlaa.opsL (Int.toNat a) (Go.DE.CT.dflt Go.Proofs.Ytnoccknoaihjlaa.opCT)))), w)) == ByteArray.toList (Prod.snd (Prod.snd (Prod.snd (Prod.snd (Prod.fst (List.getD Go.Proofs.Ytnoccknoaihjlaa.opsL (Int.toNat a) (Go.DE.CT.dflt Go.Proofs.Ytnoccknoaihjlaa.opCT)), Prod.fst (Prod.snd (List.getD Go.Proofs.Ytnoccknoaihjlaa.opsL (Int.toNat a) (Go.DE.CT.dflt Go.Proofs.Ytnoccknoaihjlaa.opCT))), Prod.fst (Prod.snd (Prod.snd (List.getD Go.Proofs.Ytnoccknoaihjlaa.opsL (Int.toNat a) (Go.DE.CT.dflt Go.Proofs.Ytnoccknoaihjlaa.opCT)))), Prod.snd (Prod.snd (Prod.snd (List.getD Go.Proofs.Ytnoccknoaihjlaa.opsL (Int.toNat a) (Go.DE.CT.dflt Go.Proofs.Ytnoccknoaihjlaa.opCT)))), w)))))) = Bool.false → Go.DE.okI64 (a + (1 : Int)) ∧ ∃ (a' : Int), (a + (1 : Int) = a' ∧ Go.DE.DO.arr (93 : Nat) (Go.DE.CT.pair Go.DE.CT.str (Go.DE.CT.pair (Go.DE.CT.int Go.IntKind.i64) (Go.DE.CT.pair (Go.DE.CT.int Go.IntKind.i64) (Go.DE.CT.int Go.IntKind.i64)))) [(ByteArray.mk (List.toArray (List.getD Go.Proofs.Ytnoccknoaihjlaa.words (nat_lit 0) [])), (0 : Int), (0 : Int), (0 : Int)), (ByteArray.mk (List.toArray (List.getD Go.Proofs.Ytnoccknoaihjlaa.words (nat_lit 1) [])), (2 : Int), (0 : Int), (0 : Int)), (ByteArray.mk (List.toArray (List.getD Go.Proofs.Ytnoccknoaihjlaa.words (nat_lit 2) [])), (4 : Int), (-32768 : Int), (32767 : Int)), (ByteArray.mk (List.toArray (List.getD Go.Proofs.Ytnoccknoaihjlaa.words (nat_lit 3) [])), (4 : Int), (0 : Int), (65535 : Int)), (ByteArray.mk (List.toArray (List.getD Go.Proofs.Ytnoccknoaihjlaa.words (nat_lit 4) [])), (3 : Int), (0 : Int), (0 : Int)), (ByteArray.mk (List.toArray (List.getD Go.Proofs.Ytnoccknoaihjlaa.words (nat_lit 5) [])), (3 : Int), (0 : Int), (0 : Int)), (ByteArray.mk (List.toArray (List.getD Go.Proofs.Ytnoccknoaihjlaa.words (nat_lit 6) [])), (3 : Int), (0 : Int), (0 : Int)), (ByteArray.mk (List.toArray (List.getD Go.Proofs.Ytnoccknoaihjlaa.words (nat_lit 7) [])), (3 : Int), (0 : Int), (0 : Int)), (ByteArray.mk (List.toArray (List.getD Go.Proofs.Ytnoccknoaihjlaa.words (nat_lit 8) [])), (3 : Int), (0 : Int), (0 : Int)), (ByteArray.mk (List.toArray (List.getD Go.Proofs.Ytnoccknoaihjlaa.words (nat_lit 9) [])), (3 : Int), (0 : Int), (0 : Int)), (ByteArray.mk (List.toArray (List.getD Go.Proofs.Ytnoccknoaihjlaa.words (nat_lit 10) [])), (3 : Int), (0 : Int), (0 : Int)), (ByteArray.mk (List.toArray (List.getD Go.Proofs.Ytnoccknoaihjlaa.words (nat_lit 11) [])), (3 : Int), (0 : Int), (0 : Int)), (ByteArray.mk (List.toArray (List.getD Go.Proofs.Ytnoccknoaihjlaa.words (nat_lit 12) [])), (3 : Int), (0 : Int), (0 : Int)), (ByteArray.mk (List.toArray (List.getD Go.Proofs.Ytnoccknoaihjlaa.words (nat_lit 13) [])), (3 : Int), (0 : Int), (0 : Int)), (ByteArray.mk (List.toArray (List.getD Go.Proofs.Ytnoccknoaihjlaa.words (nat_lit 14) [])), (3 : Int), (0 : Int), (0 : Int)), (ByteArray.mk (List.toArray (List.getD Go.Proofs.Ytnoccknoaihjlaa.words (nat_lit 15) [])), (3 : Int), (0 : Int), (0 : Int)), (ByteArray.mk (List.toArray (List.getD Go.Proofs.Ytnoccknoaihjlaa.words (nat_lit 16) [])), (5 : Int), (-32768 : Int), (32767 : Int)), (ByteArray.mk (List.toArray (List.getD Go.Proofs.Ytnoccknoaihjlaa.words (nat_lit 17) [])), (5 : Int), (-32768 : Int), (32767 : Int)), (ByteArray.mk (List.toArray (List.getD Go.Proofs.Ytnoccknoaihjlaa.words (nat_lit 18) [])), (5 : Int), (-32768 : Int), (32767 : Int)), (ByteArray.mk (List.toArray (List.getD Go.Proofs.Ytnoccknoaihjlaa.words (nat_lit 19) [])), (5 : Int), (-32768 : Int), (32767 : Int)), (ByteArray.mk (List.toArray (List.getD Go.Proofs.Ytnoccknoaihjlaa.words (nat_lit 20) [])), (5 : Int), (-32768 : Int), (32767 : Int)), (ByteArray.mk (List.toArray (List.getD Go.Proofs.Ytnoccknoaihjlaa.words (nat_lit 21) [])), (6 : Int), (0 : Int), (4095 : Int)), (ByteArray.mk (List.toArray (List.getD Go.Proofs.Ytnoccknoaihjlaa.words (nat_lit 22) [])), (4 : Int), (0 : Int), (4095 : Int)), (ByteArray.mk (List.toArray (List.getD Go.Proofs.Ytnoccknoaihjlaa.words (nat_lit 23) [])), (4 : Int), (0 : Int), (4095 : Int)), (ByteArray.mk (List.toArray (List.getD Go.Proofs.Ytnoccknoaihjlaa.words (nat_lit 24) [])), (4 : Int), (0 : Int), (4095 : Int)), (ByteArray.mk (List.toArray (List.getD Go.Proofs.Ytnoccknoaihjlaa.words (nat_lit 25) [])), (1 : Int), (0 : Int), (0 : Int)), (ByteArray.mk (List.toArray (List.getD Go.Proofs.Ytnoccknoaihjlaa.words (nat_lit 26) [])), (6 : Int), (0 : Int), (255 : Int))] = Go.DE.DO.arr (93 : Nat) (Go.DE.CT.pair Go.DE.CT.str (Go.DE.CT.pair (Go.DE.CT.int Go.IntKind.i64) (Go.DE.CT.pair (Go.DE.CT.int Go.IntKind.i64) (Go.DE.CT.int Go.IntKind.i64)))) [(ByteArray.mk (List.toArray (List.getD Go.Proofs.Ytnoccknoaihjlaa.words (nat_lit 0) [])), (0 : Int), (0 : Int), (0 : Int)), (ByteArray.mk (List.toArray (List.getD Go.Proofs.Ytnoccknoaihjlaa.words (nat_lit 1) [])), (2 : Int), (0 : Int), (0 : Int)), (ByteArray.mk (List.toArray (List.getD Go.Proofs.Ytnoccknoaihjlaa.words (nat_lit 2) [])), (4 : Int), (-32768 : Int), (32767 : Int)), (ByteArray.mk (List.toArray (List.getD Go.Proofs.Ytnoccknoaihjlaa.words (nat_lit 3) [])), (4 : Int), (0 : Int), (65535 : Int)), (ByteArray.mk (List.toArray (List.getD Go.Proofs.Ytnoccknoaihjlaa.words (nat_lit 4) [])), (3 : Int), (0 : Int), (0 : Int)), (ByteArray.mk (List.toArray (List.getD Go.Proofs.Ytnoccknoaihjlaa.words (nat_lit 5) [])), (3 : Int), (0 : Int), (0 : Int)), (ByteArray.mk (List.toArray (List.getD Go.Proofs.Ytnoccknoaihjlaa.words (nat_lit 6) [])), (3 : Int), (0 : Int), (0 : Int)), (ByteArray.mk (List.toArray (List.getD Go.Proofs.Ytnoccknoaihjlaa.words (nat_lit 7) [])), (3 : Int), (0 : Int), (0 : Int)), (ByteArray.mk (List.toArray (List.getD Go.Proofs.Ytnoccknoaihjlaa.words (nat_lit 8) [])), (3 : Int), (0 : Int), (0 : Int)), (ByteArray.mk (List.toArray (List.getD Go.Proofs.Ytnoccknoaihjlaa.words (nat_lit 9) [])), (3 : Int), (0 : Int), (0 : Int)), (ByteArray.mk (List.toArray (List.getD Go.Proofs.Ytnoccknoaihjlaa.words (nat_lit 10) [])), (3 : Int), (0 : Int), (0 : Int)), (ByteArray.mk (List.toArray (List.getD Go.Proofs.Ytnoccknoaihjlaa.words (nat_lit 11) [])), (3 : Int), (0 : Int), (0 : Int)), (ByteArray.mk (List.toArray (List.getD Go.Proofs.Ytnoccknoaihjlaa.words (nat_lit 12) [])), (3 : Int), (0 : Int), (0 : Int)), (ByteArray.mk (List.toArray (List.getD Go.Proofs.Ytnoccknoaihjlaa.words (nat_lit 13) [])), (3 : Int), (0 : Int), (0 : Int)), (ByteArray.mk (List.toArray (List.getD Go.Proofs.Ytnoccknoaihjlaa.words (nat_lit 14) [])), (3 : Int), (0 : Int), (0 : Int)), (ByteArray.mk (List.toArray (List.getD Go.Proofs.Ytnoccknoaihjlaa.words (nat_lit 15) [])), (3 : Int), (0 : Int), (0 : Int)), (ByteArray.mk (List.toArray (List.getD Go.Proofs.Ytnoccknoaihjlaa.words (nat_lit 16) [])), (5 : Int), (-32768 : Int), (32767 : Int)), (ByteArray.mk (List.toArray (List.getD Go.Proofs.Ytnoccknoaihjlaa.words (nat_lit 17) [])), (5 : Int), (-32768 : Int), (32767 : Int)), (ByteArray.mk (List.toArray (List.getD Go.Proofs.Ytnoccknoaihjlaa.words (nat_lit 18) [])), (5 : Int), (-32768 : Int), (32767 : Int)), (ByteArray.mk (List.toArray (List.getD Go.Proofs.Ytnoccknoaihjlaa.words (nat_lit 19) [])), (5 : Int), (-32768 : Int), (32767 : Int)), (ByteArray.mk (List.toArray (List.getD Go.Proofs.Ytnoccknoaihjlaa.words (nat_lit 20) [])), (5 : Int), (-32768 : Int), (32767 : Int)), (ByteArray.mk (List.toArray (List.getD Go.Proofs.Ytnoccknoaihjlaa.words (nat_lit 21) [])), (6 : Int), (0 : Int), (4095 : Int)), (ByteArray.mk (List.toArray (List.getD Go.Proofs.Ytnoccknoaihjlaa.words (nat_lit 22) [])), (4 : Int), (0 : Int), (4095 : Int)), (ByteArray.mk (List.toArray (List.getD Go.Proofs.Ytnoccknoaihjlaa.words (nat_lit 23) [])), (4 : Int), (0 : Int), (4095 : Int)), (ByteArray.mk (List.toArray (List.getD Go.Proofs.Ytnoccknoaihjlaa.words (nat_lit 24) [])), (4 : Int), (0 : Int), (4095 : Int)), (ByteArray.mk (List.toArray (List.getD Go.Proofs.Ytnoccknoaihjlaa.words (nat_lit 25) [])), (1 : Int), (0 : Int), (0 : Int)), (ByteArray.mk (List.toArray (List.getD Go.Proofs.Ytnoccknoaihjlaa.words (nat_lit 26) [])), (6 : Int), (0 : Int), (255 : Int))] ∧ w = w) ∧ ((0 : Int) ≤ a' ∧ a' ≤ (27 : Int) ∧ ∀ (j : Nat), (↑j : Int) < a' → (ByteArray.toList (List.getD Go.Proofs.Ytnoccknoaihjlaa.wordsB j ByteArray.empty) == ByteArray.toList w) = Bool.false) ∧ Int.toNat ((27 : Int) - a') < Int.toNat ((27 : Int) - a))) ∧ (Decidable.decide (a < (27 : Int)) = Bool.false → ((-1 : Int) = Go.Proofs.Ytnoccknoaihjlaa.fM w ∧ Go.DE.DO.arr (93 : Nat) (Go.DE.CT.pair Go.DE.CT.str (Go.DE.CT.pair (Go.DE.CT.int Go.IntKind.i64) (Go.DE.CT.pair (Go.DE.CT.int Go.IntKind.i64) (Go.DE.CT.int Go.IntKind.i64)))) [(ByteArray.mk (List.toArray (List.getD Go.Proofs.Ytnoccknoaihjlaa.words (nat_lit 0) [])), (0 : Int), (0 : Int), (0 : Int)), (ByteArray.mk (List.toArray (List.getD Go.Proofs.Ytnoccknoaihjlaa.words (nat_lit 1) [])), (2 : Int), (0 : Int), (0 : Int)), (ByteArray.mk (List.toArray (List.getD Go.Proofs.Ytnoccknoaihjlaa.words (nat_lit 2) [])), (4 : Int), (-32768 : Int), (32767 : Int)), (ByteArray.mk (List.toArray (List.getD Go.Proofs.Ytnoccknoaihjlaa.words (nat_lit 3) [])), (4 : Int), (0 : Int), (65535 : Int)), (ByteArray.mk (List.toArray (List.getD Go.Proofs.Ytnoccknoaihjlaa.words (nat_lit 4) [])), (3 : Int), (0 : Int), (0 : Int)), (ByteArray.mk (List.toArray (List.getD Go.Proofs.Ytnoccknoaihjlaa.words (nat_lit 5) [])), (3 : Int), (0 : Int), (0 : Int)), (ByteArray.mk (List.toArray (List.getD Go.Proofs.Ytnoccknoaihjlaa.words (nat_lit 6) [])), (3 : Int), (0 : Int), (0 : Int)), (ByteArray.mk (List.toArray (List.getD Go.Proofs.Ytnoccknoaihjlaa.words (nat_lit 7) [])), (3 : Int), (0 : Int), (0 : Int)), (ByteArray.mk (List.toArray (List.getD Go.Proofs.Ytnoccknoaihjlaa.words (nat_lit 8) [])), (3 : Int), (0 : Int), (0 : Int)), (ByteArray.mk (List.toArray (List.getD Go.Proofs.Ytnoccknoaihjlaa.words (nat_lit 9) [])), (3 : Int), (0 : Int), (0 : Int)), (ByteArray.mk (List.toArray (List.getD Go.Proofs.Ytnoccknoaihjlaa.words (nat_lit 10) [])), (3 : Int), (0 : Int), (0 : Int)), (ByteArray.mk (List.toArray (List.getD Go.Proofs.Ytnoccknoaihjlaa.words (nat_lit 11) [])), (3 : Int), (0 : Int), (0 : Int)), (ByteArray.mk (List.toArray (List.getD Go.Proofs.Ytnoccknoaihjlaa.words (nat_lit 12) [])), (3 : Int), (0 : Int), (0 : Int)), (ByteArray.mk (List.toArray (List.getD Go.Proofs.Ytnoccknoaihjlaa.words (nat_lit 13) [])), (3 : Int), (0 : Int), (0 : Int)), (ByteArray.mk (List.toArray (List.getD Go.Proofs.Ytnoccknoaihjlaa.words (nat_lit 14) [])), (3 : Int), (0 : Int), (0 : Int)), (ByteArray.mk (List.toArray (List.getD Go.Proofs.Ytnoccknoaihjlaa.words (nat_lit 15) [])), (3 : Int), (0 : Int), (0 : Int)), (ByteArray.mk (List.toArray (List.getD Go.Proofs.Ytnoccknoaihjlaa.words (nat_lit 16) [])), (5 : Int), (-32768 : Int), (32767 : Int)), (ByteArray.mk (List.toArray (List.getD Go.Proofs.Ytnoccknoaihjlaa.words (nat_lit 17) [])), (5 : Int), (-32768 : Int), (32767 : Int)), (ByteArray.mk (List.toArray (List.getD Go.Proofs.Ytnoccknoaihjlaa.words (nat_lit 18) [])), (5 : Int), (-32768 : Int), (32767 : Int)), (ByteArray.mk (List.toArray (List.getD Go.Proofs.Ytnoccknoaihjlaa.words (nat_lit 19) [])), (5 : Int), (-32768 : Int), (32767 : Int)), (ByteArray.mk (List.toArray (List.getD Go.Proofs.Ytnoccknoaihjlaa.words (nat_lit 20) [])), (5 : Int), (-32768 : Int), (32767 : Int)), (ByteArray.mk (List.toArray (List.getD Go.Proofs.Ytnoccknoaihjlaa.words (nat_lit 21) [])), (6 : Int), (0 : Int), (4095 : Int)), (ByteArray.mk (List.toArray (List.getD Go.Proofs.Ytnoccknoaihjlaa.words (nat_lit 22) [])), (4 : Int), (0 : Int), (4095 : Int)), (ByteArray.mk (List.toArray (List.getD Go.Proofs.Ytnoccknoaihjlaa.words (nat_lit 23) [])), (4 : Int), (0 : Int), (4095 : Int)), (ByteArray.mk (List.toArray (List.getD Go.Proofs.Ytnoccknoaihjlaa.words (nat_lit 24) [])), (4 : Int), (0 : Int), (4095 : Int)), (ByteArray.mk (List.toArray (List.getD Go.Proofs.Ytnoccknoaihjlaa.words (nat_lit 25) [])), (1 : Int), (0 : Int), (0 : Int)), (ByteArray.mk (List.toArray (List.getD Go.Proofs.Ytnoccknoaihjlaa.words (nat_lit 26) [])), (6 : Int), (0 : Int), (255 : Int))] = Go.DE.DO.arr (93 : Nat) (Go.DE.CT.pair Go.DE.CT.str (Go.DE.CT.pair (Go.DE.CT.int Go.IntKind.i64) (Go.DE.CT.pair (Go.DE.CT.int Go.IntKind.i64) (Go.DE.CT.int Go.IntKind.i64)))) [(ByteArray.mk (List.toArray (List.getD Go.Proofs.Ytnoccknoaihjlaa.words (nat_lit 0) [])), (0 : Int), (0 : Int), (0 : Int)), (ByteArray.mk (List.toArray (List.getD Go.Proofs.Ytnoccknoaihjlaa.words (nat_lit 1) [])), (2 : Int), (0 : Int), (0 : Int)), (ByteArray.mk (List.toArray (List.getD Go.Proofs.Ytnoccknoaihjlaa.words (nat_lit 2) [])), (4 : Int), (-32768 : Int), (32767 : Int)), (ByteArray.mk (List.toArray (List.getD Go.Proofs.Ytnoccknoaihjlaa.words (nat_lit 3) [])), (4 : Int), (0 : Int), (65535 : Int)), (ByteArray.mk (List.toArray (List.getD Go.Proofs.Ytnoccknoaihjlaa.words (nat_lit 4) [])), (3 : Int), (0 : Int), (0 : Int)), (ByteArray.mk (List.toArray (List.getD Go.Proofs.Ytnoccknoaihjlaa.words (nat_lit 5) [])), (3 : Int), (0 : Int), (0 : Int)), (ByteArray.mk (List.toArray (List.getD Go.Proofs.Ytnoccknoaihjlaa.words (nat_lit 6) [])), (3 : Int), (0 : Int), (0 : Int)), (ByteArray.mk (List.toArray (List.getD Go.Proofs.Ytnoccknoaihjlaa.words (nat_lit 7) [])), (3 : Int), (0 : Int), (0 : Int)), (ByteArray.mk (List.toArray (List.getD Go.Proofs.Ytnoccknoaihjlaa.words (nat_lit 8) [])), (3 : Int), (0 : Int), (0 : Int)), (ByteArray.mk (List.toArray (List.getD Go.Proofs.Ytnoccknoaihjlaa.words (nat_lit 9) [])), (3 : Int), (0 : Int), (0 : Int)), (ByteArray.mk (List.toArray (List.getD Go.Proofs.Ytnoccknoaihjlaa.words (nat_lit 10) [])), (3 : Int), (0 : Int), (0 : Int)), (ByteArray.mk (List.toArray (List.getD Go.Proofs.Ytnoccknoaihjlaa.words (nat_lit 11) [])), (3 : Int), (0 : Int), (0 : Int)), (ByteArray.mk (List.toArray (List.getD Go.Proofs.Ytnoccknoaihjlaa.words (nat_lit 12) [])), (3 : Int), (0 : Int), (0 : Int)), (ByteArray.mk (List.toArray (List.getD Go.Proofs.Ytnoccknoaihjlaa.words (nat_lit 13) [])), (3 : Int), (0 : Int), (0 : Int)), (ByteArray.mk (List.toArray (List.getD Go.Proofs.Ytnoccknoaihjlaa.words (nat_lit 14) [])), (3 : Int), (0 : Int), (0 : Int)), (ByteArray.mk (List.toArray (List.getD Go.Proofs.Ytnoccknoaihjlaa.words (nat_lit 15) [])), (3 : Int), (0 : Int), (0 : Int)), (ByteArray.mk (List.toArray (List.getD Go.Proofs.Ytnoccknoaihjlaa.words (nat_lit 16) [])), (5 : Int), (-32768 : Int), (32767 : Int)), (ByteArray.mk (List.toArray (List.getD Go.Proofs.Ytnoccknoaihjlaa.words (nat_lit 17) [])), (5 : Int), (-32768 : Int), (32767 : Int)), (ByteArray.mk (List.toArray (List.getD Go.Proofs.Ytnoccknoaihjlaa.words (nat_lit 18) [])), (5 : Int), (-32768 : Int), (32767 : Int)), (ByteArray.mk (List.toArray (List.getD Go.Proofs.Ytnoccknoaihjlaa.words (nat_lit 19) [])), (5 : Int), (-32768 : Int), (32767 : Int)), (ByteArray.mk (List.toArray (List.getD Go.Proofs.Ytnoccknoaihjlaa.words (nat_lit 20) [])), (5 : Int), (-32768 : Int), (32767 : Int)), (ByteArray.mk (List.toArray (List.getD Go.Proofs.Ytnoccknoaihjlaa.words (nat_lit 21) [])), (6 : Int), (0 : Int), (4095 : Int)), (ByteArray.mk (List.toArray (List.getD Go.Proofs.Ytnoccknoaihjlaa.words (nat_lit 22) [])), (4 : Int), (0 : Int), (4095 : Int)), (ByteArray.mk (List.toArray (List.getD Go.Proofs.Ytnoccknoaihjlaa.words (nat_lit 23) [])), (4 : Int), (0 : Int), (4095 : Int)), (ByteArray.mk (List.toArray (List.getD Go.Proofs.Ytnoccknoaihjlaa.words (nat_lit 24) [])), (4 : Int), (0 : Int), (4095 : Int)), (ByteArray.mk (List.toArray (List.getD Go.Proofs.Ytnoccknoaihjlaa.words (nat_lit 25) [])), (1 : Int), (0 : Int), (0 : Int)), (ByteArray.mk (List.toArray (List.getD Go.Proofs.Ytnoccknoaihjlaa.words (nat_lit 26) [])), (6 : Int), (0 : Int), (255 : Int))] ∧ w = w) ∧ True)) (by kernel_rfl) ?_
    refine ⟨⟨(0 : Int), ⟨rfl, rfl, rfl⟩, Int.le_refl 0, by decide, fun j hj => absurd hj (by have : (0 : Int) ≤ (j : Int) := Int.natCast_nonneg j; exact Int.not_lt.2 this)⟩, ?_⟩
    intro (i : Int) ⟨h0, h1, hn⟩
    have h0 : 0 ≤ i := h0
    have h1 : i ≤ 27 := h1
    refine ⟨fun hlt => ?_, fun hge => ?_⟩
    · have hlt : i < 27 := of_decide_eq_true hlt
      have hfst := ops_fst i.toNat (by omega)
      refine ⟨⟨h0, hlt⟩, by show i.toNat < 27; omega, ⟨rfl, rfl, rfl, rfl, rfl, trivial⟩, fun he => ?_, fun he => ?_⟩
      · have he : ((opsL.getD i.toNat opCT.dflt).1.toList == w.toList) = true := he
        rw [hfst] at he
        have := idx_at w i h0 hlt he hn
        have h27 : idxW w < 27 := by omega
        simp [fM, h27, this]
      · have he : ((opsL.getD i.toNat opCT.dflt).1.toList == w.toList) = false := he
        rw [hfst] at he
        refine ⟨by unfold okI64; omega, (i + 1 : Int), ⟨rfl, rfl, rfl⟩, ⟨(by omega : (0:Int) ≤ i + 1), (by omega : i + 1 ≤ 27), upto w i h0 hn he⟩, (by omega : (27 - (i + 1)).toNat < (27 - i).toNat)⟩
    · have hge : ¬ i < 27 := of_decide_eq_false hge
      have : i = 27 := by omega
      subst this
      have := idx_none w hn
      simp [fM, this])
def c58 : CanC Try.prog where
  f := 58
  α := ByteArray
  args := fun w => [.slice ⟨0, .lit 0, 4, 0⟩ (.lit 27), .func 59 [.ptr ⟨1, .lit 0, 0, 0⟩]]
  hp := fun w => [(0, .cells 93 opsC), (1, .cells 9 [.str (.sym w)])]
  n := 2
  rb := 2
  infer := fun a hp => match a with
    | [_, .func _ [.ptr p]] => match Go.DE.look hp p.id with
      | some (.cells _ [.str w]) => some w.v
      | _ => none
    | _ => none
  pre := fun _ => True
  res := fun w => .int .i64 (.sym (fM w))
  hp' := fun w => [(0, .arr 93 opCT opsL), (1, .cells 9 [.str (.sym w)])]
  n' := 2
  rbn := rfl
  nn := rfl
  body := hasBody_of Try.func58 (by kernel_rfl) (by kernel_rfl)
  ok := fun w _ => p58 w
theorem p34 (w : ByteArray) : Pure1 Try.prog 34 [.str (.sym w)] (.tup [.int .i64 (.sym (fI w)), .bool (.sym (fB w))]) := by
  refine pure_of_exec (ct := ⟨[c57], [c58]⟩) [] Try.func34 rfl rfl rfl ?_
  refine cast_goal (p := (w = w ∧ True) ∧ (if Go.Proofs.Ytnoccknoaihjlaa.fM w < (0 : Int) then (0 : Int) else Go.Proofs.Ytnoccknoaihjlaa.fM w) = Go.Proofs.Ytnoccknoaihjlaa.fI w ∧ Decidable.decide ((0 : Int) ≤ Go.Proofs.Ytnoccknoaihjlaa.fM w) = Go.Proofs.Ytnoccknoaihjlaa.fB w) (by kernel_rfl) ?_
  refine ⟨⟨rfl, trivial⟩, ?_, ?_⟩
  · by_cases h : idxW w < 27
    · simp only [fM, fI, if_pos h]; omega
    · simp [fM, fI, h]
  · by_cases h : idxW w < 27
    · simp only [fM, fB, if_pos h]; simp [h]
    · simp [fM, fB, h]

theorem p37_0 : Pure1 Try.prog 37 [.int .i64 (.lit 0)] (.str (DS.lit ⟨#[104, 97, 108, 116]⟩)) := by
  refine pure_of_exec (ct := ⟨[], [c60]⟩) [] Try.func37 rfl rfl rfl ?_
  refine cast_goal (p := True ∧ True) (by kernel_rfl) ?_
  trivial
theorem p37_1 : Pure1 Try.prog 37 [.int .i64 (.lit 1)] (.str (DS.lit ⟨#[109, 111, 118, 101]⟩)) := by
  refine pure_of_exec (ct := ⟨[], [c60]⟩) [] Try.func37 rfl rfl rfl ?_
  refine cast_goal (p := True ∧ True) (by kernel_rfl) ?_
  trivial
theorem p37_2 : Pure1 Try.prog 37 [.int .i64 (.lit 2)] (.str (DS.lit ⟨#[115, 101, 116]⟩)) := by
  refine pure_of_exec (ct := ⟨[], [c60]⟩) [] Try.func37 rfl rfl rfl ?_
  refine cast_goal (p := True ∧ True) (by kernel_rfl) ?_
  trivial
theorem p37_3 : Pure1 Try.prog 37 [.int .i64 (.lit 3)] (.str (DS.lit ⟨#[104, 105, 103, 104]⟩)) := by
  refine pure_of_exec (ct := ⟨[], [c60]⟩) [] Try.func37 rfl rfl rfl ?_
  refine cast_goal (p := True ∧ True) (by kernel_rfl) ?_
  trivial
theorem p37_4 : Pure1 Try.prog 37 [.int .i64 (.lit 4)] (.str (DS.lit ⟨#[97, 100, 100]⟩)) := by
  refine pure_of_exec (ct := ⟨[], [c60]⟩) [] Try.func37 rfl rfl rfl ?_
  refine cast_goal (p := True ∧ True) (by kernel_rfl) ?_
  trivial
theorem p37_5 : Pure1 Try.prog 37 [.int .i64 (.lit 5)] (.str (DS.lit ⟨#[115, 117, 98]⟩)) := by
  refine pure_of_exec (ct := ⟨[], [c60]⟩) [] Try.func37 rfl rfl rfl ?_
  refine cast_goal (p := True ∧ True) (by kernel_rfl) ?_
  trivial
theorem p37_6 : Pure1 Try.prog 37 [.int .i64 (.lit 6)] (.str (DS.lit ⟨#[109, 117, 108]⟩)) := by
  refine pure_of_exec (ct := ⟨[], [c60]⟩) [] Try.func37 rfl rfl rfl ?_
  refine cast_goal (p := True ∧ True) (by kernel_rfl) ?_
  trivial
theorem p37_7 : Pure1 Try.prog 37 [.int .i64 (.lit 7)] (.str (DS.lit ⟨#[100, 105, 118]⟩)) := by
  refine pure_of_exec (ct := ⟨[], [c60]⟩) [] Try.func37 rfl rfl rfl ?_
  refine cast_goal (p := True ∧ True) (by kernel_rfl) ?_
  trivial
theorem p37_8 : Pure1 Try.prog 37 [.int .i64 (.lit 8)] (.str (DS.lit ⟨#[109, 111, 100]⟩)) := by
  refine pure_of_exec (ct := ⟨[], [c60]⟩) [] Try.func37 rfl rfl rfl ?_
  refine cast_goal (p := True ∧ True) (by kernel_rfl) ?_
  trivial
theorem p37_9 : Pure1 Try.prog 37 [.int .i64 (.lit 9)] (.str (DS.lit ⟨#[97, 110, 100]⟩)) := by
  refine pure_of_exec (ct := ⟨[], [c60]⟩) [] Try.func37 rfl rfl rfl ?_
  refine cast_goal (p := True ∧ True) (by kernel_rfl) ?_
  trivial
theorem p37_10 : Pure1 Try.prog 37 [.int .i64 (.lit 10)] (.str (DS.lit ⟨#[111, 114]⟩)) := by
  refine pure_of_exec (ct := ⟨[], [c60]⟩) [] Try.func37 rfl rfl rfl ?_
  refine cast_goal (p := True ∧ True) (by kernel_rfl) ?_
  trivial
theorem p37_11 : Pure1 Try.prog 37 [.int .i64 (.lit 11)] (.str (DS.lit ⟨#[120, 111, 114]⟩)) := by
  refine pure_of_exec (ct := ⟨[], [c60]⟩) [] Try.func37 rfl rfl rfl ?_
  refine cast_goal (p := True ∧ True) (by kernel_rfl) ?_
  trivial
theorem p37_12 : Pure1 Try.prog 37 [.int .i64 (.lit 12)] (.str (DS.lit ⟨#[115, 104, 108]⟩)) := by
  refine pure_of_exec (ct := ⟨[], [c60]⟩) [] Try.func37 rfl rfl rfl ?_
  refine cast_goal (p := True ∧ True) (by kernel_rfl) ?_
  trivial
theorem p37_13 : Pure1 Try.prog 37 [.int .i64 (.lit 13)] (.str (DS.lit ⟨#[115, 104, 114]⟩)) := by
  refine pure_of_exec (ct := ⟨[], [c60]⟩) [] Try.func37 rfl rfl rfl ?_
  refine cast_goal (p := True ∧ True) (by kernel_rfl) ?_
  trivial
theorem p37_14 : Pure1 Try.prog 37 [.int .i64 (.lit 14)] (.str (DS.lit ⟨#[108, 101, 115, 115]⟩)) := by
  refine pure_of_exec (ct := ⟨[], [c60]⟩) [] Try.func37 rfl rfl rfl ?_
  refine cast_goal (p := True ∧ True) (by kernel_rfl) ?_
  trivial
theorem p37_15 : Pure1 Try.prog 37 [.int .i64 (.lit 15)] (.str (DS.lit ⟨#[101, 113, 117, 97, 108]⟩)) := by
  refine pure_of_exec (ct := ⟨[], [c60]⟩) [] Try.func37 rfl rfl rfl ?_
  refine cast_goal (p := True ∧ True) (by kernel_rfl) ?_
  trivial
theorem p37_16 : Pure1 Try.prog 37 [.int .i64 (.lit 16)] (.str (DS.lit ⟨#[97, 100, 100, 105]⟩)) := by
  refine pure_of_exec (ct := ⟨[], [c60]⟩) [] Try.func37 rfl rfl rfl ?_
  refine cast_goal (p := True ∧ True) (by kernel_rfl) ?_
  trivial
theorem p37_17 : Pure1 Try.prog 37 [.int .i64 (.lit 17)] (.str (DS.lit ⟨#[108, 111, 97, 100]⟩)) := by
  refine pure_of_exec (ct := ⟨[], [c60]⟩) [] Try.func37 rfl rfl rfl ?_
  refine cast_goal (p := True ∧ True) (by kernel_rfl) ?_
  trivial
theorem p37_18 : Pure1 Try.prog 37 [.int .i64 (.lit 18)] (.str (DS.lit ⟨#[115, 116, 111, 114, 101]⟩)) := by
  refine pure_of_exec (ct := ⟨[], [c60]⟩) [] Try.func37 rfl rfl rfl ?_
  refine cast_goal (p := True ∧ True) (by kernel_rfl) ?_
  trivial
theorem p37_19 : Pure1 Try.prog 37 [.int .i64 (.lit 19)] (.str (DS.lit ⟨#[108, 111, 97, 100, 98]⟩)) := by
  refine pure_of_exec (ct := ⟨[], [c60]⟩) [] Try.func37 rfl rfl rfl ?_
  refine cast_goal (p := True ∧ True) (by kernel_rfl) ?_
  trivial
theorem p37_20 : Pure1 Try.prog 37 [.int .i64 (.lit 20)] (.str (DS.lit ⟨#[115, 116, 111, 114, 101, 98]⟩)) := by
  refine pure_of_exec (ct := ⟨[], [c60]⟩) [] Try.func37 rfl rfl rfl ?_
  refine cast_goal (p := True ∧ True) (by kernel_rfl) ?_
  trivial
theorem p37_21 : Pure1 Try.prog 37 [.int .i64 (.lit 21)] (.str (DS.lit ⟨#[106, 117, 109, 112]⟩)) := by
  refine pure_of_exec (ct := ⟨[], [c60]⟩) [] Try.func37 rfl rfl rfl ?_
  refine cast_goal (p := True ∧ True) (by kernel_rfl) ?_
  trivial
theorem p37_22 : Pure1 Try.prog 37 [.int .i64 (.lit 22)] (.str (DS.lit ⟨#[106, 117, 109, 112, 122]⟩)) := by
  refine pure_of_exec (ct := ⟨[], [c60]⟩) [] Try.func37 rfl rfl rfl ?_
  refine cast_goal (p := True ∧ True) (by kernel_rfl) ?_
  trivial
theorem p37_23 : Pure1 Try.prog 37 [.int .i64 (.lit 23)] (.str (DS.lit ⟨#[106, 117, 109, 112, 110, 122]⟩)) := by
  refine pure_of_exec (ct := ⟨[], [c60]⟩) [] Try.func37 rfl rfl rfl ?_
  refine cast_goal (p := True ∧ True) (by kernel_rfl) ?_
  trivial
theorem p37_24 : Pure1 Try.prog 37 [.int .i64 (.lit 24)] (.str (DS.lit ⟨#[99, 97, 108, 108]⟩)) := by
  refine pure_of_exec (ct := ⟨[], [c60]⟩) [] Try.func37 rfl rfl rfl ?_
  refine cast_goal (p := True ∧ True) (by kernel_rfl) ?_
  trivial
theorem p37_25 : Pure1 Try.prog 37 [.int .i64 (.lit 25)] (.str (DS.lit ⟨#[98, 97, 99, 107]⟩)) := by
  refine pure_of_exec (ct := ⟨[], [c60]⟩) [] Try.func37 rfl rfl rfl ?_
  refine cast_goal (p := True ∧ True) (by kernel_rfl) ?_
  trivial
theorem p37_26 : Pure1 Try.prog 37 [.int .i64 (.lit 26)] (.str (DS.lit ⟨#[116, 114, 97, 112]⟩)) := by
  refine pure_of_exec (ct := ⟨[], [c60]⟩) [] Try.func37 rfl rfl rfl ?_
  refine cast_goal (p := True ∧ True) (by kernel_rfl) ?_
  trivial
theorem p37_out (op : Int) (h : inO op = false) : Pure1 Try.prog 37 [.int .i64 (.sym op)] (.str (.lit ⟨#[]⟩)) := by
  refine pure_of_exec (ct := ⟨[], [c60]⟩) [] Try.func37 rfl rfl rfl ?_
  refine cast_goal (p := ((Decidable.decide (op < (0 : Int)) || Decidable.decide ((26 : Int) < op)) = Bool.true → True) ∧ ((Decidable.decide (op < (0 : Int)) || Decidable.decide ((26 : Int) < op)) = Bool.false → True ∧ ((0 : Int) ≤ op ∧ op < (↑(27 : Nat) : Int)) ∧ False)) (by kernel_rfl) ?_
  simp [inO] at h
  simp; omega
theorem p37 (op : Int) : Pure1 Try.prog 37 [.int .i64 (.sym op)] (.str (.sym (wordI op))) := by
  cases h : inO op
  · exact (p37_out op h).congr (by simp [deqL, deq]) (by simp [deq, deqL, wordI, h])
  · rcases in27 op h with rfl | rfl | rfl | rfl | rfl | rfl | rfl | rfl | rfl | rfl | rfl | rfl | rfl | rfl | rfl | rfl | rfl | rfl | rfl | rfl | rfl | rfl | rfl | rfl | rfl | rfl | rfl
    · exact p37_0.congr (by simp [deqL, deq]) (by simp [deq, deqL]; decide)
    · exact p37_1.congr (by simp [deqL, deq]) (by simp [deq, deqL]; decide)
    · exact p37_2.congr (by simp [deqL, deq]) (by simp [deq, deqL]; decide)
    · exact p37_3.congr (by simp [deqL, deq]) (by simp [deq, deqL]; decide)
    · exact p37_4.congr (by simp [deqL, deq]) (by simp [deq, deqL]; decide)
    · exact p37_5.congr (by simp [deqL, deq]) (by simp [deq, deqL]; decide)
    · exact p37_6.congr (by simp [deqL, deq]) (by simp [deq, deqL]; decide)
    · exact p37_7.congr (by simp [deqL, deq]) (by simp [deq, deqL]; decide)
    · exact p37_8.congr (by simp [deqL, deq]) (by simp [deq, deqL]; decide)
    · exact p37_9.congr (by simp [deqL, deq]) (by simp [deq, deqL]; decide)
    · exact p37_10.congr (by simp [deqL, deq]) (by simp [deq, deqL]; decide)
    · exact p37_11.congr (by simp [deqL, deq]) (by simp [deq, deqL]; decide)
    · exact p37_12.congr (by simp [deqL, deq]) (by simp [deq, deqL]; decide)
    · exact p37_13.congr (by simp [deqL, deq]) (by simp [deq, deqL]; decide)
    · exact p37_14.congr (by simp [deqL, deq]) (by simp [deq, deqL]; decide)
    · exact p37_15.congr (by simp [deqL, deq]) (by simp [deq, deqL]; decide)
    · exact p37_16.congr (by simp [deqL, deq]) (by simp [deq, deqL]; decide)
    · exact p37_17.congr (by simp [deqL, deq]) (by simp [deq, deqL]; decide)
    · exact p37_18.congr (by simp [deqL, deq]) (by simp [deq, deqL]; decide)
    · exact p37_19.congr (by simp [deqL, deq]) (by simp [deq, deqL]; decide)
    · exact p37_20.congr (by simp [deqL, deq]) (by simp [deq, deqL]; decide)
    · exact p37_21.congr (by simp [deqL, deq]) (by simp [deq, deqL]; decide)
    · exact p37_22.congr (by simp [deqL, deq]) (by simp [deq, deqL]; decide)
    · exact p37_23.congr (by simp [deqL, deq]) (by simp [deq, deqL]; decide)
    · exact p37_24.congr (by simp [deqL, deq]) (by simp [deq, deqL]; decide)
    · exact p37_25.congr (by simp [deqL, deq]) (by simp [deq, deqL]; decide)
    · exact p37_26.congr (by simp [deqL, deq]) (by simp [deq, deqL]; decide)
def c37 : PureC Try.prog where
  f := 37
  spec := fun args => match args with
    | [.int .i64 op] => some (none, .str (as1S op (wordI op.v)))
    | _ => none
  body := hasBody_of Try.func37 (by kernel_rfl) (by kernel_rfl)
  ok := by
    intro args p d h hp
    split at h
    · rename_i op; cases h; exact (p37 op.v).congr (by simp [deqL, deq]) (by simp [deq, deqL])
    · cases h
def c34 : PureC Try.prog where
  f := 34
  spec := fun args => match args with
    | [.str w] => some (none, .tup [.int .i64 (match w with | .lit w => .lit (fI w) | .sym w => .sym (fI w)), .bool (match w with | .lit w => .lit (fB w) | .sym w => .sym (fB w))])
    | _ => none
  body := hasBody_of Try.func34 (by kernel_rfl) (by kernel_rfl)
  ok := by
    intro args p d h hp
    split at h
    · rename_i w; cases h; exact (p34 w.v).congr (by simp [deqL, deq]) (by cases w <;> simp [deq, deqL])
    · cases h

theorem idx_beq (w : ByteArray) : idxW w = wordsB.findIdx fun x => x == w := by
  unfold idxW; congr 1; funext x; exact (beq_toListBytes x w).symm
theorem word_in (op : Int) (h : inO op = true) : fB (wordI op) = true ∧ fI (wordI op) = op := by
  unfold fB fI
  rw [idx_beq]
  rcases in27 op h with rfl | rfl | rfl | rfl | rfl | rfl | rfl | rfl | rfl | rfl | rfl | rfl | rfl | rfl | rfl | rfl | rfl | rfl | rfl | rfl | rfl | rfl | rfl | rfl | rfl | rfl | rfl <;> decide
theorem word_out (op : Int) (h : inO op = false) : fB (wordI op) = false := by
  unfold fB
  rw [idx_beq]
  simp only [wordI, h, Bool.false_eq_true, if_false]
  decide
theorem p10 (op : Int) (w : ByteArray) : Pure1 Try.prog 10 [.int .i64 (.sym op), .str (.sym w)] (.bool (.sym true)) := by
  refine pure_of_exec (ct := ⟨[c13, c30, c31, c32, c33, c34, c35, c36, c37], []⟩) [] Try.func10 rfl rfl rfl ?_
  refine cast_goal (p := (Decidable.decide ((40 : Int) < (↑(ByteArray.size w) : Int)) = Bool.true → Bool.true = Bool.true) ∧ (Decidable.decide ((40 : Int) < (↑(ByteArray.size w) : Int)) = Bool.false → ((Go.Proofs.Ytnoccknoaihjlaa.formI op != Go.Proofs.Ytnoccknoaihjlaa.formI op || (Go.Proofs.Ytnoccknoaihjlaa.errO op != Go.Proofs.Ytnoccknoaihjlaa.errO op || (Go.Proofs.Ytnoccknoaihjlaa.lowI op != Go.Proofs.Ytnoccknoaihjlaa.lowI op || (Go.Proofs.Ytnoccknoaihjlaa.highI op != Go.Proofs.Ytnoccknoaihjlaa.highI op || (Go.Proofs.Ytnoccknoaihjlaa.limE op != Go.Proofs.Ytnoccknoaihjlaa.limE op || (Go.Proofs.Ytnoccknoaihjlaa.fI w != Go.Proofs.Ytnoccknoaihjlaa.fI w || !Go.Proofs.Ytnoccknoaihjlaa.fB w == Go.Proofs.Ytnoccknoaihjlaa.fB w)))))) = Bool.true → Bool.false = Bool.true) ∧ ((Go.Proofs.Ytnoccknoaihjlaa.formI op != Go.Proofs.Ytnoccknoaihjlaa.formI op || (Go.Proofs.Ytnoccknoaihjlaa.errO op != Go.Proofs.Ytnoccknoaihjlaa.errO op || (Go.Proofs.Ytnoccknoaihjlaa.lowI op != Go.Proofs.Ytnoccknoaihjlaa.lowI op || (Go.Proofs.Ytnoccknoaihjlaa.highI op != Go.Proofs.Ytnoccknoaihjlaa.highI op || (Go.Proofs.Ytnoccknoaihjlaa.limE op != Go.Proofs.Ytnoccknoaihjlaa.limE op || (Go.Proofs.Ytnoccknoaihjlaa.fI w != Go.Proofs.Ytnoccknoaihjlaa.fI w || !Go.Proofs.Ytnoccknoaihjlaa.fB w == Go.Proofs.Ytnoccknoaihjlaa.fB w)))))) = Bool.false → (ByteArray.toList (Go.Proofs.Ytnoccknoaihjlaa.wordI op) == ByteArray.toList (Go.Proofs.Ytnoccknoaihjlaa.wordI op) && (Go.Proofs.Ytnoccknoaihjlaa.fB (Go.Proofs.Ytnoccknoaihjlaa.wordI op) == (Go.Proofs.Ytnoccknoaihjlaa.errO op == (0 : Int)) && (!Go.Proofs.Ytnoccknoaihjlaa.fB (Go.Proofs.Ytnoccknoaihjlaa.wordI op) || Go.Proofs.Ytnoccknoaihjlaa.fI (Go.Proofs.Ytnoccknoaihjlaa.wordI op) == op))) = Bool.true))) (by kernel_rfl) ?_
  refine ⟨fun _ => rfl, fun _ => ⟨fun h => by simp at h, fun _ => ?_⟩⟩
  cases h : inO op
  · simp [word_out op h, errO, h]
  · obtain ⟨h1, h2⟩ := word_in op h
    simp [h1, h2, errO, h]

end Go.Proofs.Ytnoccknoaihjlaa
