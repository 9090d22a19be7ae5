import Derived.Test.YtnoccknoaihjlaaF11
import Derived.Test.YtnoccknoaihjlaaG
set_option linter.unusedVariables false
set_option linter.unusedSimpArgs false
set_option linter.unnecessarySimpa false
set_option linter.unusedVariables false
set_option linter.unusedSimpArgs false
/- The law on lists. -/
namespace Go.Proofs.Ytnoccknoaihjlaa.N
open Go.DF
set_option maxRecDepth 100000
local notation "i0" => (((0 : Int), (0 : Int), (0 : Int), (0 : Int)) : Ins)

def c39 : PureC Try.prog where
  f := 39
  sig := [.dat false (.sl iC)]
  per := true
  spec := fun x => .ob (List.length x.1 ≤ 1000000) (.leaf (.per (.sl iC) x.1))
  body := hasBody_of Try.func39 (by kernel_rfl) (by kernel_rfl)
  ok := fun x d h => by obtain ⟨h1, h⟩ := h; obtain rfl : d = _ := h; exact p39 x.1 h1
def c38 : PureC Try.prog where
  f := 38
  sig := [.dat false (.sl iC)]
  per := true
  spec := fun x => .ob (List.length x.1 ≤ 1000000) (.leaf (eaV x.1))
  body := hasBody_of Try.func38 (by kernel_rfl) (by kernel_rfl)
  ok := fun x d h => by obtain ⟨h1, h⟩ := h; obtain rfl : d = _ := h; exact p38 x.1 h1
def c40 : PureC Try.prog where
  f := 40
  sig := [.dat false (.sl iC)]
  per := true
  spec := fun x => .ob (List.length x.1 ≤ 1000000) (.leaf (eaV x.1))
  body := hasBody_of Try.func40 (by kernel_rfl) (by kernel_rfl)
  ok := fun x d h => by obtain ⟨h1, h⟩ := h; obtain rfl : d = _ := h; exact p40 x.1 h1

theorem dec_encI (i : Ins) (h : chkI i = 0) : W8s (encB i) ∧ decE (encB i) = 0 ∧ decI (encB i) = i := by
  obtain ⟨op, a, b, c⟩ := i
  have h : chk op a b c = 0 := h
  obtain ⟨w1, w2, w3, w4, h1, h2, h3, h4⟩ := dec_enc op a b c h
  simp only [encB, W8s, decE, decI, bY, h, if_true, dErr, dV, h1, h2, h3, h4]
  exact ⟨⟨w1, w2, w3, w4⟩, trivial, trivial⟩
theorem eBytes_get (l : List Ins) (i : Nat) (hi : i < 4) : ∀ (k j : Nat), j < k → (eBytes l k).getD (4 * j + i) 0 = (lst4 (encB (l.getD j i0))).getD i 0
  | 0, j, h => by omega
  | k + 1, j, h => by
    rw [eBytes_succ, List.getD_eq_getElem?_getD, List.getElem?_append, eBytes_len]
    by_cases hj : j < k
    · rw [if_pos (by omega), ← List.getD_eq_getElem?_getD]; exact eBytes_get l i hi k j hj
    · have : j = k := by omega
      subst this
      rw [if_neg (by omega), ← List.getD_eq_getElem?_getD]
      congr 1; omega
theorem chunk_enc (l : List Ins) (k j : Nat) (h : j < k) : chunk (eBytes l k) j = encB (l.getD j i0) := by
  have e0 := eBytes_get l 0 (by omega) k j h
  have e1 := eBytes_get l 1 (by omega) k j h
  have e2 := eBytes_get l 2 (by omega) k j h
  have e3 := eBytes_get l 3 (by omega) k j h
  rw [Nat.add_zero] at e0
  unfold chunk
  rw [e0, e1, e2, e3]
  rfl
theorem eaE_zero (l : List Ins) (h : eaE l = 0) : (∀ j, j < l.length → chkI (l.getD j i0) = 0) ∧ eaL l = eBytes l l.length := by
  unfold eaE at h
  cases hb : badI l with
  | none =>
    refine ⟨fun j hj => ?_, by simp [eaL, hb]⟩
    unfold badI at hb
    rw [List.find?_eq_none] at hb
    have := hb j (List.mem_range.2 hj)
    simpa using this
  | some k =>
    rw [hb] at h
    have := List.find?_some hb
    simp only [bne_iff_ne] at this
    exact (this h).elim
theorem dec_all (l : List Ins) (h : ∀ j, j < l.length → chkI (l.getD j i0) = 0) : daL (eBytes l l.length) = l ∧ daA (eBytes l l.length) = 0 ∧ daE (eBytes l l.length) = 0 := by
  have hl := eBytes_len l l.length
  have hb : badAt (eBytes l l.length) = none := by
    refine bad_none _ l.length (by omega) fun j hj => ?_
    rw [chunk_enc l _ j hj]; exact (dec_encI _ (h j hj)).2.1
  have hm : (eBytes l l.length).length % 4 = 0 := by omega
  have hq : (eBytes l l.length).length / 4 = l.length := by omega
  refine ⟨?_, by simp [daA, hb, hm], by simp [daE, hb, hm]⟩
  simp only [daL, hb, hm, if_true, hq]
  apply List.ext_getElem?
  intro j
  simp only [outs, List.getElem?_map]
  by_cases hj : j < l.length
  · rw [List.getElem?_range hj]
    simp only [Option.map_some]
    rw [chunk_enc l _ j hj, (dec_encI _ (h j hj)).2.2, List.getD_eq_getElem?_getD, List.getElem?_eq_getElem hj]; rfl
  · rw [List.getElem?_eq_none (by simpa using hj), List.getElem?_eq_none (by omega)]; rfl
theorem eBytes_w8 (l : List Ins) (h : ∀ j, j < l.length → chkI (l.getD j i0) = 0) : ∀ x ∈ eBytes l l.length, W8 x := by
  intro x hx
  obtain ⟨j, hj, hx⟩ := List.mem_flatMap.1 hx
  obtain ⟨w1, w2, w3, w4⟩ := (dec_encI _ (h j (List.mem_range.1 hj))).1
  simp only [lst4, List.mem_cons, List.not_mem_nil, or_false] at hx
  rcases hx with rfl | rfl | rfl | rfl
  · exact w1
  · exact w2
  · exact w3
  · exact w4
def inv11 (l : List Ins) : LInv where
  α := Nat
  S := fun k => ⟨[(0, .per (.sl iC) l), (9, .per (.sl iC) (daL (eaL l))), (10, .int .i64 (.sym k))], [], 0⟩
  p := fun k => k ≤ (daL (eaL l)).length
  m := fun k => (daL (eaL l)).length - k
theorem p11 (l : List Ins) : Pure1 Try.prog 11 [.per (.sl iC) l] (.bool (.sym true)) := by
  refine pure1_of_exec (ct := ⟨[c13, c26, c28, c38, c39, c40], [], []⟩) [(13, inv11 l)] Try.func11 rfl rfl ?_
  refine cast_goal (p := (Decidable.decide ((40 : Int) < (↑(List.length l) : Int)) = Bool.true → Bool.true = Bool.true ∧ True) ∧ (Decidable.decide ((40 : Int) < (↑(List.length l) : Int)) = Bool.false → List.length l ≤ (1000000 : Nat) ∧ List.length l ≤ (1000000 : Nat) ∧ List.length l ≤ (1000000 : Nat) ∧ ((!ByteArray.toList (Go.DF.bytesS (Go.Proofs.Ytnoccknoaihjlaa.N.eaL l)) == ByteArray.toList (Go.DF.bytesS (Go.Proofs.Ytnoccknoaihjlaa.N.eaL l)) || (Go.Proofs.Ytnoccknoaihjlaa.N.eaA l != Go.Proofs.Ytnoccknoaihjlaa.N.eaA l || Go.Proofs.Ytnoccknoaihjlaa.N.eaE l != Go.Proofs.Ytnoccknoaihjlaa.N.eaE l)) = Bool.true → Bool.false = Bool.true ∧ True) ∧ ((!ByteArray.toList (Go.DF.bytesS (Go.Proofs.Ytnoccknoaihjlaa.N.eaL l)) == ByteArray.toList (Go.DF.bytesS (Go.Proofs.Ytnoccknoaihjlaa.N.eaL l)) || (Go.Proofs.Ytnoccknoaihjlaa.N.eaA l != Go.Proofs.Ytnoccknoaihjlaa.N.eaA l || Go.Proofs.Ytnoccknoaihjlaa.N.eaE l != Go.Proofs.Ytnoccknoaihjlaa.N.eaE l)) = Bool.false → ((Go.Proofs.Ytnoccknoaihjlaa.N.eaE l != (0 : Int)) = Bool.true → Bool.true = Bool.true ∧ True) ∧ ((Go.Proofs.Ytnoccknoaihjlaa.N.eaE l != (0 : Int)) = Bool.false → Go.Proofs.Ytnoccknoaihjlaa.N.okB (Go.Proofs.Ytnoccknoaihjlaa.N.eaL l) ∧ (((↑(List.length (Go.Proofs.Ytnoccknoaihjlaa.N.daL (Go.Proofs.Ytnoccknoaihjlaa.N.eaL l))) : Int) != (↑(List.length l) : Int) || (Go.Proofs.Ytnoccknoaihjlaa.N.daA (Go.Proofs.Ytnoccknoaihjlaa.N.eaL l) != (0 : Int) || Go.Proofs.Ytnoccknoaihjlaa.N.daE (Go.Proofs.Ytnoccknoaihjlaa.N.eaL l) != (0 : Int))) = Bool.true → Bool.false = Bool.true ∧ True) ∧ (((↑(List.length (Go.Proofs.Ytnoccknoaihjlaa.N.daL (Go.Proofs.Ytnoccknoaihjlaa.N.eaL l))) : Int) != (↑(List.length l) : Int) || (Go.Proofs.Ytnoccknoaihjlaa.N.daA (Go.Proofs.Ytnoccknoaihjlaa.N.eaL l) != (0 : Int) || Go.Proofs.Ytnoccknoaihjlaa.N.daE (Go.Proofs.Ytnoccknoaihjlaa.N.eaL l) != (0 : Int))) = Bool.false → (∃ (a : Nat), (l = l ∧ Go.Proofs.Ytnoccknoaihjlaa.N.daL (Go.Proofs.Ytnoccknoaihjlaa.N.eaL l) = Go.Proofs.Ytnoccknoaihjlaa.N.daL (Go.Proofs.Ytnoccknoaihjlaa.N.eaL l) ∧ (0 : Int) = (↑a : Int)) ∧ a ≤ List.length (Go.Proofs.Ytnoccknoaihjlaa.N.daL (Go.Proofs.Ytnoccknoaihjlaa.N.eaL l))) ∧ ∀ (a : Nat), a ≤ List.length (Go.Proofs.Ytnoccknoaihjlaa.N.daL (Go.Proofs.Ytnoccknoaihjlaa.N.eaL l)) → (Decidable.decide ((↑a : Int) < (↑(List.length (Go.Proofs.Ytnoccknoaihjlaa.N.daL (Go.Proofs.Ytnoccknoaihjlaa.N.eaL l))) : Int)) = Bool.true → ((0 : Int) ≤ (↑a : Int) ∧ (↑a : Int) < (↑(List.length (Go.Proofs.Ytnoccknoaihjlaa.N.daL (Go.Proofs.Ytnoccknoaihjlaa.N.eaL l))) : Int)) ∧ ((0 : Int) ≤ (↑a : Int) ∧ (↑a : Int) < (↑(List.length l) : Int)) ∧ ((!(Prod.fst (List.getD (Go.Proofs.Ytnoccknoaihjlaa.N.daL (Go.Proofs.Ytnoccknoaihjlaa.N.eaL l)) (Int.toNat (↑a : Int)) ((0 : Int), (0 : Int), (0 : Int), (0 : Int))) == Prod.fst (List.getD l (Int.toNat (↑a : Int)) ((0 : Int), (0 : Int), (0 : Int), (0 : Int))) && (Prod.fst (Prod.snd (List.getD (Go.Proofs.Ytnoccknoaihjlaa.N.daL (Go.Proofs.Ytnoccknoaihjlaa.N.eaL l)) (Int.toNat (↑a : Int)) ((0 : Int), (0 : Int), (0 : Int), (0 : Int)))) == Prod.fst (Prod.snd (List.getD l (Int.toNat (↑a : Int)) ((0 : Int), (0 : Int), (0 : Int), (0 : Int)))) && (Prod.fst (Prod.snd (Prod.snd (List.getD (Go.Proofs.Ytnoccknoaihjlaa.N.daL (Go.Proofs.Ytnoccknoaihjlaa.N.eaL l)) (Int.toNat (↑a : Int)) ((0 : Int), (0 : Int), (0 : Int), (0 : Int))))) == Prod.fst (Prod.snd (Prod.snd (List.getD l (Int.toNat (↑a : Int)) ((0 : Int), (0 : Int), (0 : Int), (0 : Int))))) && Prod.snd (Prod.snd (Prod.snd (List.getD (Go.Proofs.Ytnoccknoaihjlaa.N.daL (Go.Proofs.Ytnoccknoaihjlaa.N.eaL l)) (Int.toNat (↑a : Int)) ((0 : Int), (0 : Int), (0 : Int), (0 : Int))))) == Prod.snd (Prod.snd (Prod.snd (List.getD l (Int.toNat (↑a : Int)) ((0 : Int), (0 : Int), (0 : Int), (0 : Int))))))))) = Bool.true → Bool.false = Bool.true ∧ True) ∧ ((!(Prod.fst (List.getD (Go.Proofs.Ytnoccknoaihjlaa.N.daL (Go.Proofs.Ytnoccknoaihjlaa.N.eaL l)) (Int.toNat (↑a : Int)) ((0 : Int), (0 : Int), (0 : Int), (0 : Int))) == Prod.fst (List.getD l (Int.toNat (↑a : Int)) ((0 : Int), (0 : Int), (0 : Int), (0 : Int))) && (Prod.fst (Prod.snd (List.getD (Go.Proofs.Ytnoccknoaihjlaa.N.daL (Go.Proofs.Ytnoccknoaihjlaa.N.eaL l)) (Int.toNat (↑a : Int)) ((0 : Int), (0 : Int), (0 : Int), (0 : Int)))) == Prod.fst (Prod.snd (List.getD l (Int.toNat (↑a : Int)) ((0 : Int), (0 : Int), (0 : Int), (0 : Int)))) && (Prod.fst (Prod.snd (Prod.snd (List.getD (Go.Proofs.Ytnoccknoaihjlaa.N.daL (Go.Proofs.Ytnoccknoaihjlaa.N.eaL l)) (Int.toNat (↑a : Int)) ((0 : Int), (0 : Int), (0 : Int), (0 : Int))))) == Prod.fst (Prod.snd (Prod.snd (List.getD l (Int.toNat (↑a : Int)) ((0 : Int), (0 : Int), (0 : Int), (0 : Int))))) && Prod.snd (Prod.snd (Prod.snd (List.getD (Go.Proofs.Ytnoccknoaihjlaa.N.daL (Go.Proofs.Ytnoccknoaihjlaa.N.eaL l)) (Int.toNat (↑a : Int)) ((0 : Int), (0 : Int), (0 : Int), (0 : Int))))) == Prod.snd (Prod.snd (Prod.snd (List.getD l (Int.toNat (↑a : Int)) ((0 : Int), (0 : Int), (0 : Int), (0 : Int))))))))) = Bool.false → Go.DF.okI64 ((↑a : Int) + (1 : Int)) ∧ ∃ (a' : Nat), (l = l ∧ Go.Proofs.Ytnoccknoaihjlaa.N.daL (Go.Proofs.Ytnoccknoaihjlaa.N.eaL l) = Go.Proofs.Ytnoccknoaihjlaa.N.daL (Go.Proofs.Ytnoccknoaihjlaa.N.eaL l) ∧ (↑a : Int) + (1 : Int) = (↑a' : Int)) ∧ a' ≤ List.length (Go.Proofs.Ytnoccknoaihjlaa.N.daL (Go.Proofs.Ytnoccknoaihjlaa.N.eaL l)) ∧ List.length (Go.Proofs.Ytnoccknoaihjlaa.N.daL (Go.Proofs.Ytnoccknoaihjlaa.N.eaL l)) - a' < List.length (Go.Proofs.Ytnoccknoaihjlaa.N.daL (Go.Proofs.Ytnoccknoaihjlaa.N.eaL l)) - a)) ∧ (Decidable.decide ((↑a : Int) < (↑(List.length (Go.Proofs.Ytnoccknoaihjlaa.N.daL (Go.Proofs.Ytnoccknoaihjlaa.N.eaL l))) : Int)) = Bool.false → Bool.true = Bool.true ∧ True)))))) (by kernel_rfl) ?_
  refine ⟨fun _ => ⟨rfl, trivial⟩, fun h => ?_⟩
  have hlen : l.length ≤ 40 := by have := of_decide_eq_false h; omega
  refine ⟨by omega, by omega, by omega, fun h => absurd h (by simp), fun _ => ⟨fun _ => ⟨rfl, trivial⟩, fun he => ?_⟩⟩
  have he : eaE l = 0 := bne_eq_false_iff_eq.1 he
  obtain ⟨hc, hb⟩ := eaE_zero l he
  obtain ⟨d1, d2, d3⟩ := dec_all l hc
  have hL : daL (eaL l) = l := by rw [hb]; exact d1
  have hA : daA (eaL l) = 0 := by rw [hb]; exact d2
  have hE : daE (eaL l) = 0 := by rw [hb]; exact d3
  have ok : okB (eaL l) := ⟨by rw [hb]; exact eBytes_w8 l hc, by rw [hb, eBytes_len]; omega⟩
  rw [hL, hA, hE]
  refine ⟨ok, fun h => absurd h (by simp), fun _ => ⟨⟨0, ⟨rfl, rfl, rfl⟩, Nat.zero_le _⟩, fun a ha => ⟨fun hlt => ?_, fun _ => ⟨rfl, trivial⟩⟩⟩⟩
  have hlt : a < l.length := by have := of_decide_eq_true hlt; omega
  exact ⟨⟨by omega, by omega⟩, ⟨by omega, by omega⟩, fun h => absurd h (by simp), fun _ => ⟨by unfold okI64; omega, a + 1, ⟨rfl, rfl, by omega⟩, by omega, by omega⟩⟩
end Go.Proofs.Ytnoccknoaihjlaa.N
