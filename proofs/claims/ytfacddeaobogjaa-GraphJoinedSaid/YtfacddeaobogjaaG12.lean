import Derived.Test.YtfacddeaobogjaaF12
import Derived.Test.YtfacddeaobogjaaG11
set_option linter.unusedVariables false
set_option linter.unusedSimpArgs false
set_option linter.unnecessarySimpa false
set_option linter.unusedVariables false
set_option linter.unusedSimpArgs false
/- The recursive closure, reached. -/
namespace Go.Proofs.Ytfacddeaobogjaa.N
open Go.DF
set_option maxRecDepth 100000
def rowsOf (g : Gr) : Rows := match g with | none => [] | some (A, _) => A
def hp64 (g : Gr) (s : Bs) : Hp := [(0, (false, .cells 79 [.slice ⟨3, .lit 0, 1, 0⟩ (.sym s.length)])), (1, (false, .cells 25 [.per gC g])),
  (2, (false, .cells 85 [.func 64 [.ptr ⟨0, .lit 0, 0, 0⟩, .ptr ⟨1, .lit 0, 0, 0⟩, .ptr ⟨2, .lit 0, 0, 0⟩]])), (3, (false, .arr 4 .bool s))]
def args64 (n : Int) : List DV := [.int .i64 (.sym n), .ptr ⟨0, .lit 0, 0, 0⟩, .ptr ⟨1, .lit 0, 0, 0⟩, .ptr ⟨2, .lit 0, 0, 0⟩]
def infer64 : List DV → Hp → Option (Gr × Bs × Int)
  | [.int .i64 n, .ptr p0, .ptr p1, .ptr _], hp => match DF.look hp p0.id, DF.look hp p1.id with
    | some (_, .cells _ [.slice q _]), some (_, .cells _ [d]) => match DF.look hp q.id, cod hp fuelC gC [d] with
      | some (_, .arr _ .bool l), some (g, _) => some (g, l, n.v)
      | _, _ => none
    | _, _ => none
  | _, _ => none
def ok64 (x : Gr × Bs × Int) (m : Nat) : Prop := okV (rowsOf x.1) ∧ x.1 ≠ none ∧ x.2.1.length = (rowsOf x.1).length ∧ (0 ≤ x.2.2 ∧ x.2.2 < ((rowsOf x.1).length : Int)) ∧ x.2.1.count false ≤ m
def out64 (g : Gr) (s : Bs) (d : DV) (st : St) : Prop := subS 4 ⟨[(0, d)], st.hp, st.nx⟩ ⟨[(0, .tup [])], hp64 g s, 4⟩ True
def Q64 (m : Nat) : Prop := ∀ x : Gr × Bs × Int, ok64 x m → DCall Try.prog 64 (args64 x.2.2) (hp64 x.1 x.2.1) 4 (out64 x.1 (dfs (rowsOf x.1) (m + 1) x.2.1 x.2.2))
/-- The closure as it is called by itself: fewer nodes are left. -/
def c64 (m : Nat) (ih : ∀ j, j < m → Q64 j) : CanC Try.prog where
  f := 64
  α := Gr × Bs × Int
  args := fun x => args64 x.2.2
  hp := fun x => hp64 x.1 x.2.1
  n := 4
  infer := infer64
  pre := fun x => (0 < m ∧ ok64 x (m - 1)) ∧ True
  out := fun x => .leaf (.tup [], hp64 x.1 (dfs (rowsOf x.1) (m - 1 + 1) x.2.1 x.2.2), 4)
  body := hasBody_of Try.func64 (by kernel_rfl) (by kernel_rfl)
  ok := fun x hx => ih (m - 1) (by have := hx.1.1; omega) x hx.1.2
def dfsTo (A : Rows) (f : Nat) (s : Bs) (n : Int) (k : Nat) : Bs := ((A.getD n.toNat []).take k).foldl (fun s t => dfs A f s t) (s.set n.toNat true)
def inv64 (g : Gr) (s : Bs) (n : Int) (f : Nat) : LInv where
  α := Nat
  S := fun k => ⟨[(3, .ptr ⟨2, .lit 0, 0, 0⟩), (1, .ptr ⟨0, .lit 0, 0, 0⟩), (2, .ptr ⟨1, .lit 0, 0, 0⟩), (20, .per iC ((rowsOf g).getD n.toNat [])), (21, .int .i64 (.sym ((rowsOf g).getD n.toNat []).length)), (22, .int .i64 (.sym k))], hp64 g (dfsTo (rowsOf g) f s n k), 4⟩
  p := fun k => k ≤ ((rowsOf g).getD n.toNat []).length
  m := fun k => ((rowsOf g).getD n.toNat []).length - k
theorem dfsTo_succ (A : Rows) (f : Nat) (s : Bs) (n : Int) (k : Nat) (h : k < (A.getD n.toNat []).length) : dfsTo A f s n (k + 1) = dfs A f (dfsTo A f s n k) ((A.getD n.toNat []).getD k 0) := by
  unfold dfsTo
  rw [List.take_add_one, List.getElem?_eq_getElem h, List.foldl_append, List.getD_eq_getElem?_getD (l := A.getD n.toNat []), List.getElem?_eq_getElem h]; rfl
set_option maxHeartbeats 4000000 in
theorem q64 (m : Nat) : Q64 m := by
  induction m using Nat.strongRecOn with
  | _ m ih =>
    rintro ⟨g, s, n⟩ hx
    apply @calls_of_exec _ Try.prog (cx0 [] [c64 m ih] []) [(3, inv64 g s n (m - 1 + 1))] 64 Try.f64 (args64 n) (hp64 g s) 4 (out64 g (dfs (rowsOf g) (m + 1) s n)) Try.func64 _ (of_decide_eq_true rfl)
    apply @cast_goal (((0 : Int) ≤ n ∧ n < (↑(List.length s) : Int)) ∧ Int.toNat n < List.length s ∧ (List.getD s (Int.toNat n) Bool.false = Bool.true → (List.length s = List.length (Go.Proofs.Ytfacddeaobogjaa.N.dfs (Go.Proofs.Ytfacddeaobogjaa.N.rowsOf g) (m + (1 : Nat)) s n) ∧ g = g ∧ s = Go.Proofs.Ytfacddeaobogjaa.N.dfs (Go.Proofs.Ytfacddeaobogjaa.N.rowsOf g) (m + (1 : Nat)) s n) ∧ True) ∧ (List.getD s (Int.toNat n) Bool.false = Bool.false → ((0 : Int) ≤ n ∧ n < (↑(List.length s) : Int)) ∧ Int.toNat n < List.length s ∧ Option.isSome g = Bool.true ∧ ((0 : Int) ≤ n ∧ n < (↑(List.length (Prod.fst (Option.getD g ([], [])))) : Int)) ∧ (∃ (a : Nat), (List.getD (Prod.fst (Option.getD g ([], []))) (Int.toNat n) [] = List.getD (Go.Proofs.Ytfacddeaobogjaa.N.rowsOf g) (Int.toNat n) [] ∧ (↑(List.length (List.getD (Prod.fst (Option.getD g ([], []))) (Int.toNat n) [])) : Int) = (↑(List.length (List.getD (Go.Proofs.Ytfacddeaobogjaa.N.rowsOf g) (Int.toNat n) [])) : Int) ∧ (0 : Int) = (↑a : Int) ∧ List.length s = List.length (Go.Proofs.Ytfacddeaobogjaa.N.dfsTo (Go.Proofs.Ytfacddeaobogjaa.N.rowsOf g) (m - (1 : Nat) + (1 : Nat)) s n a) ∧ g = g ∧ List.set s (Int.toNat n) Bool.true = Go.Proofs.Ytfacddeaobogjaa.N.dfsTo (Go.Proofs.Ytfacddeaobogjaa.N.rowsOf g) (m - (1 : Nat) + (1 : Nat)) s n a) ∧ a ≤ List.length (List.getD (Go.Proofs.Ytfacddeaobogjaa.N.rowsOf g) (Int.toNat n) [])) ∧ ∀ (a : Nat), a ≤ List.length (List.getD (Go.Proofs.Ytfacddeaobogjaa.N.rowsOf g) (Int.toNat n) []) → (Decidable.decide ((↑a : Int) < (↑(List.length (List.getD (Go.Proofs.Ytfacddeaobogjaa.N.rowsOf g) (Int.toNat n) [])) : Int)) = Bool.true → ((0 : Int) ≤ (↑a : Int) ∧ (↑a : Int) < (↑(List.length (List.getD (Go.Proofs.Ytfacddeaobogjaa.N.rowsOf g) (Int.toNat n) [])) : Int)) ∧ (List.getD (List.getD (Go.Proofs.Ytfacddeaobogjaa.N.rowsOf g) (Int.toNat n) []) (Int.toNat (↑a : Int)) (0 : Int) = List.getD (List.getD (Go.Proofs.Ytfacddeaobogjaa.N.rowsOf g) (Int.toNat n) []) (Int.toNat (↑a : Int)) (0 : Int) ∧ List.length (Go.Proofs.Ytfacddeaobogjaa.N.dfsTo (Go.Proofs.Ytfacddeaobogjaa.N.rowsOf g) (m - (1 : Nat) + (1 : Nat)) s n a) = List.length (Go.Proofs.Ytfacddeaobogjaa.N.dfsTo (Go.Proofs.Ytfacddeaobogjaa.N.rowsOf g) (m - (1 : Nat) + (1 : Nat)) s n a) ∧ g = g ∧ Go.Proofs.Ytfacddeaobogjaa.N.dfsTo (Go.Proofs.Ytfacddeaobogjaa.N.rowsOf g) (m - (1 : Nat) + (1 : Nat)) s n a = Go.Proofs.Ytfacddeaobogjaa.N.dfsTo (Go.Proofs.Ytfacddeaobogjaa.N.rowsOf g) (m - (1 : Nat) + (1 : Nat)) s n a ∧ ((0 : Nat) < m ∧ Go.Proofs.Ytfacddeaobogjaa.N.ok64 (g, Go.Proofs.Ytfacddeaobogjaa.N.dfsTo (Go.Proofs.Ytfacddeaobogjaa.N.rowsOf g) (m - (1 : Nat) + (1 : Nat)) s n a, List.getD (List.getD (Go.Proofs.Ytfacddeaobogjaa.N.rowsOf g) (Int.toNat n) []) (Int.toNat (↑a : Int)) (0 : Int)) (m - (1 : Nat))) ∧ True) ∧ Go.DF.okI64 ((↑a : Int) + (1 : Int)) ∧ ∃ (a' : Nat), (List.getD (Go.Proofs.Ytfacddeaobogjaa.N.rowsOf g) (Int.toNat n) [] = List.getD (Go.Proofs.Ytfacddeaobogjaa.N.rowsOf g) (Int.toNat n) [] ∧ (↑(List.length (List.getD (Go.Proofs.Ytfacddeaobogjaa.N.rowsOf g) (Int.toNat n) [])) : Int) = (↑(List.length (List.getD (Go.Proofs.Ytfacddeaobogjaa.N.rowsOf g) (Int.toNat n) [])) : Int) ∧ (↑a : Int) + (1 : Int) = (↑a' : Int) ∧ List.length (Go.Proofs.Ytfacddeaobogjaa.N.dfs (Go.Proofs.Ytfacddeaobogjaa.N.rowsOf g) (m - (1 : Nat) + (1 : Nat)) (Go.Proofs.Ytfacddeaobogjaa.N.dfsTo (Go.Proofs.Ytfacddeaobogjaa.N.rowsOf g) (m - (1 : Nat) + (1 : Nat)) s n a) (List.getD (List.getD (Go.Proofs.Ytfacddeaobogjaa.N.rowsOf g) (Int.toNat n) []) (Int.toNat (↑a : Int)) (0 : Int))) = List.length (Go.Proofs.Ytfacddeaobogjaa.N.dfsTo (Go.Proofs.Ytfacddeaobogjaa.N.rowsOf g) (m - (1 : Nat) + (1 : Nat)) s n a') ∧ g = g ∧ Go.Proofs.Ytfacddeaobogjaa.N.dfs (Go.Proofs.Ytfacddeaobogjaa.N.rowsOf g) (m - (1 : Nat) + (1 : Nat)) (Go.Proofs.Ytfacddeaobogjaa.N.dfsTo (Go.Proofs.Ytfacddeaobogjaa.N.rowsOf g) (m - (1 : Nat) + (1 : Nat)) s n a) (List.getD (List.getD (Go.Proofs.Ytfacddeaobogjaa.N.rowsOf g) (Int.toNat n) []) (Int.toNat (↑a : Int)) (0 : Int)) = Go.Proofs.Ytfacddeaobogjaa.N.dfsTo (Go.Proofs.Ytfacddeaobogjaa.N.rowsOf g) (m - (1 : Nat) + (1 : Nat)) s n a') ∧ a' ≤ List.length (List.getD (Go.Proofs.Ytfacddeaobogjaa.N.rowsOf g) (Int.toNat n) []) ∧ List.length (List.getD (Go.Proofs.Ytfacddeaobogjaa.N.rowsOf g) (Int.toNat n) []) - a' < List.length (List.getD (Go.Proofs.Ytfacddeaobogjaa.N.rowsOf g) (Int.toNat n) []) - a) ∧ (Decidable.decide ((↑a : Int) < (↑(List.length (List.getD (Go.Proofs.Ytfacddeaobogjaa.N.rowsOf g) (Int.toNat n) [])) : Int)) = Bool.false → (List.length (Go.Proofs.Ytfacddeaobogjaa.N.dfsTo (Go.Proofs.Ytfacddeaobogjaa.N.rowsOf g) (m - (1 : Nat) + (1 : Nat)) s n a) = List.length (Go.Proofs.Ytfacddeaobogjaa.N.dfs (Go.Proofs.Ytfacddeaobogjaa.N.rowsOf g) (m + (1 : Nat)) s n) ∧ g = g ∧ Go.Proofs.Ytfacddeaobogjaa.N.dfsTo (Go.Proofs.Ytfacddeaobogjaa.N.rowsOf g) (m - (1 : Nat) + (1 : Nat)) s n a = Go.Proofs.Ytfacddeaobogjaa.N.dfs (Go.Proofs.Ytfacddeaobogjaa.N.rowsOf g) (m + (1 : Nat)) s n) ∧ True))) _ (by kernel_rfl)
    obtain ⟨hA, hg, hs, ⟨h0, h1⟩, hc⟩ := hx
    simp only at hA hg hs h0 h1 hc
    match g, hg with
    | some (A, B), _ =>
    have hr : rowsOf (some (A, B)) = A := rfl
    rw [hr] at hA hs h1 ⊢
    have hd : dfs A (m + 1) s n = bif s.getD n.toNat false then s else (A.getD n.toNat []).foldl (fun s t => dfs A m s t) (s.set n.toNat true) := rfl
    have hns : n.toNat < s.length := by omega
    refine ⟨⟨h0, by omega⟩, hns, fun hb => ?_, fun hb => ?_⟩
    · rw [hb] at hd
      rw [hd]
      exact ⟨⟨rfl, rfl, rfl⟩, trivial⟩
    · have hcs := cnt_set hns hb
      have hm : m - 1 + 1 = m := by omega
      rw [hb] at hd
      have hrow := (hA.2 n.toNat).1
      have hL := (hA.2 n.toNat).2
      have hv : ∀ k, Vis A (s.set n.toNat true) (dfsTo A (m - 1 + 1) s n k) (· ∈ (A.getD n.toNat []).take k) := fun k =>
        (fold_vis (dfs_vis hA (m - 1)) ((A.getD n.toNat []).take k) (s.set n.toNat true) (fun y hy => hL y (List.mem_of_mem_take hy)) (by rw [List.length_set, hs]) (by omega)).1
      have hlen : ∀ k, (dfsTo A (m - 1 + 1) s n k).length = s.length := fun k => by rw [(hv k).len, List.length_set]
      refine ⟨⟨h0, by omega⟩, hns, rfl, ⟨h0, h1⟩, ⟨0, ⟨rfl, rfl, rfl, (hlen 0).symm, rfl, rfl⟩, Nat.zero_le _⟩, fun a ha => ⟨fun hlt => ?_, fun hge => ?_⟩⟩
      · have hlt : a < (A.getD n.toNat []).length := by have := of_decide_eq_true hlt; omega
        have ea : Int.toNat (a : Int) = a := by omega
        rw [ea]
        have hmem : (A.getD n.toNat []).getD a 0 ∈ A.getD n.toNat [] := by
          rw [List.getD_eq_getElem?_getD (l := A.getD n.toNat []), List.getElem?_eq_getElem hlt]; exact List.getElem_mem hlt
        have hst := dfsTo_succ A (m - 1 + 1) s n a hlt
        exact ⟨⟨by omega, by omega⟩, ⟨rfl, rfl, rfl, rfl, ⟨by omega, hA, by simp, by rw [hr]; exact (hlen a).trans hs, hL _ hmem, by have := (hv a).cnt; simp only; omega⟩, trivial⟩, by unfold okI64; omega, a + 1, ⟨rfl, rfl, by omega, by rw [hst], rfl, hst.symm⟩, by omega, by omega⟩
      · have hge : a = (A.getD n.toNat []).length := by have := of_decide_eq_false hge; omega
        have he : dfsTo A (m - 1 + 1) s n a = dfs A (m + 1) s n := by
          rw [hd, hm]
          unfold dfsTo
          rw [hge, List.take_length]; rfl
        rw [he]
        exact ⟨⟨rfl, rfl, rfl⟩, trivial⟩
/-- What is marked from a list of nodes. -/
noncomputable def marksG (g : Gr) (fr : List Int) : Bs := marksL (edgesTo (rowsOf g) (rowsOf g).length) (rowsOf g).length fr
def reachTo (A : Rows) (fr : List Int) (k : Nat) : Bs := (fr.take k).foldl (fun s u => if 0 ≤ u ∧ u < (A.length : Int) then dfs A (A.length + 1 - 1 + 1) s u else s) (List.replicate A.length false)
def inv42 (g : Gr) (fr : List Int) : LInv where
  α := Nat
  S := fun k => ⟨[(2, .ptr ⟨0, .lit 0, 0, 0⟩), (5, .ptr ⟨1, .lit 0, 0, 0⟩), (6, .ptr ⟨2, .lit 0, 0, 0⟩), (13, .per iC fr), (14, .int .i64 (.sym fr.length)), (15, .int .i64 (.sym k))],
    [(0, (false, .cells 25 [.per gC g])), (1, (false, .cells 79 [.slice ⟨3, .lit 0, 1, 0⟩ (.sym (reachTo (rowsOf g) fr k).length)])), (2, (false, .cells 85 [.func 64 [.ptr ⟨1, .lit 0, 0, 0⟩, .ptr ⟨0, .lit 0, 0, 0⟩, .ptr ⟨2, .lit 0, 0, 0⟩]])), (3, (false, .arr 4 .bool (reachTo (rowsOf g) fr k)))], 4⟩
  p := fun k => k ≤ fr.length
  m := fun k => fr.length - k
abbrev stepR (A : Rows) (s : Bs) (u : Int) : Bs := if 0 ≤ u ∧ u < (A.length : Int) then dfs A (A.length + 1 - 1 + 1) s u else s
theorem reach_vis {A : Rows} (hA : okV A) : ∀ (L : List Int) (s : Bs), s.length = A.length → Vis A s (L.foldl (stepR A) s) (fun t => t ∈ L ∧ 0 ≤ t ∧ t < (A.length : Int)) ∧ ∀ t ∈ L, 0 ≤ t → t < (A.length : Int) → (L.foldl (stepR A) s).getD t.toNat false = true
  | [], s, _ => ⟨Vis.rfl', fun t ht => absurd ht (by simp)⟩
  | a :: L, s, hs => by
    rw [List.foldl_cons]
    have hc : s.count false ≤ A.length + 1 - 1 := by have := List.count_le_length (a := false) (l := s); omega
    by_cases hv : 0 ≤ a ∧ a < (A.length : Int)
    · obtain ⟨h1, h2⟩ := dfs_vis hA (A.length + 1 - 1) s a hs hv.1 hv.2 hc
      have e : stepR A s a = dfs A (A.length + 1 - 1 + 1) s a := if_pos hv
      rw [e]
      obtain ⟨k1, k2⟩ := reach_vis hA L _ (h1.len.trans hs)
      refine ⟨(h1.imp fun t e => by rw [e]; exact ⟨List.mem_cons_self .., hv⟩).trans (k1.imp fun t ht => ⟨List.mem_cons_of_mem _ ht.1, ht.2⟩), fun t ht h0 h1' => ?_⟩
      rcases List.mem_cons.1 ht with e | ht
      · rw [e]; exact k1.mono _ h2
      · exact k2 t ht h0 h1'
    · have e : stepR A s a = s := if_neg hv
      rw [e]
      obtain ⟨k1, k2⟩ := reach_vis hA L _ hs
      refine ⟨k1.imp fun t ht => ⟨List.mem_cons_of_mem _ ht.1, ht.2⟩, fun t ht h0 h1' => ?_⟩
      rcases List.mem_cons.1 ht with e | ht
      · rw [e] at h0 h1'; exact absurd ⟨h0, h1'⟩ hv
      · exact k2 t ht h0 h1'
theorem reachTo_succ (A : Rows) (fr : List Int) (k : Nat) (h : k < fr.length) : reachTo A fr (k + 1) = stepR A (reachTo A fr k) (fr.getD k 0) := by
  unfold reachTo
  rw [List.take_add_one, List.getElem?_eq_getElem h, List.foldl_append, List.getD_eq_getElem?_getD, List.getElem?_eq_getElem h]; rfl
theorem reachTo_all {A : Rows} (hA : okV A) (fr : List Int) : reachTo A fr fr.length = marksL (edgesTo A A.length) A.length fr := by
  have hs : (List.replicate A.length false).length = A.length := List.length_replicate
  obtain ⟨h1, h2⟩ := reach_vis hA fr (List.replicate A.length false) hs
  have hz : ∀ v : Nat, (List.replicate A.length false).getD v false = true → False := fun v hv => by
    rw [List.getD_eq_getElem?_getD, List.getElem?_replicate] at hv
    split at hv <;> simp at hv
  have e : reachTo A fr fr.length = fr.foldl (stepR A) (List.replicate A.length false) := by unfold reachTo; rw [List.take_length]
  rw [e]
  refine marks_of (fun x hx => ?_) (by rw [h1.len, hs]; omega) h2 (fun v hv => ?_) (fun x hx hm => ?_)
  · obtain ⟨i, hi, h3, h4⟩ := (edgesTo_mem A A.length x).1 hx
    have := (hA.2 i).2 _ h4
    omega
  · rcases h1.sound v hv with h | ⟨t, ht, hr⟩
    · exact (hz v h).elim
    · exact ⟨t, ht.1, ht.2, hr⟩
  · obtain ⟨i, hi, h3, h4⟩ := (edgesTo_mem A A.length x).1 hx
    rcases h1.clos _ hm with h | h
    · exact (hz _ h).elim
    · rw [h3, show ((i : Int)).toNat = i from by omega] at h
      exact h _ h4
set_option maxHeartbeats 4000000 in
theorem p42 (g : Gr) (fr : List Int) (hg : okV (rowsOf g)) (hf : fr.length ≤ 1000000) (hs : ∃ A B, g = some (A, B)) : Pure1 Try.prog 42 [.per gC g, .per iC fr] (.per (.sl .bool) (marksG g fr)) := by
  refine pure1_of_exec (ct := (cx0 [] [c64 ((rowsOf g).length + 1) (fun j _ => q64 j)] []).deep body28 100 20) [(5, inv42 g fr)] Try.func42 rfl rfl ?_
  apply @cast_goal ((Option.isNone g = Bool.true → ((0 : Int) ≤ (0 : Int) ∧ (0 : Int) ≤ (0 : Int) ∧ (0 : Int) * (↑(1 : Nat) : Int) ≤ (140737488355328 : Int) ∧ (0 : Int) ≤ (9223372036854775807 : Int)) ∧ (∃ (a : Nat), (fr = fr ∧ (↑(List.length fr) : Int) = (↑(List.length fr) : Int) ∧ (0 : Int) = (↑a : Int) ∧ g = g ∧ (0 : Nat) = List.length (Go.Proofs.Ytfacddeaobogjaa.N.reachTo (Go.Proofs.Ytfacddeaobogjaa.N.rowsOf g) fr a) ∧ List.replicate (Int.toNat (0 : Int)) Bool.false = Go.Proofs.Ytfacddeaobogjaa.N.reachTo (Go.Proofs.Ytfacddeaobogjaa.N.rowsOf g) fr a) ∧ a ≤ List.length fr) ∧ ∀ (a : Nat), a ≤ List.length fr → (Decidable.decide ((↑a : Int) < (↑(List.length fr) : Int)) = Bool.true → ((0 : Int) ≤ (↑a : Int) ∧ (↑a : Int) < (↑(List.length fr) : Int)) ∧ (Decidable.decide ((0 : Int) ≤ List.getD fr (Int.toNat (↑a : Int)) (0 : Int)) = Bool.true → (Option.isNone g = Bool.true → (Decidable.decide (List.getD fr (Int.toNat (↑a : Int)) (0 : Int) < (0 : Int)) = Bool.true → (List.getD fr (Int.toNat (↑a : Int)) (0 : Int) = List.getD fr (Int.toNat (↑a : Int)) (0 : Int) ∧ List.length (Go.Proofs.Ytfacddeaobogjaa.N.reachTo (Go.Proofs.Ytfacddeaobogjaa.N.rowsOf g) fr a) = List.length (Go.Proofs.Ytfacddeaobogjaa.N.reachTo (Go.Proofs.Ytfacddeaobogjaa.N.rowsOf g) fr a) ∧ g = g ∧ Go.Proofs.Ytfacddeaobogjaa.N.reachTo (Go.Proofs.Ytfacddeaobogjaa.N.rowsOf g) fr a = Go.Proofs.Ytfacddeaobogjaa.N.reachTo (Go.Proofs.Ytfacddeaobogjaa.N.rowsOf g) fr a ∧ ((0 : Nat) < List.length (Go.Proofs.Ytfacddeaobogjaa.N.rowsOf g) + (1 : Nat) ∧ Go.Proofs.Ytfacddeaobogjaa.N.ok64 (g, Go.Proofs.Ytfacddeaobogjaa.N.reachTo (Go.Proofs.Ytfacddeaobogjaa.N.rowsOf g) fr a, List.getD fr (Int.toNat (↑a : Int)) (0 : Int)) (List.length (Go.Proofs.Ytfacddeaobogjaa.N.rowsOf g) + (1 : Nat) - (1 : Nat))) ∧ True) ∧ Go.DF.okI64 ((↑a : Int) + (1 : Int)) ∧ ∃ (a' : Nat), (fr = fr ∧ (↑(List.length fr) : Int) = (↑(List.length fr) : Int) ∧ (↑a : Int) + (1 : Int) = (↑a' : Int) ∧ g = g ∧ List.length (Go.Proofs.Ytfacddeaobogjaa.N.dfs (Go.Proofs.Ytfacddeaobogjaa.N.rowsOf g) (List.length (Go.Proofs.Ytfacddeaobogjaa.N.rowsOf g) + (1 : Nat) - (1 : Nat) + (1 : Nat)) (Go.Proofs.Ytfacddeaobogjaa.N.reachTo (Go.Proofs.Ytfacddeaobogjaa.N.rowsOf g) fr a) (List.getD fr (Int.toNat (↑a : Int)) (0 : Int))) = List.length (Go.Proofs.Ytfacddeaobogjaa.N.reachTo (Go.Proofs.Ytfacddeaobogjaa.N.rowsOf g) fr a') ∧ Go.Proofs.Ytfacddeaobogjaa.N.dfs (Go.Proofs.Ytfacddeaobogjaa.N.rowsOf g) (List.length (Go.Proofs.Ytfacddeaobogjaa.N.rowsOf g) + (1 : Nat) - (1 : Nat) + (1 : Nat)) (Go.Proofs.Ytfacddeaobogjaa.N.reachTo (Go.Proofs.Ytfacddeaobogjaa.N.rowsOf g) fr a) (List.getD fr (Int.toNat (↑a : Int)) (0 : Int)) = Go.Proofs.Ytfacddeaobogjaa.N.reachTo (Go.Proofs.Ytfacddeaobogjaa.N.rowsOf g) fr a') ∧ a' ≤ List.length fr ∧ List.length fr - a' < List.length fr - a) ∧ (Decidable.decide (List.getD fr (Int.toNat (↑a : Int)) (0 : Int) < (0 : Int)) = Bool.false → Go.DF.okI64 ((↑a : Int) + (1 : Int)) ∧ ∃ (a' : Nat), (fr = fr ∧ (↑(List.length fr) : Int) = (↑(List.length fr) : Int) ∧ (↑a : Int) + (1 : Int) = (↑a' : Int) ∧ g = g ∧ List.length (Go.Proofs.Ytfacddeaobogjaa.N.reachTo (Go.Proofs.Ytfacddeaobogjaa.N.rowsOf g) fr a) = List.length (Go.Proofs.Ytfacddeaobogjaa.N.reachTo (Go.Proofs.Ytfacddeaobogjaa.N.rowsOf g) fr a') ∧ Go.Proofs.Ytfacddeaobogjaa.N.reachTo (Go.Proofs.Ytfacddeaobogjaa.N.rowsOf g) fr a = Go.Proofs.Ytfacddeaobogjaa.N.reachTo (Go.Proofs.Ytfacddeaobogjaa.N.rowsOf g) fr a') ∧ a' ≤ List.length fr ∧ List.length fr - a' < List.length fr - a)) ∧ (Option.isNone g = Bool.false → Option.isSome g = Bool.true ∧ (Decidable.decide (List.getD fr (Int.toNat (↑a : Int)) (0 : Int) < (↑(List.length (Prod.fst (Option.getD g ([], [])))) : Int)) = Bool.true → (List.getD fr (Int.toNat (↑a : Int)) (0 : Int) = List.getD fr (Int.toNat (↑a : Int)) (0 : Int) ∧ List.length (Go.Proofs.Ytfacddeaobogjaa.N.reachTo (Go.Proofs.Ytfacddeaobogjaa.N.rowsOf g) fr a) = List.length (Go.Proofs.Ytfacddeaobogjaa.N.reachTo (Go.Proofs.Ytfacddeaobogjaa.N.rowsOf g) fr a) ∧ g = g ∧ Go.Proofs.Ytfacddeaobogjaa.N.reachTo (Go.Proofs.Ytfacddeaobogjaa.N.rowsOf g) fr a = Go.Proofs.Ytfacddeaobogjaa.N.reachTo (Go.Proofs.Ytfacddeaobogjaa.N.rowsOf g) fr a ∧ ((0 : Nat) < List.length (Go.Proofs.Ytfacddeaobogjaa.N.rowsOf g) + (1 : Nat) ∧ Go.Proofs.Ytfacddeaobogjaa.N.ok64 (g, Go.Proofs.Ytfacddeaobogjaa.N.reachTo (Go.Proofs.Ytfacddeaobogjaa.N.rowsOf g) fr a, List.getD fr (Int.toNat (↑a : Int)) (0 : Int)) (List.length (Go.Proofs.Ytfacddeaobogjaa.N.rowsOf g) + (1 : Nat) - (1 : Nat))) ∧ True) ∧ Go.DF.okI64 ((↑a : Int) + (1 : Int)) ∧ ∃ (a' : Nat), (fr = fr ∧ (↑(List.length fr) : Int) = (↑(List.length fr) : Int) ∧ (↑a : Int) + (1 : Int) = (↑a' : Int) ∧ g = g ∧ List.length (Go.Proofs.Ytfacddeaobogjaa.N.dfs (Go.Proofs.Ytfacddeaobogjaa.N.rowsOf g) (List.length (Go.Proofs.Ytfacddeaobogjaa.N.rowsOf g) + (1 : Nat) - (1 : Nat) + (1 : Nat)) (Go.Proofs.Ytfacddeaobogjaa.N.reachTo (Go.Proofs.Ytfacddeaobogjaa.N.rowsOf g) fr a) (List.getD fr (Int.toNat (↑a : Int)) (0 : Int))) = List.length (Go.Proofs.Ytfacddeaobogjaa.N.reachTo (Go.Proofs.Ytfacddeaobogjaa.N.rowsOf g) fr a') ∧ Go.Proofs.Ytfacddeaobogjaa.N.dfs (Go.Proofs.Ytfacddeaobogjaa.N.rowsOf g) (List.length (Go.Proofs.Ytfacddeaobogjaa.N.rowsOf g) + (1 : Nat) - (1 : Nat) + (1 : Nat)) (Go.Proofs.Ytfacddeaobogjaa.N.reachTo (Go.Proofs.Ytfacddeaobogjaa.N.rowsOf g) fr a) (List.getD fr (Int.toNat (↑a : Int)) (0 : Int)) = Go.Proofs.Ytfacddeaobogjaa.N.reachTo (Go.Proofs.Ytfacddeaobogjaa.N.rowsOf g) fr a') ∧ a' ≤ List.length fr ∧ List.length fr - a' < List.length fr - a) ∧ (Decidable.decide (List.getD fr (Int.toNat (↑a : Int)) (0 : Int) < (↑(List.length (Prod.fst (Option.getD g ([], [])))) : Int)) = Bool.false → Go.DF.okI64 ((↑a : Int) + (1 : Int)) ∧ ∃ (a' : Nat), (fr = fr ∧ (↑(List.length fr) : Int) = (↑(List.length fr) : Int) ∧ (↑a : Int) + (1 : Int) = (↑a' : Int) ∧ g = g ∧ List.length (Go.Proofs.Ytfacddeaobogjaa.N.reachTo (Go.Proofs.Ytfacddeaobogjaa.N.rowsOf g) fr a) = List.length (Go.Proofs.Ytfacddeaobogjaa.N.reachTo (Go.Proofs.Ytfacddeaobogjaa.N.rowsOf g) fr a') ∧ Go.Proofs.Ytfacddeaobogjaa.N.reachTo (Go.Proofs.Ytfacddeaobogjaa.N.rowsOf g) fr a = Go.Proofs.Ytfacddeaobogjaa.N.reachTo (Go.Proofs.Ytfacddeaobogjaa.N.rowsOf g) fr a') ∧ a' ≤ List.length fr ∧ List.length fr - a' < List.length fr - a))) ∧ (Decidable.decide ((0 : Int) ≤ List.getD fr (Int.toNat (↑a : Int)) (0 : Int)) = Bool.false → Go.DF.okI64 ((↑a : Int) + (1 : Int)) ∧ ∃ (a' : Nat), (fr = fr ∧ (↑(List.length fr) : Int) = (↑(List.length fr) : Int) ∧ (↑a : Int) + (1 : Int) = (↑a' : Int) ∧ g = g ∧ List.length (Go.Proofs.Ytfacddeaobogjaa.N.reachTo (Go.Proofs.Ytfacddeaobogjaa.N.rowsOf g) fr a) = List.length (Go.Proofs.Ytfacddeaobogjaa.N.reachTo (Go.Proofs.Ytfacddeaobogjaa.N.rowsOf g) fr a') ∧ Go.Proofs.Ytfacddeaobogjaa.N.reachTo (Go.Proofs.Ytfacddeaobogjaa.N.rowsOf g) fr a = Go.Proofs.Ytfacddeaobogjaa.N.reachTo (Go.Proofs.Ytfacddeaobogjaa.N.rowsOf g) fr a') ∧ a' ≤ List.length fr ∧ List.length fr - a' < List.length fr - a)) ∧ (Decidable.decide ((↑a : Int) < (↑(List.length fr) : Int)) = Bool.false → ((0 : Nat) + List.length (Go.Proofs.Ytfacddeaobogjaa.N.reachTo (Go.Proofs.Ytfacddeaobogjaa.N.rowsOf g) fr a) ≤ List.length (Go.Proofs.Ytfacddeaobogjaa.N.reachTo (Go.Proofs.Ytfacddeaobogjaa.N.rowsOf g) fr a) ∧ List.take (List.length (Go.Proofs.Ytfacddeaobogjaa.N.reachTo (Go.Proofs.Ytfacddeaobogjaa.N.rowsOf g) fr a)) (Go.Proofs.Ytfacddeaobogjaa.N.reachTo (Go.Proofs.Ytfacddeaobogjaa.N.rowsOf g) fr a) = Go.Proofs.Ytfacddeaobogjaa.N.marksG g fr) ∧ True)) ∧ (Option.isNone g = Bool.false → Option.isSome g = Bool.true ∧ ((0 : Int) ≤ (↑(List.length (Prod.fst (Option.getD g ([], [])))) : Int) ∧ (↑(List.length (Prod.fst (Option.getD g ([], [])))) : Int) ≤ (↑(List.length (Prod.fst (Option.getD g ([], [])))) : Int) ∧ (↑(List.length (Prod.fst (Option.getD g ([], [])))) : Int) * (↑(1 : Nat) : Int) ≤ (140737488355328 : Int) ∧ (↑(List.length (Prod.fst (Option.getD g ([], [])))) : Int) ≤ (9223372036854775807 : Int)) ∧ (∃ (a : Nat), (fr = fr ∧ (↑(List.length fr) : Int) = (↑(List.length fr) : Int) ∧ (0 : Int) = (↑a : Int) ∧ g = g ∧ Int.toNat (↑(List.length (Prod.fst (Option.getD g ([], [])))) : Int) = List.length (Go.Proofs.Ytfacddeaobogjaa.N.reachTo (Go.Proofs.Ytfacddeaobogjaa.N.rowsOf g) fr a) ∧ List.replicate (Int.toNat (↑(List.length (Prod.fst (Option.getD g ([], [])))) : Int)) Bool.false = Go.Proofs.Ytfacddeaobogjaa.N.reachTo (Go.Proofs.Ytfacddeaobogjaa.N.rowsOf g) fr a) ∧ a ≤ List.length fr) ∧ ∀ (a : Nat), a ≤ List.length fr → (Decidable.decide ((↑a : Int) < (↑(List.length fr) : Int)) = Bool.true → ((0 : Int) ≤ (↑a : Int) ∧ (↑a : Int) < (↑(List.length fr) : Int)) ∧ (Decidable.decide ((0 : Int) ≤ List.getD fr (Int.toNat (↑a : Int)) (0 : Int)) = Bool.true → (Option.isNone g = Bool.true → (Decidable.decide (List.getD fr (Int.toNat (↑a : Int)) (0 : Int) < (0 : Int)) = Bool.true → (List.getD fr (Int.toNat (↑a : Int)) (0 : Int) = List.getD fr (Int.toNat (↑a : Int)) (0 : Int) ∧ List.length (Go.Proofs.Ytfacddeaobogjaa.N.reachTo (Go.Proofs.Ytfacddeaobogjaa.N.rowsOf g) fr a) = List.length (Go.Proofs.Ytfacddeaobogjaa.N.reachTo (Go.Proofs.Ytfacddeaobogjaa.N.rowsOf g) fr a) ∧ g = g ∧ Go.Proofs.Ytfacddeaobogjaa.N.reachTo (Go.Proofs.Ytfacddeaobogjaa.N.rowsOf g) fr a = Go.Proofs.Ytfacddeaobogjaa.N.reachTo (Go.Proofs.Ytfacddeaobogjaa.N.rowsOf g) fr a ∧ ((0 : Nat) < List.length (Go.Proofs.Ytfacddeaobogjaa.N.rowsOf g) + (1 : Nat) ∧ Go.Proofs.Ytfacddeaobogjaa.N.ok64 (g, Go.Proofs.Ytfacddeaobogjaa.N.reachTo (Go.Proofs.Ytfacddeaobogjaa.N.rowsOf g) fr a, List.getD fr (Int.toNat (↑a : Int)) (0 : Int)) (List.length (Go.Proofs.Ytfacddeaobogjaa.N.rowsOf g) + (1 : Nat) - (1 : Nat))) ∧ True) ∧ Go.DF.okI64 ((↑a : Int) + (1 : Int)) ∧ ∃ (a' : Nat), (fr = fr ∧ (↑(List.length fr) : Int) = (↑(List.length fr) : Int) ∧ (↑a : Int) + (1 : Int) = (↑a' : Int) ∧ g = g ∧ List.length (Go.Proofs.Ytfacddeaobogjaa.N.dfs (Go.Proofs.Ytfacddeaobogjaa.N.rowsOf g) (List.length (Go.Proofs.Ytfacddeaobogjaa.N.rowsOf g) + (1 : Nat) - (1 : Nat) + (1 : Nat)) (Go.Proofs.Ytfacddeaobogjaa.N.reachTo (Go.Proofs.Ytfacddeaobogjaa.N.rowsOf g) fr a) (List.getD fr (Int.toNat (↑a : Int)) (0 : Int))) = List.length (Go.Proofs.Ytfacddeaobogjaa.N.reachTo (Go.Proofs.Ytfacddeaobogjaa.N.rowsOf g) fr a') ∧ Go.Proofs.Ytfacddeaobogjaa.N.dfs (Go.Proofs.Ytfacddeaobogjaa.N.rowsOf g) (List.length (Go.Proofs.Ytfacddeaobogjaa.N.rowsOf g) + (1 : Nat) - (1 : Nat) + (1 : Nat)) (Go.Proofs.Ytfacddeaobogjaa.N.reachTo (Go.Proofs.Ytfacddeaobogjaa.N.rowsOf g) fr a) (List.getD fr (Int.toNat (↑a : Int)) (0 : Int)) = Go.Proofs.Ytfacddeaobogjaa.N.reachTo (Go.Proofs.Ytfacddeaobogjaa.N.rowsOf g) fr a') ∧ a' ≤ List.length fr ∧ List.length fr - a' < List.length fr - a) ∧ (Decidable.decide (List.getD fr (Int.toNat (↑a : Int)) (0 : Int) < (0 : Int)) = Bool.false → Go.DF.okI64 ((↑a : Int) + (1 : Int)) ∧ ∃ (a' : Nat), (fr = fr ∧ (↑(List.length fr) : Int) = (↑(List.length fr) : Int) ∧ (↑a : Int) + (1 : Int) = (↑a' : Int) ∧ g = g ∧ List.length (Go.Proofs.Ytfacddeaobogjaa.N.reachTo (Go.Proofs.Ytfacddeaobogjaa.N.rowsOf g) fr a) = List.length (Go.Proofs.Ytfacddeaobogjaa.N.reachTo (Go.Proofs.Ytfacddeaobogjaa.N.rowsOf g) fr a') ∧ Go.Proofs.Ytfacddeaobogjaa.N.reachTo (Go.Proofs.Ytfacddeaobogjaa.N.rowsOf g) fr a = Go.Proofs.Ytfacddeaobogjaa.N.reachTo (Go.Proofs.Ytfacddeaobogjaa.N.rowsOf g) fr a') ∧ a' ≤ List.length fr ∧ List.length fr - a' < List.length fr - a)) ∧ (Option.isNone g = Bool.false → Option.isSome g = Bool.true ∧ (Decidable.decide (List.getD fr (Int.toNat (↑a : Int)) (0 : Int) < (↑(List.length (Prod.fst (Option.getD g ([], [])))) : Int)) = Bool.true → (List.getD fr (Int.toNat (↑a : Int)) (0 : Int) = List.getD fr (Int.toNat (↑a : Int)) (0 : Int) ∧ List.length (Go.Proofs.Ytfacddeaobogjaa.N.reachTo (Go.Proofs.Ytfacddeaobogjaa.N.rowsOf g) fr a) = List.length (Go.Proofs.Ytfacddeaobogjaa.N.reachTo (Go.Proofs.Ytfacddeaobogjaa.N.rowsOf g) fr a) ∧ g = g ∧ Go.Proofs.Ytfacddeaobogjaa.N.reachTo (Go.Proofs.Ytfacddeaobogjaa.N.rowsOf g) fr a = Go.Proofs.Ytfacddeaobogjaa.N.reachTo (Go.Proofs.Ytfacddeaobogjaa.N.rowsOf g) fr a ∧ ((0 : Nat) < List.length (Go.Proofs.Ytfacddeaobogjaa.N.rowsOf g) + (1 : Nat) ∧ Go.Proofs.Ytfacddeaobogjaa.N.ok64 (g, Go.Proofs.Ytfacddeaobogjaa.N.reachTo (Go.Proofs.Ytfacddeaobogjaa.N.rowsOf g) fr a, List.getD fr (Int.toNat (↑a : Int)) (0 : Int)) (List.length (Go.Proofs.Ytfacddeaobogjaa.N.rowsOf g) + (1 : Nat) - (1 : Nat))) ∧ True) ∧ Go.DF.okI64 ((↑a : Int) + (1 : Int)) ∧ ∃ (a' : Nat), (fr = fr ∧ (↑(List.length fr) : Int) = (↑(List.length fr) : Int) ∧ (↑a : Int) + (1 : Int) = (↑a' : Int) ∧ g = g ∧ List.length (Go.Proofs.Ytfacddeaobogjaa.N.dfs (Go.Proofs.Ytfacddeaobogjaa.N.rowsOf g) (List.length (Go.Proofs.Ytfacddeaobogjaa.N.rowsOf g) + (1 : Nat) - (1 : Nat) + (1 : Nat)) (Go.Proofs.Ytfacddeaobogjaa.N.reachTo (Go.Proofs.Ytfacddeaobogjaa.N.rowsOf g) fr a) (List.getD fr (Int.toNat (↑a : Int)) (0 : Int))) = List.length (Go.Proofs.Ytfacddeaobogjaa.N.reachTo (Go.Proofs.Ytfacddeaobogjaa.N.rowsOf g) fr a') ∧ Go.Proofs.Ytfacddeaobogjaa.N.dfs (Go.Proofs.Ytfacddeaobogjaa.N.rowsOf g) (List.length (Go.Proofs.Ytfacddeaobogjaa.N.rowsOf g) + (1 : Nat) - (1 : Nat) + (1 : Nat)) (Go.Proofs.Ytfacddeaobogjaa.N.reachTo (Go.Proofs.Ytfacddeaobogjaa.N.rowsOf g) fr a) (List.getD fr (Int.toNat (↑a : Int)) (0 : Int)) = Go.Proofs.Ytfacddeaobogjaa.N.reachTo (Go.Proofs.Ytfacddeaobogjaa.N.rowsOf g) fr a') ∧ a' ≤ List.length fr ∧ List.length fr - a' < List.length fr - a) ∧ (Decidable.decide (List.getD fr (Int.toNat (↑a : Int)) (0 : Int) < (↑(List.length (Prod.fst (Option.getD g ([], [])))) : Int)) = Bool.false → Go.DF.okI64 ((↑a : Int) + (1 : Int)) ∧ ∃ (a' : Nat), (fr = fr ∧ (↑(List.length fr) : Int) = (↑(List.length fr) : Int) ∧ (↑a : Int) + (1 : Int) = (↑a' : Int) ∧ g = g ∧ List.length (Go.Proofs.Ytfacddeaobogjaa.N.reachTo (Go.Proofs.Ytfacddeaobogjaa.N.rowsOf g) fr a) = List.length (Go.Proofs.Ytfacddeaobogjaa.N.reachTo (Go.Proofs.Ytfacddeaobogjaa.N.rowsOf g) fr a') ∧ Go.Proofs.Ytfacddeaobogjaa.N.reachTo (Go.Proofs.Ytfacddeaobogjaa.N.rowsOf g) fr a = Go.Proofs.Ytfacddeaobogjaa.N.reachTo (Go.Proofs.Ytfacddeaobogjaa.N.rowsOf g) fr a') ∧ a' ≤ List.length fr ∧ List.length fr - a' < List.length fr - a))) ∧ (Decidable.decide ((0 : Int) ≤ List.getD fr (Int.toNat (↑a : Int)) (0 : Int)) = Bool.false → Go.DF.okI64 ((↑a : Int) + (1 : Int)) ∧ ∃ (a' : Nat), (fr = fr ∧ (↑(List.length fr) : Int) = (↑(List.length fr) : Int) ∧ (↑a : Int) + (1 : Int) = (↑a' : Int) ∧ g = g ∧ List.length (Go.Proofs.Ytfacddeaobogjaa.N.reachTo (Go.Proofs.Ytfacddeaobogjaa.N.rowsOf g) fr a) = List.length (Go.Proofs.Ytfacddeaobogjaa.N.reachTo (Go.Proofs.Ytfacddeaobogjaa.N.rowsOf g) fr a') ∧ Go.Proofs.Ytfacddeaobogjaa.N.reachTo (Go.Proofs.Ytfacddeaobogjaa.N.rowsOf g) fr a = Go.Proofs.Ytfacddeaobogjaa.N.reachTo (Go.Proofs.Ytfacddeaobogjaa.N.rowsOf g) fr a') ∧ a' ≤ List.length fr ∧ List.length fr - a' < List.length fr - a)) ∧ (Decidable.decide ((↑a : Int) < (↑(List.length fr) : Int)) = Bool.false → ((0 : Nat) + List.length (Go.Proofs.Ytfacddeaobogjaa.N.reachTo (Go.Proofs.Ytfacddeaobogjaa.N.rowsOf g) fr a) ≤ List.length (Go.Proofs.Ytfacddeaobogjaa.N.reachTo (Go.Proofs.Ytfacddeaobogjaa.N.rowsOf g) fr a) ∧ List.take (List.length (Go.Proofs.Ytfacddeaobogjaa.N.reachTo (Go.Proofs.Ytfacddeaobogjaa.N.rowsOf g) fr a)) (Go.Proofs.Ytfacddeaobogjaa.N.reachTo (Go.Proofs.Ytfacddeaobogjaa.N.rowsOf g) fr a) = Go.Proofs.Ytfacddeaobogjaa.N.marksG g fr) ∧ True))) _ (by kernel_rfl)
  obtain ⟨A, B, rfl⟩ := hs
  have hr : rowsOf (some (A, B)) = A := rfl
  have hmk : marksG (some (A, B)) fr = reachTo A fr fr.length := (reachTo_all hg fr).symm
  rw [hr] at hg ⊢
  rw [hmk]
  have hlen : ∀ k, (reachTo A fr k).length = A.length := fun k => by
    have := (reach_vis hg (fr.take k) (List.replicate A.length false) List.length_replicate).1.len
    rw [List.length_replicate] at this; exact this
  have hA := hg.1
  simp only [Option.getD_some, Option.isSome_some, Option.isNone_some]
  refine ⟨fun h => absurd h (by simp), fun _ => ⟨trivial, by omega, ⟨0, ⟨trivial, trivial, rfl, trivial, by rw [hlen]; omega, rfl⟩, Nat.zero_le _⟩, fun a ha => ⟨fun hlt => ?_, fun hge => ?_⟩⟩⟩
  · have hlt : a < fr.length := by have := of_decide_eq_true hlt; omega
    have ea : Int.toNat (a : Int) = a := by omega
    rw [ea]
    have hst := reachTo_succ A fr a hlt
    have skip : ¬ (0 ≤ fr.getD a 0 ∧ fr.getD a 0 < (A.length : Int)) → okI64 ((a : Int) + 1) ∧ ∃ a' : Nat, (True ∧ True ∧ (a : Int) + 1 = (a' : Int) ∧ True ∧ (reachTo A fr a).length = (reachTo A fr a').length ∧ reachTo A fr a = reachTo A fr a') ∧ a' ≤ fr.length ∧ fr.length - a' < fr.length - a := fun hn => by
      have e : stepR A (reachTo A fr a) (fr.getD a 0) = reachTo A fr a := if_neg hn
      rw [e] at hst
      exact ⟨by unfold okI64; omega, a + 1, ⟨trivial, trivial, by omega, trivial, by rw [hst], hst.symm⟩, by omega, by omega⟩
    refine ⟨⟨by omega, by omega⟩, fun h0 => ⟨fun h => absurd h (by simp), fun _ => ⟨trivial, fun h1 => ?_, fun h1 => skip fun h => by have := of_decide_eq_false h1; omega⟩⟩, fun h0 => skip fun h => by have := of_decide_eq_false h0; omega⟩
    have h0 := of_decide_eq_true h0
    have h1 := of_decide_eq_true h1
    have e : stepR A (reachTo A fr a) (fr.getD a 0) = dfs A (A.length + 1 - 1 + 1) (reachTo A fr a) (fr.getD a 0) := if_pos ⟨h0, h1⟩
    rw [e] at hst
    have hc : (reachTo A fr a).count false ≤ A.length + 1 - 1 := by have := List.count_le_length (a := false) (l := reachTo A fr a); have := hlen a; omega
    exact ⟨⟨trivial, trivial, trivial, trivial, ⟨by omega, hg, by simp, hlen a, ⟨h0, h1⟩, hc⟩, trivial⟩, by unfold okI64; omega, a + 1, ⟨trivial, trivial, by omega, trivial, by rw [hst], hst.symm⟩, by omega, by omega⟩
  · have hge : a = fr.length := by have := of_decide_eq_false hge; omega
    rw [hge, List.take_length]
    exact ⟨⟨by omega, rfl⟩, trivial⟩
def ok42 (g : Gr) (fr : List Int) : Prop := okV (rowsOf g) ∧ fr.length ≤ 1000000 ∧ ∃ A B, g = some (A, B)
noncomputable def c42 : PureC Try.prog where
  f := 42
  sig := [.dat false gC, .dat false iC]
  per := true
  spec := fun x => .ob (ok42 x.1 x.2.1) none (.leaf (.per (.sl .bool) (marksG x.1 x.2.1)))
  body := hasBody_of Try.func42 (by kernel_rfl) (by kernel_rfl)
  ok := fun x d h => by
    obtain ⟨h1, h⟩ := h
    obtain rfl : d = _ := h
    exact p42 x.1 x.2.1 h1.1 h1.2.1 h1.2.2
/-- The numbers below n for which it holds. -/
def idxL (n : Nat) (P : Nat → Bool) : List Int := ((List.range n).filter P).map fun (i : Nat) => (i : Int)
theorem idxL_succ (n : Nat) (P : Nat → Bool) : idxL (n + 1) P = bif P n then idxL n P ++ [(n : Int)] else idxL n P := by
  unfold idxL
  rw [List.range_succ, List.filter_append, List.map_append]
  cases h : P n <;> simp [h]
theorem idxL_len (n : Nat) (P : Nat → Bool) : (idxL n P).length ≤ n := by
  unfold idxL
  rw [List.length_map]
  exact Nat.le_trans (List.length_filter_le _ _) (by simp)
def at1 (l : Bs) : Nat → Bool := fun i => l.getD i false
def at2 (a b : Bs) : Nat → Bool := fun i => a.getD i false && b.getD i false
def hp43 (l : Bs) : Hp := [(0, (false, .cells 79 [.per (.sl .bool) l]))]
noncomputable def body43 : List (Body Try.prog) := [⟨23, Try.f23, Try.func23, by kernel_rfl, by kernel_rfl, false⟩, ⟨44, Try.f44, Try.func44, by kernel_rfl, by kernel_rfl, false⟩, ⟨46, Try.f46, Try.func46, by kernel_rfl, by kernel_rfl, false⟩]
def inv43 (g : Gr) (l : Bs) : LInv where
  α := Nat
  S := fun k => ⟨[(1, .func 44 [.ptr ⟨0, .lit 0, 0, 0⟩]), (5, .slice ⟨1, .lit 0, 1, 0⟩ (.sym (idxL k (at1 l)).length)), (8, .int .i64 (.sym (rowsOf g).length)), (9, .int .i64 (.sym k))],
    [(0, (false, .cells 79 [.per (.sl .bool) l])), (1, (false, .arr 3 (.int .i64) (idxL k (at1 l))))], 2⟩
  p := fun k => k ≤ (rowsOf g).length
  m := fun k => (rowsOf g).length - k
def out43 (g : Gr) (l : Bs) (d : DV) (st : St) : Prop := subS 1 ⟨[(0, d)], st.hp, st.nx⟩ ⟨[(0, .per iC (idxL (rowsOf g).length (at1 l)))], hp43 l, 1⟩ True
set_option maxHeartbeats 4000000 in
theorem q43 (g : Gr) (l : Bs) (hg : okV (rowsOf g)) (hs : ∃ A B, g = some (A, B)) (hl : l.length = (rowsOf g).length) : DCall Try.prog 43 [.per gC g, .func 44 [.ptr ⟨0, .lit 0, 0, 0⟩]] (hp43 l) 1 (out43 g l) := by
  apply @calls_of_exec _ Try.prog ((cx0 [] [] []).deep body43 100 20) [(3, inv43 g l)] 43 Try.f43 [.per gC g, .func 44 [.ptr ⟨0, .lit 0, 0, 0⟩]] (hp43 l) 1 (out43 g l) Try.func43 _ (of_decide_eq_true rfl)
  apply @cast_goal ((Option.isNone g = Bool.true → (∃ (a : Nat), (List.length (Go.Proofs.Ytfacddeaobogjaa.N.idxL a (Go.Proofs.Ytfacddeaobogjaa.N.at1 l)) = (0 : Nat) ∧ (0 : Int) = (↑(List.length (Go.Proofs.Ytfacddeaobogjaa.N.rowsOf g)) : Int) ∧ (0 : Int) = (↑a : Int) ∧ l = l ∧ Go.Proofs.Ytfacddeaobogjaa.N.idxL a (Go.Proofs.Ytfacddeaobogjaa.N.at1 l) = []) ∧ a ≤ List.length (Go.Proofs.Ytfacddeaobogjaa.N.rowsOf g)) ∧ ∀ (a : Nat), a ≤ List.length (Go.Proofs.Ytfacddeaobogjaa.N.rowsOf g) → (Decidable.decide ((↑a : Int) < (↑(List.length (Go.Proofs.Ytfacddeaobogjaa.N.rowsOf g)) : Int)) = Bool.true → ((0 : Int) ≤ (↑a : Int) ∧ (↑a : Int) < (↑(List.length l) : Int)) ∧ (List.getD l (Int.toNat (↑a : Int)) Bool.false = Bool.true → (0 : Nat) + List.length (Go.Proofs.Ytfacddeaobogjaa.N.idxL a (Go.Proofs.Ytfacddeaobogjaa.N.at1 l)) ≤ List.length (Go.Proofs.Ytfacddeaobogjaa.N.idxL a (Go.Proofs.Ytfacddeaobogjaa.N.at1 l)) ∧ ((List.length (Go.Proofs.Ytfacddeaobogjaa.N.idxL a (Go.Proofs.Ytfacddeaobogjaa.N.at1 l)) + List.length [(↑a : Int)]) * (8 : Nat) ≤ (140737488355328 : Nat) ∧ List.length (Go.Proofs.Ytfacddeaobogjaa.N.idxL a (Go.Proofs.Ytfacddeaobogjaa.N.at1 l)) + List.length [(↑a : Int)] ≤ Go.maxLen) ∧ Go.DF.okI64 ((↑a : Int) + (1 : Int)) ∧ ∃ (a' : Nat), (List.length (Go.Proofs.Ytfacddeaobogjaa.N.idxL a (Go.Proofs.Ytfacddeaobogjaa.N.at1 l)) + (1 : Nat) = List.length (Go.Proofs.Ytfacddeaobogjaa.N.idxL a' (Go.Proofs.Ytfacddeaobogjaa.N.at1 l)) ∧ (↑(List.length (Go.Proofs.Ytfacddeaobogjaa.N.rowsOf g)) : Int) = (↑(List.length (Go.Proofs.Ytfacddeaobogjaa.N.rowsOf g)) : Int) ∧ (↑a : Int) + (1 : Int) = (↑a' : Int) ∧ l = l ∧ List.take (List.length (Go.Proofs.Ytfacddeaobogjaa.N.idxL a (Go.Proofs.Ytfacddeaobogjaa.N.at1 l))) (Go.Proofs.Ytfacddeaobogjaa.N.idxL a (Go.Proofs.Ytfacddeaobogjaa.N.at1 l)) ++ [(↑a : Int)] = Go.Proofs.Ytfacddeaobogjaa.N.idxL a' (Go.Proofs.Ytfacddeaobogjaa.N.at1 l)) ∧ a' ≤ List.length (Go.Proofs.Ytfacddeaobogjaa.N.rowsOf g) ∧ List.length (Go.Proofs.Ytfacddeaobogjaa.N.rowsOf g) - a' < List.length (Go.Proofs.Ytfacddeaobogjaa.N.rowsOf g) - a) ∧ (List.getD l (Int.toNat (↑a : Int)) Bool.false = Bool.false → Go.DF.okI64 ((↑a : Int) + (1 : Int)) ∧ ∃ (a' : Nat), (List.length (Go.Proofs.Ytfacddeaobogjaa.N.idxL a (Go.Proofs.Ytfacddeaobogjaa.N.at1 l)) = List.length (Go.Proofs.Ytfacddeaobogjaa.N.idxL a' (Go.Proofs.Ytfacddeaobogjaa.N.at1 l)) ∧ (↑(List.length (Go.Proofs.Ytfacddeaobogjaa.N.rowsOf g)) : Int) = (↑(List.length (Go.Proofs.Ytfacddeaobogjaa.N.rowsOf g)) : Int) ∧ (↑a : Int) + (1 : Int) = (↑a' : Int) ∧ l = l ∧ Go.Proofs.Ytfacddeaobogjaa.N.idxL a (Go.Proofs.Ytfacddeaobogjaa.N.at1 l) = Go.Proofs.Ytfacddeaobogjaa.N.idxL a' (Go.Proofs.Ytfacddeaobogjaa.N.at1 l)) ∧ a' ≤ List.length (Go.Proofs.Ytfacddeaobogjaa.N.rowsOf g) ∧ List.length (Go.Proofs.Ytfacddeaobogjaa.N.rowsOf g) - a' < List.length (Go.Proofs.Ytfacddeaobogjaa.N.rowsOf g) - a)) ∧ (Decidable.decide ((↑a : Int) < (↑(List.length (Go.Proofs.Ytfacddeaobogjaa.N.rowsOf g)) : Int)) = Bool.false → ((0 : Nat) + List.length (Go.Proofs.Ytfacddeaobogjaa.N.idxL a (Go.Proofs.Ytfacddeaobogjaa.N.at1 l)) ≤ List.length (Go.Proofs.Ytfacddeaobogjaa.N.idxL a (Go.Proofs.Ytfacddeaobogjaa.N.at1 l)) ∧ List.take (List.length (Go.Proofs.Ytfacddeaobogjaa.N.idxL a (Go.Proofs.Ytfacddeaobogjaa.N.at1 l))) (Go.Proofs.Ytfacddeaobogjaa.N.idxL a (Go.Proofs.Ytfacddeaobogjaa.N.at1 l)) = Go.Proofs.Ytfacddeaobogjaa.N.idxL (List.length (Go.Proofs.Ytfacddeaobogjaa.N.rowsOf g)) (Go.Proofs.Ytfacddeaobogjaa.N.at1 l) ∧ l = l) ∧ True)) ∧ (Option.isNone g = Bool.false → Option.isSome g = Bool.true ∧ (∃ (a : Nat), (List.length (Go.Proofs.Ytfacddeaobogjaa.N.idxL a (Go.Proofs.Ytfacddeaobogjaa.N.at1 l)) = (0 : Nat) ∧ (↑(List.length (Prod.fst (Option.getD g ([], [])))) : Int) = (↑(List.length (Go.Proofs.Ytfacddeaobogjaa.N.rowsOf g)) : Int) ∧ (0 : Int) = (↑a : Int) ∧ l = l ∧ Go.Proofs.Ytfacddeaobogjaa.N.idxL a (Go.Proofs.Ytfacddeaobogjaa.N.at1 l) = []) ∧ a ≤ List.length (Go.Proofs.Ytfacddeaobogjaa.N.rowsOf g)) ∧ ∀ (a : Nat), a ≤ List.length (Go.Proofs.Ytfacddeaobogjaa.N.rowsOf g) → (Decidable.decide ((↑a : Int) < (↑(List.length (Go.Proofs.Ytfacddeaobogjaa.N.rowsOf g)) : Int)) = Bool.true → ((0 : Int) ≤ (↑a : Int) ∧ (↑a : Int) < (↑(List.length l) : Int)) ∧ (List.getD l (Int.toNat (↑a : Int)) Bool.false = Bool.true → (0 : Nat) + List.length (Go.Proofs.Ytfacddeaobogjaa.N.idxL a (Go.Proofs.Ytfacddeaobogjaa.N.at1 l)) ≤ List.length (Go.Proofs.Ytfacddeaobogjaa.N.idxL a (Go.Proofs.Ytfacddeaobogjaa.N.at1 l)) ∧ ((List.length (Go.Proofs.Ytfacddeaobogjaa.N.idxL a (Go.Proofs.Ytfacddeaobogjaa.N.at1 l)) + List.length [(↑a : Int)]) * (8 : Nat) ≤ (140737488355328 : Nat) ∧ List.length (Go.Proofs.Ytfacddeaobogjaa.N.idxL a (Go.Proofs.Ytfacddeaobogjaa.N.at1 l)) + List.length [(↑a : Int)] ≤ Go.maxLen) ∧ Go.DF.okI64 ((↑a : Int) + (1 : Int)) ∧ ∃ (a' : Nat), (List.length (Go.Proofs.Ytfacddeaobogjaa.N.idxL a (Go.Proofs.Ytfacddeaobogjaa.N.at1 l)) + (1 : Nat) = List.length (Go.Proofs.Ytfacddeaobogjaa.N.idxL a' (Go.Proofs.Ytfacddeaobogjaa.N.at1 l)) ∧ (↑(List.length (Go.Proofs.Ytfacddeaobogjaa.N.rowsOf g)) : Int) = (↑(List.length (Go.Proofs.Ytfacddeaobogjaa.N.rowsOf g)) : Int) ∧ (↑a : Int) + (1 : Int) = (↑a' : Int) ∧ l = l ∧ List.take (List.length (Go.Proofs.Ytfacddeaobogjaa.N.idxL a (Go.Proofs.Ytfacddeaobogjaa.N.at1 l))) (Go.Proofs.Ytfacddeaobogjaa.N.idxL a (Go.Proofs.Ytfacddeaobogjaa.N.at1 l)) ++ [(↑a : Int)] = Go.Proofs.Ytfacddeaobogjaa.N.idxL a' (Go.Proofs.Ytfacddeaobogjaa.N.at1 l)) ∧ a' ≤ List.length (Go.Proofs.Ytfacddeaobogjaa.N.rowsOf g) ∧ List.length (Go.Proofs.Ytfacddeaobogjaa.N.rowsOf g) - a' < List.length (Go.Proofs.Ytfacddeaobogjaa.N.rowsOf g) - a) ∧ (List.getD l (Int.toNat (↑a : Int)) Bool.false = Bool.false → Go.DF.okI64 ((↑a : Int) + (1 : Int)) ∧ ∃ (a' : Nat), (List.length (Go.Proofs.Ytfacddeaobogjaa.N.idxL a (Go.Proofs.Ytfacddeaobogjaa.N.at1 l)) = List.length (Go.Proofs.Ytfacddeaobogjaa.N.idxL a' (Go.Proofs.Ytfacddeaobogjaa.N.at1 l)) ∧ (↑(List.length (Go.Proofs.Ytfacddeaobogjaa.N.rowsOf g)) : Int) = (↑(List.length (Go.Proofs.Ytfacddeaobogjaa.N.rowsOf g)) : Int) ∧ (↑a : Int) + (1 : Int) = (↑a' : Int) ∧ l = l ∧ Go.Proofs.Ytfacddeaobogjaa.N.idxL a (Go.Proofs.Ytfacddeaobogjaa.N.at1 l) = Go.Proofs.Ytfacddeaobogjaa.N.idxL a' (Go.Proofs.Ytfacddeaobogjaa.N.at1 l)) ∧ a' ≤ List.length (Go.Proofs.Ytfacddeaobogjaa.N.rowsOf g) ∧ List.length (Go.Proofs.Ytfacddeaobogjaa.N.rowsOf g) - a' < List.length (Go.Proofs.Ytfacddeaobogjaa.N.rowsOf g) - a)) ∧ (Decidable.decide ((↑a : Int) < (↑(List.length (Go.Proofs.Ytfacddeaobogjaa.N.rowsOf g)) : Int)) = Bool.false → ((0 : Nat) + List.length (Go.Proofs.Ytfacddeaobogjaa.N.idxL a (Go.Proofs.Ytfacddeaobogjaa.N.at1 l)) ≤ List.length (Go.Proofs.Ytfacddeaobogjaa.N.idxL a (Go.Proofs.Ytfacddeaobogjaa.N.at1 l)) ∧ List.take (List.length (Go.Proofs.Ytfacddeaobogjaa.N.idxL a (Go.Proofs.Ytfacddeaobogjaa.N.at1 l))) (Go.Proofs.Ytfacddeaobogjaa.N.idxL a (Go.Proofs.Ytfacddeaobogjaa.N.at1 l)) = Go.Proofs.Ytfacddeaobogjaa.N.idxL (List.length (Go.Proofs.Ytfacddeaobogjaa.N.rowsOf g)) (Go.Proofs.Ytfacddeaobogjaa.N.at1 l) ∧ l = l) ∧ True))) _ (by kernel_rfl)
  have hmax : maxLen = 9223372036854775807 := rfl
  obtain ⟨A, B, rfl⟩ := hs
  have hr : rowsOf (some (A, B)) = A := rfl
  rw [hr] at hg hl ⊢
  have hA := hg.1
  simp only [Option.getD_some, Option.isSome_some, Option.isNone_some]
  refine ⟨fun h => absurd h (by simp), fun _ => ⟨trivial, ⟨0, ⟨rfl, trivial, rfl, trivial, rfl⟩, Nat.zero_le _⟩, fun a ha => ⟨fun hlt => ?_, fun hge => ?_⟩⟩⟩
  · have hlt : a < A.length := by have := of_decide_eq_true hlt; omega
    have ea : Int.toNat (a : Int) = a := by omega
    have hi := idxL_len a (at1 l)
    have hsx : idxL (a + 1) (at1 l) = bif l.getD a false then idxL a (at1 l) ++ [(a : Int)] else idxL a (at1 l) := idxL_succ a (at1 l)
    rw [ea]
    simp only [List.length_singleton, List.take_length]
    refine ⟨⟨by omega, by omega⟩, fun hb => ⟨by omega, ⟨by omega, by omega⟩, by unfold okI64; omega, a + 1, ⟨?_, trivial, by omega, trivial, ?_⟩, by omega, by omega⟩, fun hb => ⟨by unfold okI64; omega, a + 1, ⟨?_, trivial, by omega, trivial, ?_⟩, by omega, by omega⟩⟩
    all_goals rw [hsx, hb]
    all_goals simp
  · have hge : a = A.length := by have := of_decide_eq_false hge; omega
    rw [hge, List.take_length]
    exact ⟨⟨by omega, rfl, trivial⟩, trivial⟩
def infer43 : List DV → Hp → Option (Gr × Bs)
  | [d, .func _ [.ptr p]], hp => match cod hp fuelC gC [d], DF.look hp p.id with
    | some (g, _), some (_, .cells _ [e]) => match cod hp fuelC (.sl .bool) [e] with | some (l, _) => some (g, l) | none => none
    | _, _ => none
  | _, _ => none
def ok43 (g : Gr) (l : Bs) : Prop := okV (rowsOf g) ∧ (∃ A B, g = some (A, B)) ∧ l.length = (rowsOf g).length
def c43 : CanC Try.prog where
  f := 43
  α := Gr × Bs
  args := fun x => [.per gC x.1, .func 44 [.ptr ⟨0, .lit 0, 0, 0⟩]]
  hp := fun x => hp43 x.2
  n := 1
  infer := infer43
  pre := fun x => ok43 x.1 x.2 ∧ True
  out := fun x => .leaf (.per iC (idxL (rowsOf x.1).length (at1 x.2)), hp43 x.2, 1)
  body := hasBody_of Try.func43 (by kernel_rfl) (by kernel_rfl)
  ok := fun x hx => q43 x.1 x.2 hx.1.1 hx.1.2.1 hx.1.2.2
def hp46 (a b : Bs) : Hp := [(0, (false, .cells 79 [.per (.sl .bool) a])), (1, (false, .cells 79 [.per (.sl .bool) b]))]
def inv43b (g : Gr) (a b : Bs) : LInv where
  α := Nat
  S := fun k => ⟨[(1, .func 46 [.ptr ⟨0, .lit 0, 0, 0⟩, .ptr ⟨1, .lit 0, 0, 0⟩]), (5, .slice ⟨2, .lit 0, 1, 0⟩ (.sym (idxL k (at2 a b)).length)), (8, .int .i64 (.sym (rowsOf g).length)), (9, .int .i64 (.sym k))],
    [(0, (false, .cells 79 [.per (.sl .bool) a])), (1, (false, .cells 79 [.per (.sl .bool) b])), (2, (false, .arr 3 (.int .i64) (idxL k (at2 a b))))], 3⟩
  p := fun k => k ≤ (rowsOf g).length
  m := fun k => (rowsOf g).length - k
def out43b (g : Gr) (a b : Bs) (d : DV) (st : St) : Prop := subS 2 ⟨[(0, d)], st.hp, st.nx⟩ ⟨[(0, .per iC (idxL (rowsOf g).length (at2 a b)))], hp46 a b, 2⟩ True
set_option maxHeartbeats 4000000 in
theorem q43b (g : Gr) (a b : Bs) (hg : okV (rowsOf g)) (hs : ∃ A B, g = some (A, B)) (hl : a.length = (rowsOf g).length) (hl' : b.length = (rowsOf g).length) : DCall Try.prog 43 [.per gC g, .func 46 [.ptr ⟨0, .lit 0, 0, 0⟩, .ptr ⟨1, .lit 0, 0, 0⟩]] (hp46 a b) 2 (out43b g a b) := by
  apply @calls_of_exec _ Try.prog ((cx0 [] [] []).deep body43 100 20) [(3, inv43b g a b)] 43 Try.f43 [.per gC g, .func 46 [.ptr ⟨0, .lit 0, 0, 0⟩, .ptr ⟨1, .lit 0, 0, 0⟩]] (hp46 a b) 2 (out43b g a b) Try.func43 _ (of_decide_eq_true rfl)
  apply @cast_goal ((Option.isNone g = Bool.true → (∃ (a_2 : Nat), (List.length (Go.Proofs.Ytfacddeaobogjaa.N.idxL a_2 (Go.Proofs.Ytfacddeaobogjaa.N.at2 a b)) = (0 : Nat) ∧ (0 : Int) = (↑(List.length (Go.Proofs.Ytfacddeaobogjaa.N.rowsOf g)) : Int) ∧ (0 : Int) = (↑a_2 : Int) ∧ a = a ∧ b = b ∧ Go.Proofs.Ytfacddeaobogjaa.N.idxL a_2 (Go.Proofs.Ytfacddeaobogjaa.N.at2 a b) = []) ∧ a_2 ≤ List.length (Go.Proofs.Ytfacddeaobogjaa.N.rowsOf g)) ∧ ∀ (a_2 : Nat), a_2 ≤ List.length (Go.Proofs.Ytfacddeaobogjaa.N.rowsOf g) → (Decidable.decide ((↑a_2 : Int) < (↑(List.length (Go.Proofs.Ytfacddeaobogjaa.N.rowsOf g)) : Int)) = Bool.true → (((0 : Int) ≤ (↑a_2 : Int) ∧ (↑a_2 : Int) < (↑(List.length a) : Int)) ∧ (List.getD a (Int.toNat (↑a_2 : Int)) Bool.false = Bool.true → ((0 : Int) ≤ (↑a_2 : Int) ∧ (↑a_2 : Int) < (↑(List.length b) : Int)) ∧ True) ∧ (List.getD a (Int.toNat (↑a_2 : Int)) Bool.false = Bool.false → True)) ∧ ((List.getD a (Int.toNat (↑a_2 : Int)) Bool.false && List.getD b (Int.toNat (↑a_2 : Int)) Bool.false) = Bool.true → (0 : Nat) + List.length (Go.Proofs.Ytfacddeaobogjaa.N.idxL a_2 (Go.Proofs.Ytfacddeaobogjaa.N.at2 a b)) ≤ List.length (Go.Proofs.Ytfacddeaobogjaa.N.idxL a_2 (Go.Proofs.Ytfacddeaobogjaa.N.at2 a b)) ∧ ((List.length (Go.Proofs.Ytfacddeaobogjaa.N.idxL a_2 (Go.Proofs.Ytfacddeaobogjaa.N.at2 a b)) + List.length [(↑a_2 : Int)]) * (8 : Nat) ≤ (140737488355328 : Nat) ∧ List.length (Go.Proofs.Ytfacddeaobogjaa.N.idxL a_2 (Go.Proofs.Ytfacddeaobogjaa.N.at2 a b)) + List.length [(↑a_2 : Int)] ≤ Go.maxLen) ∧ Go.DF.okI64 ((↑a_2 : Int) + (1 : Int)) ∧ ∃ (a' : Nat), (List.length (Go.Proofs.Ytfacddeaobogjaa.N.idxL a_2 (Go.Proofs.Ytfacddeaobogjaa.N.at2 a b)) + (1 : Nat) = List.length (Go.Proofs.Ytfacddeaobogjaa.N.idxL a' (Go.Proofs.Ytfacddeaobogjaa.N.at2 a b)) ∧ (↑(List.length (Go.Proofs.Ytfacddeaobogjaa.N.rowsOf g)) : Int) = (↑(List.length (Go.Proofs.Ytfacddeaobogjaa.N.rowsOf g)) : Int) ∧ (↑a_2 : Int) + (1 : Int) = (↑a' : Int) ∧ a = a ∧ b = b ∧ List.take (List.length (Go.Proofs.Ytfacddeaobogjaa.N.idxL a_2 (Go.Proofs.Ytfacddeaobogjaa.N.at2 a b))) (Go.Proofs.Ytfacddeaobogjaa.N.idxL a_2 (Go.Proofs.Ytfacddeaobogjaa.N.at2 a b)) ++ [(↑a_2 : Int)] = Go.Proofs.Ytfacddeaobogjaa.N.idxL a' (Go.Proofs.Ytfacddeaobogjaa.N.at2 a b)) ∧ a' ≤ List.length (Go.Proofs.Ytfacddeaobogjaa.N.rowsOf g) ∧ List.length (Go.Proofs.Ytfacddeaobogjaa.N.rowsOf g) - a' < List.length (Go.Proofs.Ytfacddeaobogjaa.N.rowsOf g) - a_2) ∧ ((List.getD a (Int.toNat (↑a_2 : Int)) Bool.false && List.getD b (Int.toNat (↑a_2 : Int)) Bool.false) = Bool.false → Go.DF.okI64 ((↑a_2 : Int) + (1 : Int)) ∧ ∃ (a' : Nat), (List.length (Go.Proofs.Ytfacddeaobogjaa.N.idxL a_2 (Go.Proofs.Ytfacddeaobogjaa.N.at2 a b)) = List.length (Go.Proofs.Ytfacddeaobogjaa.N.idxL a' (Go.Proofs.Ytfacddeaobogjaa.N.at2 a b)) ∧ (↑(List.length (Go.Proofs.Ytfacddeaobogjaa.N.rowsOf g)) : Int) = (↑(List.length (Go.Proofs.Ytfacddeaobogjaa.N.rowsOf g)) : Int) ∧ (↑a_2 : Int) + (1 : Int) = (↑a' : Int) ∧ a = a ∧ b = b ∧ Go.Proofs.Ytfacddeaobogjaa.N.idxL a_2 (Go.Proofs.Ytfacddeaobogjaa.N.at2 a b) = Go.Proofs.Ytfacddeaobogjaa.N.idxL a' (Go.Proofs.Ytfacddeaobogjaa.N.at2 a b)) ∧ a' ≤ List.length (Go.Proofs.Ytfacddeaobogjaa.N.rowsOf g) ∧ List.length (Go.Proofs.Ytfacddeaobogjaa.N.rowsOf g) - a' < List.length (Go.Proofs.Ytfacddeaobogjaa.N.rowsOf g) - a_2)) ∧ (Decidable.decide ((↑a_2 : Int) < (↑(List.length (Go.Proofs.Ytfacddeaobogjaa.N.rowsOf g)) : Int)) = Bool.false → ((0 : Nat) + List.length (Go.Proofs.Ytfacddeaobogjaa.N.idxL a_2 (Go.Proofs.Ytfacddeaobogjaa.N.at2 a b)) ≤ List.length (Go.Proofs.Ytfacddeaobogjaa.N.idxL a_2 (Go.Proofs.Ytfacddeaobogjaa.N.at2 a b)) ∧ List.take (List.length (Go.Proofs.Ytfacddeaobogjaa.N.idxL a_2 (Go.Proofs.Ytfacddeaobogjaa.N.at2 a b))) (Go.Proofs.Ytfacddeaobogjaa.N.idxL a_2 (Go.Proofs.Ytfacddeaobogjaa.N.at2 a b)) = Go.Proofs.Ytfacddeaobogjaa.N.idxL (List.length (Go.Proofs.Ytfacddeaobogjaa.N.rowsOf g)) (Go.Proofs.Ytfacddeaobogjaa.N.at2 a b) ∧ a = a ∧ b = b) ∧ True)) ∧ (Option.isNone g = Bool.false → Option.isSome g = Bool.true ∧ (∃ (a_2 : Nat), (List.length (Go.Proofs.Ytfacddeaobogjaa.N.idxL a_2 (Go.Proofs.Ytfacddeaobogjaa.N.at2 a b)) = (0 : Nat) ∧ (↑(List.length (Prod.fst (Option.getD g ([], [])))) : Int) = (↑(List.length (Go.Proofs.Ytfacddeaobogjaa.N.rowsOf g)) : Int) ∧ (0 : Int) = (↑a_2 : Int) ∧ a = a ∧ b = b ∧ Go.Proofs.Ytfacddeaobogjaa.N.idxL a_2 (Go.Proofs.Ytfacddeaobogjaa.N.at2 a b) = []) ∧ a_2 ≤ List.length (Go.Proofs.Ytfacddeaobogjaa.N.rowsOf g)) ∧ ∀ (a_2 : Nat), a_2 ≤ List.length (Go.Proofs.Ytfacddeaobogjaa.N.rowsOf g) → (Decidable.decide ((↑a_2 : Int) < (↑(List.length (Go.Proofs.Ytfacddeaobogjaa.N.rowsOf g)) : Int)) = Bool.true → (((0 : Int) ≤ (↑a_2 : Int) ∧ (↑a_2 : Int) < (↑(List.length a) : Int)) ∧ (List.getD a (Int.toNat (↑a_2 : Int)) Bool.false = Bool.true → ((0 : Int) ≤ (↑a_2 : Int) ∧ (↑a_2 : Int) < (↑(List.length b) : Int)) ∧ True) ∧ (List.getD a (Int.toNat (↑a_2 : Int)) Bool.false = Bool.false → True)) ∧ ((List.getD a (Int.toNat (↑a_2 : Int)) Bool.false && List.getD b (Int.toNat (↑a_2 : Int)) Bool.false) = Bool.true → (0 : Nat) + List.length (Go.Proofs.Ytfacddeaobogjaa.N.idxL a_2 (Go.Proofs.Ytfacddeaobogjaa.N.at2 a b)) ≤ List.length (Go.Proofs.Ytfacddeaobogjaa.N.idxL a_2 (Go.Proofs.Ytfacddeaobogjaa.N.at2 a b)) ∧ ((List.length (Go.Proofs.Ytfacddeaobogjaa.N.idxL a_2 (Go.Proofs.Ytfacddeaobogjaa.N.at2 a b)) + List.length [(↑a_2 : Int)]) * (8 : Nat) ≤ (140737488355328 : Nat) ∧ List.length (Go.Proofs.Ytfacddeaobogjaa.N.idxL a_2 (Go.Proofs.Ytfacddeaobogjaa.N.at2 a b)) + List.length [(↑a_2 : Int)] ≤ Go.maxLen) ∧ Go.DF.okI64 ((↑a_2 : Int) + (1 : Int)) ∧ ∃ (a' : Nat), (List.length (Go.Proofs.Ytfacddeaobogjaa.N.idxL a_2 (Go.Proofs.Ytfacddeaobogjaa.N.at2 a b)) + (1 : Nat) = List.length (Go.Proofs.Ytfacddeaobogjaa.N.idxL a' (Go.Proofs.Ytfacddeaobogjaa.N.at2 a b)) ∧ (↑(List.length (Go.Proofs.Ytfacddeaobogjaa.N.rowsOf g)) : Int) = (↑(List.length (Go.Proofs.Ytfacddeaobogjaa.N.rowsOf g)) : Int) ∧ (↑a_2 : Int) + (1 : Int) = (↑a' : Int) ∧ a = a ∧ b = b ∧ List.take (List.length (Go.Proofs.Ytfacddeaobogjaa.N.idxL a_2 (Go.Proofs.Ytfacddeaobogjaa.N.at2 a b))) (Go.Proofs.Ytfacddeaobogjaa.N.idxL a_2 (Go.Proofs.Ytfacddeaobogjaa.N.at2 a b)) ++ [(↑a_2 : Int)] = Go.Proofs.Ytfacddeaobogjaa.N.idxL a' (Go.Proofs.Ytfacddeaobogjaa.N.at2 a b)) ∧ a' ≤ List.length (Go.Proofs.Ytfacddeaobogjaa.N.rowsOf g) ∧ List.length (Go.Proofs.Ytfacddeaobogjaa.N.rowsOf g) - a' < List.length (Go.Proofs.Ytfacddeaobogjaa.N.rowsOf g) - a_2) ∧ ((List.getD a (Int.toNat (↑a_2 : Int)) Bool.false && List.getD b (Int.toNat (↑a_2 : Int)) Bool.false) = Bool.false → Go.DF.okI64 ((↑a_2 : Int) + (1 : Int)) ∧ ∃ (a' : Nat), (List.length (Go.Proofs.Ytfacddeaobogjaa.N.idxL a_2 (Go.Proofs.Ytfacddeaobogjaa.N.at2 a b)) = List.length (Go.Proofs.Ytfacddeaobogjaa.N.idxL a' (Go.Proofs.Ytfacddeaobogjaa.N.at2 a b)) ∧ (↑(List.length (Go.Proofs.Ytfacddeaobogjaa.N.rowsOf g)) : Int) = (↑(List.length (Go.Proofs.Ytfacddeaobogjaa.N.rowsOf g)) : Int) ∧ (↑a_2 : Int) + (1 : Int) = (↑a' : Int) ∧ a = a ∧ b = b ∧ Go.Proofs.Ytfacddeaobogjaa.N.idxL a_2 (Go.Proofs.Ytfacddeaobogjaa.N.at2 a b) = Go.Proofs.Ytfacddeaobogjaa.N.idxL a' (Go.Proofs.Ytfacddeaobogjaa.N.at2 a b)) ∧ a' ≤ List.length (Go.Proofs.Ytfacddeaobogjaa.N.rowsOf g) ∧ List.length (Go.Proofs.Ytfacddeaobogjaa.N.rowsOf g) - a' < List.length (Go.Proofs.Ytfacddeaobogjaa.N.rowsOf g) - a_2)) ∧ (Decidable.decide ((↑a_2 : Int) < (↑(List.length (Go.Proofs.Ytfacddeaobogjaa.N.rowsOf g)) : Int)) = Bool.false → ((0 : Nat) + List.length (Go.Proofs.Ytfacddeaobogjaa.N.idxL a_2 (Go.Proofs.Ytfacddeaobogjaa.N.at2 a b)) ≤ List.length (Go.Proofs.Ytfacddeaobogjaa.N.idxL a_2 (Go.Proofs.Ytfacddeaobogjaa.N.at2 a b)) ∧ List.take (List.length (Go.Proofs.Ytfacddeaobogjaa.N.idxL a_2 (Go.Proofs.Ytfacddeaobogjaa.N.at2 a b))) (Go.Proofs.Ytfacddeaobogjaa.N.idxL a_2 (Go.Proofs.Ytfacddeaobogjaa.N.at2 a b)) = Go.Proofs.Ytfacddeaobogjaa.N.idxL (List.length (Go.Proofs.Ytfacddeaobogjaa.N.rowsOf g)) (Go.Proofs.Ytfacddeaobogjaa.N.at2 a b) ∧ a = a ∧ b = b) ∧ True))) _ (by kernel_rfl)
  have hmax : maxLen = 9223372036854775807 := rfl
  obtain ⟨A, B, rfl⟩ := hs
  have hr : rowsOf (some (A, B)) = A := rfl
  rw [hr] at hg hl hl' ⊢
  have hA := hg.1
  simp only [Option.getD_some, Option.isSome_some, Option.isNone_some]
  refine ⟨fun h => absurd h (by simp), fun _ => ⟨trivial, ⟨0, ⟨rfl, trivial, rfl, trivial, trivial, rfl⟩, Nat.zero_le _⟩, fun i hi => ⟨fun hlt => ?_, fun hge => ?_⟩⟩⟩
  · have hlt : i < A.length := by have := of_decide_eq_true hlt; omega
    have ei : Int.toNat (i : Int) = i := by omega
    have hil := idxL_len i (at2 a b)
    have hsx : idxL (i + 1) (at2 a b) = bif (a.getD i false && b.getD i false) then idxL i (at2 a b) ++ [(i : Int)] else idxL i (at2 a b) := idxL_succ i (at2 a b)
    rw [ei]
    simp only [List.length_singleton, List.take_length]
    refine ⟨⟨⟨by omega, by omega⟩, fun _ => ⟨⟨by omega, by omega⟩, trivial⟩, fun _ => trivial⟩, fun hb => ⟨by omega, ⟨by omega, by omega⟩, by unfold okI64; omega, i + 1, ⟨?_, trivial, by omega, trivial, trivial, ?_⟩, by omega, by omega⟩, fun hb => ⟨by unfold okI64; omega, i + 1, ⟨?_, trivial, by omega, trivial, trivial, ?_⟩, by omega, by omega⟩⟩
    all_goals rw [hsx, hb]
    all_goals simp
  · have hge : i = A.length := by have := of_decide_eq_false hge; omega
    rw [hge, List.take_length]
    exact ⟨⟨by omega, rfl, trivial, trivial⟩, trivial⟩
def infer43b : List DV → Hp → Option (Gr × Bs × Bs)
  | [d, .func _ [.ptr p, .ptr q]], hp => match cod hp fuelC gC [d], DF.look hp p.id, DF.look hp q.id with
    | some (g, _), some (_, .cells _ [e]), some (_, .cells _ [e']) => match cod hp fuelC (.sl .bool) [e], cod hp fuelC (.sl .bool) [e'] with | some (l, _), some (l', _) => some (g, l, l') | _, _ => none
    | _, _, _ => none
  | _, _ => none
def c43b : CanC Try.prog where
  f := 43
  α := Gr × Bs × Bs
  args := fun x => [.per gC x.1, .func 46 [.ptr ⟨0, .lit 0, 0, 0⟩, .ptr ⟨1, .lit 0, 0, 0⟩]]
  hp := fun x => hp46 x.2.1 x.2.2
  n := 2
  infer := infer43b
  pre := fun x => (ok43 x.1 x.2.1 ∧ ok43 x.1 x.2.2) ∧ True
  out := fun x => .leaf (.per iC (idxL (rowsOf x.1).length (at2 x.2.1 x.2.2)), hp46 x.2.1 x.2.2, 2)
  body := hasBody_of Try.func43 (by kernel_rfl) (by kernel_rfl)
  ok := fun x hx => q43b x.1 x.2.1 x.2.2 hx.1.1.1 hx.1.1.2.1 hx.1.1.2.2 hx.1.2.2.2
theorem marksG_len (g : Gr) (fr : List Int) : (marksG g fr).length = (rowsOf g).length := by unfold marksG; rw [marksL_len]; omega
theorem p16 (g : Gr) (fr : List Int) (h : ok42 g fr) : Pure1 Try.prog 16 [.per gC g, .per iC fr] (.per iC (idxL (rowsOf g).length (at1 (marksG g fr)))) := by
  refine pure1_of_exec (ct := cx0 [c42] [c43] []) [] Try.func16 rfl rfl ?_
  apply @cast_goal (Go.Proofs.Ytfacddeaobogjaa.N.ok42 g fr ∧ (g = g ∧ Go.Proofs.Ytfacddeaobogjaa.N.marksG g fr = Go.Proofs.Ytfacddeaobogjaa.N.marksG g fr ∧ Go.Proofs.Ytfacddeaobogjaa.N.ok43 g (Go.Proofs.Ytfacddeaobogjaa.N.marksG g fr) ∧ True) ∧ Go.Proofs.Ytfacddeaobogjaa.N.idxL (List.length (Go.Proofs.Ytfacddeaobogjaa.N.rowsOf g)) (Go.Proofs.Ytfacddeaobogjaa.N.at1 (Go.Proofs.Ytfacddeaobogjaa.N.marksG g fr)) = Go.Proofs.Ytfacddeaobogjaa.N.idxL (List.length (Go.Proofs.Ytfacddeaobogjaa.N.rowsOf g)) (Go.Proofs.Ytfacddeaobogjaa.N.at1 (Go.Proofs.Ytfacddeaobogjaa.N.marksG g fr)) ∧ True) _ (by kernel_rfl)
  exact ⟨h, ⟨rfl, rfl, ⟨h.1, h.2.2, marksG_len g fr⟩, trivial⟩, rfl, trivial⟩
theorem p18 (g : Gr) (fr to : List Int) (h : ok42 g fr) (h' : ok42 (revG g) to) (hl : (rowsOf (revG g)).length = (rowsOf g).length) : Pure1 Try.prog 18 [.per gC g, .per iC fr, .per iC to] (.per iC (idxL (rowsOf g).length (at2 (marksG g fr) (marksG (revG g) to)))) := by
  refine pure1_of_exec (ct := cx0 [c42, c34] [c43b] []) [] Try.func18 rfl rfl ?_
  apply @cast_goal ((Option.isNone g = Bool.true → [] = Go.Proofs.Ytfacddeaobogjaa.N.idxL (List.length (Go.Proofs.Ytfacddeaobogjaa.N.rowsOf g)) (Go.Proofs.Ytfacddeaobogjaa.N.at2 (Go.Proofs.Ytfacddeaobogjaa.N.marksG g fr) (Go.Proofs.Ytfacddeaobogjaa.N.marksG (Go.Proofs.Ytfacddeaobogjaa.N.revG g) to)) ∧ True) ∧ (Option.isNone g = Bool.false → Go.Proofs.Ytfacddeaobogjaa.N.ok42 g fr ∧ Go.Proofs.Ytfacddeaobogjaa.N.ok42 (Go.Proofs.Ytfacddeaobogjaa.N.revG g) to ∧ (g = g ∧ Go.Proofs.Ytfacddeaobogjaa.N.marksG g fr = Go.Proofs.Ytfacddeaobogjaa.N.marksG g fr ∧ Go.Proofs.Ytfacddeaobogjaa.N.marksG (Go.Proofs.Ytfacddeaobogjaa.N.revG g) to = Go.Proofs.Ytfacddeaobogjaa.N.marksG (Go.Proofs.Ytfacddeaobogjaa.N.revG g) to ∧ (Go.Proofs.Ytfacddeaobogjaa.N.ok43 g (Go.Proofs.Ytfacddeaobogjaa.N.marksG g fr) ∧ Go.Proofs.Ytfacddeaobogjaa.N.ok43 g (Go.Proofs.Ytfacddeaobogjaa.N.marksG (Go.Proofs.Ytfacddeaobogjaa.N.revG g) to)) ∧ True) ∧ Go.Proofs.Ytfacddeaobogjaa.N.idxL (List.length (Go.Proofs.Ytfacddeaobogjaa.N.rowsOf g)) (Go.Proofs.Ytfacddeaobogjaa.N.at2 (Go.Proofs.Ytfacddeaobogjaa.N.marksG g fr) (Go.Proofs.Ytfacddeaobogjaa.N.marksG (Go.Proofs.Ytfacddeaobogjaa.N.revG g) to)) = Go.Proofs.Ytfacddeaobogjaa.N.idxL (List.length (Go.Proofs.Ytfacddeaobogjaa.N.rowsOf g)) (Go.Proofs.Ytfacddeaobogjaa.N.at2 (Go.Proofs.Ytfacddeaobogjaa.N.marksG g fr) (Go.Proofs.Ytfacddeaobogjaa.N.marksG (Go.Proofs.Ytfacddeaobogjaa.N.revG g) to)) ∧ True)) _ (by kernel_rfl)
  obtain ⟨A, B, e⟩ := h.2.2
  refine ⟨fun hn => by rw [e] at hn; simp at hn, fun _ => ⟨h, h', ⟨rfl, rfl, rfl, ⟨⟨h.1, h.2.2, marksG_len g fr⟩, ⟨h.1, h.2.2, by rw [marksG_len, hl]⟩⟩, trivial⟩, rfl, trivial⟩⟩
noncomputable def c16 : PureC Try.prog where
  f := 16
  sig := [.dat false gC, .dat false iC]
  per := true
  spec := fun x => .ob (ok42 x.1 x.2.1) none (.leaf (.per iC (idxL (rowsOf x.1).length (at1 (marksG x.1 x.2.1)))))
  body := hasBody_of Try.func16 (by kernel_rfl) (by kernel_rfl)
  ok := fun x d h => by
    obtain ⟨h1, h⟩ := h
    obtain rfl : d = _ := h
    exact p16 x.1 x.2.1 h1
def ok18 (g : Gr) (fr to : List Int) : Prop := ok42 g fr ∧ ok42 (revG g) to ∧ (rowsOf (revG g)).length = (rowsOf g).length
noncomputable def c18 : PureC Try.prog where
  f := 18
  sig := [.dat false gC, .dat false iC, .dat false iC]
  per := true
  spec := fun x => .ob (ok18 x.1 x.2.1 x.2.2.1) none (.leaf (.per iC (idxL (rowsOf x.1).length (at2 (marksG x.1 x.2.1) (marksG (revG x.1) x.2.2.1)))))
  body := hasBody_of Try.func18 (by kernel_rfl) (by kernel_rfl)
  ok := fun x d h => by
    obtain ⟨h1, h⟩ := h
    obtain rfl : d = _ := h
    exact p18 x.1 x.2.1 x.2.2.1 h1.1 h1.2.1 h1.2.2
end Go.Proofs.Ytfacddeaobogjaa.N
