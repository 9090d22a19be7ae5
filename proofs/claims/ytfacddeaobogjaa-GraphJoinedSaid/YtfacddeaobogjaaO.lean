import Derived.Test.YtfacddeaobogjaaF12
import Derived.WalkKit
import Derived.ProofKit
import Derived.OpenShut
import Derived.Deep.Slices
set_option linter.unusedVariables false
set_option linter.unusedSimpArgs false
set_option linter.unnecessarySimpa false
/- What comes in, opened: data of a code. -/
namespace Go.DF
open Go.ChangeShapes Go.WideShapes Go.ChangeAt Go.RowKit Go.Deep
universe u v
set_option linter.unusedSimpArgs false
set_option linter.unusedVariables false
variable [Fam]

/-- What is so of data that come in. -/
def CT.wf : (c : CT) → c.D → Prop
  | .int k, (n : Int) => (Lit.int k n).wf = true
  | .bool, _ => True
  | .str, (s : ByteArray) => s.size ≤ maxLen
  | .pair a b, x => a.wf x.1 ∧ b.wf x.2
  | .sl c, (l : List c.D) => l.length ≤ maxLen ∧ ∀ x ∈ l, c.wf x
  | .pt c, (o : Option c.D) => ∀ x, o = some x → c.wf x
  | .mp _ _ _ _, _ => True
  | .ref _, _ => True

def layF (P : Program) (f : TypeId → CT → Bool) : List Field → CT → Nat → Bool
  | [], _, _ => false
  | [x], c, off => Nat.beq x.offset off && (Nat.beq (P.cellsOf x.type) c.size && f x.type c)
  | x :: y :: r, .pair a b, off => Nat.beq x.offset off && (Nat.beq (P.cellsOf x.type) a.size && (f x.type a && layF P f (y :: r) b (off + a.size)))
  | _, _, _ => false
def layA (P : Program) (f : TypeId → CT → Bool) (e : TypeId) : Nat → CT → Bool
  | 0, _ => false
  | 1, c => Nat.beq (P.cellsOf e) c.size && f e c
  | n + 2, .pair a b => Nat.beq (P.cellsOf e) a.size && (f e a && layA P f e (n + 1) b)
  | _, _ => false
/-- The type's values are laid as the code says. -/
def lay (P : Program) : Nat → TypeId → CT → Bool
  | 0, _, _ => false
  | d + 1, t, c => match P.underlying t, c with
    | some (.int k), .int k' => decide (k' = k)
    | some .bool, .bool => true
    | some .string, .str => true
    | some (.slice e), .sl c => Nat.beq (P.cellsOf e) c.size && lay P d e c
    | some (.pointer e), .pt c => Nat.beq (P.cellsOf e) c.size && lay P d e c
    | some (.struct fs), c => Nat.beq (P.cellsOf t) c.size && layF P (lay P d) fs.toList c 0
    | some (.array n e), c => Nat.beq (P.cellsOf t) c.size && layA P (lay P d) e n c
    | _, _ => false

section
variable {H : Type} {enc : TypeId × Value → H} {P : Program} {w : World} {held : Bool}

omit [Fam] in
theorem cells_at {base : Nat} {a : Addr} {n : Nat} {cs : List Value} (h : w.cells? base a n = some cs) (hn : 0 < n) :
    ∃ (arr : Array Value) (t : TypeId) (fr : Nat × Nat), a.spot = none ∧ w.heap[a.block]? = some (.cells arr t fr) ∧ a.off + n ≤ arr.size ∧ cs = (arr.toList.drop a.off).take n := by
  obtain ⟨_, hlen, hc⟩ := World.cells?_some h
  have h0 := hc 0 hn
  have e0 : a.add 0 = a := by simp [Addr.add]
  rw [e0, List.getElem?_eq_getElem (by omega)] at h0
  unfold World.cell? at h0
  split at h0
  · rename_i arr t fr hb
    split at h0
    · simp at h0
    · rename_i hs
      have hs : a.spot = none := by cases hsp : a.spot <;> simp [hsp] at hs ⊢
      have ha : a = ⟨a.block, a.off, none⟩ := by
        cases a; simp at hs; subst hs; rfl
      have hcell : ∀ i, i < n → arr[a.off + i]? = cs[i]? := by
        intro i hi
        have := hc i hi
        rw [ha, addr_add] at this
        simpa [World.cell?, hb] using this
      refine ⟨arr, t, fr, hs, hb, ?_, ?_⟩
      · have h1 := hcell (n - 1) (by omega)
        rw [List.getElem?_eq_getElem (by omega)] at h1
        rcases Nat.lt_or_ge (a.off + (n - 1)) arr.size with h | h
        · omega
        · rw [Array.getElem?_eq_none h] at h1; simp at h1
      · apply List.ext_getElem?
        intro i
        rw [seg_get]
        by_cases hi : i < n
        · rw [if_pos hi, ← hcell i hi, Array.getElem?_toList]
        · rw [if_neg hi, List.getElem?_eq_none (by omega)]
  · simp at h0

theorem layF_ok {f : TypeId → CT → Bool} {n : Nat} {cs : List Value} (ih : ∀ t c, f t c = true → ∀ fuel cs x, DataW.trod enc P w 0 (fun _ => true) held fuel t cs = some x → ∃ a : c.D, c.wf a ∧ Rp w (fun b => b < w.heap.size) c a cs) :
    ∀ (l : List Field) (c : CT) (off : Nat), layF P f l c off = true → (∀ x ∈ l, ∃ y, DataW.trod enc P w 0 (fun _ => true) held n x.type ((cs.drop x.offset).take (P.cellsOf x.type)) = some y) → cs.length = off + c.size →
      ∃ a : c.D, c.wf a ∧ Rp w (fun b => b < w.heap.size) c a (cs.drop off)
  | [], c, off, h, _, _ => by simp [layF] at h
  | [x], c, off, h, hx, hl => by
    unfold layF at h
    simp only [Bool.and_eq_true] at h
    obtain ⟨h1, h2, h3⟩ := h
    have h1 := Nat.eq_of_beq_eq_true h1
    have h2 := Nat.eq_of_beq_eq_true h2
    obtain ⟨y, hy⟩ := hx x (by simp)
    obtain ⟨a, k1, k2⟩ := ih _ _ h3 _ _ _ hy
    rw [h1, h2, List.take_of_length_le (by rw [List.length_drop]; omega)] at k2
    exact ⟨a, k1, k2⟩
  | x :: y :: r, .pair a b, off, h, hx, hl => by
    unfold layF at h
    simp only [Bool.and_eq_true] at h
    obtain ⟨h1, h2, h3, h4⟩ := h
    have h1 := Nat.eq_of_beq_eq_true h1
    have h2 := Nat.eq_of_beq_eq_true h2
    obtain ⟨z, hz⟩ := hx x (by simp)
    obtain ⟨a0, k1, k2⟩ := ih _ _ h3 _ _ _ hz
    obtain ⟨b0, k3, k4⟩ := layF_ok ih (y :: r) b (off + a.size) h4 (fun x hx' => hx x (by simp at hx' ⊢; exact .inr hx')) (by rw [hl]; simp only [CT.size]; omega)
    rw [h1, h2] at k2
    refine ⟨(a0, b0), ⟨k1, k3⟩, _, _, ?_, k2, k4⟩
    rw [← List.drop_drop]
    exact (List.take_append_drop _ _).symm
  | x :: y :: r, .int _, off, h, hx, hl => by simp [layF] at h
  | x :: y :: r, .bool, off, h, hx, hl => by simp [layF] at h
  | x :: y :: r, .str, off, h, hx, hl => by simp [layF] at h
  | x :: y :: r, .sl _, off, h, hx, hl => by simp [layF] at h
  | x :: y :: r, .pt _, off, h, hx, hl => by simp [layF] at h
  | x :: y :: r, .mp _ _ _ _, off, h, hx, hl => by simp [layF] at h
  | x :: y :: r, .ref _, off, h, hx, hl => by simp [layF] at h

theorem layA_ok {f : TypeId → CT → Bool} {n : Nat} {e : TypeId} {cs : List Value} (ih : ∀ t c, f t c = true → ∀ fuel cs x, DataW.trod enc P w 0 (fun _ => true) held fuel t cs = some x → ∃ a : c.D, c.wf a ∧ Rp w (fun b => b < w.heap.size) c a cs) :
    ∀ (m : Nat) (c : CT) (i : Nat), layA P f e m c = true → (∀ j, i ≤ j → j < i + m → ∃ y, DataW.trod enc P w 0 (fun _ => true) held n e ((cs.drop (j * P.cellsOf e)).take (P.cellsOf e)) = some y) → cs.length = i * P.cellsOf e + c.size →
      ∃ a : c.D, c.wf a ∧ Rp w (fun b => b < w.heap.size) c a (cs.drop (i * P.cellsOf e))
  | 0, c, i, h, _, _ => by simp [layA] at h
  | 1, c, i, h, hx, hl => by
    unfold layA at h
    simp only [Bool.and_eq_true] at h
    obtain ⟨h2, h3⟩ := h
    have h2 := Nat.eq_of_beq_eq_true h2
    obtain ⟨y, hy⟩ := hx i (Nat.le_refl _) (by omega)
    obtain ⟨a, k1, k2⟩ := ih _ _ h3 _ _ _ hy
    rw [List.take_of_length_le (by rw [List.length_drop]; omega)] at k2
    exact ⟨a, k1, k2⟩
  | n' + 2, .pair a b, i, h, hx, hl => by
    unfold layA at h
    simp only [Bool.and_eq_true] at h
    obtain ⟨h2, h3, h4⟩ := h
    have h2 := Nat.eq_of_beq_eq_true h2
    obtain ⟨z, hz⟩ := hx i (Nat.le_refl _) (by omega)
    obtain ⟨a0, k1, k2⟩ := ih _ _ h3 _ _ _ hz
    have e1 : (i + 1) * P.cellsOf e = i * P.cellsOf e + P.cellsOf e := by rw [Nat.add_mul]; omega
    obtain ⟨b0, k3, k4⟩ := layA_ok ih (n' + 1) b (i + 1) h4 (fun j h1 h2 => hx j (by omega) (by omega)) (by rw [hl, e1, h2]; simp only [CT.size]; omega)
    refine ⟨(a0, b0), ⟨k1, k3⟩, _, _, ?_, k2, k4⟩
    rw [e1, ← List.drop_drop]
    exact (List.take_append_drop _ _).symm
  | n' + 2, .int _, i, h, hx, hl => by simp [layA] at h
  | n' + 2, .bool, i, h, hx, hl => by simp [layA] at h
  | n' + 2, .str, i, h, hx, hl => by simp [layA] at h
  | n' + 2, .sl _, i, h, hx, hl => by simp [layA] at h
  | n' + 2, .pt _, i, h, hx, hl => by simp [layA] at h
  | n' + 2, .mp _ _ _ _, i, h, hx, hl => by simp [layA] at h
  | n' + 2, .ref _, i, h, hx, hl => by simp [layA] at h

theorem trod_rp : ∀ (d : Nat) (t : TypeId) (c : CT), lay P d t c = true → ∀ (fuel : Nat) (cs : List Value) (x : DataW H × List MemPlace), DataW.trod enc P w 0 (fun _ => true) held fuel t cs = some x →
    ∃ a : c.D, c.wf a ∧ Rp w (fun b => b < w.heap.size) c a cs
  | 0, t, c, h, _, _, _, _ => by simp [lay] at h
  | d + 1, t, c, h, fuel, cs, x, hx => by
    unfold lay at h
    have bl : ∀ {b : Nat} {o : Obj}, w.heap[b]? = some o → b < w.heap.size := fun hb => by
      rename_i b o
      rcases Nat.lt_or_ge b w.heap.size with h | h
      · exact h
      · rw [Array.getElem?_eq_none h] at hb; simp at hb
    split at h
    · rename_i k k' hu
      obtain rfl : k' = k := of_decide_eq_true h
      obtain ⟨n, rfl, _, hw⟩ := DataW.trod_int hu hx
      exact ⟨n, hw, rfl⟩
    · rename_i hu
      obtain ⟨b, rfl, _⟩ := DataW.trod_bool hu hx
      exact ⟨b, trivial, rfl⟩
    · rename_i hu
      obtain ⟨s, rfl, _, hs⟩ := DataW.trod_string hu hx
      exact ⟨s, hs, rfl⟩
    · rename_i e c hu
      simp only [Bool.and_eq_true] at h
      obtain ⟨h1, h2⟩ := h
      have h1 := Nat.eq_of_beq_eq_true h1
      rcases open_slice hu hx with ⟨rfl, _⟩ | ⟨a, len, cap, m, n, D, Pl, rfl, _, hle, hmax, hm, _, hel⟩
      · exact ⟨([] : List c.D), ⟨Nat.zero_le _, by simp⟩, _, rfl, .inl ⟨none, rfl, rfl⟩⟩
      · simp only [if_true] at hm
        subst hm
        by_cases hc0 : m = 0
        · subst hc0
          have : len = 0 := by omega
          subst this
          exact ⟨([] : List c.D), ⟨Nat.zero_le _, by simp⟩, _, rfl, .inl ⟨some a, rfl, rfl⟩⟩
        · have hpos := c.pos
          have hsp : a.spot = none := by
            obtain ⟨cs0, hc1, _⟩ := hel 0 (by omega)
            rw [h1, Nat.zero_mul] at hc1
            obtain ⟨_, _, _, hsp, _⟩ := cells_at hc1 hpos
            simpa [Addr.add] using hsp
          have ha : a = ⟨a.block, a.off, none⟩ := by
            cases a; simp at hsp; subst hsp; rfl
          have hadd : ∀ k, a.add k = ⟨a.block, a.off + k, none⟩ := fun k => by
            conv => lhs; rw [ha]
            exact addr_add _ _ _
          obtain ⟨cs0, hc1, _⟩ := hel (m - 1) (by omega)
          rw [h1] at hc1
          obtain ⟨arr, t', fr, _, hb, hroom, _⟩ := cells_at hc1 hpos
          rw [hadd] at hb hroom
          dsimp only at hb hroom
          have : ∀ i, ∃ z : c.D, i < m → c.wf z ∧ Rp w (fun b => b < w.heap.size) c z ((arr.toList.drop (a.off + i * c.size)).take c.size) := by
            intro i
            by_cases hi : i < m
            · obtain ⟨cs', k1, k2⟩ := hel i hi
              rw [h1] at k1
              obtain ⟨arr2, t2, fr2, _, hb2, _, rfl⟩ := cells_at k1 hpos
              rw [hadd] at hb2 k2
              dsimp only at hb2 k2
              rw [hb] at hb2
              simp only [Option.some.injEq, Obj.cells.injEq] at hb2
              obtain ⟨rfl, _, _⟩ := hb2
              obtain ⟨z, z1, z2⟩ := trod_rp d e c h2 _ _ _ k2
              exact ⟨z, fun _ => ⟨z1, z2⟩⟩
            · exact ⟨c.dflt, fun h => (hi h).elim⟩
          obtain ⟨F, hF⟩ := Classical.axiomOfChoice this
          refine ⟨(List.range len).map F, ⟨by rw [List.length_map, List.length_range]; omega, fun z hz => ?_⟩, _, rfl, .inr ⟨a.block, a.off, m, arr.toList, t', fr, ?_, ?_, bl hb, by simpa using hb, ?_, fun i z hz => ?_⟩⟩
          · obtain ⟨i, hi, rfl⟩ := List.mem_map.1 hz
            rw [List.mem_range] at hi
            exact (hF i (by omega)).1
          · rw [List.length_map, List.length_range, ← ha]
          · rw [List.length_map, List.length_range]; exact hle
          · have : (m - 1) * c.size + c.size = m * c.size := by
              have e : m = (m - 1) + 1 := by omega
              conv => rhs; rw [e, Nat.add_mul]
              omega
            simp only [Array.length_toList]; omega
          · rw [List.getElem?_map] at hz
            have hi : i < len := by
              rcases Nat.lt_or_ge i len with h | h
              · exact h
              · rw [List.getElem?_eq_none (by simpa using h)] at hz; simp at hz
            rw [List.getElem?_range hi] at hz
            obtain rfl := Option.some.inj hz
            exact (hF i (by omega)).2
    · rename_i e c hu
      simp only [Bool.and_eq_true] at h
      obtain ⟨h1, h2⟩ := h
      have h1 := Nat.eq_of_beq_eq_true h1
      rcases DataW.trod_pointer hu hx with ⟨rfl, _⟩ | ⟨a, cs', y, n, _, rfl, _, k1, k2⟩
      · exact ⟨(none : Option c.D), fun x h => by simp at h, _, rfl, .inl ⟨rfl, rfl⟩⟩
      · rw [h1] at k1
        obtain ⟨arr, t', fr, hsp, hb, hroom, rfl⟩ := cells_at k1 c.pos
        obtain ⟨z, z1, z2⟩ := trod_rp d e c h2 _ _ _ k2
        have ha : a = ⟨a.block, a.off, none⟩ := by
          cases a; simp at hsp; subst hsp; rfl
        exact ⟨(some z : Option c.D), fun x h => by obtain rfl := Option.some.inj h; exact z1, _, rfl, .inr ⟨z, a.block, a.off, arr.toList, t', fr, rfl, by rw [← ha], bl hb, by simpa using hb, by simpa using hroom, z2⟩⟩
    · rename_i fs hu
      simp only [Bool.and_eq_true] at h
      obtain ⟨h1, h2⟩ := h
      have h1 := Nat.eq_of_beq_eq_true h1
      obtain ⟨xs, n, _, _, hl, hxl, hxs⟩ := DataW.trod_struct hu hx
      have := layF_ok (enc := enc) (P := P) (w := w) (held := held) (f := lay P d) (n := n) (cs := cs) (fun t c h fuel cs x hx => trod_rp d t c h fuel cs x hx) fs.toList _ 0 h2 (fun f hf => by
        obtain ⟨i, hi⟩ := List.mem_iff_getElem?.1 hf
        have hi' : fs[i]? = some f := by rw [← Array.getElem?_toList]; exact hi
        have hlt : i < xs.length := by
          rw [hxl]
          rcases Nat.lt_or_ge i fs.size with h | h
          · exact h
          · rw [Array.getElem?_eq_none h] at hi'; simp at hi'
        exact ⟨xs[i], (hxs i f hi').trans (List.getElem?_eq_getElem hlt)⟩) (by omega)
      simpa using this
    · rename_i m e hu
      simp only [Bool.and_eq_true] at h
      obtain ⟨h1, h2⟩ := h
      have h1 := Nat.eq_of_beq_eq_true h1
      obtain ⟨xs, n, _, _, hl, hxl, hxs⟩ := DataW.trod_array hu hx
      have := layA_ok (enc := enc) (P := P) (w := w) (held := held) (f := lay P d) (n := n) (cs := cs) (fun t c h fuel cs x hx => trod_rp d t c h fuel cs x hx) m _ 0 h2 (fun j _ hj => ⟨xs[j]'(by omega), (hxs j (by omega)).trans (List.getElem?_eq_getElem _)⟩) (by omega)
      simpa using this
    · simp at h
end
end Go.DF
