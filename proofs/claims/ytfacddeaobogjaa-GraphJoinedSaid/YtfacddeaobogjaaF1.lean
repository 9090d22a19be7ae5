import Derived.WalkKit
import Derived.RangeFuncLeaves
import Derived.RangeFuncBox
import Derived.OrdersIn
import Derived.LoopNIn
set_option linter.unusedVariables false
set_option linter.unusedSimpArgs false
set_option linter.unnecessarySimpa false
/- The engine, part 1: symbolic values, symbolic memory, and the evaluator of operations and code. Definitions only. -/
namespace Go.DF
universe u v

def oneC : Value → Bool
  | .agg _ => false
  | .tuple _ => false
  | _ => true

/-! ### symbolic data -/
inductive DI where | lit (n : Int) | sym (n : Int)
def DI.v : DI → Int | .lit n => n | .sym n => n
inductive DN where | lit (n : Nat) | sym (n : Nat)
def DN.v : DN → Nat | .lit n => n | .sym n => n
inductive DB where | lit (b : Bool) | sym (b : Bool)
def DB.v : DB → Bool | .lit b => b | .sym b => b
inductive DS where | lit (s : ByteArray) | sym (s : ByteArray)
def DS.v : DS → ByteArray | .lit s => s | .sym s => s

/-- A place in a block that the evaluator knows by a number of its own: element 'idx' of 'sz' cells, and there cell 'fld'. -/
structure DP where
  id : Nat
  idx : DN
  sz : Nat
  fld : Nat
def DP.off (p : DP) : Nat := p.idx.v * p.sz + p.fld

/-! ### codes: how data are written in cells, by memory that is written no more -/
inductive CT where
  | int (k : IntKind)
  | bool
  | str
  | pair (a b : CT)
  | sl (c : CT)
  | pt (c : CT)
  | mp (ka : Bool) (k : CT) (ea : Bool) (e : CT)
  | ref (n : Nat)
  deriving DecidableEq
def CT.size : CT → Nat
  | .pair a b => a.size + b.size
  | _ => 1
/-- The types of one's own: what they stand for. -/
class FamD where
  D : Nat → Type
  dflt : (n : Nat) → D n
def CT.D [FamD] : CT → Type
  | .int _ => Int
  | .bool => Bool
  | .str => ByteArray
  | .pair a b => a.D × b.D
  | .sl c => List c.D
  | .pt c => Option c.D
  | .mp _ k _ e => List (k.D × e.D)
  | .ref n => FamD.D n
def CT.dflt [FamD] : (c : CT) → c.D
  | .int _ => (0 : Int)
  | .bool => false
  | .str => ByteArray.empty
  | .pair a b => (a.dflt, b.dflt)
  | .sl c => ([] : List c.D)
  | .pt c => (none : Option c.D)
  | .mp _ k _ e => ([] : List (k.D × e.D))
  | .ref n => FamD.dflt n
/-- They are pointers to what a code says, or nil. -/
class FamR extends FamD where
  ct : Nat → CT
  get : (n : Nat) → D n → Option (ct n).D
  fold : (n : Nat) → Option (ct n).D → Option (D n)
  rep : (n : Nat) → D n → World → (Nat → Prop) → Value → Prop

/-- A value whose cells are so. -/
def vOf (agg : Bool) (p : List Value → Prop) (v : Value) : Prop := match agg with
  | true => ∃ vs : List Value, v = .agg vs.toArray ∧ p vs
  | false => p [v]
/-- A map's entries bear marks that rise, all below its clock. -/
structure MapOk (ms : List MapEntry) (ck : Nat) : Prop where
  rise : (ms.map (·.born)).Pairwise (· < ·)
  lt : ∀ m ∈ ms, m.born < ck
/-- The cells vs say the datum, in memory of which the set S is written no more. -/
def Rp [FamR] (w : World) (S : Nat → Prop) : (c : CT) → c.D → List Value → Prop
  | .int k, (n : Int), vs => vs = [.int k n]
  | .bool, (b : Bool), vs => vs = [.bool b]
  | .str, (s : ByteArray), vs => vs = [.string s]
  | .pair a b, x, vs => ∃ us ws, vs = us ++ ws ∧ Rp w S a x.1 us ∧ Rp w S b x.2 ws
  | .sl c, (l : List c.D), vs => ∃ v, vs = [v] ∧ ((∃ q, v = .slice q 0 0 ∧ l = []) ∨ ∃ (b o cap : Nat) (cs : List Value) (t : TypeId) (fr : Nat × Nat), v = .slice (some ⟨b, o, none⟩) l.length cap ∧ l.length ≤ cap ∧ S b ∧
      w.heap[b]? = some (.cells cs.toArray t fr) ∧ o + cap * c.size ≤ cs.length ∧ ∀ (i : Nat) (a : c.D), l[i]? = some a → Rp w S c a ((cs.drop (o + i * c.size)).take c.size))
  | .pt c, (x : Option c.D), vs => ∃ v, vs = [v] ∧ ((v = .pointer none ∧ x = none) ∨ ∃ (a : c.D) (b o : Nat) (cs : List Value) (t : TypeId) (fr : Nat × Nat), x = some a ∧ v = .pointer (some ⟨b, o, none⟩) ∧ S b ∧
      w.heap[b]? = some (.cells cs.toArray t fr) ∧ o + c.size ≤ cs.length ∧ Rp w S c a ((cs.drop o).take c.size))
  | .mp ka k ea e, (es : List (k.D × e.D)), vs => ∃ v, vs = [v] ∧ ((v = .map none ∧ es = []) ∨ ∃ (b : Nat) (ms : List MapEntry) (ck : Nat), v = .map (some b) ∧ S b ∧
      w.heap[b]? = some (.map ms.toArray ck) ∧ MapOk ms ck ∧ ms.length = es.length ∧ ∀ (i : Nat) (x : k.D × e.D), es[i]? = some x → ∃ m, ms[i]? = some m ∧ vOf ka (Rp w S k x.1) m.key ∧ vOf ea (Rp w S e x.2) m.val)
  | .ref n, a, vs => ∃ v, vs = [v] ∧ FamR.rep n a w S v
class Fam extends FamR where
  one : ∀ n a w s v, rep n a w s v → oneC v = true
  mono : ∀ n a w w' s s' v, (∀ b, s b → s' b) → (∀ b, s b → w'.heap[b]? = w.heap[b]?) → rep n a w s v → rep n a w' s' v
  opn : ∀ n a w s v, rep n a w s v → Rp w s (.pt (ct n)) (get n a) [v]
  cls : ∀ n x a w s v, fold n x = some a → Rp w s (.pt (ct n)) x [v] → rep n a w s v

inductive DV [FamD] where
  | bool (b : DB)
  | int (k : IntKind) (n : DI)
  | str (s : DS)
  | ptr (p : DP)
  | nilptr
  | slice (p : DP) (len : DN)
  | nilslice
  | map (id : Nat)
  | nilmap
  | func (f : FuncId) (cap : List DV)
  | nilfunc
  | nilif
  | agg (cs : List DV)
  | tup (vs : List DV)
  | per (c : CT) (a : c.D)
  | pel (c : CT) (a : c.D) (off : Nat)
  | nn (c : CT) (l : List c.D)
  | yld (id : Nat)
  | any

/-! ### what a symbolic value stands for -/
structure G where
  ρ : Nat → Option Nat
  pr : Nat → Prop
  base : Nat → Nat
  sub : Nat → Nat → Option Nat
/-- Where a place lies in its block. -/
def G.off (g : G) (p : DP) : Nat := g.base p.id + p.off

section
variable [FamR]
mutual
def Rep (g : G) (w : World) : DV → Value → Prop
  | .bool b, v => v = .bool b.v
  | .int k n, v => v = .int k n.v
  | .str s, v => v = .string s.v
  | .ptr p, v => ∃ b, g.ρ p.id = some b ∧ v = .pointer (some ⟨b, g.off p, none⟩)
  | .nilptr, v => v = .pointer none
  | .slice p n, v => (∃ q, v = .slice q 0 0 ∧ n.v = 0) ∨ ∃ b o cap, g.ρ p.id = some b ∧ n.v ≤ cap ∧ v = .slice (some ⟨b, o, none⟩) n.v cap ∧ (cap = 0 ∨ o = g.off p) ∧
      ∃ (cs : Array Value) (t : TypeId) (fr : Nat × Nat), w.heap[b]? = some (Obj.cells cs t fr) ∧ o + cap * p.sz ≤ cs.size
  | .nilslice, v => v = .slice none 0 0
  | .map i, v => ∃ b, g.ρ i = some b ∧ v = .map (some b)
  | .nilmap, v => v = .map none
  | .func f cap, v => ∃ vs, v = .func (.func f) #[] vs.toArray ∧ RepL g w cap vs
  | .nilfunc, v => v = .nilFunc
  | .nilif, v => v = .nilIface
  | .agg cs, v => ∃ vs, v = .agg vs.toArray ∧ RepL g w cs vs ∧ ∀ u ∈ vs, oneC u = true
  | .tup ds, v => ∃ vs, v = .tuple vs.toArray ∧ RepL g w ds vs
  | .per c a, v => Rp w g.pr c a [v]
  | .pel c a off, v => ∃ (b o : Nat) (cs : List Value) (t : TypeId) (fr : Nat × Nat), v = .pointer (some ⟨b, o + off, none⟩) ∧ g.pr b ∧ w.heap[b]? = some (.cells cs.toArray t fr) ∧ o + c.size ≤ cs.length ∧
      Rp w g.pr c a ((cs.drop o).take c.size)
  | .nn c l, v => (∃ a m cap, v = .slice (some a) m cap) ∧ Rp w g.pr (.sl c) l [v]
  | .yld i, v => ∃ b, g.ρ i = some b ∧ v = .func (.yield b) #[] #[]
  | .any, _ => True
def RepL (g : G) (w : World) : List DV → List Value → Prop
  | [], vs => vs = []
  | d :: ds, vs => ∃ v us, vs = v :: us ∧ Rep g w d v ∧ RepL g w ds us
end
end
section
variable [FamD]
mutual
/-- It names no block. -/
def idf : DV → Bool
  | .ptr _ => false
  | .slice _ _ => false
  | .map _ => false
  | .yld _ => false
  | .func _ cap => idfL cap
  | .agg cs => idfL cs
  | .tup ds => idfL ds
  | _ => true
def idfL : List DV → Bool
  | [] => true
  | d :: ds => match idf d with | true => idfL ds | false => false
end
mutual
/-- It leans on no memory that is written no more. -/
def noPer : DV → Bool
  | .per _ _ => false
  | .pel _ _ _ => false
  | .nn _ _ => false
  | .func _ cap => noPerL cap
  | .agg cs => noPerL cs
  | .tup cs => noPerL cs
  | _ => true
def noPerL : List DV → Bool
  | [] => true
  | d :: ds => match noPer d with | true => noPerL ds | false => false
end

def CT.enc : (c : CT) → c.D → List DV
  | .int k, (n : Int) => [.int k (.sym n)]
  | .bool, (b : Bool) => [.bool (.sym b)]
  | .str, (s : ByteArray) => [.str (.sym s)]
  | .pair a b, x => a.enc x.1 ++ b.enc x.2
  | .sl c, l => [.per (.sl c) l]
  | .pt c, x => [.per (.pt c) x]
  | .mp ka k ea e, es => [.per (.mp ka k ea e) es]
  | .ref n, a => [.per (.ref n) a]

/-- n + 1 of a kind, side by side. -/
def ct2 (c : CT) : Nat → CT
  | 0 => c
  | n + 1 => .pair c (ct2 c n)
def dat2 (c : CT) (l : List c.D) : Nat → (n : Nat) → (ct2 c n).D
  | i, 0 => l.getD i c.dflt
  | i, n + 1 => (l.getD i c.dflt, dat2 c l (i + 1) n)
/-- The cells of k elements from i on. -/
def encN (c : CT) (l : List c.D) : Nat → Nat → List DV
  | _, 0 => []
  | i, k + 1 => c.enc (l.getD i c.dflt) ++ encN c l (i + 1) k

inductive DO where
  | cells (t : TypeId) (cs : List DV)
  | arr (t : TypeId) (c : CT) (l : List c.D)
  | rows (t e : TypeId) (c : CT) (ls : List (List c.D)) (h : Option (DN × Nat × DN))
  | map (es : List (DV × DV))
  | mp (ka : Bool) (k : CT) (ea : Bool) (e : CT) (es : List (k.D × e.D))
  | loop (fr : List (Nat × DV)) (N : Nat) (ps : List Nat) (as bo : Code) (s : LoopState) (pe : Option Code)

/-- A number's entry: is it written no more? what is there. -/
abbrev Hp := List (Nat × (Bool × DO))
abbrev Fr := List (Nat × DV)
end

def look {α : Type u} : List (Nat × α) → Nat → Option α
  | [], _ => none
  | (j, a) :: r, i => match Nat.beq j i with
    | true => some a
    | false => look r i

def repl {α : Type u} : List (Nat × α) → Nat → α → List (Nat × α)
  | [], _, _ => []
  | (j, a) :: r, i, b => match Nat.beq j i with
    | true => (j, b) :: r
    | false => (j, a) :: repl r i b

structure St [FamD] where
  fr : Fr
  hp : Hp
  nx : Nat

structure Ext (g : G) (w : World) (g' : G) (w' : World) : Prop where
  rho : ∀ i b, g.ρ i = some b → g'.ρ i = some b
  pr : ∀ b, g.pr b → g'.pr b
  at' : ∀ b, g.pr b → w'.heap[b]? = w.heap[b]?
  base : ∀ i b, g.ρ i = some b → g'.base i = g.base i
  shape : ∀ (b : Nat) (cs : Array Value) (t : TypeId) (fr : Nat × Nat), w.heap[b]? = some (Obj.cells cs t fr) → ∃ cs' : Array Value, w'.heap[b]? = some (Obj.cells cs' t fr) ∧ cs'.size = cs.size

/-! ### symbolic memory -/
section
variable [FamD]
/-- It may stand for no block at all. -/
def noneO : DO → Prop
  | .arr _ _ l => l = []
  | _ => False
def isRows : DO → Bool
  | .rows _ _ _ _ _ => true
  | .loop _ _ _ _ _ _ _ => true
  | _ => false
/-- Row k is in it. -/
def subOf : DO → Nat → Prop
  | .rows _ _ _ ls h, k => k < ls.length ∧ ∀ j i n, h = some (j, i, n) → k ≠ j.v
  | _, _ => False
end
section
variable [FamR]
/-- The cells from o on are the elements. -/
def Elems (w : World) (S : Nat → Prop) (c : CT) (vs : List Value) (o : Nat) (l : List c.D) : Prop :=
  ∀ (i : Nat) (a : c.D), l[i]? = some a → Rp w S c a ((vs.drop (o + i * c.size)).take c.size)
/-- A row of rows that is in it. -/
def RowIn (w : World) (S : Nat → Prop) (e : TypeId) (c : CT) (l : List c.D) (s : Option Nat) (v : Value) : Prop :=
  (∃ q, v = .slice q 0 0 ∧ l = [] ∧ s = none) ∨ ∃ (b o cap : Nat) (us : List Value), s = some b ∧ v = .slice (some ⟨b, o, none⟩) l.length cap ∧ l.length ≤ cap ∧
    w.heap[b]? = some (.cells us.toArray e (0, 0)) ∧ (∀ u ∈ us, oneC u = true) ∧ o + cap * c.size ≤ us.length ∧ Elems w S c us o l
/-- The temporaries say what the frame says. -/
def RepF (g : G) (w : World) (fr : Fr) (tmps : Array Value) : Prop := ∀ t d, look fr t = some d → ∃ v, tmps[t]? = some v ∧ Rep g w d v
def ORep (g : G) (w : World) (i : Nat) : DO → Nat → Nat → Prop
  | .cells t cs, b, ba => ba = 0 ∧ ∃ vs : List Value, w.heap[b]? = some (.cells vs.toArray t (0, 0)) ∧ RepL g w cs vs ∧ ∀ u ∈ vs, oneC u = true
  | .arr t c l, b, ba => ∃ vs : List Value, w.heap[b]? = some (.cells vs.toArray t (0, 0)) ∧ (∀ u ∈ vs, oneC u = true) ∧ ba + l.length * c.size ≤ vs.length ∧ Elems w g.pr c vs ba l
  | .rows t e c ls h, b, ba => ba = 0 ∧ ∃ vs : List Value, w.heap[b]? = some (.cells vs.toArray t (0, 0)) ∧ (∀ u ∈ vs, oneC u = true) ∧ ls.length = vs.length ∧
      ∀ (k : Nat) (l : List c.D), ls[k]? = some l → ∃ v, vs[k]? = some v ∧ ((∀ j i' n, h = some (j, i', n) → k ≠ j.v) → RowIn w g.pr e c l (g.sub i k) v) ∧
        (∀ j i' n, h = some (j, i', n) → k = j.v → Rep g w (.slice ⟨i', .lit 0, c.size, 0⟩ n) v)
  | .map es, b, _ => ∃ (ms : List MapEntry) (ck : Nat), w.heap[b]? = some (.map ms.toArray ck) ∧ MapOk ms ck ∧ RepL g w (es.map (·.1)) (ms.map (·.key)) ∧ RepL g w (es.map (·.2)) (ms.map (·.val))
  | .mp ka k ea e es, b, _ => ∃ (ms : List MapEntry) (ck : Nat), w.heap[b]? = some (.map ms.toArray ck) ∧ MapOk ms ck ∧ ms.length = es.length ∧
      ∀ (i : Nat) (x : k.D × e.D), es[i]? = some x → ∃ m, ms[i]? = some m ∧ vOf ka (Rp w g.pr k x.1) m.key ∧ vOf ea (Rp w g.pr e x.2) m.val
  | .loop fr N ps as bo s pe, b, _ => ∃ r : Loop, w.heap[b]? = some (.loop r) ∧ r.state = s ∧ r.pending = pe ∧ r.params = ps.toArray ∧ r.assign = as ∧ r.body = bo ∧ r.tmps.size = N ∧ RepF g w fr r.tmps

/-- The memory that the evaluator knows is there: each known block under a number of its own; those that are written no more are protected, the others not. -/
structure Rel (g : G) (hp : Hp) (w : World) : Prop where
  obj : ∀ i z o, look hp i = some (z, o) → (∃ b, g.ρ i = some b ∧ ORep g w i o b (g.base i) ∧ (g.pr b ↔ z = true)) ∨ (noneO o ∧ g.ρ i = none)
  rws : ∀ i z o, look hp i = some (z, o) → isRows o = true → z = false
  inj : ∀ i j oi oj b, look hp i = some (false, oi) → look hp j = some (false, oj) → g.ρ i = some b → g.ρ j = some b → i = j
  sub : ∀ i z o k b, look hp i = some (z, o) → subOf o k → g.sub i k = some b → b < w.heap.size ∧ ¬ g.pr b ∧ (∀ j oj, look hp j = some (false, oj) → g.ρ j ≠ some b) ∧
    ∀ j z' oj k', look hp j = some (z', oj) → subOf oj k' → g.sub j k' = some b → i = j ∧ k = k'
  prl : ∀ b, g.pr b → b < w.heap.size
end

/-- A world that has changed in nothing that was there. -/
structure Silent (w w' : World) : Prop where
  os : w'.os = w.os
  tape : w'.tape = w.tape
  output : w'.output = w.output
  size : w.heap.size ≤ w'.heap.size
  kept : ∀ b, b < w.heap.size → w'.heap[b]? = w.heap[b]?

/-- What has become of the world since the call began: blocks that 'M' does not name are as they were. -/
structure Kept (M : Nat → Prop) (w w' : World) : Prop where
  os : w'.os = w.os
  tape : w'.tape = w.tape
  output : w'.output = w.output
  size : w.heap.size ≤ w'.heap.size
  kept : ∀ b, b < w.heap.size → ¬ M b → w'.heap[b]? = w.heap[b]?

section
variable [FamD]
/-- What may be changed: the blocks of the numbers that are not protected. -/
def Mine (g : G) (hp : Hp) (b : Nat) : Prop := ∃ i o, look hp i = some (false, o) ∧ (g.ρ i = some b ∨ ∃ k, subOf o k ∧ g.sub i k = some b)
end
section
variable [FamR]
/-- A run ends so, said of the evaluator's memory: 'K' of the result and of the memory behind it. -/
def DRun (C : (Ending → World → Prop) → Prop) (g : G) (w : World) (hp : Hp) (n : Nat) (K : DV → St → Prop) : Prop :=
  C fun e w' => ∃ v d st' g', e = .returned v ∧ K d st' ∧ Rel g' st'.hp w' ∧ Rep g' w' d v ∧ Ext g w g' w' ∧
    Kept (Mine g hp) w w' ∧ (∀ i, st'.nx ≤ i → g'.ρ i = none) ∧ (∀ b, Mine g' st'.hp b → Mine g hp b ∨ w.heap.size ≤ b) ∧ (∀ b, g'.pr b → g.pr b ∨ Mine g hp b ∨ w.heap.size ≤ b) ∧ (∀ i, i < n → g'.ρ i = g.ρ i)
/-- What a call does, said of the evaluator's memory: 'K' of the result and of the memory behind the call. -/
def DCall (P : Program) (f : FuncId) (args : List DV) (hp : Hp) (n : Nat) (K : DV → St → Prop) : Prop :=
  ∀ g w vs, Rel g hp w → (∀ i, n ≤ i → g.ρ i = none) → RepL g w args vs → DRun (Calls P f vs.toArray w) g w hp n K
/-- All functions, no bound, in a round of a loop over a function or in none. -/
def fz (r : Option Nat) : Fence := { fn := fun _ => True, depth := none, alive := false, round := r }
/-- The same of a round of a loop over a function. -/
def DYield (P : Program) (id : Nat) (args : List DV) (hp : Hp) (n : Nat) (K : DV → St → Prop) : Prop :=
  ∀ g w vs l r, Rel g hp w → (∀ i, n ≤ i → g.ρ i = none) → RepL g w args vs → g.ρ id = some l → w.heap[l]? = some (.loop r) → vs.length = r.params.size ∧
    DRun (RoundIn (fz none) 0 P l r.fn ((r.params.zip vs.toArray).foldl (fun tmps (t, a) => tmps.setIfInBounds t a) r.tmps) r.assign r.body w) g w hp n K

/-- The same numbers; what is protected anew is new. -/
structure GX (g : G) (w : World) (g' : G) (w' : World) : Prop where
  rho : g'.ρ = g.ρ
  base : g'.base = g.base
  sub : g'.sub = g.sub
  pr : ∀ b, g.pr b → g'.pr b
  new : ∀ b, g'.pr b → g.pr b ∨ w.heap.size ≤ b
  lt : ∀ b, g'.pr b → b < w'.heap.size
/-- Called with these, the function returns this, and nothing that was there has changed. -/
def Pure1 (P : Program) (f : FuncId) (args : List DV) (d : DV) : Prop :=
  ∀ g w vs, RepL g w args vs → (∀ b, g.pr b → b < w.heap.size) → Calls P f vs.toArray w fun e w' => ∃ v g', e = .returned v ∧ Silent w w' ∧ GX g w g' w' ∧ Rep g' w' d v
end
/-! ### trees of outcomes -/
inductive T (α : Type u) : Type u where
  | fail
  | leaf (a : α)
  | br (b : Bool) (t e : T α)
  | ob (p : Prop) (d : Option (Decidable p)) (t : T α)

def T.Holds {α : Type u} : T α → (α → Prop) → Prop
  | .fail, _ => False
  | .leaf a, Q => Q a
  | .br b t e, Q => (b = true → t.Holds Q) ∧ (b = false → e.Holds Q)
  | .ob p _ t, Q => p ∧ t.Holds Q

def T.bind {α : Type u} {β : Type v} : T α → (α → T β) → T β
  | .fail, _ => .fail
  | .leaf a, f => f a
  | .br b t e, f => .br b (t.bind f) (e.bind f)
  | .ob p d t, f => .ob p d (t.bind f)

def T.Path {α : Type u} : T α → α → Prop
  | .fail, _ => False
  | .leaf a, x => x = a
  | .br b t e, x => (b = true ∧ t.Path x) ∨ (b = false ∧ e.Path x)
  | .ob p _ t, x => p ∧ t.Path x

/-- The branch that is taken, found at once. -/
def T.cut {α : Type u} : T α → T α
  | .fail => .fail
  | .leaf a => .leaf a
  | .br b t e => match b with | true => t.cut | false => e.cut
  | .ob p d t => .ob p d t.cut

/-- The outcome, where all is closed: what is owed and not decided, and the leaf. -/
def T.fin {α : Type u} : T α → Option (List Prop × α)
  | .fail => none
  | .leaf a => some ([], a)
  | .br b t e => match b with | true => t.fin | false => e.fin
  | .ob p none t => match t.fin with | some (ps, a) => some (p :: ps, a) | none => none
  | .ob _ (some d) t => match d with | .isTrue _ => t.fin | .isFalse _ => none

def T.opt {α : Type u} : Option α → T α
  | some a => .leaf a
  | none => .fail
def T.isFail {α : Type u} : T α → Bool
  | .fail => true
  | _ => false

def allP : List Prop → Prop
  | [] => True
  | [p] => p
  | p :: q :: r => p ∧ allP (q :: r)
/-- What is owed, first. -/
def T.obs {α : Type u} (ps : List Prop) (t : T α) : T α := match ps with
  | [] => t
  | ps => .ob (allP ps) none t

/-! ### taking data for what a code says -/
section
variable [FamD]
def takeN (cs : List DV) (off n : Nat) : Option (List DV) :=
  let l := (cs.drop off).take n
  match Nat.beq l.length n with | true => some l | false => none

def castD (c c' : CT) (a : c'.D) : Option c.D :=
  match decEq c' c with
  | isTrue h => some (h ▸ a)
  | isFalse _ => none
def castL (c c' : CT) (l : List c'.D) : Option (List c.D) :=
  match decEq c' c with
  | isTrue h => some (h ▸ l)
  | isFalse _ => none
def castLL (c c' : CT) (l : List (List c'.D)) : Option (List (List c.D)) :=
  match decEq c' c with
  | isTrue h => some (h ▸ l)
  | isFalse _ => none
/-- A part of a list. -/
def partL {α : Type u} (l : List α) (i n : DN) : List α := match i with
  | .lit 0 => l.take n.v
  | i => (l.drop i.v).take n.v

def codL {α : Type} (sz : Nat) (f : List DV → Option (α × List Prop)) : Nat → List DV → Option (List α × List Prop)
  | 0, [] => some ([], [])
  | 0, _ => none
  | n + 1, cs => match f (cs.take sz), codL sz f n (cs.drop sz) with
    | some (a, ps), some (l, qs) => some (a :: l, ps ++ qs)
    | _, _ => none
/-- The cells of a value: those of an aggregate, or the one. -/
def celD (agg : Bool) : DV → Option (List DV)
  | .agg cs => match agg with | true => some cs | false => none
  | d => match agg with | true => none | false => some [d]
def codM {α β : Type} (ka : Bool) (f : List DV → Option (α × List Prop)) (ea : Bool) (h : List DV → Option (β × List Prop)) : List (DV × DV) → Option (List (α × β) × List Prop)
  | [] => some ([], [])
  | (a, b) :: r => match celD ka a, celD ea b with
    | some a, some b => match f a, h b, codM ka f ea h r with
      | some (x, ps), some (y, qs), some (l, rs) => some ((x, y) :: l, ps ++ (qs ++ rs))
      | _, _, _ => none
    | _, _ => none
end
section
variable [FamR]
/-- The cells, taken for what the code says; what they lean on is written no more. -/
def cod (hp : Hp) : Nat → (c : CT) → List DV → Option (c.D × List Prop)
  | 0, _, _ => none
  | _ + 1, .int k, cs => match cs with
    | [.int k' n] => match decide (k' = k) with | true => some (n.v, []) | false => none
    | _ => none
  | _ + 1, .bool, cs => match cs with
    | [.bool b] => some (b.v, [])
    | _ => none
  | _ + 1, .str, cs => match cs with
    | [.str s] => some (s.v, [])
    | _ => none
  | f + 1, .pair a b, cs => match cod hp f a (cs.take a.size), cod hp f b (cs.drop a.size) with
    | some (x, ps), some (y, qs) => some ((x, y), ps ++ qs)
    | _, _ => none
  | f + 1, .sl c, cs => match cs with
    | [.nilslice] => some (([] : List c.D), [])
    | [.per c' a] => match castD (.sl c) c' a with | some l => some (l, []) | none => none
    | [.slice p n] => match Nat.beq p.sz c.size, Nat.beq p.fld 0, look hp p.id with
      | true, true, some (true, .arr _ c' l) => match castL c c' l with
        | some l => some (partL l p.idx n, [p.idx.v + n.v ≤ l.length])
        | none => none
      | true, true, some (true, .cells _ ds) => match p.idx, n with
        | .lit i, .lit k => match takeN ds (i * p.sz) (k * p.sz) with
          | some part => codL c.size (cod hp f c) k part
          | none => none
        | _, _ => none
      | _, _, _ => none
    | _ => none
  | f + 1, .pt c, cs => match cs with
    | [.nilptr] => some ((none : Option c.D), [])
    | [.per c' a] => match castD (.pt c) c' a with | some l => some (l, []) | none => none
    | [.pel c' a off] => match castD c c' a, off with | some a, 0 => some ((some a : Option c.D), []) | _, _ => none
    | [.ptr p] => match p.idx, look hp p.id with
      | .lit i, some (true, .cells _ ds) => match takeN ds (i * p.sz + p.fld) c.size with
        | some part => match cod hp f c part with
          | some (a, ps) => some ((some a : Option c.D), ps)
          | none => none
        | none => none
      | _, _ => none
    | _ => none
  | f + 1, .mp ka k ea e, cs => match cs with
    | [.nilmap] => some (([] : List (k.D × e.D)), [])
    | [.per c' a] => match castD (.mp ka k ea e) c' a with | some l => some (l, []) | none => none
    | [.map id] => match look hp id with
      | some (true, .mp ka' k' ea' e' es) => match castD (.mp ka k ea e) (.mp ka' k' ea' e') es with | some l => some (l, []) | none => none
      | some (true, .map es) => codM ka (cod hp f k) ea (cod hp f e) es
      | _ => none
    | _ => none
  | f + 1, .ref n, cs => match cs with
    | [.per c' a] => match castD (.ref n) c' a with | some l => some (l, []) | none => none
    | cs => match cod hp f (.pt (FamR.ct n)) cs with
      | some (x, ps) => match FamR.fold n x with | some a => some (a, ps) | none => none
      | none => none
@[irreducible] def fuelC : Nat := 24

/-! ### at a loop's head: what is known there, in a form of one's own -/
abbrev Sg := List (Nat × Nat)
/-- Numbers from here on name no block. -/
def noBlock : Nat := 1000000
def isTgt : Sg → Nat → Bool
  | [], _ => false
  | (_, j) :: r, k => match Nat.beq j k with | true => true | false => isTgt r k
/-- The number i of the new form is the number j of the old one. -/
def uniI (σ : Sg) (i j : Nat) : Option Sg :=
  match look σ i with
  | some j' => match Nat.beq j' j with | true => some σ | false => none
  | none => match isTgt σ j with | true => none | false => some ((i, j) :: σ)

def eqI (a b : DI) (p : Prop) : Option (List Prop) :=
  match a, b with
  | .lit x, .lit y => match x == y with | true => some [] | false => none
  | _, _ => some [p]
def eqN (a b : DN) (p : Prop) : Option (List Prop) :=
  match a, b with
  | .lit x, .lit y => match Nat.beq x y with | true => some [] | false => none
  | _, _ => some [p]
def eqBl (a b : DB) (p : Prop) : Option (List Prop) :=
  match a, b with
  | .lit x, .lit y => match x == y with | true => some [] | false => none
  | _, _ => some [p]

def eqSl (a b : DS) (p : Prop) : Option (List Prop) :=
  match a, b with
  | .lit x, .lit y => match x.data.toList == y.data.toList with | true => some [] | false => none
  | _, _ => some [p]

def uniP (σ : Sg) (p' p : DP) : Option (Sg × List Prop) :=
  match uniI σ p.id p'.id, eqN p'.idx p.idx (p'.idx.v = p.idx.v), Nat.beq p'.sz p.sz, Nat.beq p'.fld p.fld with
  | some σ, some ps, true, true => some (σ, ps)
  | _, _, _, _ => none

mutual
def uniD (hp : Hp) : Sg → DV → DV → Option (Sg × List Prop)
  | σ, d', .any => match d' with | _ => some (σ, [])
  | σ, d', .bool b => match d' with | .bool b' => (eqBl b' b (b'.v = b.v)).map fun ps => (σ, ps) | _ => none
  | σ, d', .int k b => match d' with | .int k' b' => (match decide (k' = k) with | true => (eqI b' b (b'.v = b.v)).map fun ps => (σ, ps) | false => none) | _ => none
  | σ, d', .str b => match d' with | .str b' => (eqSl b' b (b'.v = b.v)).map fun ps => (σ, ps) | _ => none
  | σ, d', .ptr p => match d' with | .ptr p' => uniP σ p' p | _ => none
  | σ, d', .nilptr => match d' with | .nilptr => some (σ, []) | _ => none
  | σ, d', .slice p n => match d' with
    | .slice p' n' => match uniP σ p' p, eqN n' n (n'.v = n.v) with | some (σ, ps), some qs => some (σ, ps ++ qs) | _, _ => none
    | .nilslice => match uniI σ p.id (noBlock + p.id) with | some σ => some (σ, [n.v = 0]) | none => none
    | _ => none
  | σ, d', .nilslice => match d' with | .nilslice => some (σ, []) | _ => none
  | σ, d', .map i => match d' with | .map i' => (uniI σ i i').map fun σ => (σ, []) | _ => none
  | σ, d', .nilmap => match d' with | .nilmap => some (σ, []) | _ => none
  | σ, d', .func f c => match d' with | .func f' c' => (match Nat.beq f' f with | true => uniL hp σ c' c | false => none) | _ => none
  | σ, d', .nilfunc => match d' with | .nilfunc => some (σ, []) | _ => none
  | σ, d', .nilif => match d' with | .nilif => some (σ, []) | _ => none
  | σ, d', .agg c => match d' with | .agg c' => uniL hp σ c' c | _ => none
  | σ, d', .tup c => match d' with | .tup c' => uniL hp σ c' c | _ => none
  | σ, d', .per c a => match d' with | d' => match cod hp fuelC c [d'] with | some (a', ps) => some (σ, ps ++ [a' = a]) | none => none
  | σ, d', .nn c a => match d' with | .nn c' a' => (match castD (.sl c) (.sl c') a' with | some a' => some (σ, [a' = a]) | none => none) | _ => none
  | σ, d', .yld i => match d' with | .yld i' => (uniI σ i i').map fun σ => (σ, []) | _ => none
  | σ, d', .pel c a o => match d' with | .pel c' a' o' => (match castD c c' a', Nat.beq o' o with | some a', true => some (σ, [a' = a]) | _, _ => none) | _ => none
def uniL (hp : Hp) : Sg → List DV → List DV → Option (Sg × List Prop)
  | σ, ds', [] => match ds' with | [] => some (σ, []) | _ => none
  | σ, ds', d :: ds => match ds' with
    | d' :: ds' => match uniD hp σ d' d with
      | some (σ, ps) => match uniL hp σ ds' ds with
        | some (σ, qs) => some (σ, ps ++ qs)
        | none => none
      | none => none
    | [] => none
end

def uniM (hp : Hp) : Sg → List (DV × DV) → List (DV × DV) → Option (Sg × List Prop)
  | σ, [], [] => some (σ, [])
  | σ, (a', b') :: r', (a, b) :: r => match uniD hp σ a' a with
    | some (σ, ps) => match uniD hp σ b' b with
      | some (σ, qs) => match uniM hp σ r' r with
        | some (σ, rs) => some (σ, ps ++ qs ++ rs)
        | none => none
      | none => none
    | none => none
  | _, _, _ => none
def uniO (hp : Hp) (σ : Sg) (o' o : DO) : Option (Sg × List Prop) :=
  match o, o' with
  | .cells t cs, .cells t' cs' => match Nat.beq t' t with | true => uniL hp σ cs' cs | false => none
  | .arr t c l, .arr t' c' l' => match Nat.beq t' t, castL c c' l' with
    | true, some l' => some (σ, [l' = l])
    | _, _ => none
  | .arr t c l, .cells t' cs' => match Nat.beq t' t, codL c.size (cod hp fuelC c) (cs'.length / c.size) cs' with
    | true, some (l', ps) => some (σ, ps ++ [l' = l])
    | _, _ => none
  | .rows t e c ls none, .rows t' e' c' ls' none => match Nat.beq t' t, Nat.beq e' e, castLL c c' ls' with
    | true, true, some ls' => some (σ, [ls' = ls])
    | _, _, _ => none
  | .map es, .map es' => uniM hp σ es' es
  | .mp ka k ea e es, .mp ka' k' ea' e' es' => match castD (.mp ka k ea e) (.mp ka' k' ea' e') es' with
    | some es' => some (σ, [es' = es])
    | none => none
  | .mp ka k ea e es, .map es' => match codM ka (cod hp fuelC k) ea (cod hp fuelC e) es' with
    | some (es', ps) => some (σ, ps ++ [es' = es])
    | none => none
  | _, _ => none

def uniF (hp : Hp) (fr' : Fr) : Sg → Fr → Option (Sg × List Prop)
  | σ, [] => some (σ, [])
  | σ, (t, d) :: r => match look fr' t with
    | some d' => match uniD hp σ d' d with
      | some (σ, ps) => match uniF hp fr' σ r with
        | some (σ, qs) => some (σ, ps ++ qs)
        | none => none
      | none => none
    | none => none
def uniH (hp' : Hp) : Sg → Hp → Option (Sg × List Prop)
  | σ, [] => some (σ, [])
  | σ, (i, (z, o)) :: r => match look σ i with
    | some j => match look hp' j with
      | some (z', o') => match z' == z, uniO hp' σ o' o with
        | true, some (σ, ps) => match uniH hp' σ r with
          | some (σ, qs) => some (σ, ps ++ qs)
          | none => none
        | _, _ => none
      | none => match Nat.ble noBlock j, o with
        | true, .arr _ _ l => match uniH hp' σ r with
          | some (σ, qs) => some (σ, (l = []) :: qs)
          | none => none
        | _, _ => none
    | none => none

/-! ### steps that change no world: to protect, to put a row back, to forget -/
inductive Gh where
  | fz (i : Nat)
  | heal (i : Nat)
  | drop (i : Nat)
  | arr (i : Nat) (c : CT)
/-- The memory without one number. -/
def dropI (i : Nat) : Hp → Hp
  | [] => []
  | (j, o) :: r => match Nat.beq j i with | true => dropI i r | false => (j, o) :: dropI i r
def ghost : Gh → Hp → T Hp
  | .drop i, hp => .leaf (dropI i hp)
  | .arr i c, hp => match look hp i with
    | some (false, .cells t cs) => match codL c.size (DF.cod hp fuelC c) (cs.length / c.size) cs with
      | some (l, ps) => T.obs ps (.leaf (repl hp i (false, .arr t c l)))
      | none => .leaf hp
    | _ => .leaf hp
  | .fz i, hp => match look hp i with
    | some (false, .rows t _ c ls none) => .leaf (repl hp i (true, .arr t (.sl c) ls))
    | some (false, .rows _ _ _ _ (some _)) => .fail
    | some (false, .loop _ _ _ _ _ _ _) => .leaf hp
    | some (_, o) => .leaf (repl hp i (true, o))
    | none => .leaf hp
  | .heal i, hp => match look hp i with
    | some (false, .rows t e c ls (some (j, i', n))) => match look hp i' with
      | some (false, .arr e' c' l) => match Nat.beq e' e, castL c c' l, Nat.beq i i' with
        | true, some l, false => .ob (n.v ≤ l.length) (some inferInstance) (.leaf (dropI i' (repl hp i (false, .rows t e c (ls.set j.v (l.take n.v)) none))))
        | _, _, _ => .fail
      | _ => .fail
    | _ => .leaf hp
def ghosts : List Gh → Hp → T Hp
  | [], hp => .leaf hp
  | g :: gs, hp => (ghost g hp).bind fun hp => ghosts gs hp

mutual
/-- The numbers that a value names. -/
def idsD : DV → List Nat
  | .ptr p => [p.id]
  | .slice p _ => [p.id]
  | .map i => [i]
  | .yld i => [i]
  | .func _ cap => idsL cap
  | .agg cs => idsL cs
  | .tup ds => idsL ds
  | _ => []
def idsL : List DV → List Nat
  | [] => []
  | d :: ds => idsD d ++ idsL ds
end
def idsO : DO → List Nat
  | .cells _ cs => idsL cs
  | .map es => idsL (es.map (·.1)) ++ idsL (es.map (·.2))
  | .rows _ _ _ _ (some (_, i, _)) => [i]
  | .loop fr _ _ _ _ _ _ => idsL (fr.map (·.2))
  | _ => []
def memN (i : Nat) : List Nat → Bool
  | [] => false
  | j :: r => match Nat.beq i j with | true => true | false => memN i r
/-- What can be reached from some numbers. -/
def reach (hp : Hp) : Nat → List Nat → List Nat → List Nat
  | 0, _, acc => acc
  | _ + 1, [], acc => acc
  | f + 1, i :: r, acc => match memN i acc with
    | true => reach hp f r acc
    | false => match look hp i with
      | some (_, o) => reach hp f (idsO o ++ r) (i :: acc)
      | none => reach hp f r acc
def reachD (hp : Hp) (d : DV) : List Nat := reach hp 200 (idsD d) []
/-- What is to be protected, that a value can be kept. -/
def fzD (hp : Hp) (d : DV) : List Gh := (reachD hp d).flatMap fun i => match look hp i with
  | some (false, .rows _ _ _ _ (some _)) => [.heal i, .fz i]
  | some (false, _) => [.fz i]
  | _ => []
def healAll : Hp → Hp → List Gh
  | _, [] => []
  | hp, (i, (_, .rows _ _ _ _ (some (_, i', _)))) :: r => match look hp i' with
    | some (false, .arr _ _ _) => .heal i :: healAll hp r
    | _ => healAll hp r
  | hp, _ :: r => healAll hp r
mutual
def perIn (hp : Hp) : DV → DV → List Gh
  | d', .per _ _ => match d' with | d' => fzD hp d'
  | d', .agg cs => match d' with | .agg cs' => perInL hp cs' cs | _ => []
  | d', .tup cs => match d' with | .tup cs' => perInL hp cs' cs | _ => []
  | d', .func _ cs => match d' with | .func _ cs' => perInL hp cs' cs | _ => []
  | _, _ => []
def perInL (hp : Hp) : List DV → List DV → List Gh
  | ds', [] => match ds' with | _ => []
  | ds', d :: ds => match ds' with
    | d' :: ds' => perIn hp d' d ++ perInL hp ds' ds
    | [] => []
end
def perInF (hp : Hp) (fr' : Fr) : Fr → List Gh
  | [] => []
  | (t, d) :: r => match look fr' t with
    | some d' => perIn hp d' d ++ perInF hp fr' r
    | none => perInF hp fr' r
mutual
/-- Which number is which, as far as it can be seen. -/
def sgD : DV → DV → Sg
  | d', .ptr p => match d' with | .ptr p' => [(p.id, p'.id)] | _ => []
  | d', .slice p _ => match d' with | .slice p' _ => [(p.id, p'.id)] | _ => []
  | d', .map i => match d' with | .map i' => [(i, i')] | _ => []
  | d', .agg cs => match d' with | .agg cs' => sgL cs' cs | _ => []
  | d', .tup cs => match d' with | .tup cs' => sgL cs' cs | _ => []
  | d', .func _ cs => match d' with | .func _ cs' => sgL cs' cs | _ => []
  | _, _ => []
def sgL : List DV → List DV → Sg
  | ds', [] => match ds' with | _ => []
  | ds', d :: ds => match ds' with
    | d' :: ds' => sgD d' d ++ sgL ds' ds
    | [] => []
end
def sgF (fr' : Fr) : Fr → Sg
  | [] => []
  | (t, d) :: r => match look fr' t with
    | some d' => sgD d' d ++ sgF fr' r
    | none => sgF fr' r
def sgH (hp' : Hp) : Sg → Hp → Sg
  | σ, [] => σ
  | σ, (i, (_, .cells _ cs)) :: r => match look σ i with
    | some j => match look hp' j with
      | some (_, .cells _ cs') => sgH hp' (σ ++ sgL cs' cs) r
      | _ => sgH hp' σ r
    | none => sgH hp' σ r
  | σ, _ :: r => sgH hp' σ r
def perInH (hp' : Hp) (σ : Sg) : Hp → List Gh
  | [] => []
  | (i, (z, o)) :: r => match look σ i with
    | some j => (match z, look hp' j with | true, some (false, _) => [Gh.fz j] | _, _ => []) ++ (match o, look hp' j with
      | .cells _ cs, some (_, .cells _ cs') => perInL hp' cs' cs
      | .arr _ _ _, some (_, .cells _ cs') => cs'.flatMap (fzD hp')
      | _, _ => []) ++ perInH hp' σ r
    | none => perInH hp' σ r

def keysLt (n : Nat) : Sg → Bool
  | [] => true
  | (i, _) :: r => match Nat.blt i n with | true => keysLt n r | false => false
def idS : Nat → Sg
  | 0 => []
  | n + 1 => (n, n) :: idS n
def plan (n0 : Nat) (s' s : St) : List Gh :=
  healAll s'.hp s'.hp ++ perInF s'.hp s'.fr s.fr ++ perInH s'.hp (sgH s'.hp (idS n0 ++ sgF s'.fr s.fr) s.hp) s.hp
/-- The state s' may be taken for the state s: what s says is so there, under other numbers perhaps. n0: the numbers below it stay. -/
def subS (n0 : Nat) (s' s : St) (k : Prop) : Prop :=
  (ghosts (plan n0 s' s) s'.hp).Holds fun hp' => match uniF hp' s'.fr (idS n0) s.fr with
  | some (σ, ps) => match uniH hp' σ s.hp with
    | some (σ, qs) => match keysLt s.nx σ with
      | true => match Nat.ble s'.nx noBlock with
        | true => allP (ps ++ qs) ∧ k
        | false => False
      | false => False
    | none => False
  | none => False
end
def okI64 (n : Int) : Prop := -9223372036854775808 ≤ n ∧ n ≤ 9223372036854775807
instance (n : Int) : Decidable (okI64 n) := inferInstanceAs (Decidable (_ ∧ _))
def bitsI (op : BinOp) (k : IntKind) (x y : Int) : Int :=
  let a := BitVec.ofInt k.bits x
  let b := BitVec.ofInt k.bits y
  match op with
  | .and => k.wrap (a &&& b).toNat
  | .or => k.wrap (a ||| b).toNat
  | .xor => k.wrap (a ^^^ b).toNat
  | .andNot => k.wrap (a &&& ~~~b).toNat
  | _ => 0
def shlI (k : IntKind) (x y : Int) : Int := k.wrap (x * 2 ^ (min y.toNat k.bits))
def shrI (k : IntKind) (x y : Int) : Int := x.fdiv (2 ^ (min y.toNat k.bits))
def two (a b : DI) (r : Int) : DI :=
  match a, b with
  | .lit _, .lit _ => .lit r
  | _, _ => .sym r
def twoB (a b : DI) (r : Bool) : DB :=
  match a, b with
  | .lit _, .lit _ => .lit r
  | _, _ => .sym r
def eqS (a b : DS) : DB :=
  match a, b with
  | .lit x, .lit y => .lit (x.toList == y.toList)
  | a, b => .sym (a.v.toList == b.v.toList)
def notB : DB → DB
  | .lit b => .lit (!b)
  | .sym b => .sym (!b)
def andB : DB → DB → DB
  | .lit true, b => b
  | .lit false, _ => .lit false
  | .sym a, .lit true => .sym a
  | .sym _, .lit false => .lit false
  | .sym a, .sym b => .sym (a && b)
def eqB : DB → DB → DB
  | .lit a, .lit b => .lit (a == b)
  | .lit true, .sym b => .sym b
  | .lit false, .sym b => .sym (!b)
  | .sym a, .lit true => .sym a
  | .sym a, .lit false => .sym (!a)
  | .sym a, .sym b => .sym (a == b)
def underD (P : Program) (t : TypeId) : Option TypeDesc := P.underlying t
def sizeD (P : Program) (t : TypeId) : Option Nat := match P.info? t with | some i => some i.size | none => none
def catS (a b : DS) : DS :=
  match a, b with
  | .lit a, .lit b => .lit (a ++ b)
  | a, b => .sym (a.v ++ b.v)
def bytesS (l : List Int) : ByteArray := ⟨(l.map fun n => UInt8.ofNat n.toNat).toArray⟩
/-! ### values -/
section
variable [FamR]
def ofValue : Value → Option DV
  | .bool b => some (.bool (.lit b))
  | .int k n => some (.int k (.lit n))
  | .string s => some (.str (.lit s))
  | .pointer none => some .nilptr
  | .slice none 0 0 => some .nilslice
  | .map none => some .nilmap
  | .nilFunc => some .nilfunc
  | .nilIface => some .nilif
  | _ => none
/-- The sum, the difference, the product: of two literals at once; of int64: with the obligation that nothing overflows; else wrapped. -/
def arith (k : IntKind) (a b : DI) (r : Int) : T DV :=
  match a, b with
  | .lit _, .lit _ => .leaf (.int k (.lit (k.wrap r)))
  | _, _ => match k with
    | .i64 => .ob (okI64 r) (some inferInstance) (.leaf (.int .i64 (.sym r)))
    | k => .leaf (.int k (.sym (k.wrap r)))
/-- An obligation on literals is decided at once. -/
def need (a b : DI) (c : Bool) (p : Prop) [Decidable p] (t : T DV) : T DV :=
  match a, b with
  | .lit _, .lit _ => match c with | true => t | false => .fail
  | _, _ => .ob p (some inferInstance) t
def need1 (a : DI) (c : Bool) (p : Prop) [Decidable p] (t : T DV) : T DV :=
  match a with
  | .lit _ => match c with | true => t | false => .fail
  | _ => .ob p (some inferInstance) t
def binInt (op : BinOp) (k : IntKind) (a b : DI) : T DV :=
  match op with
  | .add => arith k a b (a.v + b.v)
  | .sub => arith k a b (a.v - b.v)
  | .mul => arith k a b (a.v * b.v)
  | .quo => need1 b (!(b.v == 0)) (b.v ≠ 0) (arith k a b (a.v.tdiv b.v))
  | .rem => need1 b (!(b.v == 0)) (b.v ≠ 0) (.leaf (.int k (two a b (a.v.tmod b.v))))
  | .and => .leaf (.int k (two a b (bitsI .and k a.v b.v)))
  | .or => .leaf (.int k (two a b (bitsI .or k a.v b.v)))
  | .xor => .leaf (.int k (two a b (bitsI .xor k a.v b.v)))
  | .andNot => .leaf (.int k (two a b (bitsI .andNot k a.v b.v)))
  | .eql => .leaf (.bool (twoB a b (a.v == b.v)))
  | .neq => .leaf (.bool (twoB a b (a.v != b.v)))
  | .lss => .leaf (.bool (twoB a b (decide (a.v < b.v))))
  | .leq => .leaf (.bool (twoB a b (decide (a.v ≤ b.v))))
  | .gtr => .leaf (.bool (twoB a b (decide (b.v < a.v))))
  | .geq => .leaf (.bool (twoB a b (decide (b.v ≤ a.v))))
  | .shl => need1 b (decide (0 ≤ b.v)) (0 ≤ b.v) (.leaf (.int k (two a b (shlI k a.v b.v))))
  | .shr => need1 b (decide (0 ≤ b.v)) (0 ≤ b.v) (.leaf (.int k (two a b (shrI k a.v b.v))))
def oneO : List DV → Option DV
  | [d] => some d
  | _ => none
def partO (P : Program) (t : TypeId) (cs : List DV) (off : Nat) : Option DV :=
  match underD P t with
  | some (.struct _) => match sizeD P t with
    | some n => match takeN cs off n with | some l => some (.agg l) | none => none
    | none => none
  | some (.array _ _) => match sizeD P t with
    | some n => match takeN cs off n with | some l => some (.agg l) | none => none
    | none => none
  | some _ => match takeN cs off 1 with | some l => oneO l | none => none
  | none => none
/-- Is it nil? -/
def isNilD : DV → Option DB
  | .ptr _ => some (.lit false)
  | .nilptr => some (.lit true)
  | .pel _ _ _ => some (.lit false)
  | .per (.pt _) x => some (.sym (Option.isNone x))
  | .per (.ref n) a => some (.sym (Option.isNone (FamR.get n a)))
  | _ => none
/-- '==' on two scalars. -/
def eqV (P : Program) (t : TypeId) (x y : DV) : Option DB :=
  match x, y with
  | .bool a, .bool b => match underD P t with | some .bool => some (eqB a b) | _ => none
  | .int k a, .int k' b => match underD P t, decide (k = k') with | some (.int _), true => some (twoB a b (a.v == b.v)) | _, _ => none
  | .str a, .str b => match underD P t with | some .string => some (eqS a b) | _ => none
  | .func _ _, .nilfunc => match underD P t with | some (.func _ _ _) => some (.lit false) | _ => none
  | .nilfunc, .nilfunc => match underD P t with | some (.func _ _ _) => some (.lit true) | _ => none
  | .slice _ n, .nilslice => match n, underD P t with | .lit (_ + 1), some (.slice _) => some (.lit false) | _, _ => none
  | .nilslice, .nilslice => match underD P t with | some (.slice _) => some (.lit true) | _ => none
  | .nn _ _, .nilslice => match underD P t with | some (.slice _) => some (.lit false) | _ => none
  | .map _, .nilmap => match underD P t with | some (.map _ _) => some (.lit false) | _ => none
  | .nilmap, .nilmap => match underD P t with | some (.map _ _) => some (.lit true) | _ => none
  | x, .nilptr => match underD P t with | some (.pointer _) => isNilD x | _ => none
  | .nilptr, y => match underD P t with | some (.pointer _) => isNilD y | _ => none
  | _, _ => none
def eqFs (P : Program) (eq : TypeId → DV → DV → Option DB) (xs ys : List DV) : List Field → Option DB
  | [] => some (.lit true)
  | f :: fs => match f.name == "_" with
    | true => none
    | false => match partO P f.type xs f.offset, partO P f.type ys f.offset with
      | some a, some b => match eq f.type a b, eqFs P eq xs ys fs with
        | some r, some r' => some (andB r r')
        | _, _ => none
      | _, _ => none
def eqIs (P : Program) (eq : TypeId → DV → DV → Option DB) (e : TypeId) (s : Nat) (xs ys : List DV) : List Nat → Option DB
  | [] => some (.lit true)
  | i :: is => match partO P e xs (i * s), partO P e ys (i * s) with
    | some a, some b => match eq e a b, eqIs P eq e s xs ys is with
      | some r, some r' => some (andB r r')
      | _, _ => none
    | _, _ => none
/-- '==', structs and arrays too. -/
def eqT (P : Program) : Nat → TypeId → DV → DV → Option DB
  | 0, _, _, _ => none
  | d + 1, t, .agg xs, .agg ys => match underD P t with
    | some (.struct fs) => match P.stoodInHeld t with
      | false => eqFs P (eqT P d) xs ys fs.toList
      | true => none
    | some (.array n e) => match sizeD P e with
      | some s => eqIs P (eqT P d) e s xs ys (List.range n)
      | none => none
    | _ => none
  | _ + 1, t, x, y => eqV P t x y
/-- '==' as an operation: what Go asks of two interface values is not asked here. -/
def eqO (P : Program) (t : TypeId) (x y : DV) : Option DB :=
  match x, y with
  | .agg _, .agg _ => match P.eqGuardType P.depth t with
    | false => eqT P 8 t x y
    | true => none
  | .agg _, _ => none
  | _, .agg _ => none
  | x, y => eqV P t x y
def binV (P : Program) (op : BinOp) (t : TypeId) (x y : DV) : T DV :=
  match x, y with
  | .int k a, .int k' b => match decide (k = k'), op with
    | true, .shl => binInt .shl k a b
    | _, .shl => need1 b (decide (0 ≤ b.v)) (0 ≤ b.v) (.leaf (.int k (two a b (shlI k a.v b.v))))
    | _, .shr => need1 b (decide (0 ≤ b.v)) (0 ≤ b.v) (.leaf (.int k (two a b (shrI k a.v b.v))))
    | true, op => binInt op k a b
    | false, _ => .fail
  | .str a, .str b => match underD P t, op with
    | some .string, .add => .ob ((a.v.size : Int) + b.v.size ≤ 9223372036854775807) (some inferInstance) (.leaf (.str (catS a b)))
    | some .string, .lss => .leaf (.bool (.sym (Op.bytesLess a.v.toList b.v.toList)))
    | some .string, .leq => .leaf (.bool (.sym (Op.bytesLess a.v.toList b.v.toList || a.v.toList == b.v.toList)))
    | some .string, .gtr => .leaf (.bool (.sym (!(Op.bytesLess a.v.toList b.v.toList || a.v.toList == b.v.toList))))
    | some .string, .geq => .leaf (.bool (.sym (!(Op.bytesLess a.v.toList b.v.toList))))
    | some .string, .eql => .leaf (.bool (eqS a b))
    | some .string, .neq => .leaf (.bool (notB (eqS a b)))
    | _, _ => .fail
  | .per (.pt _) x, .per (.pt _) y => match underD P t, op with
    | some (.pointer _), .eql => .ob (Option.isNone x = true ∨ Option.isNone y = true) (some inferInstance) (.leaf (.bool (.sym (Option.isNone x && Option.isNone y))))
    | some (.pointer _), .neq => .ob (Option.isNone x = true ∨ Option.isNone y = true) (some inferInstance) (.leaf (.bool (.sym (!(Option.isNone x && Option.isNone y)))))
    | _, _ => .fail
  | x, y => match op with
    | .eql => match eqO P t x y with | some b => .leaf (.bool b) | none => .fail
    | .neq => match eqO P t x y with | some b => .leaf (.bool (notB b)) | none => .fail
    | _ => .fail
def unV (op : UnOp) (x : DV) : T DV :=
  match op, x with
  | .not, .bool b => .leaf (.bool (notB b))
  | .neg, .int k n => arith k (.lit 0) n (0 - n.v)
  | .xor, .int k n => .leaf (.int k (two n n (bitsI .xor k (if k.signed then -1 else k.max) n.v)))
  | _, _ => .fail
/-- A conversion that asks nothing of memory but what is written no more. -/
def convV (P : Program) (src dst : TypeId) (x : DV) : T DV :=
  match underD P src, underD P dst, x with
  | some _, some (.int k), .int _ n => .leaf (.int k (match n with | .lit n => .lit (k.wrap n) | .sym n => .sym (k.wrap n)))
  | some .string, some .string, .str s => .leaf (.str s)
  | _, _, _ => .fail

def partT (P : Program) (t : TypeId) (cs : List DV) (off : Nat) : T DV := T.opt (partO P t cs off)
def oneD (l : List DV) : T DV := T.opt (oneO l)

def cellsV : DV → Option (List DV)
  | .agg cs => some cs
  | .tup _ => none
  | .any => none
  | d => some [d]

def setRange (cs : List DV) (off : Nat) (new : List DV) : List DV := cs.take off ++ new ++ cs.drop (off + new.length)

/-! ### loads -/
def loadN (hp : Hp) (p : DP) (n : Nat) : T (List DV) :=
  match look hp p.id with
  | some (_, .cells _ cs) => match p.idx with
    | .lit i => T.opt (takeN cs (i * p.sz + p.fld) n)
    | .sym _ => .fail
  | some (_, .arr _ c l) => match Nat.beq p.sz c.size, Nat.ble (p.fld + n) c.size with
    | true, true => .ob (p.idx.v < l.length) (some inferInstance) (T.opt (takeN (c.enc (l.getD p.idx.v c.dflt)) p.fld n))
    | true, false => match Nat.beq p.fld 0, Nat.beq (n / c.size * c.size) n with
      | true, true => .ob (p.idx.v + n / c.size ≤ l.length) (some inferInstance) (.leaf (encN c l p.idx.v (n / c.size)))
      | _, _ => .fail
    | false, _ => match p.idx, Nat.beq p.fld 0, Nat.beq (n / c.size * c.size) n, Nat.blt 0 n with
      | .lit 0, true, true, true => .ob (0 + n / c.size ≤ l.length) (some inferInstance) (.leaf (encN c l 0 (n / c.size)))
      | _, _, _, _ => .fail
  | _ => .fail
/-- What lies behind an address. -/
def loadA (hp : Hp) (x : DV) (n : Nat) : T (List DV) :=
  match x with
  | .ptr p => loadN hp p n
  | .pel c a off => T.opt (takeN (c.enc a) off n)
  | _ => .fail
def loadT (P : Program) (hp : Hp) (t : TypeId) (x : DV) : T DV :=
  match underD P t with
  | some (.struct _) => match sizeD P t with | some n => (loadA hp x n).bind fun l => .leaf (.agg l) | none => .fail
  | some (.array _ _) => match sizeD P t with | some n => (loadA hp x n).bind fun l => .leaf (.agg l) | none => .fail
  | some _ => (loadA hp x 1).bind oneD
  | none => .fail

/-! ### operations -/
def fillD (place : Nat → Option (Nat × Nat)) : List DV → List (Nat × DV) → Option (List DV)
  | cs, [] => some cs
  | cs, (i, v) :: r => match place i, cellsV v with
    | some (off, size), some vs => match Nat.beq vs.length size, Nat.ble (off + size) cs.length with
      | true, true => fillD place (setRange cs off vs) r
      | _, _ => none
    | _, _ => none

def ofValues : List Value → Option (List DV)
  | [] => some []
  | v :: r => match ofValue v, ofValues r with
    | some d, some ds => some (d :: ds)
    | _, _ => none

def zeroD (P : Program) (t : TypeId) : Option (List DV) :=
  match P.info? t with
  | some i => match i.zero with
    | some z => ofValues z.cells.toList
    | none => none
  | none => none

def mapO {α : Type u} {β : Type v} (f : α → Option β) : List α → Option (List β)
  | [] => some []
  | a :: r => match f a, mapO f r with
    | some b, some bs => some (b :: bs)
    | _, _ => none

def partsD (lk : Operand → Option DV) : List (Nat × Operand) → Option (List (Nat × DV))
  | [] => some []
  | (i, x) :: r => match lk x, partsD lk r with
    | some d, some ds => some ((i, d) :: ds)
    | _, _ => none

def placesD (P : Program) : List Field → Option (List (Nat × Nat))
  | [] => some []
  | f :: r => match sizeD P f.type, placesD P r with
    | some n, some l => some ((f.offset, n) :: l)
    | _, _ => none

def buildD (P : Program) (t : TypeId) (parts : List (Nat × DV)) : Option DV :=
  match zeroD P t with
  | none => none
  | some z => match underD P t with
    | some (.struct fs) => match placesD P fs.toList with
      | some places => match fillD (fun i => places[i]?) z parts with
        | some cs => some (.agg cs)
        | none => none
      | none => none
    | some (.array _ e) => match sizeD P e with
      | some n => match fillD (fun i => some (i * n, n)) z parts with
        | some cs => some (.agg cs)
        | none => none
      | none => none
    | _ => none

/-- A function that is called is entered: it has a body, and is none that the model answers itself. -/
def HasBody (P : Program) (f : FuncId) : Prop := ∃ fn, P.funcs[f]? = some fn ∧ (fn.name == "runtime.NumGoroutine") = false ∧ fn.body.isNone = false

/-! ### what is known of functions -/
/-- An argument: a datum of a code, or a certain function with what it has captured. -/
inductive AS where
  | dat (agg : Bool) (c : CT)
  | fn (f : FuncId) (cap : List CT)
def CLD : List CT → Type
  | [] => Unit
  | c :: r => c.D × CLD r
def AS.D : AS → Type
  | .dat _ c => c.D
  | .fn _ cap => CLD cap
def ALD : List AS → Type
  | [] => Unit
  | a :: r => a.D × ALD r
/-- A datum as a value. -/
def toV (agg : Bool) (c : CT) (a : c.D) : DV := match agg with
  | true => .agg (c.enc a)
  | false => match c.enc a with | [d] => d | _ => .any
def encCL : (cs : List CT) → CLD cs → List DV
  | [], _ => []
  | c :: r, x => toV false c x.1 :: encCL r x.2
def AS.enc : (a : AS) → a.D → DV
  | .dat agg c, x => toV agg c x
  | .fn f cap, x => .func f (encCL cap x)
def encAL : (s : List AS) → ALD s → List DV
  | [], _ => []
  | a :: r, x => a.enc x.1 :: encAL r x.2
def codCL (hp : Hp) : (cs : List CT) → List DV → Option (CLD cs × List Prop)
  | [], [] => some ((), [])
  | c :: r, d :: ds => match Nat.beq c.size 1, cod hp fuelC c [d], codCL hp r ds with
    | true, some (a, ps), some (x, qs) => some ((a, x), ps ++ qs)
    | _, _, _ => none
  | _, _ => none
def AS.cod (hp : Hp) : (a : AS) → DV → Option (a.D × List Prop)
  | .dat agg c, d => match agg, d with
    | true, .agg cs => DF.cod hp fuelC c cs
    | false, d => match Nat.beq c.size 1 with | true => DF.cod hp fuelC c [d] | false => none
    | _, _ => none
  | .fn f cap, d => match d with
    | .func f' ds => match Nat.beq f' f with | true => codCL hp cap ds | false => none
    | _ => none
def codAL (hp : Hp) : (s : List AS) → List DV → Option (ALD s × List Prop)
  | [], [] => some ((), [])
  | a :: r, d :: ds => match a.cod hp d, codAL hp r ds with
    | some (x, ps), some (y, qs) => some ((x, y), ps ++ qs)
    | _, _ => none
  | _, _ => none

/-- What is known of a function that writes nothing that was there: of these data it returns this. 'per': what it returns leans on memory. -/
structure PureC (P : Program) where
  f : FuncId
  sig : List AS
  per : Bool
  spec : ALD sig → T DV
  body : HasBody P f
  ok : ∀ x d, (spec x).Path d → Pure1 P f (encAL sig x) d

/-- What is known of a function that reads or writes memory, in numbers of its own: its arguments, the memory that it needs (its blocks are numbered from 0 to n - 1), its result and the memory behind it (new blocks from n to n' - 1). -/
structure CanC (P : Program) where
  f : FuncId
  α : Type
  args : α → List DV
  hp : α → Hp
  n : Nat
  infer : List DV → Hp → Option α
  pre : α → Prop
  out : α → T (DV × Hp × Nat)
  body : HasBody P f
  ok : ∀ x, pre x → DCall P f (args x) (hp x) n (fun d st => (out x).Holds fun r => subS n ⟨[(0, d)], st.hp, st.nx⟩ ⟨[(0, r.1)], r.2.1, r.2.2⟩ True)

def findCC {P : Program} : List (CanC P) → FuncId → Option (CanC P)
  | [], _ => none
  | c :: r, f => match Nat.beq c.f f with | true => some c | false => findCC r f
def findC {P : Program} : List (PureC P) → FuncId → Option (PureC P)
  | [], _ => none
  | c :: r, f => match Nat.beq c.f f with | true => some c | false => findC r f
/-- What the runs of callees' bodies say is so. -/
def InlOk (P : Program) (inl yie : Nat → List DV → Hp → Nat → T (DV × Hp × Nat)) : Prop :=
  (∀ f args hp nx r, (inl f args hp nx).Path r → HasBody P f ∧ DCall P f args hp nx (fun d st => d = r.1 ∧ st.hp = r.2.1 ∧ st.nx = r.2.2)) ∧
  ∀ id args hp nx r, (yie id args hp nx).Path r → (∃ fr N ps as bo s pe, look hp id = some (false, .loop fr N ps as bo s pe)) ∧ DYield P id args hp nx (fun d st => d = r.1 ∧ st.hp = r.2.1 ∧ st.nx = r.2.2)
/-- What is known of functions: contracts; 'cl': is all that is reckoned with closed? 'inl', 'yie': callees and rounds that are run in place. -/
structure Cx (P : Program) where
  pure : List (PureC P)
  can : List (CanC P)
  refs : List (TypeId × Nat)
  cl : Bool
  inl : Nat → List DV → Hp → Nat → T (DV × Hp × Nat)
  yie : Nat → List DV → Hp → Nat → T (DV × Hp × Nat)
  ok : InlOk P inl yie
def cx0 {P : Program} (pure : List (PureC P)) (can : List (CanC P)) (refs : List (TypeId × Nat)) : Cx P :=
  ⟨pure, can, refs, false, fun _ _ _ _ => .fail, fun _ _ _ _ => .fail, ⟨fun _ _ _ _ _ h => h.elim, fun _ _ _ _ _ h => h.elim⟩⟩

mutual
def rnD (f : Nat → Option Nat) : DV → Option DV
  | .bool b => some (.bool b)
  | .int k n => some (.int k n)
  | .str s => some (.str s)
  | .ptr p => match f p.id with | some i => some (.ptr { p with id := i }) | none => none
  | .nilptr => some .nilptr
  | .slice p n => match f p.id with | some i => some (.slice { p with id := i } n) | none => none
  | .nilslice => some .nilslice
  | .map i => match f i with | some i => some (.map i) | none => none
  | .yld i => match f i with | some i => some (.yld i) | none => none
  | .nilmap => some .nilmap
  | .func fn cap => match rnL f cap with | some c => some (.func fn c) | none => none
  | .nilfunc => some .nilfunc
  | .nilif => some .nilif
  | .agg cs => match rnL f cs with | some c => some (.agg c) | none => none
  | .tup cs => match rnL f cs with | some c => some (.tup c) | none => none
  | .per c a => some (.per c a)
  | .pel c a o => some (.pel c a o)
  | .nn c l => some (.nn c l)
  | .any => some .any
def rnL (f : Nat → Option Nat) : List DV → Option (List DV)
  | [] => some []
  | d :: ds => match rnD f d, rnL f ds with
    | some d, some ds => some (d :: ds)
    | _, _ => none
end
def rnM (f : Nat → Option Nat) : List (DV × DV) → Option (List (DV × DV))
  | [] => some []
  | (a, b) :: r => match rnD f a, rnD f b, rnM f r with
    | some a, some b, some r => some ((a, b) :: r)
    | _, _, _ => none
def rnO (f : Nat → Option Nat) : DO → Option DO
  | .cells t cs => match rnL f cs with | some cs => some (.cells t cs) | none => none
  | .arr t c l => some (.arr t c l)
  | .rows t e c ls none => some (.rows t e c ls none)
  | .rows _ _ _ _ (some _) => none
  | .map es => match rnM f es with | some es => some (.map es) | none => none
  | .mp ka k ea e es => some (.mp ka k ea e es)
  | .loop _ _ _ _ _ _ _ => none
def rnH (f : Nat → Option Nat) : Hp → Option Hp
  | [] => some []
  | (i, (z, o)) :: r => match f i, rnO f o, rnH f r with
    | some i, some o, some r => some ((i, (z, o)) :: r)
    | _, _, _ => none
/-- The call's blocks are all known here. -/
def tgtsIn (hp : Hp) : Sg → Bool
  | [] => true
  | (_, j) :: r => match look hp j with
    | some _ => tgtsIn hp r
    | none => match Nat.ble noBlock j with | true => tgtsIn hp r | false => false
/-- Is it one that a call may write? -/
def tgtW (σ : Sg) (hp0 : Hp) (i : Nat) : Bool := match isTgt σ i, look hp0 i with
  | true, some (false, _) => true
  | _, _ => false
/-- The memory without the blocks that a call may write. -/
def dropT (σ : Sg) (hp0 : Hp) : Hp → Hp
  | [] => []
  | (i, e) :: r => match tgtW σ hp0 i with | true => dropT σ hp0 r | false => (i, e) :: dropT σ hp0 r
def rnF (σ : Sg) (n nx : Nat) (i : Nat) : Option Nat := match Nat.blt i n with | true => look σ i | false => some (nx + (i - n))
def hpLt (n : Nat) : Hp → Bool
  | [] => true
  | (i, _) :: r => match Nat.blt i n with | true => hpLt n r | false => false
/-- What a contract speaks of beside what is new: nothing that is protected. -/
def outOk (n : Nat) : Hp → Bool
  | [] => true
  | (i, (z, _)) :: r => match Nat.blt i n, z with | true, true => false | _, _ => outOk n r
/-- Entries under numbers that the caller knows, or new ones. -/
def fitH (hp : Hp) (nx nx' : Nat) : Hp → Hp
  | [] => []
  | (i, e) :: r => match look hp i, Nat.ble nx i, Nat.blt i nx' with
    | some _, _, _ => (i, e) :: fitH hp nx nx' r
    | none, true, true => (i, e) :: fitH hp nx nx' r
    | _, _, _ => fitH hp nx nx' r

def callC {P : Program} (c : CanC P) (args : List DV) (hp : Hp) (nx : Nat) : T (DV × Hp × Nat) :=
  match c.infer args hp with
  | none => .fail
  | some x => match uniL hp [] args (c.args x) with
    | none => .fail
    | some (σ, ps) => match uniH hp σ (c.hp x) with
      | none => .fail
      | some (σ, qs) => match keysLt c.n σ, tgtsIn hp σ, hpLt nx hp with
        | true, true, true => T.obs (ps ++ (qs ++ [c.pre x])) ((c.out x).bind fun r =>
          match rnD (rnF σ c.n nx) r.1, rnH (rnF σ c.n nx) r.2.1, outOk c.n r.2.1, Nat.ble c.n r.2.2, Nat.ble (nx + (r.2.2 - c.n)) noBlock with
          | some d, some h, true, true, true => .leaf (d, fitH hp nx (nx + (r.2.2 - c.n)) h ++ dropT σ hp hp, nx + (r.2.2 - c.n))
          | _, _, _, _, _ => .fail)
        | _, _, _ => .fail

def idsLt (n : Nat) : List Nat → Bool
  | [] => true
  | i :: r => match Nat.blt i n with | true => idsLt n r | false => false
/-- All numbers that the memory names are known ones. -/
def idsLtH (n : Nat) : Hp → Bool
  | [] => true
  | (i, (_, o)) :: r => match Nat.blt i n, idsLt n (idsO o) with | true, true => idsLtH n r | _, _ => false
/-- A callee's run, where it is called. -/
def inlT (t : T (DV × Hp × Nat)) (args : List DV) (hp : Hp) (nx : Nat) : T (DV × Hp × Nat) :=
  match idsLt nx (idsL args), idsLtH nx hp with
  | true, true => t.bind fun r => match Nat.ble nx r.2.2, Nat.ble r.2.2 noBlock with
    | true, true => .leaf (r.1, fitH hp nx r.2.2 r.2.1, r.2.2)
    | _, _ => .fail
  | _, _ => .fail

/-- All that is not yet protected, lent. -/
def lend : Hp → Hp
  | [] => []
  | (i, (z, o)) :: r => match isRows o with | true => (i, (z, o)) :: lend r | false => (i, (true, o)) :: lend r
def T.all {α : Type u} (p : α → Bool) : T α → Bool
  | .fail => true
  | .leaf a => p a
  | .br _ t e => match t.all p with | true => e.all p | false => false
  | .ob _ _ t => t.all p
def flatD (d : DV) : Bool := match noPer d with | true => idf d | false => false

def callS {P : Program} (ct : Cx P) (hp : Hp) (f : FuncId) (args : List DV) : T DV :=
  match findC ct.pure f with
  | some c => match codAL hp c.sig args with
    | some (x, ps) => T.obs ps (c.spec x)
    | none => match c.per with
      | true => .fail
      | false => match codAL (lend hp) c.sig args with
        | some (x, ps) => T.obs ps ((c.spec x).bind fun d => match flatD d with | true => .leaf d | false => .fail)
        | none => .fail
  | none => .fail

def lenV (P : Program) (hp : Hp) (t : TypeId) (x : DV) : T DV :=
  match underD P t, x with
  | some .string, .str s => .leaf (.int .i64 (match s with | .lit s => .lit s.size | .sym s => .sym s.size))
  | some (.slice _), .slice _ n => .leaf (.int .i64 (match n with | .lit n => .lit n | .sym n => .sym n))
  | some (.slice _), .nilslice => .leaf (.int .i64 (.lit 0))
  | some (.slice _), .per (.sl _) l => .leaf (.int .i64 (.sym (List.length l)))
  | some (.slice _), .nn _ l => .leaf (.int .i64 (.sym (List.length l)))
  | some (.map _ _), .nilmap => .leaf (.int .i64 (.lit 0))
  | some (.map _ _), .per (.mp _ _ _ _) l => .leaf (.int .i64 (.sym (List.length l)))
  | some (.map _ _), .map i => match look hp i with
    | some (_, .mp _ _ _ _ l) => .leaf (.int .i64 (.sym (List.length l)))
    | some (_, .map es) => .leaf (.int .i64 (.lit es.length))
    | _ => .fail
  | some (.array n _), _ => .leaf (.int .i64 (.lit n))
  | _, _ => .fail

def mulN (a : DN) (b : Nat) : DN := match a with | .lit a => .lit (a * b) | .sym a => .sym (a * b)
def addN (a b : DN) : DN :=
  match a, b with
  | .lit a, .lit b => .lit (a + b)
  | .lit 0, .sym b => .sym b
  | a, b => .sym (a.v + b.v)
def subN (a b : DN) : DN :=
  match a, b with
  | .lit a, .lit b => .lit (a - b)
  | a, .lit 0 => a
  | a, b => .sym (a.v - b.v)
/-- An index as a number from 0 on. -/
def natI : DI → DN
  | .lit n => .lit n.toNat
  | .sym n => .sym n.toNat

/-- 0 ≤ i < n, decided or owed. -/
def inIdx {α : Type u} (i : DI) (n : DN) (t : T α) : T α :=
  match i, n with
  | .lit i, .lit n => match decide (0 ≤ i), decide (i < n) with | true, true => t | _, _ => .fail
  | i, n => .ob (0 ≤ i.v ∧ i.v < n.v) (some inferInstance) t

/-- An address: of a value that may be nil, if it isn't. -/
def asPtr : DV → T DV
  | .ptr p => .leaf (.ptr p)
  | .pel c a o => .leaf (.pel c a o)
  | .per (.pt c) x => .ob (Option.isSome x = true) (some inferInstance) (.leaf (.pel c (Option.getD x c.dflt) 0))
  | .per (.ref n) a => .ob (Option.isSome (FamR.get n a) = true) (some inferInstance) (.leaf (.pel (FamR.ct n) (Option.getD (FamR.get n a) (FamR.ct n).dflt) 0))
  | _ => .fail

def indexAddrV (P : Program) (t : TypeId) (x i : DV) : T DV :=
  match i with
  | .int _ i => match underD P t, x with
    | some (.slice e), .slice p n => match sizeD P e with
      | some s => match Nat.beq p.sz s, Nat.beq p.fld 0 with
        | true, true => inIdx i n (.leaf (.ptr { p with idx := addN p.idx (natI i) }))
        | _, _ => .fail
      | none => .fail
    | some (.slice e), .per (.sl c) l => match sizeD P e with
      | some s => match Nat.beq c.size s with
        | true => inIdx i (.sym (List.length l)) (.leaf (.pel c (List.getD l (natI i).v c.dflt) 0))
        | _ => .fail
      | none => .fail
    | some (.array len e), .ptr p => match sizeD P e, p.idx with
      | some s, .lit j => match Nat.beq (j * p.sz + p.fld) 0 with
        | true => inIdx i (.lit len) (.leaf (.ptr { p with idx := natI i, sz := s, fld := 0 }))
        | false => match i with
          | .lit i => inIdx (.lit i) (.lit len) (.leaf (.ptr { p with idx := .lit 0, fld := j * p.sz + p.fld + i.toNat * s }))
          | .sym _ => .fail
      | _, _ => .fail
    | some (.array len e), .pel c a o => match sizeD P e, i with
      | some s, .lit i => inIdx (.lit i) (.lit len) (.leaf (.pel c a (o + i.toNat * s)))
      | _, _ => .fail
    | _, _ => .fail
  | _ => .fail

/-- The array behind a slice. -/
def arrPtrV (P : Program) (t : TypeId) (x : DV) : T DV :=
  match underD P t, x with
  | some (.array (n + 1) e), .per (.sl c) l => match sizeD P e with
    | some s => match Nat.beq c.size s with
      | true => .ob (n + 1 ≤ List.length l) (some inferInstance) (.leaf (.pel (ct2 c n) (dat2 c l 0 n) 0))
      | false => .fail
    | none => .fail
  | some (.array (n + 1) _), .slice p k => match k with
    | .lit k => match Nat.ble (n + 1) k with
      | true => .leaf (.ptr p)
      | false => .fail
    | .sym k => .ob (n + 1 ≤ k) (some inferInstance) (.leaf (.ptr p))
  | _, _ => .fail

def indexV (P : Program) (t : TypeId) (x i : DV) : T DV :=
  match i with
  | .int _ i => match underD P t, x with
    | some (.array len e), .agg cs => match sizeD P e, i with
      | some s, .lit i => inIdx (.lit i) (.lit len) (partT P e cs (i.toNat * s))
      | _, _ => .fail
    | some .string, .str s => inIdx i (match s with | .lit s => .lit s.size | .sym s => .sym s.size)
        (.leaf (.int .u8 (match i, s with | .lit i, .lit s => .lit (s.data.toList.getD i.toNat 0).toNat | i, s => .sym (s.v.data.toList.getD i.v.toNat 0).toNat)))
    | _, _ => .fail
  | _ => .fail

/-! ### maps -/
def zeroV (P : Program) (t : TypeId) : Option DV :=
  match P.info? t with
  | some i => match i.zero with
    | some (.agg cs) => match ofValues cs.toList with | some l => some (.agg l) | none => none
    | some z => ofValue z
    | none => none
  | none => none
def plainK (P : Program) (t : TypeId) : Bool :=
  match underD P t with
  | some (.int _) => true
  | some .string => true
  | some .bool => true
  | _ => false
/-- Which entry has the key? -/
def findT (P : Program) (kt : TypeId) (k : DV) : List (DV × DV) → Nat → T (Option (Nat × DV))
  | [], _ => .leaf none
  | (ek, v) :: r, i => match eqV P kt k ek with
    | some (.lit true) => .leaf (some (i, v))
    | some (.lit false) => findT P kt k r (i + 1)
    | some (.sym b) => .br b (.leaf (some (i, v))) (findT P kt k r (i + 1))
    | none => .fail
def okT (ok : Bool) (d : DV) (b : DB) : DV := match ok with | true => .tup [d, .bool b] | false => d
/-- A code without memory behind it. -/
def CT.flat : CT → Bool
  | .int _ => true
  | .bool => true
  | .str => true
  | .pair a b => match a.flat with | true => b.flat | false => false
  | _ => false
/-- Are the two data equal? -/
def CT.beq : (c : CT) → c.D → c.D → Bool
  | .int _, (a : Int), (b : Int) => a == b
  | .bool, (a : Bool), (b : Bool) => a == b
  | .str, (a : ByteArray), (b : ByteArray) => a.toList == b.toList
  | .pair p q, x, y => p.beq x.1 y.1 && q.beq x.2 y.2
  | _, _, _ => false
/-- What a map has for a key. -/
def getM {α β : Type} (eq : α → α → Bool) (k : α) : List (α × β) → Option β
  | [] => none
  | (a, b) :: r => match eq k a with | true => some b | false => getM eq k r
/-- A map with another entry. -/
def putM {α β : Type} (eq : α → α → Bool) (k : α) (v : β) : List (α × β) → List (α × β)
  | [] => [(k, v)]
  | (a, b) :: r => match eq k a with | true => (k, v) :: r | false => (a, b) :: putM eq k v r
/-- Nothing in a key can fail. -/
def chkD (P : Program) : Nat → TypeId → DV → Bool
  | 0, _, _ => false
  | n + 1, t, d => match underD P t, d with
    | some (.struct fs), .agg cs => fs.toList.all fun f => f.name == "_" || (match partO P f.type cs f.offset with | some x => chkD P n f.type x | none => false)
    | some (.array len e), .agg cs => match sizeD P e with
      | some s => (List.range len).all fun i => match partO P e cs (i * s) with | some x => chkD P n e x | none => false
      | none => false
    | some (.int _), .int _ _ => true
    | some .bool, .bool _ => true
    | some .string, .str _ => true
    | _, _ => false
/-- '==' of keys of a type is that of their code. -/
def keyT (P : Program) (kt : TypeId) (kc : CT) : Prop :=
  (∀ a : kc.D, chkD P 8 kt (toV true kc a) = true) ∧ ∀ a b : kc.D, ∃ r, eqT P 8 kt (toV true kc a) (toV true kc b) = some r ∧ r.v = kc.beq a b
def keyOk (P : Program) (kt : TypeId) (ka : Bool) (kc : CT) : T Unit :=
  match kc.flat, ka with
  | true, false => match underD P kt, kc with
    | some (.int k), .int k' => match decide (k' = k) with | true => .leaf () | false => .fail
    | some .string, .str => .leaf ()
    | some .bool, .bool => .leaf ()
    | _, _ => .fail
  | true, true => .ob (keyT P kt kc) none (.leaf ())
  | false, _ => .fail
/-- What a map value is, if its entries are data. -/
inductive MV where
  | m (ka : Bool) (k : CT) (ea : Bool) (e : CT) (es : List (k.D × e.D))
def mapOf (hp : Hp) : DV → Option MV
  | .per (.mp ka k ea e) es => some ⟨ka, k, ea, e, es⟩
  | .map id => match look hp id with
    | some (_, .mp ka k ea e es) => some ⟨ka, k, ea, e, es⟩
    | _ => none
  | _ => none
def isAggT (P : Program) (t : TypeId) : Bool := match underD P t with
  | some (.struct _) => true
  | some (.array _ _) => true
  | _ => false
def aggOk (P : Program) (t : TypeId) (a : Bool) : Bool := match isAggT P t, a with | true, true => true | false, false => true | _, _ => false
def lookupT (P : Program) (hp : Hp) (t : TypeId) (m k : DV) (ok : Bool) : T DV :=
  match underD P t with
  | some (.map kt et) => match zeroV P et with
    | some z => match m with
      | .nilmap => match plainK P kt with | true => .leaf (okT ok z (.lit false)) | false => .fail
      | m => match mapOf hp m with
        | some ⟨ka, kc, ea, ec, es⟩ => match celD ka k, celD ea z, aggOk P kt ka, aggOk P et ea with
          | some ks, some zs, true, true => match DF.cod [] fuelC kc ks, DF.cod [] fuelC ec zs with
            | some (k, ps), some (z, qs) => T.obs (ps ++ qs) ((keyOk P kt ka kc).bind fun _ => .leaf (okT ok (toV ea ec ((getM kc.beq k es).getD z)) (.sym (getM kc.beq k es).isSome)))
            | _, _ => .fail
          | _, _, _, _ => .fail
        | none => match plainK P kt, m with
          | true, .map id => match look hp id with
            | some (_, .map es) => (findT P kt k es 0).bind fun r => match r with
              | some (_, v) => .leaf (okT ok v (.lit true))
              | none => .leaf (okT ok z (.lit false))
            | _ => .fail
          | _, _ => .fail
    | none => .fail
  | _ => .fail
def setAt {α : Type u} : List α → Nat → α → List α
  | [], _, _ => []
  | _ :: r, 0, b => b :: r
  | a :: r, i + 1, b => a :: setAt r i b
def insertT (P : Program) (hp : Hp) (t : TypeId) (m k v : DV) : T Hp :=
  match underD P t with
  | some (.map kt et) => match m with
    | .map id => match look hp id with
      | some (false, .map es) => match plainK P kt with
        | true => (findT P kt k es 0).bind fun r => match r with
          | some (i, _) => .leaf (repl hp id (false, .map (setAt es i (k, v))))
          | none => .leaf (repl hp id (false, .map (es ++ [(k, v)])))
        | false => .fail
      | some (false, .mp ka kc ea ec es) => match celD ka k, celD ea v, aggOk P kt ka, aggOk P et ea with
        | some ks, some vs, true, true => match DF.cod [] fuelC kc ks, DF.cod hp fuelC ec vs with
          | some (k, qs), some (v, ps) => (keyOk P kt ka kc).bind fun _ => T.obs (qs ++ ps) (.leaf (repl hp id (false, .mp ka kc ea ec (putM kc.beq k v es))))
          | _, _ => .fail
        | _, _, _, _ => .fail
      | _ => .fail
    | _ => .fail
  | _ => .fail

/-! ### parts of slices, arrays, strings -/
def dnI : DN → DI
  | .lit n => .lit n
  | .sym n => .sym n
def loI : Option DV → Option DI
  | none => some (.lit 0)
  | some (.int _ i) => some i
  | _ => none
def hiI (n : DN) : Option DV → Option DI
  | none => some (dnI n)
  | some (.int _ i) => some i
  | _ => none
/-- 0 ≤ l ≤ h ≤ n, decided or owed. -/
def cut3 {α : Type u} (l h : DI) (n : DN) (t : T α) : T α :=
  match l, h, n with
  | .lit l, .lit h, .lit n => match decide (0 ≤ l), decide (l ≤ h), decide (h ≤ n) with | true, true, true => t | _, _, _ => .fail
  | l, h, n => .ob (0 ≤ l.v ∧ l.v ≤ h.v ∧ h.v ≤ n.v) (some inferInstance) t
def lenS : DS → DN
  | .lit s => .lit s.size
  | .sym s => .sym s.size
def sliceV (P : Program) (hp : Hp) (t : TypeId) (x : DV) (lo hi : Option DV) : T DV :=
  match underD P t, x with
  | some .string, .str s =>
    match loI lo, hiI (lenS s) hi with
    | some l, some h => cut3 l h (lenS s) (.leaf (.str (match l, h, s with | .lit l, .lit h, .lit s => .lit (s.extract l.toNat h.toNat) | l, h, s => .sym (s.v.extract l.v.toNat h.v.toNat))))
    | _, _ => .fail
  | some (.slice e), .slice p n =>
    match loI lo, hiI n hi, sizeD P e with
    | some l, some h, some s => match Nat.beq p.sz s with
      | true => cut3 l h n (.leaf (.slice { p with idx := addN p.idx (natI l) } (subN (natI h) (natI l))))
      | false => .fail
    | _, _, _ => .fail
  | some (.slice e), .per (.sl c) l =>
    match loI lo, hiI (.sym (List.length l)) hi, sizeD P e with
    | some a, some b, some s => match Nat.beq c.size s with
      | true => cut3 a b (.sym (List.length l)) (.leaf (.per (.sl c) (partL (α := c.D) l (natI a) (subN (natI b) (natI a)))))
      | false => .fail
    | _, _, _ => .fail
  | some (.array len e), .ptr p =>
    match loI lo, hiI (.lit len) hi, sizeD P e, p.idx, look hp p.id with
    | some l, some h, some s, .lit j, some (_, .cells _ cs) => match Nat.beq (j * p.sz + p.fld) 0, Nat.ble (len * s) cs.length with
      | true, true => cut3 l h (.lit len) (.leaf (.slice ⟨p.id, natI l, s, 0⟩ (subN (natI h) (natI l))))
      | _, _ => .fail
    | _, _, _, _, _ => .fail
  | _, _ => .fail
def lkO (lk : Operand → Option DV) : Option Operand → Option (Option DV)
  | none => some none
  | some x => match lk x with | some d => some (some d) | none => none
def maxV (x y : DV) : T DV :=
  match x, y with
  | .int k a, .int _ b => .leaf (.int k (two a b (if a.v < b.v then b.v else a.v)))
  | _, _ => .fail
def minV (x y : DV) : T DV :=
  match x, y with
  | .int k a, .int _ b => .leaf (.int k (two a b (if b.v < a.v then b.v else a.v)))
  | _, _ => .fail
/-- The bytes of a slice, as a string. -/
def bytesT (P : Program) (hp : Hp) (src dst : TypeId) (x : DV) : T DV :=
  match underD P src, underD P dst with
  | some (.slice e), some .string => match underD P e, sizeD P e with
    | some (.int .u8), some 1 => match x with
      | .nilslice => .leaf (.str (.lit ByteArray.empty))
      | .per (.sl (.int .u8)) l => .leaf (.str (.sym (bytesS l)))
      | .slice p n => match Nat.beq p.sz 1, Nat.beq p.fld 0, look hp p.id with
        | true, true, some (_, .arr _ (.int .u8) l) => .ob (p.idx.v + n.v ≤ List.length l) (some inferInstance) (.leaf (.str (.sym (bytesS (partL (α := Int) l p.idx n)))))
        | _, _, _ => .fail
      | _ => .fail
    | _, _ => .fail
  | _, _ => .fail

def evS (P : Program) (ct : Cx P) (hp : Hp) (lk : Operand → Option DV) (op : Op) : T DV :=
  match op with
  | .move x => T.opt (lk x)
  | .assign x => T.opt (lk x)
  | .pick c a b => match lk c with
    | some (.bool (.lit true)) => T.opt (lk a)
    | some (.bool (.lit false)) => T.opt (lk b)
    | some (.bool (.sym c)) => .br c (T.opt (lk a)) (T.opt (lk b))
    | _ => .fail
  | .extract t i => match lk t with
    | some (.tup vs) => T.opt vs[i]?
    | _ => .fail
  | .fieldAddr s x f => match underD P s, lk x with
    | some (.struct fs), some x => match fs[f]? with
      | some fd => match sizeD P fd.type with
        | some n => match Nat.beq n 0 with
          | true => .fail
          | false => (asPtr x).bind fun x => match x with
            | .ptr p => .leaf (.ptr { p with fld := p.fld + fd.offset })
            | .pel c a o => .leaf (.pel c a (o + fd.offset))
            | _ => .fail
        | none => .fail
      | none => .fail
    | _, _ => .fail
  | .load t x => match lk x with
    | some x => (asPtr x).bind fun x => loadT P hp t x
    | _ => .fail
  | .field t x f => match underD P t, lk x with
    | some (.struct fs), some (.agg cs) => match fs[f]? with
      | some fd => partT P fd.type cs fd.offset
      | none => .fail
    | _, _ => .fail
  | .index t x i => match lk x, lk i with
    | some x, some i => indexV P t x i
    | _, _ => .fail
  | .indexAddr t x i => match lk x, lk i with
    | some x, some i => indexAddrV P t x i
    | _, _ => .fail
  | .sliceToArrayPointer t x => match lk x with
    | some x => arrPtrV P t x
    | none => .fail
  | .binOp op t x y _ => match lk x, lk y with
    | some x, some y => binV P op t x y
    | _, _ => .fail
  | .unOp op _ x => match lk x with
    | some x => unV op x
    | none => .fail
  | .convert src dst x => match lk x with
    | some x => match convV P src dst x with
      | .fail => bytesT P hp src dst x
      | t => t
    | none => .fail
  | .build t parts => match partsD lk parts.toList with
    | some ps => T.opt (buildD P t ps)
    | none => .fail
  | .nilCheck x => match lk x with
    | some (.func f c) => .leaf (.func f c)
    | some x => asPtr x
    | _ => .fail
  | .makeFunc (.func f) first cap => match first.toList, mapO lk cap.toList with
    | [], some ds => .leaf (.func f ds)
    | _, _ => .fail
  | .call c => match c.callee with
    | .builtin .len => match c.argTypes.toList, c.args.toList with
      | t :: _, x :: _ => match lk x with | some x => lenV P hp t x | none => .fail
      | _, _ => .fail
    | .builtin .max => match c.args.toList with
      | [x, y] => match lk x, lk y with | some x, some y => maxV x y | _, _ => .fail
      | _ => .fail
    | .builtin .min => match c.args.toList with
      | [x, y] => match lk x, lk y with | some x, some y => minV x y | _, _ => .fail
      | _ => .fail
    | .value x => match lk x, mapO lk c.args.toList with
      | some (.func f cap), some args => callS ct hp f (args ++ cap)
      | _, _ => .fail
    | _ => .fail
  | .lookup t m k ok => match lk m, lk k with
    | some m, some k => lookupT P hp t m k ok
    | _, _ => .fail
  | .slice t x lo hi mx => match lk x, lkO lk lo, lkO lk hi, mx with
    | some x, some lo, some hi, none => sliceV P hp t x lo hi
    | _, _, _, _ => .fail
  | _ => .fail

def lkF (fr : Fr) : Operand → Option DV
  | .tmp t => look fr t
  | .const v => ofValue v
  | .func f => some (.func f [])
  | .global _ => none

def setF (N : Nat) (fr : Fr) : Option Nat → DV → Option Fr
  | none, _ => some fr
  | some t, d => match Nat.blt t N with | true => some ((t, d) :: fr) | false => none

/-- Is the operation wanted? The guard's slot is written anew, as the literal that it is on this way. -/
def guardT (ops : List Oper) (fr : Fr) (o : Oper) : T (Bool × Fr) :=
  match o.guard with
  | none => .leaf (true, fr)
  | some (j, want) => match ops[j]? with
    | some oj => match oj.dst with
      | some t => match look fr t with
        | some (.bool (.lit b)) => .leaf (b == want, fr)
        | some (.bool (.sym b)) => .br b (.leaf (want, (t, .bool (.lit true)) :: fr)) (.leaf (!want, (t, .bool (.lit false)) :: fr))
        | some (.tup []) => .leaf (false, fr)
        | _ => .fail
      | none => .fail
    | none => .fail

/-! ### what writes memory or makes it -/
def ctFs (f : TypeId → Option CT) : List Field → Option CT
  | [] => none
  | [x] => f x.type
  | x :: r => match f x.type, ctFs f r with
    | some a, some b => some (.pair a b)
    | _, _ => none
def ctRep (c : CT) : Nat → Option CT
  | 0 => none
  | 1 => some c
  | n + 1 => match ctRep c n with | some d => some (.pair c d) | none => none
/-- How a type's values are written in cells. -/
def ctOf (P : Program) (refs : List (TypeId × Nat)) : Nat → TypeId → Option CT
  | 0, _ => none
  | d + 1, t => match look refs t with
    | some n => some (.ref n)
    | none => match underD P t with
      | some (.int k) => some (.int k)
      | some .bool => some .bool
      | some .string => some .str
      | some (.struct fs) => ctFs (ctOf P refs d) fs.toList
      | some (.array n e) => match ctOf P refs d e with | some c => ctRep c n | none => none
      | some (.slice e) => match ctOf P refs d e with | some c => some (.sl c) | none => none
      | some (.pointer e) => match ctOf P refs d e with | some c => some (.pt c) | none => none
      | some (.map k e) => match ctOf P refs d k, ctOf P refs d e with
        | some a, some b => some (.mp (isAggT P k) a (isAggT P e) b)
        | _, _ => none
      | _ => none
@[irreducible] def fuelT : Nat := 12
/-- The elements of a slice, if they are known; those of cells are owed to be so. -/
def elemsT (c : CT) (hp : Hp) : DV → T (List c.D)
  | .nilslice => .leaf []
  | .per c' l => match castD (.sl c) c' l with
    | some l => .leaf l
    | none => .fail
  | .nn c' l => match castD (.sl c) (.sl c') l with
    | some l => .leaf l
    | none => .fail
  | .slice p n => match Nat.beq p.sz c.size, Nat.beq p.fld 0, look hp p.id with
    | true, true, some (_, .arr _ c' l) => match castL c c' l with
      | some l => .ob (p.idx.v + n.v ≤ l.length) (some inferInstance) (.leaf (partL l p.idx n))
      | none => .fail
    | true, true, some (_, .cells _ cs) => match p.idx, n with
      | .lit i, .lit k => match takeN cs (i * p.sz) (k * p.sz) with
        | some part => match codL c.size (DF.cod hp fuelC c) k part with
          | some (l, ps) => T.obs ps (.leaf l)
          | none => .fail
        | none => .fail
      | _, _ => .fail
    | _, _, _ => .fail
  | _ => .fail
/-- May it be appended to? It is nil, or nobody else's, or it has no room. -/
inductive Own where
  | nil
  | own (i : Nat) (t : TypeId)
  | full
def ownS (x : DV) (hp : Hp) : DV → Option Own
  | .nilslice => some .nil
  | .slice p n => match Nat.beq p.fld 0, look hp p.id with
    | true, some (false, .arr t _ _) => some (.own p.id t)
    | true, some (z, .cells t cs) => match p.idx, n with
      | .lit 0, .lit k => match Nat.beq (k * p.sz) cs.length, Nat.blt 0 p.sz with
        | true, true => match k, z, x with
          | 0, false, .slice _ (.sym _) => some (.own p.id t)
          | 0, false, .nn _ _ => some (.own p.id t)
          | _, _, _ => some .full
        | _, _ => match z with | false => some (.own p.id t) | true => none
      | .lit 0, _ => match z with | false => some (.own p.id t) | true => none
      | _, _ => none
    | _, _ => none
  | _ => none
def lenD : DV → DN
  | .slice _ n => n
  | _ => .lit 0
/-- How many are appended. -/
def lenX (x : DV) (n : Nat) : DN := match x with | .slice _ (.lit k) => .lit k | _ => .sym n
def bytesD (P : Program) (t : TypeId) : Option Nat := match P.info? t with | some i => (match i.zero with | some _ => some i.bytes | none => none) | none => none
def appendE (P : Program) (refs : List (TypeId × Nat)) (t t2 : TypeId) (s x : DV) (hp : Hp) (nx : Nat) : T (DV × Hp × Nat) :=
  match underD P t, underD P t2 with
  | some (.slice e), some (.slice _) => match ctOf P refs fuelT e, sizeD P e, bytesD P e, ownS x hp s with
    | some c, some sz, some by', some own => match Nat.beq c.size sz with
      | true => match zeroD P e with
        | some zc => match Nat.beq zc.length sz with
          | true => (elemsT c hp s).bind fun olds => (elemsT c hp x).bind fun news =>
            .ob (((lenD s).v + news.length) * by' ≤ 140737488355328 ∧ (lenD s).v + news.length ≤ maxLen) (some inferInstance) (
            match own with
            | .full => .ob (0 < news.length) (some inferInstance) (.leaf (.slice ⟨nx, .lit 0, sz, 0⟩ (addN (lenD s) (lenX x news.length)), (nx, (false, .arr e c (olds ++ news))) :: hp, nx + 1))
            | .own i t' => match Nat.beq t' e with
              | true => .leaf (.slice ⟨nx, .lit 0, sz, 0⟩ (addN (lenD s) (lenX x news.length)), (nx, (false, .arr e c (olds ++ news))) :: dropI i hp, nx + 1)
              | false => .fail
            | .nil => .leaf (.slice ⟨nx, .lit 0, sz, 0⟩ (addN (lenD s) (lenX x news.length)), (nx, (false, .arr e c (olds ++ news))) :: hp, nx + 1))
          | false => .fail
        | none => .fail
      | false => .fail
    | _, _, _, _ => .fail
  | _, _ => .fail

/-- A slice's literal: its elements' type, their size, the cells. -/
def buildSlD (P : Program) (t : TypeId) (len : Nat) (parts : List (Nat × DV)) : Option (TypeId × Nat × List DV) :=
  match underD P t with
  | some (.slice e) => match sizeD P e, zeroD P e with
    | some s, some z => match Nat.ble (len * s) 16777216, Nat.beq z.length s, fillD (fun i => some (i * s, s)) ((List.range (len * s)).map fun j => z.getD (j % z.length) .any) parts with
      | true, true, some cs => some (e, s, cs)
      | _, _, _ => none
    | _, _ => none
  | _ => none
/-- 'make' of a slice: rows, where the elements are slices. -/
def makeSlT (P : Program) (refs : List (TypeId × Nat)) (t : TypeId) (len cap : DV) (hp : Hp) (nx : Nat) : T (DV × Hp × Nat) :=
  match underD P t, len, cap with
  | some (.slice e), .int .i64 n, .int .i64 m => match sizeD P e, bytesD P e, zeroD P e with
    | some s, some by', some zc => .ob (0 ≤ n.v ∧ n.v ≤ m.v ∧ m.v * by' ≤ 140737488355328 ∧ m.v ≤ 9223372036854775807) (some inferInstance) (
      match underD P e with
      | some (.slice e') => match ctOf P refs fuelT e', zc, sizeD P e', s with
        | some c, [.nilslice], some s', 1 => match Nat.beq c.size s' with
          | true => .ob (m.v = n.v) (some inferInstance) (.leaf (.slice ⟨nx, .lit 0, 1, 0⟩ (natI n), (nx, (false, .rows e e' c (List.replicate (natI n).v []) none)) :: hp, nx + 1))
          | false => .fail
        | _, _, _, _ => .fail
      | _ => match ctOf P refs fuelT e with
        | some c => match Nat.beq c.size s, DF.cod [] fuelC c zc with
          | true, some (a, []) => .leaf (.slice ⟨nx, .lit 0, s, 0⟩ (natI n), (nx, (false, .arr e c (List.replicate (natI n).v a))) :: hp, nx + 1)
          | _, _ => .fail
        | none => .fail)
    | _, _, _ => .fail
  | _, _, _ => .fail

def storeN (hp : Hp) (p : DP) (new : List DV) : T Hp :=
  match look hp p.id with
  | some (false, .cells t cs) => match p.idx with
    | .lit i => match Nat.ble (i * p.sz + p.fld + new.length) cs.length with
      | true => .leaf (repl hp p.id (false, .cells t (setRange cs (i * p.sz + p.fld) new)))
      | false => .fail
    | .sym _ => .fail
  | some (false, .arr t c l) => match Nat.beq p.sz c.size, Nat.ble (p.fld + new.length) c.size with
    | true, true => match DF.cod hp fuelC c (setRange (c.enc (l.getD p.idx.v c.dflt)) p.fld new) with
      | some (a, ps) => .ob (p.idx.v < l.length) (some inferInstance) (T.obs ps (.leaf (repl hp p.id (false, .arr t c (l.set p.idx.v a)))))
      | none => .fail
    | _, _ => .fail
  | some (false, .rows t e c ls h) => match Nat.beq p.sz 1, Nat.beq p.fld 0, new with
    | true, true, [.nilslice] => match h with
      | none => .ob (p.idx.v < ls.length) (some inferInstance) (.leaf (repl hp p.id (false, .rows t e c (ls.set p.idx.v []) none)))
      | some (j, _, _) => .ob (p.idx.v < ls.length ∧ p.idx.v = j.v) (some inferInstance) (.leaf (repl hp p.id (false, .rows t e c (ls.set p.idx.v []) none)))
    | true, true, [.slice q m] => match Nat.beq q.sz c.size, Nat.beq q.fld 0, Nat.beq q.id p.id, look hp q.id with
      | true, true, false, some (false, .arr e' c' l) => match Nat.beq e' e, castL c c' l with
        | true, some l => .ob (p.idx.v < ls.length ∧ q.idx.v + m.v ≤ l.length ∧ (match h with | none => True | some (j, _, _) => p.idx.v = j.v)) (some (@instDecidableAnd _ _ inferInstance (@instDecidableAnd _ _ inferInstance (match h with | none => isTrue trivial | some (j, _, _) => inferInstanceAs (Decidable (p.idx.v = j.v))))))
            (.leaf (dropI q.id (repl hp p.id (false, .rows t e c (ls.set p.idx.v (partL l q.idx m)) none))))
        | _, _ => .fail
      | _, _, _, _ => .fail
    | _, _, _ => .fail
  | _ => .fail

/-- 'clear'. -/
def clearT (P : Program) (t : TypeId) (x : DV) (hp : Hp) : T Hp :=
  match underD P t, x with
  | some (.slice _), .nilslice => .leaf hp
  | some (.slice e), .slice p n => match look hp p.id with
    | some (false, .arr t' c l) => match Nat.beq p.sz c.size, Nat.beq p.fld 0, zeroD P e with
      | true, true, some zc => match Nat.beq zc.length c.size, DF.cod [] fuelC c zc with
        | true, some (a, []) => .ob (p.idx.v + n.v ≤ l.length) (some inferInstance) (.leaf (repl hp p.id (false, .arr t' c (l.take p.idx.v ++ (List.replicate n.v a ++ l.drop (p.idx.v + n.v))))))
        | _, _ => .fail
      | _, _, _ => .fail
    | _ => .fail
  | some (.map _ _), .map i => match look hp i with
    | some (false, .mp ka k ea e _) => .leaf (repl hp i (false, .mp ka k ea e []))
    | some (false, .map _) => .leaf (repl hp i (false, .map []))
    | _ => .fail
  | _, _ => .fail
def minN : DN → Nat → DN
  | .lit a, b => .lit (Nat.min a b)
  | a, b => .sym (Nat.min a.v b)
/-- 'copy'. -/
def copyT (P : Program) (t : TypeId) (x y : DV) (hp : Hp) : T (DV × Hp) :=
  match underD P t, x with
  | some (.slice e), .slice p n => match look hp p.id, sizeD P e with
    | some (false, .arr t' c l), some s => match Nat.beq p.sz c.size, Nat.beq p.fld 0, Nat.beq s c.size with
      | true, true, true => (elemsT c hp y).bind fun xs => .ob (p.idx.v + n.v ≤ l.length) (some inferInstance)
          (.leaf (.int .i64 (dnI (minN n xs.length)), repl hp p.id (false, .arr t' c (l.take p.idx.v ++ (xs.take (Nat.min n.v xs.length) ++ l.drop (p.idx.v + Nat.min n.v xs.length))))))
      | _, _, _ => .fail
    | _, _ => .fail
  | _, _ => .fail
def zeroI : Option (Option DV) → Bool
  | some none => true
  | some (some (.int _ (.lit 0))) => true
  | _ => false
/-- 's[:0:0]'. -/
def slice0T (P : Program) (refs : List (TypeId × Nat)) (t : TypeId) (x : DV) (hp : Hp) (nx : Nat) : T (DV × Hp × Nat) :=
  match underD P t, x with
  | some (.slice e), .nilslice => match sizeD P e with | some _ => .leaf (.nilslice, hp, nx) | none => .fail
  | some (.slice e), x => match ctOf P refs fuelT e, sizeD P e, (match x with | .slice _ _ => true | .per (.sl _) _ => true | _ => false) with
    | some c, some s, true => match Nat.beq c.size s with
      | true => .leaf (.slice ⟨nx, .lit 0, s, 0⟩ (.lit 0), (nx, (false, .arr e c [])) :: hp, nx + 1)
      | false => .fail
    | _, _, _ => .fail
  | _, _ => .fail

/-- A row is taken out of rows. -/
def takeRow (hp : Hp) (p : DP) (nx : Nat) : T (DV × Hp × Nat) :=
  match look hp p.id with
  | some (false, .rows t e c ls none) => match Nat.beq p.sz 1, Nat.beq p.fld 0, Nat.blt p.id nx with
    | true, true, true => .ob (p.idx.v < ls.length) (some inferInstance) (.leaf (.slice ⟨nx, .lit 0, c.size, 0⟩ (.sym (ls.getD p.idx.v []).length),
        (nx, (false, .arr e c (ls.getD p.idx.v []))) :: repl hp p.id (false, .rows t e c ls (some (p.idx, nx, .sym (ls.getD p.idx.v []).length))), nx + 1))
    | _, _, _ => .fail
  | _ => .fail

def keepHp (hp : Hp) (nx : Nat) (d : DV) : DV × Hp × Nat := (d, hp, nx)
/-- What writes memory or makes it. -/
def evE0 (P : Program) (ct : Cx P) (lk : Operand → Option DV) (op : Op) (hp : Hp) (nx : Nat) : T (DV × Hp × Nat) :=
  match op with
  | .alloc e => match zeroD P e with
    | some cs => .leaf (.ptr ⟨nx, .lit 0, 0, 0⟩, (nx, (false, .cells e cs)) :: hp, nx + 1)
    | none => .fail
  | .box e x => match lk x with
    | some d => match cellsV d with
      | some cs => .leaf (.ptr ⟨nx, .lit 0, 0, 0⟩, (nx, (false, .cells e cs)) :: hp, nx + 1)
      | none => .fail
    | none => .fail
  | .load t x => match lk x with
    | some (.ptr p) => match underD P t, look hp p.id with
      | some (.slice _), some (_, .rows _ _ _ _ _) => takeRow hp p nx
      | _, _ => (loadT P hp t (.ptr p)).bind fun d => .leaf (d, hp, nx)
    | _ => .fail
  | .store t a x => match lk a, lk x, sizeD P t with
    | some (.ptr p), some d, some n => match cellsV d with
      | some cs => match Nat.beq cs.length n with
        | true => (storeN hp p cs).bind fun hp' => .leaf (.tup [], hp', nx)
        | false => .fail
      | none => .fail
    | _, _, _ => .fail
  | .buildSlice t len parts => match partsD lk parts.toList with
    | some ps => match buildSlD P t len ps with
      | some (e, s, cs) => .leaf (.slice ⟨nx, .lit 0, s, 0⟩ (.lit len), (nx, (false, .cells e cs)) :: hp, nx + 1)
      | none => .fail
    | none => .fail
  | .makeSlice t len cap => match lk len, lk cap with
    | some len, some cap => makeSlT P ct.refs t len cap hp nx
    | _, _ => .fail
  | .makeMap t r => match r, underD P t with
    | none, some (.map kt et) => match ctOf P ct.refs fuelT kt, ctOf P ct.refs fuelT et with
      | some kc, some ec => .leaf (.map nx, (nx, (false, .mp (isAggT P kt) kc (isAggT P et) ec [])) :: hp, nx + 1)
      | _, _ => .leaf (.map nx, (nx, (false, .map [])) :: hp, nx + 1)
    | _, _ => .fail
  | .insert t m x y => match lk m, lk x, lk y with
    | some m, some x, some y => (insertT P hp t m x y).bind fun hp' => .leaf (.tup [], hp', nx)
    | _, _, _ => .fail
  | .mapUpdate t m x y => match lk m, lk x, lk y with
    | some m, some x, some y => (insertT P hp t m x y).bind fun hp' => .leaf (.tup [], hp', nx)
    | _, _, _ => .fail
  | .slice t x lo hi (some mx) => match lk x, zeroI (lkO lk lo), zeroI (lkO lk hi), hi, zeroI ((lk mx).map some) with
    | some x, true, true, some _, true => slice0T P ct.refs t x hp nx
    | _, _, _, _, _ => .fail
  | .call c => match c.callee with
    | .builtin .append => match c.argTypes.toList, c.args.toList with
      | [t, t2], [s, x] => match lk s, lk x with
        | some s, some x => appendE P ct.refs t t2 s x hp nx
        | _, _ => .fail
      | _, _ => .fail
    | .builtin .copy => match c.argTypes.toList, c.args.toList with
      | t :: _, [x, y] => match lk x, lk y with
        | some x, some y => (copyT P t x y hp).bind fun r => .leaf (r.1, r.2, nx)
        | _, _ => .fail
      | _, _ => .fail
    | .builtin .clear => match c.argTypes.toList, c.args.toList with
      | t :: _, x :: _ => match lk x with
        | some x => (clearT P t x hp).bind fun hp' => .leaf (.tup [], hp', nx)
        | none => .fail
      | _, _ => .fail
    | .value x => match lk x, mapO lk c.args.toList with
      | some (.func f cap), some args => match findC ct.pure f with
        | some pc => match codAL hp pc.sig (args ++ cap) with
          | some (x, ps) => T.obs ps ((pc.spec x).bind fun d => .leaf (d, hp, nx))
          | none => .fail
        | none => match findCC ct.can f with
          | some cc => callC cc (args ++ cap) hp nx
          | none => inlT (ct.inl f (args ++ cap) hp nx) (args ++ cap) hp nx
      | some (.yld id), some args => inlT (ct.yie id args hp nx) (.yld id :: args) hp nx
      | _, _ => .fail
    | _ => .fail
  | _ => .fail

/-- Cells at an index that is not known are taken for a list. -/
def arrG (P : Program) (refs : List (TypeId × Nat)) (t : TypeId) (p : DP) : List Gh := match p.idx with
  | .sym _ => match ctOf P refs fuelT t with
    | some c => match Nat.beq c.size p.sz with | true => [.arr p.id c] | false => []
    | none => []
  | .lit _ => []
/-- What is done before, in thought: the memory that a value leans on is protected; a row is put back. -/
def preG {P : Program} (ct : Cx P) (lk : Operand → Option DV) (op : Op) (hp : Hp) : List Gh :=
  let fz : Option DV → List Gh := fun d => match d with | some d => fzD hp d | none => []
  match op with
  | .load t x => match lk x with
    | some (.ptr p) => match look hp p.id with
      | some (_, .rows _ _ _ _ (some _)) => [.heal p.id]
      | some (false, .cells _ _) => arrG P ct.refs t p
      | _ => []
    | _ => []
  | .store t a x => match lk a with
    | some (.ptr p) => match look hp p.id with
      | some (false, .arr _ _ _) => fz (lk x)
      | some (false, .cells _ _) => arrG P ct.refs t p
      | _ => []
    | _ => []
  | .insert _ m _ y => match lk m with
    | some (.map i) => match look hp i with | some (false, .mp _ _ _ _ _) => fz (lk y) | _ => []
    | _ => []
  | .mapUpdate _ m _ y => match lk m with
    | some (.map i) => match look hp i with | some (false, .mp _ _ _ _ _) => fz (lk y) | _ => []
    | _ => []
  | .call c => match c.callee with
    | .builtin .append => match c.args.toList with
      | [s, x] => (match lk x with
        | some (.slice p _) => match look hp p.id with
          | some (_, .cells _ cs) => cs.flatMap (fzD hp)
          | _ => []
        | _ => []) ++ (match lk s with
        | some (.slice p _) => match look hp p.id with
          | some (_, .cells _ cs) => cs.flatMap (fzD hp)
          | _ => []
        | _ => [])
      | _ => []
    | .value x => match lk x, mapO lk c.args.toList with
      | some (.func f cap), some args => match findC ct.pure f with
        | some _ => (args ++ cap).flatMap (fzD hp)
        | none => match findCC ct.can f with
          | some cc => match cc.infer (args ++ cap) hp with
            | some x => perInL hp (args ++ cap) (cc.args x) ++ perInH hp (sgL (args ++ cap) (cc.args x)) (cc.hp x)
            | none => (args ++ cap).flatMap (fzD hp)
          | none => []
      | _, _ => []
    | _ => []
  | _ => []
def evE (P : Program) (ct : Cx P) (lk : Operand → Option DV) (op : Op) (hp : Hp) (nx : Nat) : T (DV × Hp × Nat) :=
  (ghosts (preG ct lk op hp) hp).bind fun hp => evE0 P ct lk op hp nx

/-- One operation: was it silent? its value, the memory behind it. -/
def opT (P : Program) (ct : Cx P) (lk : Operand → Option DV) (op : Op) (hp : Hp) (nx : Nat) : T (Bool × DV × Hp × Nat) :=
  match evS P ct hp lk op with
  | .fail => (evE P ct lk op hp nx).bind fun r => .leaf (false, r)
  | t => t.bind fun d => .leaf (true, (d, hp, nx))

def keepF (ids : List Nat) : Hp → Hp
  | [] => []
  | (i, e) :: r => match memN i ids with | true => (i, e) :: keepF ids r | false => keepF ids r
def dropF (ids : List Nat) : Hp → Hp
  | [] => []
  | (i, e) :: r => match memN i ids with | true => dropF ids r | false => (i, e) :: dropF ids r
/-- The numbers that an operation may look at. -/
def foot (hp : Hp) (lk : Operand → Option DV) (op : Op) : List Nat :=
  let ids := op.operands.toList.flatMap fun x => match lk x with | some d => idsD d | none => []
  match op with
  | .move _ => []
  | .assign _ => []
  | .pick _ _ _ => []
  | .extract _ _ => []
  | .fieldAddr _ _ _ => []
  | .field _ _ _ => []
  | .index _ _ _ => []
  | .indexAddr _ _ _ => []
  | .binOp _ _ _ _ _ => []
  | .unOp _ _ _ => []
  | .sliceToArrayPointer _ _ => []
  | .build _ _ => []
  | .nilCheck _ => []
  | .makeFunc _ _ _ => []
  | .alloc _ => []
  | .box _ _ => []
  | .buildSlice _ _ _ => []
  | .makeSlice _ _ _ => []
  | .makeMap _ _ => []
  | .load _ _ => ids.flatMap fun i => match look hp i with
    | some (_, .rows _ _ _ _ (some (_, i', _))) => [i, i']
    | _ => [i]
  | .call c => match c.callee with
    | .builtin .len => ids
    | .builtin .max => []
    | .builtin .min => []
    | .builtin .append => reach hp 200 ids []
    | _ => reach hp 200 ids []
  | .convert _ _ _ => ids
  | .slice _ _ _ _ _ => ids
  | .lookup _ _ _ _ => ids
  | _ => reach hp 200 ids []

def fromN : Nat → Nat → List Nat
  | _, 0 => []
  | a, n + 1 => a :: fromN (a + 1) n
/-- The memory behind an operation that may have changed what is under some numbers. -/
def aftH (sil : Bool) (F : List Nat) (hx hp : Hp) : Hp := match sil with
  | true => hp
  | false => keepF F hx ++ dropF F hp

/-- The operations of a region, in the order of the text: what each has looked at, and whether it was silent; the state behind them. -/
def runT (P : Program) (ct : Cx P) (N : Nat) (dr : Bool) (all : List Oper) : List Oper → St → T (List (List Nat × Bool) × St)
  | [], st => .leaf ([], st)
  | o :: r, st => (guardT all st.fr o).bind fun gf => match gf with
    | (true, fr) => match dr with
      | false => (opT P ct (lkF fr) o.op st.hp st.nx).bind fun x => (T.opt (setF N fr o.dst x.2.1)).bind fun fr' => (runT P ct N dr all r ⟨fr', x.2.2.1, x.2.2.2⟩).bind fun y => .leaf (([], x.1) :: y.1, y.2)
      | true => (opT P ct (lkF fr) o.op (keepF (foot st.hp (lkF fr) o.op) st.hp) st.nx).bind fun x => match Nat.ble st.nx x.2.2.2 with
        | true => (T.opt (setF N fr o.dst x.2.1)).bind fun fr' =>
          (runT P ct N dr all r ⟨fr', aftH x.1 (foot st.hp (lkF fr) o.op ++ fromN st.nx (x.2.2.2 - st.nx)) x.2.2.1 st.hp, x.2.2.2⟩).bind fun y =>
            .leaf ((foot st.hp (lkF fr) o.op ++ fromN st.nx (x.2.2.2 - st.nx), x.1) :: y.1, y.2)
        | false => .fail
    | (false, fr) => (T.opt (setF N fr o.dst (.tup []))).bind fun fr' => (runT P ct N dr all r ⟨fr', st.hp, st.nx⟩).bind fun y => .leaf (([], true) :: y.1, y.2)

def iteB (c : Bool) : DB → DB → DB
  | .lit true, .lit true => .lit true
  | .lit false, .lit false => .lit false
  | .lit true, .lit false => .sym c
  | .lit false, .lit true => .sym (!c)
  | .lit true, .sym y => .sym (c || y)
  | .lit false, .sym y => .sym (!c && y)
  | .sym x, .lit true => .sym (!c || x)
  | .sym x, .lit false => .sym (c && x)
  | .sym x, .sym y => .sym (bif c then x else y)

def allSil : List (List Nat × Bool) → Bool
  | [] => true
  | (_, s) :: r => match s with | true => allSil r | false => false
/-- The ways meet again, where nothing was written: the one slot that is kept, as one Bool. -/
def mergeT (s : Nat) : T (List (List Nat × Bool) × St) → Option DB
  | .fail => none
  | .leaf (fs, st) => match allSil fs, look st.fr s with
    | true, some (.bool b) => some b
    | _, _ => none
  | .br c t e => match mergeT s t, mergeT s e with
    | some x, some y => some (iteB c x y)
    | _, _ => none
  | .ob _ _ t => mergeT s t

def T.owes {α : Type u} : T α → Bool
  | .fail => true
  | .leaf _ => false
  | .br _ t e => match t.owes with | true => true | false => e.owes
  | .ob _ _ _ => true

inductive DX where
  | normal
  | exit (id : Nat)
  | ret

def anyG : List Oper → Bool
  | [] => false
  | o :: r => match o.guard with | none => anyG r | some _ => true
def lastD : List Oper → Option Nat
  | [] => none
  | [o] => o.dst
  | _ :: r => lastD r

def writes (o : Oper) (t : Nat) : Bool := match o.dst with | some s => Nat.beq s t | none => false
def anyW : List Oper → Nat → Bool
  | [], _ => false
  | o :: r, t => match writes o t with | true => true | false => anyW r t
/-- The frame without the slots that these operations write. -/
def dropW (ops : List Oper) : Fr → Fr
  | [] => []
  | (t, d) :: r => match anyW ops t with | true => dropW ops r | false => (t, d) :: dropW ops r

/-- The slot of an operation's guard. -/
def guardSlot (all : List Oper) (o : Oper) : Option Nat :=
  match o.guard with
  | some (j, _) => match all[j]? with
    | some oj => oj.dst
    | none => none
  | none => none

def tmpO : Operand → List Nat
  | .tmp t => [t]
  | _ => []
def readsO (all : List Oper) (o : Oper) : List Nat := o.op.operands.toList.flatMap tmpO ++ (guardSlot all o).toList
def edgeTo (o : Oper) (i : Nat) : Bool := o.after.toList.any fun e => Nat.beq e.on i && Region.binds .any e
/-- Do the edges lead from operation j down to i? -/
def pathTo (all : List Oper) : Nat → Nat → Nat → Bool
  | 0, _, _ => false
  | f + 1, j, i => match all[j]? with
    | some o => o.after.toList.any fun e => Region.binds .any e && (Nat.beq e.on i || pathTo all f e.on i)
    | none => false
/-- May these operations be run in any order that their edges allow, as far as slots go? -/
def drawOk (all : List Oper) : Bool :=
  all.zipIdx.all fun x => x.1.after.toList.all (fun e => !Region.binds .any e || Nat.blt e.on x.2) &&
    (readsO all x.1).all (fun t => all.zipIdx.all fun y => !writes y.1 t || (edgeTo x.1 y.2 || (Nat.blt x.2 y.2 && pathTo all all.length y.2 x.2))) &&
    (match x.1.dst with | none => true | some t => all.zipIdx.all fun y => Nat.beq x.2 y.2 || !writes y.1 t)
def meets (a b : List Nat) : Bool := a.any fun i => memN i b
def noConf (a b : List Nat × Bool) : Bool := (a.2 && b.2) || !meets a.1 b.1
/-- May they be run in any order, as far as memory goes? -/
def drawH (all : List Oper) (fs : List (List Nat × Bool)) : Bool :=
  fs.zipIdx.all fun x => fs.zipIdx.all fun y => !(Nat.blt y.2 x.2) || noConf x.1 y.1 || pathTo all all.length x.2 y.2

def regT (P : Program) (ct : Cx P) (N : Nat) (draw : Bool) (ops : List Oper) (st : St) : T (List (List Nat × Bool) × St) :=
  match draw with
  | false => match ct.cl with | true => (runT P ct N false ops ops st).cut | false => runT P ct N false ops ops st
  | true => match P.follows .mixedOrders, drawOk ops with
    | true, true => (match ct.cl with | true => (runT P ct N true ops ops st).cut | false => runT P ct N true ops ops st).bind fun x => match drawH ops x.1, Nat.ble x.2.nx noBlock with | true, true => .leaf x | _, _ => .fail
    | _, _ => .fail
def reg (P : Program) (ct : Cx P) (N : Nat) (draw : Bool) (ops : List Oper) (st : St) (K : St → Prop) : Prop :=
  match anyG ops with
  | false => (regT P ct N draw ops st).Holds fun x => K x.2
  | true => match lastD ops with
    | some s => match mergeT s (regT P ct N draw ops st), Nat.blt s N with
      | some b, true => match (regT P ct N draw ops st).owes with
        | true => (regT P ct N draw ops st).Holds (fun _ => True) ∧ K ⟨(s, .bool b) :: dropW ops st.fr, st.hp, st.nx⟩
        | false => K ⟨(s, .bool b) :: dropW ops st.fr, st.hp, st.nx⟩
      | _, _ => (regT P ct N draw ops st).Holds fun x => K x.2
    | none => (regT P ct N draw ops st).Holds fun x => K x.2

def setLit (fr : Fr) (c : Operand) (b : Bool) : Fr :=
  match c with
  | .tmp t => (t, .bool (.lit b)) :: fr
  | _ => fr

/-- A region as one outcome, or several. -/
def regS (P : Program) (ct : Cx P) (N : Nat) (draw : Bool) (ops : List Oper) (st : St) : T St :=
  match ct.cl, anyG ops with
  | false, true => match lastD ops with
    | some s => match mergeT s (regT P ct N draw ops st), Nat.blt s N with
      | some b, true => match (regT P ct N draw ops st).owes with
        | true => .ob ((regT P ct N draw ops st).Holds fun _ => True) none (.leaf ⟨(s, .bool b) :: dropW ops st.fr, st.hp, st.nx⟩)
        | false => .leaf ⟨(s, .bool b) :: dropW ops st.fr, st.hp, st.nx⟩
      | _, _ => (regT P ct N draw ops st).bind fun x => .leaf x.2
    | none => (regT P ct N draw ops st).bind fun x => .leaf x.2
  | _, _ => (regT P ct N draw ops st).bind fun x => .leaf x.2
/-- Each slot once. -/
def dedF : List Nat → Fr → Fr
  | _, [] => []
  | s, (t, d) :: r => match memN t s with | true => dedF s r | false => (t, d) :: dedF (t :: s) r
/-- In a round: the loop's record is known. -/
def rdOk : Option Nat → Hp → Bool
  | none, _ => true
  | some i, hp => match look hp i with | some (false, .loop _ _ _ _ _ _ _) => true | _ => false
/-- Code, run as far as it goes: loops round by round. -/
def execT (P : Program) (ct : Cx P) (N : Nat) (rd : Option Nat) : Nat → Code → St → T (DX × St)
  | 0, _, _ => .fail
  | f + 1, c, st => match c with
    | .skip => .leaf (.normal, st)
    | .ret => .leaf (.ret, st)
    | .exit id => .leaf (.exit id, st)
    | .seq a b => (execT P ct N rd f a st).bind fun x => match x.1 with
      | .normal => execT P ct N rd f b x.2
      | e => .leaf (e, x.2)
    | .block id c => (execT P ct N rd f c st).bind fun x => match x.1 with
      | .exit i => match Nat.beq i id with
        | true => .leaf (.normal, x.2)
        | false => .leaf (.exit i, x.2)
      | e => .leaf (e, x.2)
    | .cond c a b => match lkF st.fr c with
      | some (.bool (.lit true)) => execT P ct N rd f a st
      | some (.bool (.lit false)) => execT P ct N rd f b st
      | some (.bool (.sym v)) => match ct.cl with
        | true => match v with
          | true => execT P ct N rd f a ⟨setLit st.fr c true, st.hp, st.nx⟩
          | false => execT P ct N rd f b ⟨setLit st.fr c false, st.hp, st.nx⟩
        | false => .br v (execT P ct N rd f a ⟨setLit st.fr c true, st.hp, st.nx⟩) (execT P ct N rd f b ⟨setLit st.fr c false, st.hp, st.nx⟩)
      | _ => .fail
    | .region _ ops draw => (regS P ct N draw ops.toList st).bind fun st => .leaf (.normal, st)
    | .loop c => (execT P ct N rd f c st).bind fun x => match x.1 with
      | .normal => execT P ct N rd f (.loop c) ⟨dedF [] x.2.fr, x.2.hp, x.2.nx⟩
      | e => .leaf (e, x.2)
    | .rangeFunc g ps as bo => match lkF st.fr g, rdOk rd st.hp with
      | some (.func gf cap), true => (ct.inl gf (.yld st.nx :: cap) ((st.nx, (false, .loop st.fr N ps.toList as bo .ready none)) :: st.hp) (st.nx + 1)).bind fun r =>
        match look r.2.1 st.nx with
        | some (false, .loop _ _ _ _ _ s pe) => match s with
          | .busy => .fail
          | _ => match pe with
            | none => .leaf (.normal, ⟨st.fr, dropI st.nx r.2.1, r.2.2⟩)
            | some .ret => .leaf (.ret, ⟨st.fr, dropI st.nx r.2.1, r.2.2⟩)
            | some (.exit i) => .leaf (.exit i, ⟨st.fr, dropI st.nx r.2.1, r.2.2⟩)
            | _ => .fail
        | _ => .fail
      | _, _ => .fail
    | _ => .fail
def setPs (N : Nat) : Fr → List Nat → List DV → Option Fr
  | fr, [], [] => some fr
  | fr, p :: ps, d :: ds => match Nat.blt p N with | true => setPs N ((p, d) :: fr) ps ds | false => none
  | _, _, _ => none
/-- A round of a loop over a function. -/
def yieT (P : Program) (ct : Cx P) (fuel : Nat) (id : Nat) (args : List DV) (hp : Hp) (nx : Nat) : T (DV × Hp × Nat) :=
  match look hp id with
  | some (false, .loop fr N ps as bo .ready none) => match setPs N fr ps args with
    | some fr1 => (execT P ct N (some id) fuel as ⟨fr1, hp, nx⟩).bind fun x => match x.1, look x.2.hp id with
      | .normal, some (false, .loop fr' N' ps' as' bo' .ready pe') =>
        (execT P ct N (some id) fuel bo ⟨x.2.fr, repl x.2.hp id (false, .loop fr' N' ps' as' bo' .busy pe'), x.2.nx⟩).bind fun y => match look y.2.hp id with
          | some (false, .loop fr2 N2 ps2 as2 bo2 _ _) => match y.1 with
            | .normal => .leaf (.bool (.lit true), repl y.2.hp id (false, .loop fr2 N2 ps2 as2 bo2 .ready none), y.2.nx)
            | .ret => .leaf (.bool (.lit false), repl y.2.hp id (false, .loop fr2 N2 ps2 as2 bo2 .done (some .ret)), y.2.nx)
            | .exit i => .leaf (.bool (.lit false), repl y.2.hp id (false, .loop fr2 N2 ps2 as2 bo2 .done (some (.exit i))), y.2.nx)
          | _ => .fail
      | _, _ => .fail
    | none => .fail
  | _ => .fail

/-- What holds at the head of a loop: a form of the state with parameters, what holds of these, and a number that goes down. -/
structure LInv where
  α : Type
  S : α → St
  p : α → Prop
  m : α → Nat
  /-- slots whose numbers, as they are where the loop is entered, are bound to the parameters -/
  lk : List (Nat × (α → Int)) := []
  /-- what else binds the parameters to the state where the loop is entered -/
  lq : Option (St → α → Prop) := none
def lkP {α : Type} (fr : Fr) : List (Nat × (α → Int)) → α → Prop
  | [], _ => True
  | (t, f) :: r, x => match look fr t with
    | some (.int _ a) => f x = a.v ∧ lkP fr r x
    | _ => lkP fr r x
def LInv.ent (I : LInv) (st : St) : LInv := match I.lk, I.lq with
  | [], none => I
  | l, none => ⟨I.α, I.S, fun x => I.p x ∧ lkP st.fr l x, I.m, [], none⟩
  | l, some q => ⟨I.α, I.S, fun x => I.p x ∧ lkP st.fr l x ∧ q st x, I.m, [], none⟩

def firstR : Code → Option Nat
  | .region id _ _ => some id
  | .seq a b => match firstR a with | some i => some i | none => firstR b
  | .cond _ a b => match firstR a with | some i => some i | none => firstR b
  | .block _ c => firstR c
  | .loop c => firstR c
  | .scope c => firstR c
  | _ => none
def findI (invs : List (Nat × LInv)) (c : Code) : Option LInv :=
  match firstR c with
  | some i => look invs i
  | none => none
def findE (invs : List (Nat × LInv)) (c : Code) (st : St) : Option LInv := match findI invs c with
  | some I => some (I.ent st)
  | none => none

@[irreducible] def fuelX : Nat := 1000000
def exec (P : Program) (ct : Cx P) (N n0 : Nat) (invs : List (Nat × LInv)) : Code → St → (DX → St → Prop) → Prop
  | .skip, st, K => K .normal st
  | .ret, st, K => K .ret st
  | .exit id, st, K => K (.exit id) st
  | .seq a b, st, K => exec P ct N n0 invs a st fun x st' => match x with
    | .normal => exec P ct N n0 invs b st' K
    | x => K x st'
  | .block id c, st, K => exec P ct N n0 invs c st fun x st' => match x with
    | .exit i => match Nat.beq i id with
      | true => K .normal st'
      | false => K (.exit i) st'
    | x => K x st'
  | .cond c a b, st, K => match lkF st.fr c with
    | some (.bool (.lit true)) => exec P ct N n0 invs a st K
    | some (.bool (.lit false)) => exec P ct N n0 invs b st K
    | some (.bool (.sym v)) => match ct.cl with
      | true => match v with
        | true => exec P ct N n0 invs a ⟨setLit st.fr c true, st.hp, st.nx⟩ K
        | false => exec P ct N n0 invs b ⟨setLit st.fr c false, st.hp, st.nx⟩ K
      | false => (v = true → exec P ct N n0 invs a ⟨setLit st.fr c true, st.hp, st.nx⟩ K) ∧ (v = false → exec P ct N n0 invs b ⟨setLit st.fr c false, st.hp, st.nx⟩ K)
    | _ => False
  | .region _ ops draw, st, K => reg P ct N draw ops.toList st (K .normal)
  | .rangeFunc g ps as bo, st, K => (execT P ct N none fuelX (.rangeFunc g ps as bo) st).Holds fun x => K x.1 x.2
  | .loop c, st, K => match findE invs c st with
    | none => (execT P ct N none fuelX (.loop c) st).Holds fun x => K x.1 x.2
    | some I => (∃ a, subS n0 st (I.S a) (I.p a)) ∧ ∀ a, I.p a → exec P ct N n0 invs c (I.S a) fun x s' => match x with
      | .normal => ∃ a', subS n0 s' (I.S a') (I.p a' ∧ I.m a' < I.m a)
      | x => K x s'
  | _, _, _ => False

/-! ### what a function hands back -/
def resD (P : Program) (st : St) : List ResultVar → T (List DV)
  | [] => .leaf []
  | .tmp t :: r => match look st.fr t with
    | some d => (resD P st r).bind fun ds => .leaf (d :: ds)
    | none => .fail
  | .cell a t :: r => match look st.fr a with
    | some (.ptr p) => (loadT P st.hp t (.ptr p)).bind fun d => (resD P st r).bind fun ds => .leaf (d :: ds)
    | _ => .fail

def tupD : List DV → DV
  | [d] => d
  | ds => .tup ds

def retK (P : Program) (rs : List ResultVar) (K : DV → St → Prop) : DX → St → Prop
  | .exit _, _ => False
  | _, st => (resD P st rs).Holds fun ds => K (tupD ds) st

def frameOf : Nat → List DV → Fr
  | _, [] => []
  | i, d :: r => (i, d) :: frameOf (i + 1) r

/-- A function whose body is at hand. -/
structure Body (P : Program) where
  f : FuncId
  fn : Func
  hf : P.funcs[f]? = some fn
  hn : (fn.name == "runtime.NumGoroutine") = false
  hb : fn.body.isNone = false
  frz : Bool
def findB {P : Program} : List (Body P) → FuncId → Option (Body P)
  | [], _ => none
  | b :: r, f => match Nat.beq b.f f with | true => some b | false => findB r f
/-- A callee's body, run. -/
def runF (P : Program) (ct : Cx P) (bs : List (Body P)) (fuel : Nat) (f : FuncId) (args : List DV) (hp : Hp) (nx : Nat) : T (DV × Hp × Nat) :=
  match findB bs f with
  | none => .fail
  | some b => match b.fn.body, Nat.ble args.length b.fn.ntmps with
    | some c, true => (execT P ct b.fn.ntmps none fuel c ⟨frameOf 0 args, hp, nx⟩).bind fun x => match x.1 with
      | .exit _ => .fail
      | _ => (resD P x.2 b.fn.results.toList).bind fun ds => match b.frz with
        | false => .leaf (tupD ds, x.2.hp, x.2.nx)
        | true => (ghosts (fzD x.2.hp (tupD ds)) x.2.hp).bind fun hp' => .leaf (tupD ds, hp', x.2.nx)
    | _, _ => .fail

def execF (P : Program) (ct : Cx P) (invs : List (Nat × LInv)) (fn : Func) (args : List DV) (hp : Hp) (nx : Nat) (K : DV → St → Prop) : Prop :=
  match fn.body with
  | some c => exec P ct fn.ntmps nx invs c ⟨frameOf 0 args, hp, nx⟩ (retK P fn.results.toList K)
  | none => False
end
end Go.DF
