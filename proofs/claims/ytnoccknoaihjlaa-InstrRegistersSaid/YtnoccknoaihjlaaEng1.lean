import Derived.WalkKit
set_option linter.unusedVariables false
set_option linter.unusedSimpArgs false
set_option linter.unnecessarySimpa false
/- The engine, part 1: symbolic values, symbolic memory, and the evaluator of operations and code. Definitions only. -/
namespace Go.DE
universe u v

def oneC : Value → Bool
  | .agg _ => false
  | .tuple _ => false
  | _ => true

/-! ### symbolic data -/
inductive DI where | lit (n : Int) | sym (n : Int)
def DI.v : DI → Int | .lit n => n | .sym n => n
inductive DN where | lit (n : Nat) | sym (n : Nat)
def DN.v : DN → Nat | .lit n => n | .sym n => n
inductive DB where | lit (b : Bool) | sym (b : Bool)
def DB.v : DB → Bool | .lit b => b | .sym b => b
inductive DS where | lit (s : ByteArray) | sym (s : ByteArray)
def DS.v : DS → ByteArray | .lit s => s | .sym s => s

/-- A place in a block that the evaluator knows by a number of its own: element 'idx' of 'sz' cells, and there cell 'fld'. -/
structure DP where
  id : Nat
  idx : DN
  sz : Nat
  fld : Nat
def DP.off (p : DP) : Nat := p.idx.v * p.sz + p.fld

/-- An immutable thing behind a value: a predicate that stays true while the blocks of a set stay as they are. -/
structure Imm where
  p : World → (Nat → Prop) → Value → Prop
  one : ∀ w s v, p w s v → oneC v = true
  mono : ∀ w w' s s' v, (∀ b, s b → s' b) → (∀ b, s b → w'.heap[b]? = w.heap[b]?) → p w s v → p w' s' v

inductive DV where
  | bool (b : DB)
  | int (k : IntKind) (n : DI)
  | str (s : DS)
  | ptr (p : DP)
  | nilptr
  | slice (p : DP) (len : DN)
  | nilslice
  | map (id : Nat)
  | nilmap
  | func (f : FuncId) (cap : List DV)
  | nilfunc
  | nilif
  | agg (cs : List DV)
  | tup (vs : List DV)
  | imm (m : Imm)
  | any

/-! ### what a symbolic value stands for -/
structure G where
  ρ : Nat → Option Nat
  pr : Nat → Prop
  base : Nat → Nat
/-- Where a place lies in its block. -/
def G.off (g : G) (p : DP) : Nat := g.base p.id + p.off

mutual
def Rep (g : G) (w : World) : DV → Value → Prop
  | .bool b, v => v = .bool b.v
  | .int k n, v => v = .int k n.v
  | .str s, v => v = .string s.v
  | .ptr p, v => ∃ b, g.ρ p.id = some b ∧ v = .pointer (some ⟨b, g.off p, none⟩)
  | .nilptr, v => v = .pointer none
  | .slice p n, v => (v = .slice none 0 0 ∧ n.v = 0) ∨ ∃ b o cap, g.ρ p.id = some b ∧ n.v ≤ cap ∧ v = .slice (some ⟨b, o, none⟩) n.v cap ∧ (cap = 0 ∨ o = g.off p) ∧
      ∃ (cs : Array Value) (t : TypeId) (fr : Nat × Nat), w.heap[b]? = some (Obj.cells cs t fr) ∧ o + cap * p.sz ≤ cs.size
  | .nilslice, v => v = .slice none 0 0
  | .map i, v => ∃ b, g.ρ i = some b ∧ v = .map (some b)
  | .nilmap, v => v = .map none
  | .func f cap, v => ∃ vs, v = .func (.func f) #[] vs.toArray ∧ RepL g w cap vs
  | .nilfunc, v => v = .nilFunc
  | .nilif, v => v = .nilIface
  | .agg cs, v => ∃ vs, v = .agg vs.toArray ∧ RepL g w cs vs ∧ ∀ u ∈ vs, oneC u = true
  | .tup ds, v => ∃ vs, v = .tuple vs.toArray ∧ RepL g w ds vs
  | .imm m, v => m.p w g.pr v
  | .any, _ => True
def RepL (g : G) (w : World) : List DV → List Value → Prop
  | [], vs => vs = []
  | d :: ds, vs => ∃ v us, vs = v :: us ∧ Rep g w d v ∧ RepL g w ds us
end

mutual
/-- It names no block. -/
def idf : DV → Bool
  | .bool _ => true
  | .int _ _ => true
  | .str _ => true
  | .ptr _ => false
  | .nilptr => true
  | .slice _ _ => false
  | .nilslice => true
  | .map _ => false
  | .nilmap => true
  | .func _ cap => idfL cap
  | .nilfunc => true
  | .nilif => true
  | .agg cs => idfL cs
  | .tup ds => idfL ds
  | .imm _ => true
  | .any => true
def idfL : List DV → Bool
  | [] => true
  | d :: ds => match idf d with | true => idfL ds | false => false
end

/-- How the elements of a block are written in cells. -/
inductive CT where
  | int (k : IntKind)
  | bool
  | str
  | pair (a b : CT)
  deriving DecidableEq
def CT.D : CT → Type
  | .int _ => Int
  | .bool => Bool
  | .str => ByteArray
  | .pair a b => a.D × b.D
def CT.size : CT → Nat
  | .int _ => 1
  | .bool => 1
  | .str => 1
  | .pair a b => a.size + b.size
def CT.dflt : (c : CT) → c.D
  | .int _ => (0 : Int)
  | .bool => false
  | .str => ByteArray.empty
  | .pair a b => (a.dflt, b.dflt)
def CT.enc : (c : CT) → c.D → List DV
  | .int k, n => [.int k (.sym n)]
  | .bool, b => [.bool (.sym b)]
  | .str, s => [.str (.sym s)]
  | .pair a b, x => a.enc x.1 ++ b.enc x.2
def CT.dec : (c : CT) → List DV → Option c.D
  | .int k, cs => match cs with
    | [.int k' n] => match decide (k' = k) with | true => some n.v | false => none
    | _ => none
  | .bool, cs => match cs with
    | [.bool b] => some b.v
    | _ => none
  | .str, cs => match cs with
    | [.str b] => some b.v
    | _ => none
  | .pair a b, cs => match a.dec (cs.take a.size), b.dec (cs.drop a.size) with
    | some x, some y => some (x, y)
    | _, _ => none

inductive DO where
  | cells (t : TypeId) (cs : List DV)
  | arr (t : TypeId) (c : CT) (l : List c.D)
  | ro (c : CT) (l : List c.D)
  | map (es : List (DV × DV))

abbrev Hp := List (Nat × DO)
abbrev Fr := List (Nat × DV)

def look {α : Type u} : List (Nat × α) → Nat → Option α
  | [], _ => none
  | (j, a) :: r, i => match Nat.beq j i with
    | true => some a
    | false => look r i

def repl {α : Type u} : List (Nat × α) → Nat → α → List (Nat × α)
  | [], _, _ => []
  | (j, a) :: r, i, b => match Nat.beq j i with
    | true => (j, b) :: r
    | false => (j, a) :: repl r i b

structure St where
  fr : Fr
  hp : Hp
  nx : Nat

structure Ext (g : G) (w : World) (g' : G) (w' : World) : Prop where
  rho : ∀ i b, g.ρ i = some b → g'.ρ i = some b
  pr : ∀ b, g.pr b → g'.pr b
  at' : ∀ b, g.pr b → w'.heap[b]? = w.heap[b]?
  base : ∀ i b, g.ρ i = some b → g'.base i = g.base i
  shape : ∀ (b : Nat) (cs : Array Value) (t : TypeId) (fr : Nat × Nat), w.heap[b]? = some (Obj.cells cs t fr) → ∃ cs' : Array Value, w'.heap[b]? = some (Obj.cells cs' t fr) ∧ cs'.size = cs.size

/-! ### symbolic memory -/
def isRo : DO → Bool
  | .ro _ _ => true
  | _ => false
/-- It may stand for no block at all. -/
def noneO : DO → Prop
  | .arr _ _ l => l = []
  | .ro _ l => l = []
  | _ => False
def ORep (g : G) (w : World) : DO → Nat → Nat → Prop
  | .cells t cs, b, _ => ∃ vs : List Value, w.heap[b]? = some (.cells vs.toArray t (0, 0)) ∧ RepL g w cs vs ∧ ∀ u ∈ vs, oneC u = true
  | .arr t c l, b, _ => ∃ vs : List Value, w.heap[b]? = some (.cells vs.toArray t (0, 0)) ∧ (∀ u ∈ vs, oneC u = true) ∧
      ∀ (i : Nat) (a : c.D), l[i]? = some a → RepL g w (c.enc a) ((vs.drop (i * c.size)).take c.size)
  | .ro c l, b, o => ∃ (vs : List Value) (t : TypeId) (fr : Nat × Nat), w.heap[b]? = some (.cells vs.toArray t fr) ∧
      ∀ (i : Nat) (a : c.D), l[i]? = some a → RepL g w (c.enc a) ((vs.drop (o + i * c.size)).take c.size) ∧ ∀ u ∈ (vs.drop (o + i * c.size)).take c.size, oneC u = true
  | .map es, b, _ => ∃ (ms : List MapEntry) (clock : Nat), w.heap[b]? = some (.map ms.toArray clock) ∧ RepL g w (es.map (·.1)) (ms.map (·.key)) ∧ RepL g w (es.map (·.2)) (ms.map (·.val))

/-- The memory that the evaluator knows is there: each known block under a number of its own, none of them protected. -/
structure Rel (g : G) (hp : Hp) (w : World) : Prop where
  obj : ∀ i o, look hp i = some o → (∃ b, g.ρ i = some b ∧ ORep g w o b (g.base i) ∧ ¬ g.pr b ∧ (isRo o = false → g.base i = 0)) ∨ (noneO o ∧ g.ρ i = none)
  inj : ∀ i j oi oj b, look hp i = some oi → look hp j = some oj → g.ρ i = some b → g.ρ j = some b → i = j ∨ (isRo oi = true ∧ isRo oj = true)
  prl : ∀ b, g.pr b → b < w.heap.size

/-- A world that has changed in nothing that was there. -/
structure Silent (w w' : World) : Prop where
  os : w'.os = w.os
  tape : w'.tape = w.tape
  output : w'.output = w.output
  size : w.heap.size ≤ w'.heap.size
  kept : ∀ b, b < w.heap.size → w'.heap[b]? = w.heap[b]?

/-- What has become of the world since the call began: blocks that 'M' does not name are as they were. -/
structure Kept (M : Nat → Prop) (w w' : World) : Prop where
  os : w'.os = w.os
  tape : w'.tape = w.tape
  output : w'.output = w.output
  size : w.heap.size ≤ w'.heap.size
  kept : ∀ b, b < w.heap.size → ¬ M b → w'.heap[b]? = w.heap[b]?

/-- What may be changed by a call: the blocks that the evaluator knows, those below number rb excepted. -/
def Mine (g : G) (hp : Hp) (rb : Nat) (b : Nat) : Prop := ∃ i o, rb ≤ i ∧ look hp i = some o ∧ isRo o = false ∧ g.ρ i = some b

/-- What a call does, said of the evaluator's memory: 'K' of the result and of the memory behind the call. Blocks below number rb are not written. -/
def DCall (P : Program) (f : FuncId) (args : List DV) (hp : Hp) (n rb : Nat) (K : DV → St → Prop) : Prop :=
  ∀ g w vs, Rel g hp w → (∀ i, n ≤ i → g.ρ i = none) → RepL g w args vs → Calls P f vs.toArray w fun e w' => ∃ v d st' g', e = .returned v ∧ K d st' ∧ Rel g' st'.hp w' ∧ Rep g' w' d v ∧ Ext g w g' w' ∧
    Kept (Mine g hp rb) w w' ∧ (∀ i, st'.nx ≤ i → g'.ρ i = none) ∧ (∀ i o b, rb ≤ i → look st'.hp i = some o → isRo o = false → g'.ρ i = some b → Mine g hp rb b ∨ w.heap.size ≤ b) ∧ (∀ b, g'.pr b → g.pr b ∨ Mine g hp rb b ∨ w.heap.size ≤ b) ∧ (∀ i, i < n → g'.ρ i = g.ρ i)

/-! ### at a loop's head: what is known there, in a form of one's own -/
abbrev Sg := List (Nat × Nat)
/-- Numbers from here on name no block. -/
def noBlock : Nat := 1000000
def isTgt : Sg → Nat → Bool
  | [], _ => false
  | (_, j) :: r, k => match Nat.beq j k with | true => true | false => isTgt r k
/-- The number i of the new form is the number j of the old one. -/
def uniI (σ : Sg) (i j : Nat) : Option Sg :=
  match look σ i with
  | some j' => match Nat.beq j' j with | true => some σ | false => none
  | none => match isTgt σ j with | true => none | false => some ((i, j) :: σ)

def eqI (a b : DI) (p : Prop) : Option (List Prop) :=
  match a, b with
  | .lit x, .lit y => match x == y with | true => some [] | false => none
  | _, _ => some [p]
def eqN (a b : DN) (p : Prop) : Option (List Prop) :=
  match a, b with
  | .lit x, .lit y => match Nat.beq x y with | true => some [] | false => none
  | _, _ => some [p]
def eqBl (a b : DB) (p : Prop) : Option (List Prop) :=
  match a, b with
  | .lit x, .lit y => match x == y with | true => some [] | false => none
  | _, _ => some [p]

def eqSl (a b : DS) (p : Prop) : Option (List Prop) :=
  match a, b with
  | .lit x, .lit y => match x.data.toList == y.data.toList with | true => some [] | false => none
  | _, _ => some [p]

def uniP (σ : Sg) (p' p : DP) : Option (Sg × List Prop) :=
  match uniI σ p.id p'.id, eqN p'.idx p.idx (p'.idx.v = p.idx.v), Nat.beq p'.sz p.sz, Nat.beq p'.fld p.fld with
  | some σ, some ps, true, true => some (σ, ps)
  | _, _, _, _ => none

mutual
def uniD : Sg → DV → DV → Option (Sg × List Prop)
  | σ, d', .any => match d' with | _ => some (σ, [])
  | σ, d', .bool b => match d' with | .bool b' => (eqBl b' b (b'.v = b.v)).map fun ps => (σ, ps) | _ => none
  | σ, d', .int k b => match d' with | .int k' b' => (match decide (k' = k) with | true => (eqI b' b (b'.v = b.v)).map fun ps => (σ, ps) | false => none) | _ => none
  | σ, d', .str b => match d' with | .str b' => (eqSl b' b (b'.v = b.v)).map fun ps => (σ, ps) | _ => none
  | σ, d', .ptr p => match d' with | .ptr p' => uniP σ p' p | _ => none
  | σ, d', .nilptr => match d' with | .nilptr => some (σ, []) | _ => none
  | σ, d', .slice p n => match d' with
    | .slice p' n' => match uniP σ p' p, eqN n' n (n'.v = n.v) with | some (σ, ps), some qs => some (σ, ps ++ qs) | _, _ => none
    | .nilslice => match uniI σ p.id (noBlock + p.id) with | some σ => some (σ, [n.v = 0]) | none => none
    | _ => none
  | σ, d', .nilslice => match d' with | .nilslice => some (σ, []) | _ => none
  | σ, d', .map i => match d' with | .map i' => (uniI σ i i').map fun σ => (σ, []) | _ => none
  | σ, d', .nilmap => match d' with | .nilmap => some (σ, []) | _ => none
  | σ, d', .func f c => match d' with | .func f' c' => (match Nat.beq f' f with | true => uniL σ c' c | false => none) | _ => none
  | σ, d', .nilfunc => match d' with | .nilfunc => some (σ, []) | _ => none
  | σ, d', .nilif => match d' with | .nilif => some (σ, []) | _ => none
  | σ, d', .agg c => match d' with | .agg c' => uniL σ c' c | _ => none
  | σ, d', .tup c => match d' with | .tup c' => uniL σ c' c | _ => none
  | σ, d', .imm m => match d' with | .imm m' => some (σ, [∀ w s v, m'.p w s v → m.p w s v]) | _ => none
def uniL : Sg → List DV → List DV → Option (Sg × List Prop)
  | σ, ds', [] => match ds' with | [] => some (σ, []) | _ => none
  | σ, ds', d :: ds => match ds' with
    | d' :: ds' => match uniD σ d' d with
      | some (σ, ps) => match uniL σ ds' ds with
        | some (σ, qs) => some (σ, ps ++ qs)
        | none => none
      | none => none
    | [] => none
end

/-- Cells read as elements. -/
def decL (c : CT) : Nat → List DV → Option (List c.D)
  | 0, [] => some []
  | 0, _ => none
  | n + 1, cs => match cs with
    | [] => some []
    | cs => match c.dec (cs.take c.size), decL c n (cs.drop c.size) with
      | some a, some l => some (a :: l)
      | _, _ => none

def uniM : Sg → List (DV × DV) → List (DV × DV) → Option (Sg × List Prop)
  | σ, [], [] => some (σ, [])
  | σ, (a', b') :: r', (a, b) :: r => match uniD σ a' a with
    | some (σ, ps) => match uniD σ b' b with
      | some (σ, qs) => match uniM σ r' r with
        | some (σ, rs) => some (σ, ps ++ qs ++ rs)
        | none => none
      | none => none
    | none => none
  | _, _, _ => none
def uniO (σ : Sg) (o' o : DO) : Option (Sg × List Prop) :=
  match o, o' with
  | .cells t cs, .cells t' cs' => match Nat.beq t' t with | true => uniL σ cs' cs | false => none
  | .arr t c l, .arr t' c' l' => some (σ, [DO.arr t' c' l' = DO.arr t c l])
  | .ro c l, .ro c' l' => some (σ, [DO.ro c' l' = DO.ro c l])
  | .arr t c l, .cells t' cs' => match Nat.beq t' t, decL c cs'.length cs' with
    | true, some l' => some (σ, [l' = l])
    | _, _ => none
  | .map es, .map es' => uniM σ es' es
  | _, _ => none

def uniF (fr' : Fr) : Sg → Fr → Option (Sg × List Prop)
  | σ, [] => some (σ, [])
  | σ, (t, d) :: r => match look fr' t with
    | some d' => match uniD σ d' d with
      | some (σ, ps) => match uniF fr' σ r with
        | some (σ, qs) => some (σ, ps ++ qs)
        | none => none
      | none => none
    | none => none
def uniH (hp' : Hp) : Sg → Hp → Option (Sg × List Prop)
  | σ, [] => some (σ, [])
  | σ, (i, o) :: r => match look σ i with
    | some j => match look hp' j with
      | some o' => match uniO σ o' o with
        | some (σ, ps) => match uniH hp' σ r with
          | some (σ, qs) => some (σ, ps ++ qs)
          | none => none
        | none => none
      | none => match Nat.ble noBlock j, o with
        | true, .arr _ _ l => match uniH hp' σ r with
          | some (σ, qs) => some (σ, (l = []) :: qs)
          | none => none
        | _, _ => none
    | none => none

def allP : List Prop → Prop
  | [] => True
  | [p] => p
  | p :: q :: r => p ∧ allP (q :: r)
def keysLt (n : Nat) : Sg → Bool
  | [] => true
  | (i, _) :: r => match Nat.blt i n with | true => keysLt n r | false => false
def idS : Nat → Sg
  | 0 => []
  | n + 1 => (n, n) :: idS n
/-- The state s' may be taken for the state s: what s says is so there, under other numbers perhaps. n0: the numbers below it stay. -/
def subS (n0 : Nat) (s' s : St) (k : Prop) : Prop :=
  match uniF s'.fr (idS n0) s.fr with
  | some (σ, ps) => match uniH s'.hp σ s.hp with
    | some (σ, qs) => match keysLt s.nx σ with
      | true => match Nat.ble s'.nx noBlock with
        | true => allP (ps ++ qs) ∧ k
        | false => False
      | false => False
    | none => False
  | none => False

/-! ### trees of outcomes of what is silent -/
inductive T (α : Type u) : Type u where
  | fail
  | leaf (a : α)
  | br (b : Bool) (t e : T α)
  | ob (p : Prop) (t : T α)

def T.Holds {α : Type u} : T α → (α → Prop) → Prop
  | .fail, _ => False
  | .leaf a, Q => Q a
  | .br b t e, Q => (b = true → t.Holds Q) ∧ (b = false → e.Holds Q)
  | .ob p t, Q => p ∧ t.Holds Q

def T.bind {α : Type u} {β : Type v} : T α → (α → T β) → T β
  | .fail, _ => .fail
  | .leaf a, f => f a
  | .br b t e, f => .br b (t.bind f) (e.bind f)
  | .ob p t, f => .ob p (t.bind f)

def T.opt {α : Type u} : Option α → T α
  | some a => .leaf a
  | none => .fail

/-! ### values -/
def ofValue : Value → Option DV
  | .bool b => some (.bool (.lit b))
  | .int k n => some (.int k (.lit n))
  | .string s => some (.str (.lit s))
  | .pointer none => some .nilptr
  | .slice none 0 0 => some .nilslice
  | .map none => some .nilmap
  | .nilFunc => some .nilfunc
  | .nilIface => some .nilif
  | _ => none

def okI64 (n : Int) : Prop := -9223372036854775808 ≤ n ∧ n ≤ 9223372036854775807

def bitsI (op : BinOp) (k : IntKind) (x y : Int) : Int :=
  let a := BitVec.ofInt k.bits x
  let b := BitVec.ofInt k.bits y
  match op with
  | .and => k.wrap (a &&& b).toNat
  | .or => k.wrap (a ||| b).toNat
  | .xor => k.wrap (a ^^^ b).toNat
  | .andNot => k.wrap (a &&& ~~~b).toNat
  | _ => 0
def shlI (k : IntKind) (x y : Int) : Int := k.wrap (x * 2 ^ (min y.toNat k.bits))
def shrI (k : IntKind) (x y : Int) : Int := x.fdiv (2 ^ (min y.toNat k.bits))

/-- The sum, the difference, the product: of two literals at once; of int64: with the obligation that nothing overflows; else wrapped. -/
def arith (k : IntKind) (a b : DI) (r : Int) : T DV :=
  match a, b with
  | .lit _, .lit _ => .leaf (.int k (.lit (k.wrap r)))
  | _, _ => match k with
    | .i64 => .ob (okI64 r) (.leaf (.int .i64 (.sym r)))
    | k => .leaf (.int k (.sym (k.wrap r)))

def two (a b : DI) (r : Int) : DI :=
  match a, b with
  | .lit _, .lit _ => .lit r
  | _, _ => .sym r
def twoB (a b : DI) (r : Bool) : DB :=
  match a, b with
  | .lit _, .lit _ => .lit r
  | _, _ => .sym r

/-- An obligation on literals is decided at once. -/
def need (a b : DI) (c : Bool) (p : Prop) (t : T DV) : T DV :=
  match a, b with
  | .lit _, .lit _ => match c with | true => t | false => .fail
  | _, _ => .ob p t
def need1 (a : DI) (c : Bool) (p : Prop) (t : T DV) : T DV :=
  match a with
  | .lit _ => match c with | true => t | false => .fail
  | _ => .ob p t

def binInt (op : BinOp) (k : IntKind) (a b : DI) : T DV :=
  match op with
  | .add => arith k a b (a.v + b.v)
  | .sub => arith k a b (a.v - b.v)
  | .mul => arith k a b (a.v * b.v)
  | .quo => need1 b (!(b.v == 0)) (b.v ≠ 0) (arith k a b (a.v.tdiv b.v))
  | .rem => need1 b (!(b.v == 0)) (b.v ≠ 0) (.leaf (.int k (two a b (a.v.tmod b.v))))
  | .and => .leaf (.int k (two a b (bitsI .and k a.v b.v)))
  | .or => .leaf (.int k (two a b (bitsI .or k a.v b.v)))
  | .xor => .leaf (.int k (two a b (bitsI .xor k a.v b.v)))
  | .andNot => .leaf (.int k (two a b (bitsI .andNot k a.v b.v)))
  | .eql => .leaf (.bool (twoB a b (a.v == b.v)))
  | .neq => .leaf (.bool (twoB a b (a.v != b.v)))
  | .lss => .leaf (.bool (twoB a b (decide (a.v < b.v))))
  | .leq => .leaf (.bool (twoB a b (decide (a.v ≤ b.v))))
  | .gtr => .leaf (.bool (twoB a b (decide (b.v < a.v))))
  | .geq => .leaf (.bool (twoB a b (decide (b.v ≤ a.v))))
  | .shl => need1 b (decide (0 ≤ b.v)) (0 ≤ b.v) (.leaf (.int k (two a b (shlI k a.v b.v))))
  | .shr => need1 b (decide (0 ≤ b.v)) (0 ≤ b.v) (.leaf (.int k (two a b (shrI k a.v b.v))))

def eqS (a b : DS) : DB :=
  match a, b with
  | .lit x, .lit y => .lit (x.toList == y.toList)
  | a, b => .sym (a.v.toList == b.v.toList)
def notB : DB → DB
  | .lit b => .lit (!b)
  | .sym b => .sym (!b)
def andB : DB → DB → DB
  | .lit true, b => b
  | .lit false, _ => .lit false
  | .sym a, .lit true => .sym a
  | .sym _, .lit false => .lit false
  | .sym a, .sym b => .sym (a && b)
def eqB : DB → DB → DB
  | .lit a, .lit b => .lit (a == b)
  | .lit true, .sym b => .sym b
  | .lit false, .sym b => .sym (!b)
  | .sym a, .lit true => .sym a
  | .sym a, .lit false => .sym (!a)
  | .sym a, .sym b => .sym (a == b)

def underD (P : Program) (t : TypeId) : Option TypeDesc := P.underlying t
def sizeD (P : Program) (t : TypeId) : Option Nat := match P.info? t with | some i => some i.size | none => none

def takeN (cs : List DV) (off n : Nat) : Option (List DV) :=
  let l := (cs.drop off).take n
  match Nat.beq l.length n with | true => some l | false => none

def oneO : List DV → Option DV
  | [d] => some d
  | _ => none

def partO (P : Program) (t : TypeId) (cs : List DV) (off : Nat) : Option DV :=
  match underD P t with
  | some (.struct _) => match sizeD P t with
    | some n => match takeN cs off n with | some l => some (.agg l) | none => none
    | none => none
  | some (.array _ _) => match sizeD P t with
    | some n => match takeN cs off n with | some l => some (.agg l) | none => none
    | none => none
  | some _ => match takeN cs off 1 with | some l => oneO l | none => none
  | none => none

/-- '==' on two scalars. -/
def eqV (P : Program) (t : TypeId) (x y : DV) : Option DB :=
  match x, y with
  | .bool a, .bool b => match underD P t with | some .bool => some (eqB a b) | _ => none
  | .int k a, .int k' b => match underD P t, decide (k = k') with | some (.int _), true => some (twoB a b (a.v == b.v)) | _, _ => none
  | .str a, .str b => match underD P t with | some .string => some (eqS a b) | _ => none
  | .func _ _, .nilfunc => match underD P t with | some (.func _ _ _) => some (.lit false) | _ => none
  | .nilfunc, .nilfunc => match underD P t with | some (.func _ _ _) => some (.lit true) | _ => none
  | .ptr _, .nilptr => match underD P t with | some (.pointer _) => some (.lit false) | _ => none
  | .nilptr, .ptr _ => match underD P t with | some (.pointer _) => some (.lit false) | _ => none
  | .nilptr, .nilptr => match underD P t with | some (.pointer _) => some (.lit true) | _ => none
  | .slice _ n, .nilslice => match n, underD P t with | .lit (_ + 1), some (.slice _) => some (.lit false) | _, _ => none
  | .nilslice, .nilslice => match underD P t with | some (.slice _) => some (.lit true) | _ => none
  | .map _, .nilmap => match underD P t with | some (.map _ _) => some (.lit false) | _ => none
  | .nilmap, .nilmap => match underD P t with | some (.map _ _) => some (.lit true) | _ => none
  | _, _ => none

def eqFs (P : Program) (eq : TypeId → DV → DV → Option DB) (xs ys : List DV) : List Field → Option DB
  | [] => some (.lit true)
  | f :: fs => match f.name == "_" with
    | true => none
    | false => match partO P f.type xs f.offset, partO P f.type ys f.offset with
      | some a, some b => match eq f.type a b, eqFs P eq xs ys fs with
        | some r, some r' => some (andB r r')
        | _, _ => none
      | _, _ => none
def eqIs (P : Program) (eq : TypeId → DV → DV → Option DB) (e : TypeId) (s : Nat) (xs ys : List DV) : List Nat → Option DB
  | [] => some (.lit true)
  | i :: is => match partO P e xs (i * s), partO P e ys (i * s) with
    | some a, some b => match eq e a b, eqIs P eq e s xs ys is with
      | some r, some r' => some (andB r r')
      | _, _ => none
    | _, _ => none
/-- '==', structs and arrays too. -/
def eqT (P : Program) : Nat → TypeId → DV → DV → Option DB
  | 0, _, _, _ => none
  | d + 1, t, .agg xs, .agg ys => match underD P t with
    | some (.struct fs) => match P.stoodInHeld t with
      | false => eqFs P (eqT P d) xs ys fs.toList
      | true => none
    | some (.array n e) => match sizeD P e with
      | some s => eqIs P (eqT P d) e s xs ys (List.range n)
      | none => none
    | _ => none
  | _ + 1, t, x, y => eqV P t x y
/-- '==' as an operation: what Go asks of two interface values is not asked here. -/
def eqO (P : Program) (t : TypeId) (x y : DV) : Option DB :=
  match x, y with
  | .agg _, .agg _ => match P.eqGuardType P.depth t with
    | false => eqT P 8 t x y
    | true => none
  | .agg _, _ => none
  | _, .agg _ => none
  | x, y => eqV P t x y

def binV (P : Program) (op : BinOp) (t : TypeId) (x y : DV) : T DV :=
  match x, y with
  | .int k a, .int k' b => match decide (k = k'), op with
    | true, .shl => binInt .shl k a b
    | _, .shl => need1 b (decide (0 ≤ b.v)) (0 ≤ b.v) (.leaf (.int k (two a b (shlI k a.v b.v))))
    | _, .shr => need1 b (decide (0 ≤ b.v)) (0 ≤ b.v) (.leaf (.int k (two a b (shrI k a.v b.v))))
    | true, op => binInt op k a b
    | false, _ => .fail
  | x, y => match op with
    | .eql => match eqO P t x y with | some b => .leaf (.bool b) | none => .fail
    | .neq => match eqO P t x y with | some b => .leaf (.bool (notB b)) | none => .fail
    | _ => .fail

def unV (op : UnOp) (x : DV) : T DV :=
  match op, x with
  | .not, .bool b => .leaf (.bool (notB b))
  | .neg, .int k n => arith k (.lit 0) n (0 - n.v)
  | .xor, .int k n => .leaf (.int k (two n n (bitsI .xor k (if k.signed then -1 else k.max) n.v)))
  | _, _ => .fail

def convV (P : Program) (src dst : TypeId) (x : DV) : T DV :=
  match underD P src, underD P dst, x with
  | some _, some (.int k), .int _ n => .leaf (.int k (match n with | .lit n => .lit (k.wrap n) | .sym n => .sym (k.wrap n)))
  | some .string, some .string, .str s => .leaf (.str s)
  | _, _, _ => .fail

/-! ### memory -/
def loadN (hp : Hp) (p : DP) (n : Nat) : T (List DV) :=
  match look hp p.id with
  | some (.cells _ cs) => match p.idx with
    | .lit i => T.opt (takeN cs (i * p.sz + p.fld) n)
    | .sym _ => .fail
  | some (.arr _ c l) => match Nat.beq p.sz c.size, Nat.ble (p.fld + n) c.size with
    | true, true => .ob (p.idx.v < l.length) (T.opt (takeN (c.enc (l.getD p.idx.v c.dflt)) p.fld n))
    | _, _ => .fail
  | some (.ro c l) => match Nat.beq p.sz c.size, Nat.ble (p.fld + n) c.size with
    | true, true => .ob (p.idx.v < l.length) (T.opt (takeN (c.enc (l.getD p.idx.v c.dflt)) p.fld n))
    | _, _ => .fail
  | some (.map _) => .fail
  | none => .fail

def oneD (l : List DV) : T DV := T.opt (oneO l)

def loadT (P : Program) (hp : Hp) (t : TypeId) (p : DP) : T DV :=
  match underD P t with
  | some (.struct _) => match sizeD P t with | some n => (loadN hp p n).bind fun l => .leaf (.agg l) | none => .fail
  | some (.array _ _) => match sizeD P t with | some n => (loadN hp p n).bind fun l => .leaf (.agg l) | none => .fail
  | some _ => (loadN hp p 1).bind oneD
  | none => .fail

def partT (P : Program) (t : TypeId) (cs : List DV) (off : Nat) : T DV := T.opt (partO P t cs off)

def cellsV : DV → Option (List DV)
  | .agg cs => some cs
  | .tup _ => none
  | .any => none
  | d => some [d]

def setRange (cs : List DV) (off : Nat) (new : List DV) : List DV := cs.take off ++ new ++ cs.drop (off + new.length)

def storeN (rb : Nat) (hp : Hp) (p : DP) (new : List DV) : T Hp :=
  match Nat.ble rb p.id with
  | false => .fail
  | true => match look hp p.id with
  | some (.cells t cs) => match p.idx with
    | .lit i => match Nat.ble (i * p.sz + p.fld + new.length) cs.length with
      | true => .leaf (repl hp p.id (.cells t (setRange cs (i * p.sz + p.fld) new)))
      | false => .fail
    | .sym _ => .fail
  | some (.arr t c l) => match Nat.beq p.sz c.size, Nat.ble (p.fld + new.length) c.size with
    | true, true => match c.dec (setRange (c.enc (l.getD p.idx.v c.dflt)) p.fld new) with
      | some a => .ob (p.idx.v < l.length) (.leaf (repl hp p.id (.arr t c (l.set p.idx.v a))))
      | none => .fail
    | _, _ => .fail
  | some (.ro _ _) => .fail
  | some (.map _) => .fail
  | none => .fail

/-! ### operations -/
def fillD (place : Nat → Option (Nat × Nat)) : List DV → List (Nat × DV) → Option (List DV)
  | cs, [] => some cs
  | cs, (i, v) :: r => match place i, cellsV v with
    | some (off, size), some vs => match Nat.beq vs.length size, Nat.ble (off + size) cs.length with
      | true, true => fillD place (setRange cs off vs) r
      | _, _ => none
    | _, _ => none

def ofValues : List Value → Option (List DV)
  | [] => some []
  | v :: r => match ofValue v, ofValues r with
    | some d, some ds => some (d :: ds)
    | _, _ => none

def zeroD (P : Program) (t : TypeId) : Option (List DV) :=
  match P.info? t with
  | some i => match i.zero with
    | some z => ofValues z.cells.toList
    | none => none
  | none => none

def mapO {α : Type u} {β : Type v} (f : α → Option β) : List α → Option (List β)
  | [] => some []
  | a :: r => match f a, mapO f r with
    | some b, some bs => some (b :: bs)
    | _, _ => none

def partsD (lk : Operand → Option DV) : List (Nat × Operand) → Option (List (Nat × DV))
  | [] => some []
  | (i, x) :: r => match lk x, partsD lk r with
    | some d, some ds => some ((i, d) :: ds)
    | _, _ => none

def placesD (P : Program) : List Field → Option (List (Nat × Nat))
  | [] => some []
  | f :: r => match sizeD P f.type, placesD P r with
    | some n, some l => some ((f.offset, n) :: l)
    | _, _ => none

def buildD (P : Program) (t : TypeId) (parts : List (Nat × DV)) : Option DV :=
  match zeroD P t with
  | none => none
  | some z => match underD P t with
    | some (.struct fs) => match placesD P fs.toList with
      | some places => match fillD (fun i => places[i]?) z parts with
        | some cs => some (.agg cs)
        | none => none
      | none => none
    | some (.array _ e) => match sizeD P e with
      | some n => match fillD (fun i => some (i * n, n)) z parts with
        | some cs => some (.agg cs)
        | none => none
      | none => none
    | _ => none

/-- A function that is called is entered: it has a body, and is none that the model answers itself. -/
def HasBody (P : Program) (f : FuncId) : Prop := ∃ fn, P.funcs[f]? = some fn ∧ (fn.name == "runtime.NumGoroutine") = false ∧ fn.body.isNone = false

/-- Called with these, the function returns this, and nothing that was there has changed. -/
def Pure1 (P : Program) (f : FuncId) (args : List DV) (d : DV) : Prop :=
  ∀ g w vs, RepL g w args vs → (∀ b, g.pr b → b < w.heap.size) → Calls P f vs.toArray w fun e w' => ∃ v, e = .returned v ∧ Silent w w' ∧ Rep g w' d v

/-- What is known of a function that writes nothing: of these arguments it returns this, under this obligation. -/
structure PureC (P : Program) where
  f : FuncId
  spec : List DV → Option (Option Prop × DV)
  body : HasBody P f
  ok : ∀ args p d, spec args = some (p, d) → (∀ q, p = some q → q) → Pure1 P f args d

/-- What is known of a function that reads or writes memory, in numbers of its own: its arguments, the memory that it needs (its blocks are numbered from 0 to n - 1; those below rb are only read), its result, the memory behind it from number rb on (new blocks from n to n' - 1). -/
structure CanC (P : Program) where
  f : FuncId
  α : Type
  args : α → List DV
  hp : α → Hp
  n : Nat
  rb : Nat
  infer : List DV → Hp → Option α
  pre : α → Prop
  res : α → DV
  hp' : α → Hp
  n' : Nat
  rbn : Nat.ble rb n = true
  nn : Nat.ble n n' = true
  body : HasBody P f
  ok : ∀ x, pre x → DCall P f (args x) (hp x) n rb (fun d st => subS n ⟨[(0, d)], st.hp, st.nx⟩ ⟨[(0, res x)], hp' x, n'⟩ True)
/-- It writes nothing that was there, and hands back no new memory. -/
def CanC.sil {P : Program} (c : CanC P) : Bool := match Nat.beq c.rb c.n with | true => Nat.beq c.n' c.n | false => false

def findCC {P : Program} : List (CanC P) → FuncId → Option (CanC P)
  | [], _ => none
  | c :: r, f => match Nat.beq c.f f with | true => some c | false => findCC r f

mutual
def rnD (f : Nat → Option Nat) : DV → Option DV
  | .bool b => some (.bool b)
  | .int k n => some (.int k n)
  | .str s => some (.str s)
  | .ptr p => match f p.id with | some i => some (.ptr { p with id := i }) | none => none
  | .nilptr => some .nilptr
  | .slice p n => match f p.id with | some i => some (.slice { p with id := i } n) | none => none
  | .nilslice => some .nilslice
  | .map i => match f i with | some i => some (.map i) | none => none
  | .nilmap => some .nilmap
  | .func fn cap => match rnL f cap with | some c => some (.func fn c) | none => none
  | .nilfunc => some .nilfunc
  | .nilif => some .nilif
  | .agg cs => match rnL f cs with | some c => some (.agg c) | none => none
  | .tup cs => match rnL f cs with | some c => some (.tup c) | none => none
  | .imm m => some (.imm m)
  | .any => some .any
def rnL (f : Nat → Option Nat) : List DV → Option (List DV)
  | [] => some []
  | d :: ds => match rnD f d, rnL f ds with
    | some d, some ds => some (d :: ds)
    | _, _ => none
end
def rnM (f : Nat → Option Nat) : List (DV × DV) → Option (List (DV × DV))
  | [] => some []
  | (a, b) :: r => match rnD f a, rnD f b, rnM f r with
    | some a, some b, some r => some ((a, b) :: r)
    | _, _, _ => none
def rnO (f : Nat → Option Nat) : DO → Option DO
  | .cells t cs => match rnL f cs with | some cs => some (.cells t cs) | none => none
  | .arr t c l => some (.arr t c l)
  | .ro c l => some (.ro c l)
  | .map es => match rnM f es with | some es => some (.map es) | none => none
def rnH (f : Nat → Option Nat) : Hp → Option Hp
  | [] => some []
  | (i, o) :: r => match f i, rnO f o, rnH f r with
    | some i, some o, some r => some ((i, o) :: r)
    | _, _, _ => none
mutual
def noImm : DV → Bool
  | .imm _ => false
  | .func _ cap => noImmL cap
  | .agg cs => noImmL cs
  | .tup cs => noImmL cs
  | _ => true
def noImmL : List DV → Bool
  | [] => true
  | d :: ds => match noImm d with | true => noImmL ds | false => false
end
/-- The call's blocks are all known here. -/
def tgtsIn (hp : Hp) : Sg → Bool
  | [] => true
  | (_, j) :: r => match look hp j with
    | some _ => tgtsIn hp r
    | none => match Nat.ble noBlock j with | true => tgtsIn hp r | false => false
def tgtsIn0 (hp : Hp) : Sg → Bool
  | [] => true
  | (_, j) :: r => match look hp j with
    | some _ => tgtsIn0 hp r
    | none => false
/-- Is the block one that the call may write? -/
def isTgtR (rb : Nat) : Sg → Nat → Bool
  | [], _ => false
  | (i, j) :: r, k => match Nat.ble rb i, Nat.beq j k with | true, true => true | _, _ => isTgtR rb r k
/-- The memory without the blocks that a call may write. -/
def dropT (rb : Nat) (σ : Sg) : Hp → Hp
  | [] => []
  | (i, o) :: r => match isTgtR rb σ i with | true => dropT rb σ r | false => (i, o) :: dropT rb σ r
/-- What the call may write lies from number rb' on at the caller's. -/
def wrOk (rb rb' : Nat) : Sg → Bool
  | [] => true
  | (i, j) :: r => match Nat.ble rb i, Nat.ble rb' j with | true, false => false | _, _ => wrOk rb rb' r
def rnF (σ : Sg) (n nx : Nat) (i : Nat) : Option Nat := match Nat.blt i n with | true => look σ i | false => some (nx + (i - n))
def rnF0 (σ : Sg) (n : Nat) (i : Nat) : Option Nat := match Nat.blt i n with | true => look σ i | false => none
def noRo : Hp → Bool
  | [] => true
  | (_, o) :: r => match isRo o with | true => false | false => noRo r
def hpLt (n : Nat) : Hp → Bool
  | [] => true
  | (i, _) :: r => match Nat.blt i n with | true => hpLt n r | false => false
def fromR (rb : Nat) : Hp → Hp
  | [] => []
  | (i, o) :: r => match Nat.ble rb i with | true => (i, o) :: fromR rb r | false => fromR rb r

def callC {P : Program} (c : CanC P) (rb : Nat) (args : List DV) (hp : Hp) (nx : Nat) : Option (List Prop × DV × Hp × Nat) :=
  match c.infer args hp with
  | none => none
  | some x => match uniL [] args (c.args x) with
    | none => none
    | some (σ, ps) => match uniH hp σ (c.hp x) with
      | none => none
      | some (σ, qs) => match keysLt c.n σ, tgtsIn hp σ, wrOk c.rb rb σ, rnD (rnF σ c.n nx) (c.res x), rnH (rnF σ c.n nx) (fromR c.rb (c.hp' x)) with
        | true, true, true, some d, some h => match noRo (fromR c.rb (c.hp' x)), Nat.ble (nx + (c.n' - c.n)) noBlock, hpLt nx hp with
          | true, true, true => some (ps ++ (qs ++ [c.pre x]), d, h ++ dropT c.rb σ hp, nx + (c.n' - c.n))
          | _, _, _ => none
        | _, _, _, _, _ => none
/-- The same of a call that only reads. -/
def callR {P : Program} (c : CanC P) (args : List DV) (hp : Hp) : Option (List Prop × DV) :=
  match c.infer args hp with
  | none => none
  | some x => match uniL [] args (c.args x) with
    | none => none
    | some (σ, ps) => match uniH hp σ (c.hp x) with
      | none => none
      | some (σ, qs) => match keysLt c.n σ, tgtsIn0 hp σ, noImm (c.res x), rnD (rnF0 σ c.n) (c.res x) with
        | true, true, true, some d => some (ps ++ (qs ++ [c.pre x]), d)
        | _, _, _, _ => none

def findC {P : Program} : List (PureC P) → FuncId → Option (PureC P)
  | [], _ => none
  | c :: r, f => match Nat.beq c.f f with | true => some c | false => findC r f

structure Cx (P : Program) where
  pure : List (PureC P)
  can : List (CanC P)

def callS {P : Program} (ct : Cx P) (hp : Hp) (f : FuncId) (args : List DV) : T DV :=
  match findC ct.pure f with
  | some c => match c.spec args with
    | some (none, d) => .leaf d
    | some (some p, d) => .ob p (.leaf d)
    | none => .fail
  | none => match findCC ct.can f with
    | some c => match c.sil with
      | true => match callR c args hp with
        | some (ps, d) => .ob (allP ps) (.leaf d)
        | none => .fail
      | false => .fail
    | none => .fail

def lenV (P : Program) (t : TypeId) (x : DV) : T DV :=
  match underD P t, x with
  | some .string, .str s => .leaf (.int .i64 (match s with | .lit s => .lit s.size | .sym s => .sym s.size))
  | some (.slice _), .slice _ n => .leaf (.int .i64 (match n with | .lit n => .lit n | .sym n => .sym n))
  | some (.slice _), .nilslice => .leaf (.int .i64 (.lit 0))
  | some (.array n _), _ => .leaf (.int .i64 (.lit n))
  | _, _ => .fail

def mulN (a : DN) (b : Nat) : DN := match a with | .lit a => .lit (a * b) | .sym a => .sym (a * b)
def addN (a b : DN) : DN :=
  match a, b with
  | .lit a, .lit b => .lit (a + b)
  | .lit 0, .sym b => .sym b
  | a, b => .sym (a.v + b.v)
def subN (a b : DN) : DN :=
  match a, b with
  | .lit a, .lit b => .lit (a - b)
  | a, .lit 0 => a
  | a, b => .sym (a.v - b.v)
/-- An index as a number from 0 on. -/
def natI : DI → DN
  | .lit n => .lit n.toNat
  | .sym n => .sym n.toNat

/-- 0 ≤ i < n, decided or owed. -/
def inIdx {α : Type u} (i : DI) (n : DN) (t : T α) : T α :=
  match i, n with
  | .lit i, .lit n => match decide (0 ≤ i), decide (i < n) with | true, true => t | _, _ => .fail
  | i, n => .ob (0 ≤ i.v ∧ i.v < n.v) t

def indexAddrV (P : Program) (t : TypeId) (x i : DV) : T DV :=
  match i with
  | .int _ i => match underD P t, x with
    | some (.slice e), .slice p n => match sizeD P e with
      | some s => match Nat.beq p.sz s, Nat.beq p.fld 0 with
        | true, true => inIdx i n (.leaf (.ptr { p with idx := addN p.idx (natI i) }))
        | _, _ => .fail
      | none => .fail
    | some (.array len e), .ptr p => match sizeD P e, p.idx with
      | some s, .lit j => match Nat.beq (j * p.sz + p.fld) 0 with
        | true => inIdx i (.lit len) (.leaf (.ptr { p with idx := natI i, sz := s, fld := 0 }))
        | false => match i with
          | .lit i => inIdx (.lit i) (.lit len) (.leaf (.ptr { p with idx := .lit 0, fld := j * p.sz + p.fld + i.toNat * s }))
          | .sym _ => .fail
      | _, _ => .fail
    | _, _ => .fail
  | _ => .fail

def indexV (P : Program) (t : TypeId) (x i : DV) : T DV :=
  match i with
  | .int _ i => match underD P t, x with
    | some (.array len e), .agg cs => match sizeD P e, i with
      | some s, .lit i => inIdx (.lit i) (.lit len) (partT P e cs (i.toNat * s))
      | _, _ => .fail
    | some .string, .str s => inIdx i (match s with | .lit s => .lit s.size | .sym s => .sym s.size)
        (.leaf (.int .u8 (match i, s with | .lit i, .lit s => .lit (s.data.toList.getD i.toNat 0).toNat | i, s => .sym (s.v.data.toList.getD i.v.toNat 0).toNat)))
    | _, _ => .fail
  | _ => .fail

/-! ### maps -/
def zeroV (P : Program) (t : TypeId) : Option DV :=
  match P.info? t with
  | some i => match i.zero with
    | some (.agg cs) => match ofValues cs.toList with | some l => some (.agg l) | none => none
    | some z => ofValue z
    | none => none
  | none => none
def plainK (P : Program) (t : TypeId) : Bool :=
  match underD P t with
  | some (.int _) => true
  | some .string => true
  | some .bool => true
  | _ => false
/-- Which entry has the key? -/
def findT (P : Program) (kt : TypeId) (k : DV) : List (DV × DV) → Nat → T (Option (Nat × DV))
  | [], _ => .leaf none
  | (ek, v) :: r, i => match eqV P kt k ek with
    | some (.lit true) => .leaf (some (i, v))
    | some (.lit false) => findT P kt k r (i + 1)
    | some (.sym b) => .br b (.leaf (some (i, v))) (findT P kt k r (i + 1))
    | none => .fail
def okT (ok : Bool) (d : DV) (b : Bool) : DV := match ok with | true => .tup [d, .bool (.lit b)] | false => d
def lookupT (P : Program) (hp : Hp) (t : TypeId) (m k : DV) (ok : Bool) : T DV :=
  match underD P t with
  | some (.map kt et) => match plainK P kt, zeroV P et with
    | true, some z => match m with
      | .nilmap => .leaf (okT ok z false)
      | .map id => match look hp id with
        | some (.map es) => (findT P kt k es 0).bind fun r => match r with
          | some (_, v) => .leaf (okT ok v true)
          | none => .leaf (okT ok z false)
        | _ => .fail
      | _ => .fail
    | _, _ => .fail
  | _ => .fail
def setAt {α : Type u} : List α → Nat → α → List α
  | [], _, _ => []
  | _ :: r, 0, b => b :: r
  | a :: r, i + 1, b => a :: setAt r i b
def insertT (P : Program) (rb : Nat) (hp : Hp) (t : TypeId) (m k v : DV) : T Hp :=
  match underD P t with
  | some (.map kt _) => match plainK P kt, m with
    | true, .map id => match Nat.ble rb id, look hp id with
      | true, some (.map es) => (findT P kt k es 0).bind fun r => match r with
        | some (i, _) => .leaf (repl hp id (.map (setAt es i (k, v))))
        | none => .leaf (repl hp id (.map (es ++ [(k, v)])))
      | _, _ => .fail
    | _, _ => .fail
  | _ => .fail

/-! ### parts of slices, arrays, strings -/
def dnI : DN → DI
  | .lit n => .lit n
  | .sym n => .sym n
def loI : Option DV → Option DI
  | none => some (.lit 0)
  | some (.int _ i) => some i
  | _ => none
def hiI (n : DN) : Option DV → Option DI
  | none => some (dnI n)
  | some (.int _ i) => some i
  | _ => none
/-- 0 ≤ l ≤ h ≤ n, decided or owed. -/
def cut3 {α : Type u} (l h : DI) (n : DN) (t : T α) : T α :=
  match l, h, n with
  | .lit l, .lit h, .lit n => match decide (0 ≤ l), decide (l ≤ h), decide (h ≤ n) with | true, true, true => t | _, _, _ => .fail
  | l, h, n => .ob (0 ≤ l.v ∧ l.v ≤ h.v ∧ h.v ≤ n.v) t
def lenS : DS → DN
  | .lit s => .lit s.size
  | .sym s => .sym s.size
def sliceV (P : Program) (hp : Hp) (t : TypeId) (x : DV) (lo hi : Option DV) : T DV :=
  match underD P t, x with
  | some .string, .str s =>
    match loI lo, hiI (lenS s) hi with
    | some l, some h => cut3 l h (lenS s) (.leaf (.str (match l, h, s with | .lit l, .lit h, .lit s => .lit (s.extract l.toNat h.toNat) | l, h, s => .sym (s.v.extract l.v.toNat h.v.toNat))))
    | _, _ => .fail
  | some (.slice e), .slice p n =>
    match loI lo, hiI n hi, sizeD P e with
    | some l, some h, some s => match Nat.beq p.sz s with
      | true => cut3 l h n (.leaf (.slice { p with idx := addN p.idx (natI l) } (subN (natI h) (natI l))))
      | false => .fail
    | _, _, _ => .fail
  | some (.array len e), .ptr p =>
    match loI lo, hiI (.lit len) hi, sizeD P e, p.idx, look hp p.id with
    | some l, some h, some s, .lit j, some (.cells _ cs) => match Nat.beq (j * p.sz + p.fld) 0, Nat.ble (len * s) cs.length with
      | true, true => cut3 l h (.lit len) (.leaf (.slice ⟨p.id, natI l, s, 0⟩ (subN (natI h) (natI l))))
      | _, _ => .fail
    | _, _, _, _, _ => .fail
  | _, _ => .fail
def lkO (lk : Operand → Option DV) : Option Operand → Option (Option DV)
  | none => some none
  | some x => match lk x with | some d => some (some d) | none => none
def maxV (x y : DV) : T DV :=
  match x, y with
  | .int k a, .int _ b => .leaf (.int k (two a b (if a.v < b.v then b.v else a.v)))
  | _, _ => .fail
def minV (x y : DV) : T DV :=
  match x, y with
  | .int k a, .int _ b => .leaf (.int k (two a b (if b.v < a.v then b.v else a.v)))
  | _, _ => .fail

def evS (P : Program) (ct : Cx P) (hp : Hp) (lk : Operand → Option DV) (op : Op) : T DV :=
  match op with
  | .move x => T.opt (lk x)
  | .assign x => T.opt (lk x)
  | .pick c a b => match lk c with
    | some (.bool (.lit true)) => T.opt (lk a)
    | some (.bool (.lit false)) => T.opt (lk b)
    | some (.bool (.sym c)) => .br c (T.opt (lk a)) (T.opt (lk b))
    | _ => .fail
  | .extract t i => match lk t with
    | some (.tup vs) => T.opt vs[i]?
    | _ => .fail
  | .fieldAddr s x f => match underD P s, lk x with
    | some (.struct fs), some (.ptr p) => match fs[f]? with
      | some fd => match sizeD P fd.type with
        | some n => match Nat.beq n 0 with
          | true => .fail
          | false => .leaf (.ptr { p with fld := p.fld + fd.offset })
        | none => .fail
      | none => .fail
    | _, _ => .fail
  | .load t x => match lk x with
    | some (.ptr p) => loadT P hp t p
    | _ => .fail
  | .field t x f => match underD P t, lk x with
    | some (.struct fs), some (.agg cs) => match fs[f]? with
      | some fd => partT P fd.type cs fd.offset
      | none => .fail
    | _, _ => .fail
  | .index t x i => match lk x, lk i with
    | some x, some i => indexV P t x i
    | _, _ => .fail
  | .indexAddr t x i => match lk x, lk i with
    | some x, some i => indexAddrV P t x i
    | _, _ => .fail
  | .binOp op t x y _ => match lk x, lk y with
    | some x, some y => binV P op t x y
    | _, _ => .fail
  | .unOp op _ x => match lk x with
    | some x => unV op x
    | none => .fail
  | .convert src dst x => match lk x with
    | some x => convV P src dst x
    | none => .fail
  | .build t parts => match partsD lk parts.toList with
    | some ps => T.opt (buildD P t ps)
    | none => .fail
  | .nilCheck x => match lk x with
    | some (.ptr p) => .leaf (.ptr p)
    | some (.func f c) => .leaf (.func f c)
    | _ => .fail
  | .makeFunc (.func f) first cap => match first.toList, mapO lk cap.toList with
    | [], some ds => .leaf (.func f ds)
    | _, _ => .fail
  | .call c => match c.callee with
    | .builtin .len => match c.argTypes.toList, c.args.toList with
      | t :: _, x :: _ => match lk x with | some x => lenV P t x | none => .fail
      | _, _ => .fail
    | .builtin .max => match c.args.toList with
      | [x, y] => match lk x, lk y with | some x, some y => maxV x y | _, _ => .fail
      | _ => .fail
    | .builtin .min => match c.args.toList with
      | [x, y] => match lk x, lk y with | some x, some y => minV x y | _, _ => .fail
      | _ => .fail
    | .value x => match lk x, mapO lk c.args.toList with
      | some (.func f cap), some args => callS ct hp f (args ++ cap)
      | _, _ => .fail
    | _ => .fail
  | .lookup t m k ok => match lk m, lk k with
    | some m, some k => lookupT P hp t m k ok
    | _, _ => .fail
  | .slice t x lo hi mx => match lk x, lkO lk lo, lkO lk hi, mx with
    | some x, some lo, some hi, none => sliceV P hp t x lo hi
    | _, _, _, _ => .fail
  | _ => .fail

def silentOp {P : Program} (ct : Cx P) (lk : Operand → Option DV) : Op → Bool
  | .move _ => true
  | .assign _ => true
  | .pick _ _ _ => true
  | .extract _ _ => true
  | .fieldAddr _ _ _ => true
  | .load _ _ => true
  | .field _ _ _ => true
  | .index _ _ _ => true
  | .indexAddr _ _ _ => true
  | .binOp _ _ _ _ _ => true
  | .unOp _ _ _ => true
  | .convert _ _ _ => true
  | .build _ _ => true
  | .nilCheck _ => true
  | .makeFunc _ _ _ => true
  | .lookup _ _ _ _ => true
  | .slice _ _ _ _ _ => true
  | .call c => match c.callee with
    | .builtin .len => true
    | .builtin .max => true
    | .builtin .min => true
    | .value x => match lk x with
      | some (.func f _) => match findC ct.pure f with
        | some _ => true
        | none => match findCC ct.can f with | some c => c.sil | none => false
      | _ => false
    | _ => false
  | _ => false

def lkF (fr : Fr) : Operand → Option DV
  | .tmp t => look fr t
  | .const v => ofValue v
  | .func f => some (.func f [])
  | .global _ => none

def setF (N : Nat) (fr : Fr) : Option Nat → DV → Option Fr
  | none, _ => some fr
  | some t, d => match Nat.blt t N with | true => some ((t, d) :: fr) | false => none

/-- Is the operation wanted? The guard's slot is written anew, as the literal that it is on this way. -/
def guardT (ops : List Oper) (fr : Fr) (o : Oper) : T (Bool × Fr) :=
  match o.guard with
  | none => .leaf (true, fr)
  | some (j, want) => match ops[j]? with
    | some oj => match oj.dst with
      | some t => match look fr t with
        | some (.bool (.lit b)) => .leaf (b == want, fr)
        | some (.bool (.sym b)) => .br b (.leaf (want, (t, .bool (.lit true)) :: fr)) (.leaf (!want, (t, .bool (.lit false)) :: fr))
        | some (.tup []) => .leaf (false, fr)
        | _ => .fail
      | none => .fail
    | none => .fail

def runS (P : Program) (ct : Cx P) (N : Nat) (hp : Hp) (all : List Oper) : List Oper → Fr → T Fr
  | [], fr => .leaf fr
  | o :: r, fr => (guardT all fr o).bind fun gf => match gf with
    | (true, fr) => (evS P ct hp (lkF fr) o.op).bind fun d => (T.opt (setF N fr o.dst d)).bind fun fr' => runS P ct N hp all r fr'
    | (false, fr) => (T.opt (setF N fr o.dst (.tup []))).bind fun fr' => runS P ct N hp all r fr'

def iteB (c : Bool) : DB → DB → DB
  | .lit true, .lit true => .lit true
  | .lit false, .lit false => .lit false
  | .lit true, .lit false => .sym c
  | .lit false, .lit true => .sym (!c)
  | .lit true, .sym y => .sym (c || y)
  | .lit false, .sym y => .sym (!c && y)
  | .sym x, .lit true => .sym (!c || x)
  | .sym x, .lit false => .sym (c && x)
  | .sym x, .sym y => .sym (bif c then x else y)

/-- The ways meet again: the one slot that is kept, as one Bool. -/
def mergeT (s : Nat) : T Fr → Option DB
  | .fail => none
  | .leaf fr => match look fr s with
    | some (.bool b) => some b
    | _ => none
  | .br c t e => match mergeT s t, mergeT s e with
    | some x, some y => some (iteB c x y)
    | _, _ => none
  | .ob _ t => mergeT s t

def T.owes {α : Type u} : T α → Bool
  | .fail => true
  | .leaf _ => false
  | .br _ t e => match t.owes with | true => true | false => e.owes
  | .ob _ _ => true

inductive DX where
  | normal
  | exit (id : Nat)
  | ret

def allS {P : Program} (ct : Cx P) (lk : Operand → Option DV) : List Oper → Bool
  | [] => true
  | o :: r => match silentOp ct lk o.op with | true => allS ct lk r | false => false
def anyG : List Oper → Bool
  | [] => false
  | o :: r => match o.guard with | none => anyG r | some _ => true
def lastD : List Oper → Option Nat
  | [] => none
  | [o] => o.dst
  | _ :: r => lastD r

/-- A slice's literal: its elements' type, their size, the cells. -/
def buildSlD (P : Program) (t : TypeId) (len : Nat) (parts : List (Nat × DV)) : Option (TypeId × Nat × List DV) :=
  match underD P t with
  | some (.slice e) => match sizeD P e, zeroD P e with
    | some s, some z => match Nat.ble (len * s) 16777216, Nat.beq z.length s, fillD (fun i => some (i * s, s)) ((List.range (len * s)).map fun j => z.getD (j % z.length) .any) parts with
      | true, true, some cs => some (e, s, cs)
      | _, _, _ => none
    | _, _ => none
  | _ => none

/-- What writes memory or makes it. -/
def evE (P : Program) (ct : Cx P) (rb : Nat) (lk : Operand → Option DV) (op : Op) (hp : Hp) (nx : Nat) (k : DV → Hp → Nat → Prop) : Prop :=
  match op with
  | .alloc e => match zeroD P e with
    | some cs => k (.ptr ⟨nx, .lit 0, 0, 0⟩) ((nx, .cells e cs) :: hp) (nx + 1)
    | none => False
  | .box e x => match lk x with
    | some d => match cellsV d with
      | some cs => k (.ptr ⟨nx, .lit 0, 0, 0⟩) ((nx, .cells e cs) :: hp) (nx + 1)
      | none => False
    | none => False
  | .store t a x => match lk a, lk x, sizeD P t with
    | some (.ptr p), some d, some n => match cellsV d with
      | some cs => match Nat.beq cs.length n with
        | true => (storeN rb hp p cs).Holds fun hp' => k (.tup []) hp' nx
        | false => False
      | none => False
    | _, _, _ => False
  | .buildSlice t len parts => match partsD lk parts.toList with
    | some ps => match buildSlD P t len ps with
      | some (e, s, cs) => k (.slice ⟨nx, .lit 0, s, 0⟩ (.lit len)) ((nx, .cells e cs) :: hp) (nx + 1)
      | none => False
    | none => False
  | .makeMap _ r => match r with
    | none => k (.map nx) ((nx, .map []) :: hp) (nx + 1)
    | some _ => False
  | .insert t m x y => match lk m, lk x, lk y with
    | some m, some x, some y => (insertT P rb hp t m x y).Holds fun hp' => k (.tup []) hp' nx
    | _, _, _ => False
  | .mapUpdate t m x y => match lk m, lk x, lk y with
    | some m, some x, some y => (insertT P rb hp t m x y).Holds fun hp' => k (.tup []) hp' nx
    | _, _, _ => False
  | .call c => match c.callee with
    | .value x => match lk x, mapO lk c.args.toList with
      | some (.func f cap), some args => match findCC ct.can f with
        | some cc => match callC cc rb (args ++ cap) hp nx with
          | some (ps, d, hp', nx') => allP ps ∧ k d hp' nx'
          | none => False
        | none => False
      | _, _ => False
    | _ => False
  | _ => False

def runE (P : Program) (ct : Cx P) (N rb : Nat) (all : List Oper) : List Oper → St → (St → Prop) → Prop
  | [], st, K => K st
  | o :: r, st, K => (guardT all st.fr o).Holds fun gf => match gf with
    | (true, fr) => match silentOp ct (lkF fr) o.op with
      | true => (evS P ct st.hp (lkF fr) o.op).Holds fun d => match setF N fr o.dst d with
        | some fr' => runE P ct N rb all r ⟨fr', st.hp, st.nx⟩ K
        | none => False
      | false => evE P ct rb (lkF fr) o.op st.hp st.nx fun d hp nx => match setF N fr o.dst d with
        | some fr' => runE P ct N rb all r ⟨fr', hp, nx⟩ K
        | none => False
    | (false, fr) => match setF N fr o.dst (.tup []) with
      | some fr' => runE P ct N rb all r ⟨fr', st.hp, st.nx⟩ K
      | none => False

def writes (o : Oper) (t : Nat) : Bool := match o.dst with | some s => Nat.beq s t | none => false
def anyW : List Oper → Nat → Bool
  | [], _ => false
  | o :: r, t => match writes o t with | true => true | false => anyW r t
/-- The frame without the slots that these operations write. -/
def dropW (ops : List Oper) : Fr → Fr
  | [] => []
  | (t, d) :: r => match anyW ops t with | true => dropW ops r | false => (t, d) :: dropW ops r

/-- The slot of an operation's guard. -/
def guardSlot (all : List Oper) (o : Oper) : Option Nat :=
  match o.guard with
  | some (j, _) => match all[j]? with
    | some oj => oj.dst
    | none => none
  | none => none

def tmpO : Operand → List Nat
  | .tmp t => [t]
  | _ => []
def readsO (all : List Oper) (o : Oper) : List Nat := o.op.operands.toList.flatMap tmpO ++ (guardSlot all o).toList
def edgeTo (o : Oper) (i : Nat) : Bool := o.after.toList.any fun e => Nat.beq e.on i && Region.binds .any e
/-- May these operations be run in any order that their edges allow, with one outcome? -/
def drawOk (all : List Oper) : Bool :=
  all.zipIdx.all fun x => x.1.after.toList.all (fun e => !Region.binds .any e || Nat.blt e.on x.2) &&
    (readsO all x.1).all (fun t => all.zipIdx.all fun y => !writes y.1 t || edgeTo x.1 y.2) &&
    (match x.1.dst with | none => true | some t => all.zipIdx.all fun y => Nat.beq x.2 y.2 || !writes y.1 t)


def isSil (P : Program) (ct : Cx P) (N : Nat) (ops : List Oper) (st : St) (K : St → Prop) : Prop :=
  match anyG ops with
  | false => (runS P ct N st.hp ops ops st.fr).Holds fun fr => K ⟨fr, st.hp, st.nx⟩
  | true => match lastD ops with
    | some s => match mergeT s (runS P ct N st.hp ops ops st.fr), Nat.blt s N with
      | some b, true => match (runS P ct N st.hp ops ops st.fr).owes with
        | true => (runS P ct N st.hp ops ops st.fr).Holds (fun _ => True) ∧ K ⟨(s, .bool b) :: dropW ops st.fr, st.hp, st.nx⟩
        | false => K ⟨(s, .bool b) :: dropW ops st.fr, st.hp, st.nx⟩
      | _, _ => (runS P ct N st.hp ops ops st.fr).Holds fun fr => K ⟨fr, st.hp, st.nx⟩
    | none => (runS P ct N st.hp ops ops st.fr).Holds fun fr => K ⟨fr, st.hp, st.nx⟩

def setLit (fr : Fr) (c : Operand) (b : Bool) : Fr :=
  match c with
  | .tmp t => (t, .bool (.lit b)) :: fr
  | _ => fr

/-- What holds at the head of a loop: a form of the state with parameters, what holds of these, and a number that goes down. -/
structure LInv where
  α : Type
  S : α → St
  p : α → Prop
  m : α → Nat

def firstR : Code → Option Nat
  | .region id _ _ => some id
  | .seq a b => match firstR a with | some i => some i | none => firstR b
  | .cond _ a b => match firstR a with | some i => some i | none => firstR b
  | .block _ c => firstR c
  | .loop c => firstR c
  | .scope c => firstR c
  | _ => none
def findI (invs : List (Nat × LInv)) (c : Code) : Option LInv :=
  match firstR c with
  | some i => look invs i
  | none => none

def exec (P : Program) (ct : Cx P) (N n0 rb : Nat) (invs : List (Nat × LInv)) : Code → St → (DX → St → Prop) → Prop
  | .skip, st, K => K .normal st
  | .ret, st, K => K .ret st
  | .exit id, st, K => K (.exit id) st
  | .seq a b, st, K => exec P ct N n0 rb invs a st fun x st' => match x with
    | .normal => exec P ct N n0 rb invs b st' K
    | x => K x st'
  | .block id c, st, K => exec P ct N n0 rb invs c st fun x st' => match x with
    | .exit i => match Nat.beq i id with
      | true => K .normal st'
      | false => K (.exit i) st'
    | x => K x st'
  | .cond c a b, st, K => match lkF st.fr c with
    | some (.bool (.lit true)) => exec P ct N n0 rb invs a st K
    | some (.bool (.lit false)) => exec P ct N n0 rb invs b st K
    | some (.bool (.sym v)) => (v = true → exec P ct N n0 rb invs a ⟨setLit st.fr c true, st.hp, st.nx⟩ K) ∧ (v = false → exec P ct N n0 rb invs b ⟨setLit st.fr c false, st.hp, st.nx⟩ K)
    | _ => False
  | .region _ ops draw, st, K => match allS ct (lkF st.fr) ops.toList with
    | true => match draw with
      | false => isSil P ct N ops.toList st (K .normal)
      | true => match P.follows .mixedOrders, drawOk ops.toList with
        | true, true => isSil P ct N ops.toList st (K .normal)
        | _, _ => False
    | false => match draw with
      | true => False
      | false => runE P ct N rb ops.toList ops.toList st (K .normal)
  | .loop c, st, K => match findI invs c with
    | none => False
    | some I => (∃ a, subS n0 st (I.S a) (I.p a)) ∧ ∀ a, I.p a → exec P ct N n0 rb invs c (I.S a) fun x s' => match x with
      | .normal => ∃ a', subS n0 s' (I.S a') (I.p a' ∧ I.m a' < I.m a)
      | x => K x s'
  | _, _, _ => False

/-! ### what a function hands back -/
def resD (P : Program) (st : St) : List ResultVar → T (List DV)
  | [] => .leaf []
  | .tmp t :: r => match look st.fr t with
    | some d => (resD P st r).bind fun ds => .leaf (d :: ds)
    | none => .fail
  | .cell a t :: r => match look st.fr a with
    | some (.ptr p) => (loadT P st.hp t p).bind fun d => (resD P st r).bind fun ds => .leaf (d :: ds)
    | _ => .fail

def tupD : List DV → DV
  | [d] => d
  | ds => .tup ds

def retK (P : Program) (rs : List ResultVar) (K : DV → St → Prop) : DX → St → Prop
  | .exit _, _ => False
  | _, st => (resD P st rs).Holds fun ds => K (tupD ds) st

def frameOf : Nat → List DV → Fr
  | _, [] => []
  | i, d :: r => (i, d) :: frameOf (i + 1) r

def execF (P : Program) (ct : Cx P) (rb : Nat) (invs : List (Nat × LInv)) (fn : Func) (args : List DV) (hp : Hp) (nx : Nat) (K : DV → St → Prop) : Prop :=
  match fn.body with
  | some c => exec P ct fn.ntmps nx rb invs c ⟨frameOf 0 args, hp, nx⟩ (retK P fn.results.toList K)
  | none => False

end Go.DE
