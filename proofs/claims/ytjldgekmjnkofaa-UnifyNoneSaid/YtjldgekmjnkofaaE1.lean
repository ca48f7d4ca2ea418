/- An interpreter over abstract values for a compiled form of the model's code: definitions alone. -/
import GoSem.Core.Code
import GoSem.Core.View
set_option linter.unusedVariables false
set_option linter.unusedSimpArgs false
namespace Go.Eng

/-! ## Places, tries -/

inductive Pos where
  | xH
  | xO (p : Pos)
  | xI (p : Pos)

def Pos.toNat : Pos → Nat
  | .xH => 1
  | .xO p => 2 * p.toNat
  | .xI p => 2 * p.toNat + 1

def Pos.ofBin : Nat → Nat → Pos
  | 0, _ => .xH
  | f + 1, n => if n ≤ 1 then .xH else if n % 2 = 0 then .xO (Pos.ofBin f (n / 2)) else .xI (Pos.ofBin f (n / 2))

def pos (n : Nat) : Pos := Pos.ofBin (n + 1) (n + 1)

def Pos.beq : Pos → Pos → Bool
  | .xH, .xH => true
  | .xO p, .xO q => p.beq q
  | .xI p, .xI q => p.beq q
  | _, _ => false

inductive Tr (α : Type) where
  | leaf
  | node (l : Tr α) (v : Option α) (r : Tr α)

def Tr.get {α : Type} : Tr α → Pos → Option α
  | .leaf, _ => none
  | .node _ v _, .xH => v
  | .node l _ _, .xO p => l.get p
  | .node _ _ r, .xI p => r.get p

def Tr.put {α : Type} : Tr α → Pos → Option α → Tr α
  | .leaf, .xH, x => .node .leaf x .leaf
  | .leaf, .xO p, x => .node (Tr.put .leaf p x) none .leaf
  | .leaf, .xI p, x => .node .leaf none (Tr.put .leaf p x)
  | .node l _ r, .xH, x => .node l x r
  | .node l v r, .xO p, x => .node (Tr.put l p x) v r
  | .node l v r, .xI p, x => .node l v (Tr.put r p x)

def Tr.set {α : Type} (t : Tr α) (p : Pos) (x : α) : Tr α := t.put p (some x)

/-! ## Values -/

inductive Own where
  | none
  | full
  | tok (k : Nat)

inductive V where
  | undef
  | bool (b : Bool)
  | int (k : IntKind) (n : Int)
  | str (s : List UInt8)
  | nptr
  | ptr (b off : Nat)
  | vp (cs : List V)
  | nsl
  | sl (o : Own) (es : List V)
  | msl (b off len size : Nat)
  | nmap
  | map (b : Nat)
  | nfunc
  | func (f : FuncId) (caps : List V)
  | niface
  | iface (t : TypeId) (v : V)
  | agg (cs : List V)
  | tup (vs : List V)

def V.cells : V → List V
  | .agg cs => cs
  | v => [v]

/-- Is a value one of a cell? -/
def V.one : V → Bool
  | .agg _ | .tup _ | .undef => false
  | _ => true

/-- Tokens are given up. -/
def Own.pure : Own → Own
  | .tok _ => .none
  | o => o

mutual
/-- A value that hangs on no store; none: it does. -/
def V.pure : V → Option V
  | .undef => some .undef
  | .bool b => some (.bool b)
  | .int k n => some (.int k n)
  | .str s => some (.str s)
  | .nptr => some .nptr
  | .ptr _ _ => none
  | .vp cs => (V.pures cs).map .vp
  | .nsl => some .nsl
  | .sl o es => (V.pures es).map (.sl o.pure)
  | .msl _ _ _ _ => none
  | .nmap => some .nmap
  | .map _ => none
  | .nfunc => some .nfunc
  | .func f cs => (V.pures cs).map (.func f)
  | .niface => some .niface
  | .iface t v => v.pure.map (.iface t)
  | .agg cs => (V.pures cs).map .agg
  | .tup cs => (V.pures cs).map .tup
def V.pures : List V → Option (List V)
  | [] => some []
  | v :: l => match v.pure, V.pures l with
    | some v, some l => some (v :: l)
    | _, _ => none
end

abbrev T := Tr V

/-- What stands in a block of the store; 'tok n': the right to append behind n elements. -/
inductive Blk where
  | cells (cs : List V)
  | map (es : List (V × V × Nat)) (clock : Nat)
  | tok (n : Nat)
  | dead

structure Sto where
  next : Nat
  tr : Tr (Nat × Blk)

def Sto.get (σ : Sto) (b : Nat) : Option (Nat × Blk) := if b < σ.next then σ.tr.get (pos b) else none
def Sto.blk (σ : Sto) (b : Nat) : Option Blk := (σ.get b).map (·.2)
def Sto.ver (σ : Sto) (b : Nat) : Option Nat := (σ.get b).map (·.1)
def Sto.alloc (σ : Sto) (x : Blk) : Sto := { next := σ.next + 1, tr := σ.tr.set (pos σ.next) (0, x) }
def Sto.upd (σ : Sto) (b : Nat) (x : Blk) : Sto := { next := σ.next, tr := σ.tr.set (pos b) ((σ.ver b).getD 0 + 1, x) }
def Sto.empty : Sto := { next := 0, tr := .leaf }

inductive Res where
  | ret (v : V)
  | pan (v : V)

abbrev R := Option (Res × Sto)

/-! ## The compiled code -/

/-- The kinds of types whose values are held against nil. -/
inductive Kd where
  | bool
  | sl
  | ptr
  | map
  | func
  | iface
  | str
  | other

inductive Opd where
  | r (p : Pos)
  | c (v : V)

inductive CO where
  | adr (p : Pos)
  | mov (x : Opd)
  | pick (c a b : Opd)
  | alR (p : Pos) (zero : V)
  | boxR (p : Pos) (x : Opd)
  | ldR (p : Pos) (off : Nat) (n : Option Nat)
  | stR (p : Pos) (off : Nat) (n : Nat) (x : Opd)
  | al (zero : List V)
  | box (n : Nat) (x : Opd)
  | ld (n : Option Nat) (x : Opd)
  | st (n : Nat) (x y : Opd)
  | nilCheck (x : Opd)
  | fieldAddr (off : Nat) (x : Opd)
  | indexAddr (size : Nat) (x i : Opd)
  | indexArr (size len : Nat) (x i : Opd)
  | field (off : Nat) (n : Option Nat) (x : Opd)
  | index (size : Nat) (len : Nat) (n : Option Nat) (x i : Opd)
  | indexS (x i : Opd)
  | bin (op : BinOp) (kd : Kd) (x y : Opd)
  | not (x : Opd)
  | build (zero : List V) (parts : List (Nat × Nat × Opd))
  | buildSl (size : Nat) (zero : V) (len : Nat) (parts : List (Nat × Opd)) (mu : Bool)
  | mkFunc (f : FuncId) (caps : List Opd)
  | mkIface (t : TypeId) (x : Opd)
  | mkMap
  | mkSl (size bytes : Nat) (zero : V) (len : Opd) (mu : Bool)
  | mapUpd (kk : Kd) (m k x : Opd)
  | lookup (kk : Kd) (zero : V) (m k : Opd) (ok : Bool)
  | len (kd : Kd) (x : Opd)
  | append (size bytes : Nat) (x y : Opd) (mu : Bool)
  | sliceE (kd : Kd) (size : Nat) (x : Opd) (lo hi : Option Opd)
  | extract (x : Opd) (i : Nat)
  | callF (f : FuncId) (args : List Opd)
  | callV (f : Opd) (args : List Opd)
  | callP (f : FuncId) (args : List Opd)

structure CI where
  dst : Option Pos
  g : Option (Pos × Bool)
  op : CO
  chk : Nat

inductive CC where
  | skip
  | reg (draw : Bool) (ops : List CI)
  | seq (a b : CC)
  | cond (c : Opd) (a b : CC)
  | block (id : Nat) (b : CC)
  | loop (live : List Pos) (b : CC)
  | exit (id : Nat)
  | ret

inductive CRes where
  | reg (p : Pos)
  | cell (p : Pos) (n : Option Nat)
  | part (p : Pos) (n : Option Nat)

structure CF where
  n : Nat
  body : CC
  res : List CRes

/-! ## What an operation does -/

inductive OR where
  | val (v : V)
  | unk
  | wr (p : Pos) (v : V)
  | pan (v : V)

abbrev Cl := FuncId → List V → Sto → R

def ev (t : T) : Opd → Option V
  | .r p => t.get p
  | .c v => some v

def evs (t : T) : List Opd → Option (List V)
  | [] => some []
  | x :: l => match ev t x, evs t l with
    | some v, some vs => some (v :: vs)
    | _, _ => none

/-- A part of a row of cells: one cell, or an aggregate of so many. -/
def part (cs : List V) (off : Nat) : Option Nat → Option V
  | none => cs[off]?
  | some k => if off + k ≤ cs.length then some (.agg ((cs.drop off).take k)) else none

/-- A row of cells with others written over some of it. -/
def over (cs : List V) (off : Nat) (new : List V) : List V := cs.take off ++ new ++ cs.drop (off + new.length)

/-- Like the kind's own wrapping, quick where nothing is to be wrapped. -/
def wrapI (k : IntKind) (n : Int) : Int :=
  match k with
  | .i64 => if -9223372036854775808 ≤ n ∧ n ≤ 9223372036854775807 then n else IntKind.i64.wrap n
  | k => k.wrap n

def intBin (op : BinOp) (k : IntKind) (a b : Int) : Option V :=
  match op with
  | .add => some (.int k (wrapI k (a + b)))
  | .sub => some (.int k (wrapI k (a - b)))
  | .mul => some (.int k (wrapI k (a * b)))
  | .eql => some (.bool (decide (a = b)))
  | .neq => some (.bool (!decide (a = b)))
  | .lss => some (.bool (decide (a < b)))
  | .leq => some (.bool (decide (a ≤ b)))
  | .gtr => some (.bool (decide (b < a)))
  | .geq => some (.bool (decide (b ≤ a)))
  | _ => none

def strBin (op : BinOp) (a b : List UInt8) : Option V :=
  match op with
  | .add => if a.length + b.length ≤ 9223372036854775807 then some (.str (a ++ b)) else none
  | .eql => some (.bool (a == b))
  | .neq => some (.bool (!(a == b)))
  | _ => none

/-- Is one of two values, of which one is nil at least, the other one? -/
def nilEqs : V → V → Option Bool
  | .nsl, .nsl => some true
  | .nsl, .sl _ _ => some false
  | .sl _ _, .nsl => some false
  | .nsl, .msl _ _ _ _ => some false
  | .msl _ _ _ _, .nsl => some false
  | .nptr, .nptr => some true
  | .nptr, .ptr _ _ => some false
  | .ptr _ _, .nptr => some false
  | .nptr, .vp _ => some false
  | .vp _, .nptr => some false
  | .nmap, .nmap => some true
  | .nmap, .map _ => some false
  | .map _, .nmap => some false
  | .nfunc, .nfunc => some true
  | .nfunc, .func _ _ => some false
  | .func _ _, .nfunc => some false
  | .niface, .iface _ _ => some false
  | .iface _ _, .niface => some false
  | _, _ => none

def V.kd : V → Kd
  | .bool _ => .bool
  | .nsl | .sl _ _ | .msl _ _ _ _ => .sl
  | .nptr | .ptr _ _ | .vp _ => .ptr
  | .nmap | .map _ => .map
  | .nfunc | .func _ _ => .func
  | .niface | .iface _ _ => .iface
  | .str _ => .str
  | _ => .other

def Kd.beq : Kd → Kd → Bool
  | .bool, .bool | .sl, .sl | .ptr, .ptr | .map, .map | .func, .func | .iface, .iface | .str, .str => true
  | _, _ => false

def nilEq (kd : Kd) (x y : V) : Option Bool := if kd.beq x.kd then nilEqs x y else none

def nilBin (op : BinOp) (kd : Kd) (x y : V) : Option V :=
  match op with
  | .eql => (nilEq kd x y).map .bool
  | .neq => (nilEq kd x y).map fun b => .bool (!b)
  | _ => none

def binV (op : BinOp) (kd : Kd) (x y : V) : Option V :=
  match x, y with
  | .int k a, .int k' b => if k = k' then intBin op k a b else none
  | .str a, .str b => strBin op a b
  | .bool a, .bool b => match kd, op with
    | .bool, .eql => some (.bool (a == b))
    | .bool, .neq => some (.bool (!(a == b)))
    | _, _ => none
  | x, y => nilBin op kd x y

def ldV (σ : Sto) (n : Option Nat) : V → Option V
  | .vp cs => part cs 0 n
  | .ptr b off => match σ.blk b with
    | some (.cells cs) => part cs off n
    | _ => none
  | _ => none

def stV (σ : Sto) (n : Nat) (a x : V) : Option Sto :=
  match a with
  | .ptr b off => match σ.blk b with
    | some (.cells cs) => if x.cells.length = n ∧ off + n ≤ cs.length ∧ x.cells.all V.one = true ∧ 0 < n then some (σ.upd b (.cells (over cs off x.cells))) else none
    | _ => none
  | _ => none

def fieldAddrV (off : Nat) : V → Option V
  | .ptr b o => some (.ptr b (o + off))
  | .vp cs => if off ≤ cs.length then some (.vp (cs.drop off)) else none
  | _ => none

def indexAddrV (size : Nat) (x i : V) : Option V :=
  match x, i with
  | .sl _ es, .int _ n => if 0 ≤ n then (es[n.toNat]?).bind fun v => if v.cells.length = size then some (.vp v.cells) else none else none
  | .msl b off len s, .int _ n => if 0 ≤ n ∧ n < len ∧ s = size then some (.ptr b (off + n.toNat * size)) else none
  | _, _ => none

def indexArrV (size len : Nat) (x i : V) : Option V :=
  match x, i with
  | .ptr b off, .int _ n => if 0 ≤ n ∧ n < len then some (.ptr b (off + n.toNat * size)) else none
  | .vp cs, .int _ n => if 0 ≤ n ∧ n < len ∧ n.toNat * size ≤ cs.length then some (.vp (cs.drop (n.toNat * size))) else none
  | _, _ => none

def fieldV (off : Nat) (n : Option Nat) : V → Option V
  | .agg cs => part cs off n
  | _ => none

def indexV (size len : Nat) (n : Option Nat) (x i : V) : Option V :=
  match x, i with
  | .agg cs, .int _ j => if 0 ≤ j ∧ j < len then part cs (j.toNat * size) n else none
  | _, _ => none

def indexS (x i : V) : Option V :=
  match x, i with
  | .str s, .int _ j => if 0 ≤ j then (s[j.toNat]?).map fun b => .int .u8 b.toNat else none
  | _, _ => none

def fillV (t : T) : List V → List (Nat × Nat × Opd) → Option (List V)
  | cs, [] => some cs
  | cs, (off, n, x) :: l => match ev t x with
    | some v => if v.cells.length = n ∧ off + n ≤ cs.length ∧ v.cells.all V.one = true then fillV t (over cs off v.cells) l else none
    | none => none

def fillE (t : T) (size : Nat) : List V → List (Nat × Opd) → Option (List V)
  | es, [] => some es
  | es, (i, x) :: l => match ev t x with
    | some v => if v.cells.length = size ∧ i < es.length ∧ v.cells.all V.one = true then fillE t size (es.set i v) l else none
    | none => none

/-- The elements that a slice holds. -/
def elems (σ : Sto) (size : Nat) : V → Option (List V)
  | .nsl => some []
  | .sl _ es => some es
  | .msl b off len s => match σ.blk b with
    | some (.cells cs) => if off + len * size ≤ cs.length ∧ s = size then
        some ((List.range len).map fun i => if size = 1 then (cs[off + i]?).getD .undef else .agg ((cs.drop (off + i * size)).take size)) else none
    | _ => none
  | _ => none

def lenV (kd : Kd) (σ : Sto) (v : V) : Option V :=
  match kd, v with
  | .sl, .nsl => some (.int .i64 0)
  | .sl, .sl _ es => some (.int .i64 es.length)
  | .sl, .msl _ _ len _ => some (.int .i64 len)
  | .str, .str s => some (.int .i64 s.length)
  | .map, .nmap => some (.int .i64 0)
  | .map, .map b => match σ.blk b with
    | some (.map es _) => some (.int .i64 es.length)
    | _ => none
  | _, _ => none

def headOk (size : Nat) : List V → Bool
  | [] => true
  | v :: _ => v.cells.length == size

def appendV (size bytes : Nat) (mu : Bool) (σ : Sto) (x y : V) : Option (V × Sto) :=
  match elems σ size y with
  | none => none
  | some [] => match x with
    | .nsl | .sl _ _ | .msl _ _ _ _ => some (x, σ)
    | _ => none
  | some (e :: r) =>
    match elems σ size x with
    | none => none
    | some es =>
      let all := es ++ e :: r
      if all.length * bytes ≤ 140737488355328 ∧ all.length ≤ 9223372036854775807 ∧ headOk size es = true ∧ headOk size (e :: r) = true then
        if mu then
          match x with
          | .nsl | .sl .full _ => some (.msl σ.next 0 all.length size, σ.alloc (.cells (all.flatMap V.cells)))
          | .msl b _ _ _ => some (.msl σ.next 0 all.length size, (σ.upd b .dead).alloc (.cells (all.flatMap V.cells)))
          | _ => none
        else
          match x with
          | .nsl | .sl .full _ => some (.sl (.tok σ.next) all, σ.alloc (.tok all.length))
          | .sl (.tok k) (_ :: _) => match σ.blk k with
            | some (.tok n) => if n = es.length then some (.sl (.tok k) all, σ.upd k (.tok all.length)) else none
            | _ => none
          | _ => none
      else none

def keyEq : V → V → Option Bool
  | .int k a, .int k' b => if k = k' then some (decide (a = b)) else none
  | .str a, .str b => some (a == b)
  | _, _ => none

def findK (k : V) : List (V × V × Nat) → Option (Option V)
  | [] => some none
  | (k', v, _) :: l => match keyEq k k' with
    | some true => some (some v)
    | some false => findK k l
    | none => none

def setK (k v : V) (clock : Nat) : List (V × V × Nat) → List (V × V × Nat)
  | [] => [(k, v, clock)]
  | (k', v', n) :: l => match keyEq k k' with
    | some true => (k, v, n) :: l
    | _ => (k', v', n) :: setK k v clock l

def isKey (kk : Kd) (k : V) : Bool :=
  match kk, k with
  | .str, .str _ => true
  | .other, .int _ _ => true
  | _, _ => false

def mapUpdV (kk : Kd) (σ : Sto) (m k x : V) : Option Sto :=
  match m with
  | .map b => match σ.blk b with
    | some (.map es clock) => match findK k es with
      | some (some _) => if isKey kk k then some (σ.upd b (.map (setK k x clock es) clock)) else none
      | some none => if isKey kk k then some (σ.upd b (.map (setK k x clock es) (clock + 1))) else none
      | none => none
    | _ => none
  | _ => none

def lookupV (kk : Kd) (σ : Sto) (zero m k : V) (ok : Bool) : Option V :=
  let tell (r : Option V) : V := if ok then .tup [r.getD zero, .bool r.isSome] else r.getD zero
  match m with
  | .nmap => if isKey kk k then some (tell none) else none
  | .map b => match σ.blk b with
    | some (.map es _) => if isKey kk k then (findK k es).map tell else none
    | _ => none
  | _ => none

def boundV : Option V → Nat → Option Nat
  | none, d => some d
  | some (.int _ n), _ => if 0 ≤ n then some n.toNat else none
  | _, _ => none

def sliceV (size : Nat) (x : V) (lo hi : Option V) : Option V :=
  match x with
  | .str s => match boundV lo 0, boundV hi s.length with
    | some l, some h => if l ≤ h ∧ h ≤ s.length then some (.str ((s.take h).drop l)) else none
    | _, _ => none
  | .sl _ es => match boundV lo 0, boundV hi es.length with
    | some l, some h => if l ≤ h ∧ h ≤ es.length ∧ headOk size es = true then some (.sl .none ((es.take h).drop l)) else none
    | _, _ => none
  | .nsl => match boundV lo 0, boundV hi 0 with
    | some 0, some 0 => some .nsl
    | _, _ => none
  | _ => none

def evO (t : T) : Option Opd → Option (Option V)
  | none => some none
  | some x => (ev t x).map some

def mkSlV (size bytes : Nat) (zero : V) (mu : Bool) (σ : Sto) (n : V) : Option (V × Sto) :=
  match n with
  | .int _ j => if 0 ≤ j ∧ j.toNat * bytes ≤ 140737488355328 ∧ j ≤ 9223372036854775807 ∧ zero.cells.length = size then
      if mu then some (.msl σ.next 0 j.toNat size, σ.alloc (.cells ((List.replicate j.toNat zero).flatMap V.cells)))
      else some (.sl .full (List.replicate j.toNat zero), σ)
    else none
  | _ => none

def callR : R → Option (OR × Sto)
  | some (.ret v, σ) => some (.val v, σ)
  | some (.pan v, σ) => some (.pan v, σ)
  | none => none

def pureR (σ : Sto) (v : Option V) : Option (OR × Sto) :=
  match v with
  | some v => some (.val v, σ)
  | none => none

def pickV (t : T) (c a b : Opd) : Option V :=
  match ev t c with
  | some (.bool true) => ev t a
  | some (.bool false) => ev t b
  | _ => none

def notV : V → Option V
  | .bool b => some (.bool (!b))
  | _ => none

def nilCheckV : V → Option V
  | .ptr b o => some (.ptr b o)
  | .vp cs => some (.vp cs)
  | .func f cs => some (.func f cs)
  | .iface t v => some (.iface t v)
  | _ => none

def extractV (i : Nat) : V → Option V
  | .tup vs => vs[i]?
  | _ => none

def stRV (cs : List V) (off n : Nat) (x : V) : Option V :=
  if x.cells.length = n ∧ off + n ≤ cs.length ∧ x.cells.all V.one = true then some (.agg (over cs off x.cells)) else none

mutual
/-- A value that hangs on no store, with slices in the store as they are now. -/
def V.snap (σ : Sto) : V → Option V
  | .msl b off len size => match elems σ size (.msl b off len size) with
    | some es => if 0 < size ∧ headOk size es = true then (V.pures es).map (.sl .none) else none
    | none => none
  | .agg cs => (V.snaps σ cs).map .agg
  | .tup cs => (V.snaps σ cs).map .tup
  | .iface t v => (V.snap σ v).map (.iface t)
  | .undef => V.pure .undef
  | .bool b => V.pure (.bool b)
  | .int k n => V.pure (.int k n)
  | .str s => V.pure (.str s)
  | .nptr => V.pure .nptr
  | .ptr b o => V.pure (.ptr b o)
  | .vp cs => V.pure (.vp cs)
  | .nsl => V.pure .nsl
  | .sl o es => V.pure (.sl o es)
  | .nmap => V.pure .nmap
  | .map b => V.pure (.map b)
  | .nfunc => V.pure .nfunc
  | .func f cs => V.pure (.func f cs)
  | .niface => V.pure .niface
def V.snaps (σ : Sto) : List V → Option (List V)
  | [] => some []
  | v :: l => match V.snap σ v, V.snaps σ l with
    | some v, some l => some (v :: l)
    | _, _ => none
end

/-- A call that hangs on its arguments alone, and of which nothing stays but what it gives. -/
def callPure (cl : Cl) (f : FuncId) (vs : List V) : Option V :=
  match V.pures vs with
  | none => none
  | some vs => match cl f vs .empty with
    | some (.ret v, σ) => V.snap σ v
    | _ => none

def evOp (cl : Cl) (t : T) (σ : Sto) : CO → Option (OR × Sto)
  | .adr p => if (t.get p).isSome then some (.unk, σ) else none
  | .mov x => pureR σ (ev t x)
  | .pick c a b => pureR σ (pickV t c a b)
  | .alR p zero => some (.wr p zero, σ)
  | .boxR p x => (ev t x).bind fun v => if v.cells.all V.one = true then some (.wr p (.agg v.cells), σ) else none
  | .ldR p off n => match t.get p with
    | some (.agg cs) => pureR σ (part cs off n)
    | _ => none
  | .stR p off n x => match t.get p, ev t x with
    | some (.agg cs), some v => (stRV cs off n v).bind fun u => some (.wr p u, σ)
    | _, _ => none
  | .al zero => some (.val (.ptr σ.next 0), σ.alloc (.cells zero))
  | .box n x => (ev t x).bind fun v => if v.cells.length = n ∧ v.cells.all V.one = true then some (.val (.ptr σ.next 0), σ.alloc (.cells v.cells)) else none
  | .ld n x => (ev t x).bind fun a => pureR σ (ldV σ n a)
  | .st n x y => (ev t x).bind fun a => (ev t y).bind fun v => (stV σ n a v).bind fun σ' => some (.val .undef, σ')
  | .nilCheck x => (ev t x).bind fun v => pureR σ (nilCheckV v)
  | .fieldAddr off x => (ev t x).bind fun v => pureR σ (fieldAddrV off v)
  | .indexAddr size x i => (ev t x).bind fun v => (ev t i).bind fun j => pureR σ (indexAddrV size v j)
  | .indexArr size len x i => (ev t x).bind fun v => (ev t i).bind fun j => pureR σ (indexArrV size len v j)
  | .field off n x => (ev t x).bind fun v => pureR σ (fieldV off n v)
  | .index size len n x i => (ev t x).bind fun v => (ev t i).bind fun j => pureR σ (indexV size len n v j)
  | .indexS x i => (ev t x).bind fun v => (ev t i).bind fun j => pureR σ (indexS v j)
  | .bin op kd x y => (ev t x).bind fun v => (ev t y).bind fun u => pureR σ (binV op kd v u)
  | .not x => (ev t x).bind fun v => pureR σ (notV v)
  | .build zero parts => pureR σ ((fillV t zero parts).map .agg)
  | .buildSl size zero len parts mu => match fillE t size (List.replicate len zero) parts with
    | some es => if mu then some (.val (.msl σ.next 0 len size), σ.alloc (.cells (es.flatMap V.cells))) else some (.val (.sl .full es), σ)
    | none => none
  | .mkFunc f caps => (evs t caps).bind fun vs => some (.val (.func f vs), σ)
  | .mkIface d x => (ev t x).bind fun v => some (.val (.iface d v), σ)
  | .mkMap => some (.val (.map σ.next), σ.alloc (.map [] 0))
  | .mkSl size bytes zero len mu => (ev t len).bind fun n => (mkSlV size bytes zero mu σ n).bind fun x => some (.val x.1, x.2)
  | .mapUpd kk m k x => (ev t m).bind fun m => (ev t k).bind fun k => (ev t x).bind fun x => (mapUpdV kk σ m k x).bind fun σ' => some (.val .undef, σ')
  | .lookup kk zero m k ok => (ev t m).bind fun m => (ev t k).bind fun k => pureR σ (lookupV kk σ zero m k ok)
  | .len kd x => (ev t x).bind fun v => pureR σ (lenV kd σ v)
  | .append size bytes x y mu => (ev t x).bind fun v => (ev t y).bind fun u => (appendV size bytes mu σ v u).bind fun r => some (.val r.1, r.2)
  | .sliceE kd size x lo hi => (ev t x).bind fun v => (evO t lo).bind fun l => (evO t hi).bind fun h => if kd.beq v.kd then pureR σ (sliceV size v l h) else none
  | .extract x i => (ev t x).bind fun v => pureR σ (extractV i v)
  | .callF f args => (evs t args).bind fun vs => callR (cl f vs σ)
  | .callV f args => (ev t f).bind fun v => (evs t args).bind fun vs => match v with
    | .func f caps => if (V.pures (vs ++ caps)).isSome then pureR σ (callPure cl f (vs ++ caps)) else callR (cl f (vs ++ caps) σ)
    | _ => none
  | .callP f args => (evs t args).bind fun vs => pureR σ (callPure cl f vs)

/-- Does an operation turn the store, or does it hang on it otherwise than by a load? -/
def CO.eff : CO → Bool
  | .al _ | .box _ _ | .st _ _ _ | .mkMap | .mapUpd _ _ _ _ | .lookup _ _ _ _ _ | .append _ _ _ _ _ | .callF _ _ | .callV _ _ => true
  | .len kd _ => kd.beq .map
  | .buildSl _ _ _ _ mu => mu
  | .mkSl _ _ _ _ mu => mu
  | _ => false

/-! ## Regions -/

inductive Out where
  | normal
  | exit (id : Nat)
  | ret
  | pan (v : V)

abbrev K := Out → T → Sto → R

/-- Loads that may be made later than here: behind how many operations that turn the store, the block, its state. -/
abbrev Pend := List (Nat × Nat × Nat)

def guardOf (t : T) : Option (Pos × Bool) → Option Bool
  | none => some true
  | some (p, want) => match t.get p with
    | some (.bool b) => some (b == want)
    | some .undef => some false
    | _ => none

def setD (t : T) (d : Option Pos) (v : V) : T :=
  match d with
  | none => t
  | some p => t.set p v

def forget (t : T) : Option Pos → T
  | none => t
  | some p => t.put p none

def Pend.pass (σ : Sto) : Pend → Option Pend
  | [] => some []
  | (0, _, _) :: l => Pend.pass σ l
  | (n + 1, b, v) :: l => if σ.ver b = some v then (Pend.pass σ l).map fun l => (n, b, v) :: l else none

def Pend.note (t : T) (σ : Sto) (i : CI) (pd : Pend) : Option Pend :=
  match i.chk with
  | 0 => some pd
  | n + 1 => match i.op with
    | .ld _ x => match ev t x with
      | some (.ptr b _) => (σ.ver b).map fun v => (n + 1, b, v) :: pd
      | _ => some pd
    | _ => none

/-- Is it a store that may be made later than here? -/
def CI.late (i : CI) : Bool := match i.chk, i.op with
  | _ + 1, .st _ _ _ => true
  | _, _ => false

/-- A block that is to stay as it is through so many operations. -/
def lateV (n : Nat) (σ : Sto) (a : V) : Option Pend :=
  match a with
  | .ptr b _ => (σ.ver b).map fun v => [(n, b, v)]
  | _ => none

def lateP (t : T) (σ' : Sto) (i : CI) (pd : Pend) : Option Pend :=
  match pd, i.op, i.g, i.dst with
  | [], .st _ x _, none, none => (ev t x).bind fun a => lateV i.chk σ' a
  | _, _, _, _ => none

def pendOf (t : T) (σ σ' : Sto) (i : CI) (pd : Pend) : Option Pend :=
  if i.late then lateP t σ' i pd else if i.op.eff then Pend.pass σ' pd else Pend.note t σ i pd

/-- The registers behind an operation. -/
def nextT (t : T) (d : Option Pos) : OR → T
  | .val v => setD t d v
  | .unk => forget t d
  | .wr p v => t.set p v
  | .pan _ => t

def evOps (cl : Cl) : List CI → Pend → T → Sto → K → R
  | [], _, t, σ, k => k .normal t σ
  | i :: rest, pd, t, σ, k =>
    match guardOf t i.g with
    | none => none
    | some false => evOps cl rest pd (setD t i.dst .undef) σ k
    | some true =>
      match evOp cl t σ i.op with
      | none => none
      | some (.pan v, σ') => k (.pan v) t σ'
      | some (r, σ') => (pendOf t σ σ' i pd).bind fun pd => evOps cl rest pd (nextT t i.dst r) σ' k

/-- What is known of the registers where a region is left by a panic: those that it does not write. -/
def panT (t : T) : List CI → T
  | [] => t
  | i :: l =>
    let t := match i.dst with | some p => t.put p none | none => t
    panT (match i.op with | .alR p _ | .boxR p _ | .stR p _ _ _ => t.put p none | _ => t) l

def keep (t : T) : List Pos → T
  | [] => .leaf
  | p :: l => match t.get p with
    | some v => (keep t l).set p v
    | none => keep t l

def iter : Nat → List Pos → (T → Sto → K → R) → T → Sto → K → R
  | 0, _, _, _, _, _ => none
  | m + 1, live, f, t, σ, k => f (keep t live) σ fun o t σ => match o with
    | .normal => iter m live f t σ k
    | o => k o t σ

def run (cl : Cl) (m : Nat) : CC → T → Sto → K → R
  | .skip, t, σ, k => k .normal t σ
  | .reg _ ops, t, σ, k => evOps cl ops [] t σ fun o t' σ' => match o with
    | .pan v => k (.pan v) (panT t ops) σ'
    | o => k o t' σ'
  | .seq a b, t, σ, k => run cl m a t σ fun o t σ => match o with
    | .normal => run cl m b t σ k
    | o => k o t σ
  | .cond c a b, t, σ, k => match ev t c with
    | some (.bool true) => run cl m a t σ k
    | some (.bool false) => run cl m b t σ k
    | _ => none
  | .block id b, t, σ, k => run cl m b t σ fun o t σ => match o with
    | .exit j => if j = id then k .normal t σ else k (.exit j) t σ
    | o => k o t σ
  | .loop live b, t, σ, k => iter m live (run cl m b) t σ k
  | .exit id, t, σ, k => k (.exit id) t σ
  | .ret, t, σ, k => k .ret t σ

def resV (t : T) (σ : Sto) : CRes → Option V
  | .reg p => t.get p
  | .cell p n => (t.get p).bind fun a => ldV σ n a
  | .part p n => match t.get p with
    | some (.agg cs) => part cs 0 n
    | _ => none

def resVs (t : T) (σ : Sto) : List CRes → Option (List V)
  | [] => some []
  | x :: l => match resV t σ x, resVs t σ l with
    | some v, some vs => some (v :: vs)
    | _, _ => none

def tupled : List V → V
  | [v] => v
  | vs => .tup vs

def initT : Nat → List V → T
  | _, [] => .leaf
  | i, v :: l => (initT (i + 1) l).set (pos i) v

def finish (cf : CF) : K := fun o t σ => match o with
  | .normal | .ret => (resVs t σ cf.res).map fun vs => (.ret (tupled vs), σ)
  | .pan v => some (.pan v, σ)
  | .exit _ => none

def evalF (ft : FuncId → Option CF) : Nat → Cl
  | 0, _, _, _ => none
  | n + 1, f, args, σ => match ft f with
    | none => none
    | some cf => if args.length = cf.n then run (evalF ft n) n cf.body (initT 0 args) σ (finish cf) else none

end Go.Eng
