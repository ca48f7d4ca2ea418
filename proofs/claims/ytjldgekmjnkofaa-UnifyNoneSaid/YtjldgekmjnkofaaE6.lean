/- From the model's code to the compiled one. -/
import Derived.Test.YtjldgekmjnkofaaE5
set_option linter.unusedVariables false
set_option linter.unusedSimpArgs false
namespace Go.Eng
open Go

/-- A closed value as the interpreter's. -/
def ofC : Nat → Value → Option V
  | 0, _ => none
  | f + 1, u => match u with
    | .bool b => some (.bool b)
    | .int k n => some (.int k n)
    | .string s => some (.str s.data.toList)
    | .pointer none => some .nptr
    | .slice none 0 0 => some .nsl
    | .map none => some .nmap
    | .nilFunc => some .nfunc
    | .nilIface => some .niface
    | .agg cs => (cs.toList.mapM (ofC f)).map .agg
    | _ => none

structure TI where
  desc : TypeDesc
  size : Nat
  bytes : Nat
  zero : Option V

def TI.agg (i : TI) : Bool :=
  match i.desc with
  | .struct _ | .array _ _ => true
  | _ => false

/-- How so many cells are read: one, or an aggregate. -/
def TI.n (i : TI) : Option Nat := if i.agg then some i.size else none

abbrev Ty := TypeId → Option TI

structure TyOk (P : Program) (ty : Ty) : Prop where
  info : ∀ t i, ty t = some i → ∃ x, P.info? t = some x ∧ x.size = i.size ∧ x.bytes = i.bytes ∧ (∀ z, i.zero = some z → ∃ u, x.zero = some u ∧ ofC 100 u = some z)
  under : ∀ t i, ty t = some i → P.underlying t = some i.desc

structure FX where
  pv : Nat → Bool
  n : Nat
  /-- at which operations (by the slot that they write) a slice is made to be written -/
  mu : Nat → Bool
  /-- the functions that are called by themselves -/
  pu : Nat → Bool

abbrev Adr := List (Nat × Nat × Nat)

def Adr.find (adr : Adr) (s : Nat) : Option (Nat × Nat) :=
  match adr with
  | [] => none
  | (d, p, off) :: l => if d = s then some (p, off) else Adr.find l s

section
variable (fx : FX) (ty : Ty) (adr : Adr)

def cOpd : Operand → Option Opd
  | .tmp s => if fx.pv s = false ∧ s < fx.n then some (.r (pos s)) else none
  | .const v => (ofC 100 v).map .c
  | .func f => some (.c (.func f []))
  | .global _ => none

def cOpds : List Operand → Option (List Opd)
  | [] => some []
  | x :: l => match cOpd fx x, cOpds l with
    | some y, some ys => some (y :: ys)
    | _, _ => none

/-- The place in a variable that the frame has to itself. -/
def place : Operand → Option (Nat × Nat)
  | .tmp s => if fx.pv s then some (s, 0) else adr.find s
  | _ => none

/-- What is compiled: an operation; an address within a frame's own variable. -/
inductive Made where
  | op (o : CO)
  | adr (p off : Nat)

def kdOf : TypeDesc → Kd
  | .bool => .bool
  | .slice _ => .sl
  | .pointer _ => .ptr
  | .map _ _ => .map
  | .func _ _ _ => .func
  | .interface _ => .iface
  | .string => .str
  | _ => .other

def fieldOf (s : TypeId) (f : Nat) : Option Field :=
  match ty s with
  | some i => match i.desc with
    | .struct fs => fs[f]?
    | _ => none
  | none => none

def cParts (places : Nat → Option (Nat × Nat)) : List (Nat × Operand) → Option (List (Nat × Nat × Opd))
  | [] => some []
  | (i, x) :: l => match places i, cOpd fx x, cParts places l with
    | some (off, n), some y, some ys => some ((off, n, y) :: ys)
    | _, _, _ => none

def cElems : List (Nat × Operand) → Option (List (Nat × Opd))
  | [] => some []
  | (i, x) :: l => match cOpd fx x, cElems l with
    | some y, some ys => some ((i, y) :: ys)
    | _, _ => none

def elemOf (t : TypeId) : Option TI :=
  match ty t with
  | some i => match i.desc with
    | .slice e => ty e
    | _ => none
  | none => none

def arrOf (t : TypeId) : Option (Nat × TI) :=
  match ty t with
  | some i => match i.desc with
    | .array n e => match ty e with
      | some j => some (n, j)
      | none => none
    | _ => none
  | none => none

def isTmp (d : Option Tmp) (f : Tmp → Bool) : Bool :=
  match d with
  | some d => f d
  | none => false

/-- Where a field lies: of a struct type alone, all of whose fields are known. -/
def placesOf (t : TypeId) (i : Nat) : Option (Nat × Nat) :=
  match fieldOf ty t i with
  | some f => match ty f.type with
    | some j => some (f.offset, j.size)
    | none => none
  | none => none

def allKnown (t : TypeId) : Bool :=
  match ty t with
  | some i => match i.desc with
    | .struct fs => fs.all fun f => (ty f.type).isSome
    | _ => false
  | none => false

def cOp (o : Oper) : Option Made :=
  match o.op with
  | .move x | .assign x => (cOpd fx x).map fun x => .op (.mov x)
  | .pick c a b => (cOpd fx c).bind fun c => (cOpd fx a).bind fun a => (cOpd fx b).bind fun b => some (.op (.pick c a b))
  | .alloc e => (ty e).bind fun i => i.zero.bind fun z => if z.cells.all V.one then
      (match o.dst with
      | some d => if fx.pv d then (if o.guard.isNone then some (.op (.alR (pos d) (.agg z.cells))) else none) else some (.op (.al z.cells))
      | none => none) else none
  | .box e x => (ty e).bind fun i => (cOpd fx x).bind fun x =>
      (match o.dst with
      | some d => if fx.pv d then (if o.guard.isNone then some (.op (.boxR (pos d) x)) else none) else some (.op (.box i.size x))
      | none => none)
  | .load t x => (ty t).bind fun i => match place fx adr x with
    | some (p, off) => some (.op (.ldR (pos p) off i.n))
    | none => (cOpd fx x).map fun x => .op (.ld i.n x)
  | .store t x y => if o.dst.isSome then none else (ty t).bind fun i => (cOpd fx y).bind fun y => match place fx adr x with
    | some (p, off) => some (.op (.stR (pos p) off i.size y))
    | none => (cOpd fx x).map fun x => .op (.st i.size x y)
  | .nilCheck x => match place fx adr x with
    | some (p, off) => some (.adr p off)
    | none => (cOpd fx x).map fun x => .op (.nilCheck x)
  | .fieldAddr s x f => (fieldOf ty s f).bind fun fl => (ty fl.type).bind fun i => if i.size = 0 then none else match place fx adr x with
    | some (p, off) => some (.adr p (off + fl.offset))
    | none => (cOpd fx x).map fun x => .op (.fieldAddr fl.offset x)
  | .field s x f => (fieldOf ty s f).bind fun fl => (ty fl.type).bind fun i => (cOpd fx x).map fun x => .op (.field fl.offset i.n x)
  | .indexAddr t x i => match elemOf ty t with
    | some e => (cOpd fx x).bind fun x => (cOpd fx i).bind fun i => some (.op (.indexAddr e.size x i))
    | none => (arrOf ty t).bind fun e => (cOpd fx x).bind fun x => (cOpd fx i).bind fun i => some (.op (.indexArr e.2.size e.1 x i))
  | .index t x i => (ty t).bind fun d => (cOpd fx x).bind fun x => (cOpd fx i).bind fun i => match d.desc with
    | .array len e => (ty e).bind fun (e : TI) => some (.op (.index e.size len e.n x i))
    | .string => some (.op (.indexS x i))
    | _ => none
  | .binOp op t x y _ => (ty t).bind fun d => (cOpd fx x).bind fun x => (cOpd fx y).bind fun y => some (.op (.bin op (kdOf d.desc) x y))
  | .unOp .not _ x => (cOpd fx x).map fun x => .op (.not x)
  | .build t parts => if allKnown ty t then (ty t).bind fun i => i.zero.bind fun z => match z with
    | .agg cs => if cs.all V.one then (cParts fx (placesOf ty t) parts.toList).map fun ps => .op (.build cs ps) else none
    | _ => none
    else (arrOf ty t).bind fun e => (ty t).bind fun i => i.zero.bind fun z => match z with
    | .agg cs => (cParts fx (fun q => some (q * e.2.size, e.2.size)) parts.toList).map fun ps => .op (.build cs ps)
    | _ => none
  | .buildSlice t len parts => (elemOf ty t).bind fun e => e.zero.bind fun z => if z.cells.all V.one ∧ z.cells.length = e.size ∧ len * e.size ≤ 16777216 ∧ 0 < e.size then
      (cElems fx parts.toList).map fun ps => .op (.buildSl e.size z len ps (isTmp o.dst fx.mu)) else none
  | .makeInterface t x => (ty t).bind fun i => (cOpd fx x).bind fun x => match i.desc with
    | .interface _ => none
    | _ => some (.op (.mkIface t x))
  | .makeFunc fn first caps => match fn with
    | .func f => if first.size = 0 then (cOpds fx caps.toList).map fun xs => .op (.mkFunc f xs) else none
    | _ => none
  | .makeMap _ none => some (.op .mkMap)
  | .makeSlice t l c => (elemOf ty t).bind fun e => e.zero.bind fun z => if z.cells.all V.one ∧ z.cells.length = e.size ∧ 0 < e.size then match l, c with
    | .tmp x, .tmp y => if x = y then (cOpd fx l).map fun l => .op (.mkSl e.size e.bytes z l (isTmp o.dst fx.mu)) else none
    | .const (.int k n), .const (.int k' n') => if k = k' ∧ n = n' then (cOpd fx l).map fun l => .op (.mkSl e.size e.bytes z l (isTmp o.dst fx.mu)) else none
    | _, _ => none
    else none
  | .mapUpdate t m k x | .insert t m k x => (ty t).bind fun d => match d.desc with
    | .map kt _ => (ty kt).bind fun kd => match kd.desc with
      | .int _ | .string => (cOpd fx m).bind fun m => (cOpd fx k).bind fun k => (cOpd fx x).bind fun x => some (.op (.mapUpd (kdOf kd.desc) m k x))
      | _ => none
    | _ => none
  | .lookup t m k ok => (ty t).bind fun d => match d.desc with
    | .map kt e => (ty kt).bind fun kd => (ty e).bind fun e => e.zero.bind fun z => match kd.desc with
      | .int _ | .string => (cOpd fx m).bind fun m => (cOpd fx k).bind fun k => some (.op (.lookup (kdOf kd.desc) z m k ok))
      | _ => none
    | _ => none
  | .extract x i => (cOpd fx x).map fun x => .op (.extract x i)
  | .slice t x lo hi none => (ty t).bind fun d => (cOpd fx x).bind fun x =>
      (match lo with | none => some none | some y => (cOpd fx y).map some).bind fun lo => (match hi with | none => some none | some y => (cOpd fx y).map some).bind fun hi => match d.desc with
      | .string => some (.op (.sliceE .str 0 x lo hi))
      | .slice e => (ty e).bind fun (e : TI) => some (.op (.sliceE .sl e.size x lo hi))
      | _ => none
  | .call c => match c.callee with
    | .builtin .len => match c.args.toList, c.argTypes.toList with
      | [x], [t] => (ty t).bind fun d => (cOpd fx x).map fun x => .op (.len (kdOf d.desc) x)
      | _, _ => none
    | .builtin .append => match c.args.toList, c.argTypes.toList with
      | [x, y], [t, t'] => if t = t' then (elemOf ty t).bind fun e => (cOpd fx x).bind fun x => (cOpd fx y).bind fun y => e.zero.bind fun z => if 0 < e.size ∧ z.cells.length = e.size ∧ z.cells.all V.one = true then some (.op (.append e.size e.bytes x y (isTmp o.dst fx.mu))) else none else none
      | _, _ => none
    | .value (.func f) => (cOpds fx c.args.toList).map fun xs => .op (if fx.pu f then .callP f xs else .callF f xs)
    | .value f => (cOpd fx f).bind fun f => (cOpds fx c.args.toList).map fun xs => .op (.callV f xs)
    | _ => none
  | _ => none
end

end Go.Eng
