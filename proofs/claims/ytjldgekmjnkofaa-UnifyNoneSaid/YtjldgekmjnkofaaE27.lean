/- The interpreter in shapes that reckon by themselves where the code is known: definitions, and that it says no more than the interpreter. -/
import Derived.Test.YtjldgekmjnkofaaE26
set_option linter.unusedVariables false
set_option linter.unusedSimpArgs false
namespace Go.Eng
open Go

/-! ## Small words -/

def gd (x : V) (w : Bool) (o : Option V) : Option V :=
  match x with
  | .bool b => if b == w then o else some .undef
  | .undef => some .undef
  | _ => none

def gd2 (x : V) (w : Bool) (σ : Sto) (o : Option (V × Sto)) : Option (V × Sto) :=
  match x with
  | .bool b => if b == w then o else some (.undef, σ)
  | .undef => some (.undef, σ)
  | _ => none

def gdR (x : V) (w : Bool) (σ : Sto) (r : R) : R :=
  match x with
  | .bool b => if b == w then r else some (.ret .undef, σ)
  | .undef => some (.ret .undef, σ)
  | _ => none

/-- Is a value one that may guard? -/
def chkB (x : V) (r : R) : R :=
  match x with
  | .bool _ => r
  | .undef => r
  | _ => none

def condV (x : V) (a b : R) : R :=
  match x with
  | .bool true => a
  | .bool false => b
  | _ => none

def pickS (x : V) (a b : Option V) : Option V :=
  match x with
  | .bool true => a
  | .bool false => b
  | _ => none

def bindR (r : R) (k : V → Sto → R) : R :=
  match r with
  | some (.ret v, σ) => k v σ
  | some (.pan v, σ) => some (.pan v, σ)
  | none => none

def bind2 (o : Option (V × Sto)) (k : V → Sto → R) : R :=
  match o with
  | some (v, σ) => k v σ
  | none => none

def alS (x : Blk) (σ : Sto) (k : Nat → Sto → R) : R := k σ.next (σ.alloc x)

def passK (pd : Pend) (σ : Sto) (k : Pend → R) : R :=
  match pd with
  | [] => k []
  | e :: l => (Pend.pass σ (e :: l)).bind k

def noteV (n : Nat) (σ : Sto) (x : V) (pd : Pend) : Option Pend :=
  match x with
  | .ptr b _ => (σ.ver b).map fun v => (n, b, v) :: pd
  | _ => some pd

def boxC (v : V) : Option (List V) := if v.cells.all V.one = true then some v.cells else none
def boxN (n : Nat) (v : V) : Option (List V) := if v.cells.length = n ∧ v.cells.all V.one = true then some v.cells else none
def stC (cs : List V) (off n : Nat) (x : V) : Option (List V) := if x.cells.length = n ∧ off + n ≤ cs.length ∧ x.cells.all V.one = true then some (over cs off x.cells) else none

def fillC : List V → List (Nat × Nat × V) → Option (List V)
  | cs, [] => some cs
  | cs, (off, n, v) :: l => if v.cells.length = n ∧ off + n ≤ cs.length ∧ v.cells.all V.one = true then fillC (over cs off v.cells) l else none

def fillD (size : Nat) : List V → List (Nat × V) → Option (List V)
  | es, [] => some es
  | es, (i, v) :: l => if v.cells.length = size ∧ i < es.length ∧ v.cells.all V.one = true then fillD size (es.set i v) l else none

def parts3 (t : T) : List (Nat × Nat × Opd) → Option (List (Nat × Nat × V))
  | [] => some []
  | (a, b, x) :: l => match ev t x, parts3 t l with
    | some v, some vs => some ((a, b, v) :: vs)
    | _, _ => none

def parts2 (t : T) : List (Nat × Opd) → Option (List (Nat × V))
  | [] => some []
  | (a, x) :: l => match ev t x, parts2 t l with
    | some v, some vs => some ((a, v) :: vs)
    | _, _ => none

def appV (cl : Cl) (fv : V) (vs : List V) (σ : Sto) : R :=
  match fv with
  | .func f caps => if (V.pures (vs ++ caps)).isSome then (callPure cl f (vs ++ caps)).map fun v => (.ret v, σ) else cl f (vs ++ caps) σ
  | _ => none

/-! ## The shape of an operation -/

inductive Sh where
  | bad
  | sub (v : V)
  | val (o : Option V)
  | valE (o : Option V)
  | lod (x : V) (o : Option V)
  | lst (o : Option (List V)) (f : List V → V)
  | set (p : Pos) (v : V)
  | wr (p : Pos) (o : Option (List V))
  | unk
  | new (x : Blk) (f : Nat → V)
  | newO (o : Option (List V)) (g : List V → Blk) (f : Nat → V)
  | stor (a : V) (o : Option Sto)
  | effU (o : Option Sto)
  | eff (o : Option (V × Sto))
  | res (r : R)

def shape (cl : Cl) (t : T) (σ : Sto) : CO → Sh
  | .adr p => match t.get p with | some _ => .unk | none => .bad
  | .mov x => match ev t x with | some v => .sub v | none => .bad
  | .pick c a b => match ev t c with | some v => .val (pickS v (ev t a) (ev t b)) | none => .bad
  | .alR p zero => .set p zero
  | .boxR p x => match ev t x with | some v => .wr p (boxC v) | none => .bad
  | .ldR p off n => match t.get p with | some (.agg cs) => .val (part cs off n) | _ => .bad
  | .stR p off n x => match t.get p, ev t x with | some (.agg cs), some v => .wr p (stC cs off n v) | _, _ => .bad
  | .al zero => .new (.cells zero) fun b => .ptr b 0
  | .box n x => match ev t x with | some v => .newO (boxN n v) .cells fun b => .ptr b 0 | none => .bad
  | .ld n x => match ev t x with | some v => .lod v (ldV σ n v) | none => .bad
  | .st n x y => match ev t x, ev t y with | some a, some v => .stor a (stV σ n a v) | _, _ => .bad
  | .nilCheck x => match ev t x with | some v => .val (nilCheckV v) | none => .bad
  | .fieldAddr off x => match ev t x with | some v => .val (fieldAddrV off v) | none => .bad
  | .indexAddr size x i => match ev t x, ev t i with | some v, some j => .val (indexAddrV size v j) | _, _ => .bad
  | .indexArr size len x i => match ev t x, ev t i with | some v, some j => .val (indexArrV size len v j) | _, _ => .bad
  | .field off n x => match ev t x with | some v => .val (fieldV off n v) | none => .bad
  | .index size len n x i => match ev t x, ev t i with | some v, some j => .val (indexV size len n v j) | _, _ => .bad
  | .indexS x i => match ev t x, ev t i with | some v, some j => .val (Eng.indexS v j) | _, _ => .bad
  | .bin op kd x y => match ev t x, ev t y with | some v, some u => .val (binV op kd v u) | _, _ => .bad
  | .not x => match ev t x with | some v => .val (notV v) | none => .bad
  | .build zero parts => match parts3 t parts with | some ps => .lst (fillC zero ps) .agg | none => .bad
  | .buildSl size zero len parts mu => match parts2 t parts with
    | some ps => (match mu with
      | true => .newO (fillD size (List.replicate len zero) ps) (fun es => .cells (es.flatMap V.cells)) fun b => .msl b 0 len size
      | false => .lst (fillD size (List.replicate len zero) ps) (.sl .full))
    | none => .bad
  | .mkFunc f caps => match evs t caps with | some vs => .sub (.func f vs) | none => .bad
  | .mkIface d x => match ev t x with | some v => .sub (.iface d v) | none => .bad
  | .mkMap => .new (.map [] 0) .map
  | .mkSl size bytes zero len mu => match ev t len with
    | some n => (match mu with
      | true => .eff (mkSlV size bytes zero true σ n)
      | false => .val ((mkSlV size bytes zero false σ n).map (·.1)))
    | none => .bad
  | .mapUpd kk m k x => match ev t m, ev t k, ev t x with | some m, some k, some x => .effU (mapUpdV kk σ m k x) | _, _, _ => .bad
  | .lookup kk zero m k ok => match ev t m, ev t k with | some m, some k => .valE (lookupV kk σ zero m k ok) | _, _ => .bad
  | .len kd x => match ev t x with
    | some v => (match kd with
      | .map => .valE (lenV .map σ v)
      | kd => .val (lenV kd σ v))
    | none => .bad
  | .append size bytes x y mu => match ev t x, ev t y with | some v, some u => .eff (appendV size bytes mu σ v u) | _, _ => .bad
  | .sliceE kd size x lo hi => match ev t x, evO t lo, evO t hi with | some v, some l, some h => .val (if kd.beq v.kd then sliceV size v l h else none) | _, _, _ => .bad
  | .extract x i => match ev t x with | some v => .val (extractV i v) | none => .bad
  | .callF f args => match evs t args with | some vs => .res (cl f vs σ) | none => .bad
  | .callV f args => match ev t f, evs t args with | some v, some vs => .res (appV cl v vs σ) | _, _ => .bad
  | .callP f args => match evs t args with | some vs => .val (callPure cl f vs) | none => .bad

def noChk (n : Nat) (r : R) : R :=
  match n with
  | 0 => r
  | _ + 1 => none

/-- Behind a store: one that may be made later notes its block. -/
def storK (chk : Nat) (d : Option Pos) (a : V) (pd : Pend) (σ' : Sto) (k : Pend → R) : R :=
  match chk with
  | 0 => passK pd σ' k
  | n + 1 => match pd, d with
    | [], none => (lateV (n + 1) σ' a).bind k
    | _, _ => none

def lodK (chk : Nat) (σ : Sto) (x : V) (pd : Pend) (k : Pend → R) : R :=
  match chk with
  | 0 => k pd
  | n + 1 => (noteV (n + 1) σ x pd).bind k

def noteG (n : Nat) (σ : Sto) (x : V) (w : Bool) (y : V) (pd : Pend) : Option Pend :=
  match x with
  | .bool b => if b == w then noteV n σ y pd else some pd
  | _ => some pd

def lodG (chk : Nat) (σ : Sto) (x : V) (w : Bool) (y : V) (pd : Pend) (k : Pend → R) : R :=
  match chk with
  | 0 => k pd
  | n + 1 => (noteG (n + 1) σ x w y pd).bind k

def passG (x : V) (w : Bool) (pd : Pend) (σ : Sto) (k : Pend → R) : R :=
  match pd with
  | [] => k []
  | e :: l => match x with
    | .bool b => if b == w then (Pend.pass σ (e :: l)).bind k else k (e :: l)
    | _ => k (e :: l)

def opsS (cl : Cl) : List CI → Pend → T → Sto → (T → Sto → R) → R
  | [], _, t, σ, k => k t σ
  | i :: l, pd, t, σ, k =>
    match i.g with
    | none => (match shape cl t σ i.op with
      | .bad => none
      | .sub v => noChk i.chk (opsS cl l pd (setD t i.dst v) σ k)
      | .val o => noChk i.chk (o.bind fun v => opsS cl l pd (setD t i.dst v) σ k)
      | .valE o => noChk i.chk (o.bind fun v => passK pd σ fun pd => opsS cl l pd (setD t i.dst v) σ k)
      | .lod x o => o.bind fun v => lodK i.chk σ x pd fun pd => opsS cl l pd (setD t i.dst v) σ k
      | .lst o f => noChk i.chk (o.bind fun c => opsS cl l pd (setD t i.dst (f c)) σ k)
      | .set p v => noChk i.chk (opsS cl l pd (t.set p v) σ k)
      | .wr p o => noChk i.chk (o.bind fun c => opsS cl l pd (t.set p (.agg c)) σ k)
      | .unk => noChk i.chk (opsS cl l pd (forget t i.dst) σ k)
      | .new x f => noChk i.chk (alS x σ fun b σ' => passK pd σ' fun pd => opsS cl l pd (setD t i.dst (f b)) σ' k)
      | .newO o g f => noChk i.chk (o.bind fun c => alS (g c) σ fun b σ' => passK pd σ' fun pd => opsS cl l pd (setD t i.dst (f b)) σ' k)
      | .stor a o => o.bind fun σ' => storK i.chk i.dst a pd σ' fun pd => opsS cl l pd (setD t i.dst .undef) σ' k
      | .effU o => noChk i.chk (o.bind fun σ' => passK pd σ' fun pd => opsS cl l pd (setD t i.dst .undef) σ' k)
      | .eff o => noChk i.chk (bind2 o fun v σ' => passK pd σ' fun pd => opsS cl l pd (setD t i.dst v) σ' k)
      | .res r => noChk i.chk (bindR r fun v σ' => passK pd σ' fun pd => opsS cl l pd (setD t i.dst v) σ' k))
    | some (p, w) => match t.get p with
      | none => none
      | some x => match shape cl t σ i.op with
        | .sub v => noChk i.chk ((gd x w (some v)).bind fun v => opsS cl l pd (setD t i.dst v) σ k)
        | .val o => noChk i.chk ((gd x w o).bind fun v => opsS cl l pd (setD t i.dst v) σ k)
        | .lod y o => (gd x w o).bind fun v => lodG i.chk σ x w y pd fun pd => opsS cl l pd (setD t i.dst v) σ k
        | .lst o f => noChk i.chk ((gd x w (o.map f)).bind fun v => opsS cl l pd (setD t i.dst v) σ k)
        | .unk => noChk i.chk (chkB x (opsS cl l pd (forget t i.dst) σ k))
        | .valE o => noChk i.chk ((gd x w o).bind fun v => passG x w pd σ fun pd => opsS cl l pd (setD t i.dst v) σ k)
        | .eff o => noChk i.chk (bind2 (gd2 x w σ o) fun v σ' => passG x w pd σ' fun pd => opsS cl l pd (setD t i.dst v) σ' k)
        | .res r => noChk i.chk (bindR (gdR x w σ r) fun v σ' => passG x w pd σ' fun pd => opsS cl l pd (setD t i.dst v) σ' k)
        | _ => none

def finS : List CRes → T → Sto → (List V → R) → R
  | [], _, _, k => k []
  | .reg p :: l, t, σ, k => match t.get p with
    | some v => finS l t σ fun vs => k (v :: vs)
    | none => none
  | .cell p n :: l, t, σ, k => match t.get p with
    | some a => (ldV σ n a).bind fun v => finS l t σ fun vs => k (v :: vs)
    | none => none
  | .part p n :: l, t, σ, k => match t.get p with
    | some (.agg cs) => (part cs 0 n).bind fun v => finS l t σ fun vs => k (v :: vs)
    | _ => none

def finO (cf : CF) : K := fun o t σ => match o with
  | .normal | .ret => finS cf.res t σ fun vs => some (.ret (tupled vs), σ)
  | _ => none

def iterS : Nat → List Pos → (T → Sto → K → R) → T → Sto → K → R
  | 0, _, _, _, _, _ => none
  | m + 1, live, f, t, σ, k => f t σ fun o t σ => match o with
    | .normal => iterS m live f (keep t live) σ k
    | o => k o t σ

def runS (cl : Cl) (m : Nat) : CC → T → Sto → K → R
  | .skip, t, σ, k => k .normal t σ
  | .reg _ ops, t, σ, k => opsS cl ops [] t σ fun t σ => k .normal t σ
  | .seq a b, t, σ, k => runS cl m a t σ fun o t σ => match o with
    | .normal => runS cl m b t σ k
    | o => k o t σ
  | .cond c a b, t, σ, k => match ev t c with
    | some x => condV x (runS cl m a t σ k) (runS cl m b t σ k)
    | none => none
  | .block id b, t, σ, k => runS cl m b t σ fun o t σ => match o with
    | .exit j => if j = id then k .normal t σ else k (.exit j) t σ
    | o => k o t σ
  | .loop live b, t, σ, k => iterS m live (runS cl m b) (keep t live) σ k
  | .exit id, t, σ, k => k (.exit id) t σ
  | .ret, t, σ, k => k .ret t σ

def evalS (ft : FuncId → Option CF) : Nat → Cl
  | 0, _, _, _ => none
  | n + 1, f, args, σ => match ft f with
    | none => none
    | some cf => if args.length = cf.n then runS (evalS ft n) n cf.body (initT 0 args) σ (finO cf) else none

/-! ## It says no more than the interpreter -/

/-- Registers with more known of them. -/
def TLe (t t' : T) : Prop := ∀ p v, t.get p = some v → t'.get p = some v

theorem TLe.refl (t : T) : TLe t t := fun _ _ h => h

section
variable {t t' : T}

theorem TLe.ev (h : TLe t t') {x : Opd} {v : V} (hv : ev t x = some v) : Eng.ev t' x = some v := by
  cases x with
  | r p => exact h p v hv
  | c u => exact hv

theorem TLe.evs (h : TLe t t') : ∀ {l : List Opd} {vs : List V}, evs t l = some vs → Eng.evs t' l = some vs
  | [], _, hv => hv
  | x :: l, vs, hv => by
    simp only [Eng.evs] at hv ⊢
    cases h1 : Eng.ev t x with
    | none => rw [h1] at hv; cases hv
    | some v =>
      rw [h1] at hv
      cases h2 : Eng.evs t l with
      | none => rw [h2] at hv; cases hv
      | some vs' =>
        rw [h2] at hv
        rw [h.ev h1, h.evs h2]
        exact hv

theorem TLe.evO (h : TLe t t') {x : Option Opd} {v : Option V} (hv : evO t x = some v) : Eng.evO t' x = some v := by
  cases x with
  | none => exact hv
  | some x =>
    simp only [Eng.evO] at hv ⊢
    cases h1 : Eng.ev t x with
    | none => rw [h1] at hv; cases hv
    | some u => rw [h1] at hv; rw [h.ev h1]; exact hv

theorem TLe.put (h : TLe t t') (p : Pos) (x : Option V) : TLe (t.put p x) (t'.put p x) := fun q v hq => by
  by_cases e : p = q
  · subst e
    rw [Tr.get_put_same] at hq ⊢
    exact hq
  · rw [Tr.get_put_ne _ _ _ _ e] at hq ⊢
    exact h q v hq

theorem TLe.forgetL (h : TLe t t') (p : Pos) (x : Option V) : TLe (t.put p none) (t'.put p x) := fun q v hq => by
  by_cases e : p = q
  · subst e
    rw [Tr.get_put_same] at hq
    cases hq
  · rw [Tr.get_put_ne _ _ _ _ e] at hq ⊢
    exact h q v hq

theorem TLe.setD (h : TLe t t') (d : Option Pos) (v : V) : TLe (setD t d v) (Eng.setD t' d v) := by
  cases d with
  | none => exact h
  | some p => exact h.put p _

theorem TLe.set (h : TLe t t') (p : Pos) (v : V) : TLe (t.set p v) (t'.set p v) := h.put p _

theorem TLe.forget (h : TLe t t') (d : Option Pos) : TLe (forget t d) (Eng.forget t' d) := by
  cases d with
  | none => exact h
  | some p => exact h.put p _

theorem TLe.forgetU (h : TLe t t') (d : Option Pos) : TLe (Eng.forget t d) (Eng.setD t' d .undef) := by
  cases d with
  | none => exact h
  | some p => exact h.forgetL p _

theorem TLe.keep (h : TLe t t') : ∀ live : List Pos, TLe (keep t live) (Eng.keep t' live)
  | [] => TLe.refl _
  | p :: l => by
    simp only [Eng.keep]
    cases h1 : t.get p with
    | none =>
      cases h2 : t'.get p with
      | none => exact h.keep l
      | some v =>
        intro q w hq
        by_cases e : p = q
        · subst e
          exfalso
          have hk : ∀ l : List Pos, (Eng.keep t l).get p = none := by
            intro l
            induction l with
            | nil => rfl
            | cons a l ih =>
              simp only [Eng.keep]
              cases ha : t.get a with
              | none => exact ih
              | some u =>
                have : a ≠ p := fun e => by rw [e, h1] at ha; cases ha
                simp only
                rw [Tr.get_set_ne _ _ _ _ this]; exact ih
          simp only at hq
          rw [hk l] at hq
          cases hq
        · simp only at hq ⊢
          rw [Tr.get_set_ne _ _ _ _ e]
          exact h.keep l q w hq
    | some v =>
      rw [h p v h1]
      exact (h.keep l).set p v

theorem parts3_fill (h : TLe t t') : ∀ {l : List (Nat × Nat × Opd)} {ps : List (Nat × Nat × V)} {cs cs' : List V}, parts3 t l = some ps → fillC cs ps = some cs' → fillV t' cs l = some cs'
  | [], _, cs, cs', hp, hf => by cases hp; exact hf
  | (a, b, x) :: l, ps, cs, cs', hp, hf => by
    simp only [parts3] at hp
    cases h1 : ev t x with
    | none => rw [h1] at hp; cases hp
    | some v =>
      rw [h1] at hp
      cases h2 : parts3 t l with
      | none => rw [h2] at hp; cases hp
      | some vs =>
        rw [h2] at hp
        cases hp
        simp only [fillC] at hf
        simp only [fillV, h.ev h1]
        split at hf
        · rename_i hc
          rw [if_pos hc]
          exact parts3_fill h h2 hf
        · cases hf

theorem parts2_fill (h : TLe t t') {size : Nat} : ∀ {l : List (Nat × Opd)} {ps : List (Nat × V)} {cs cs' : List V}, parts2 t l = some ps → fillD size cs ps = some cs' → fillE t' size cs l = some cs'
  | [], _, cs, cs', hp, hf => by cases hp; exact hf
  | (a, x) :: l, ps, cs, cs', hp, hf => by
    simp only [parts2] at hp
    cases h1 : ev t x with
    | none => rw [h1] at hp; cases hp
    | some v =>
      rw [h1] at hp
      cases h2 : parts2 t l with
      | none => rw [h2] at hp; cases hp
      | some vs =>
        rw [h2] at hp
        cases hp
        simp only [fillD] at hf
        simp only [fillE, h.ev h1]
        split at hf
        · rename_i hc
          rw [if_pos hc]
          exact parts2_fill h h2 hf
        · cases hf

end

/-- What a shape says of the operation. -/
def ShOk (cl : Cl) (t : T) (σ : Sto) (op : CO) : Sh → Prop
  | .bad => True
  | .sub v => op.eff = false ∧ evOp cl t σ op = some (.val v, σ)
  | .val o => op.eff = false ∧ ∀ v, o = some v → evOp cl t σ op = some (.val v, σ)
  | .valE o => op.eff = true ∧ ∀ v, o = some v → evOp cl t σ op = some (.val v, σ)
  | .lod x o => op.eff = false ∧ (∀ v, o = some v → evOp cl t σ op = some (.val v, σ)) ∧ ∃ n y, op = .ld n y ∧ ev t y = some x
  | .lst o f => op.eff = false ∧ ∀ c, o = some c → evOp cl t σ op = some (.val (f c), σ)
  | .set p v => op.eff = false ∧ evOp cl t σ op = some (.wr p v, σ)
  | .wr p o => op.eff = false ∧ ∀ c, o = some c → evOp cl t σ op = some (.wr p (.agg c), σ)
  | .unk => op.eff = false ∧ evOp cl t σ op = some (.unk, σ)
  | .new x f => op.eff = true ∧ evOp cl t σ op = some (.val (f σ.next), σ.alloc x)
  | .newO o g f => op.eff = true ∧ ∀ c, o = some c → evOp cl t σ op = some (.val (f σ.next), σ.alloc (g c))
  | .stor a o => op.eff = true ∧ (∀ σ', o = some σ' → evOp cl t σ op = some (.val .undef, σ')) ∧ ∃ n x y, op = .st n x y ∧ ev t x = some a
  | .effU o => op.eff = true ∧ ∀ σ', o = some σ' → evOp cl t σ op = some (.val .undef, σ')
  | .eff o => op.eff = true ∧ ∀ v σ', o = some (v, σ') → evOp cl t σ op = some (.val v, σ')
  | .res r => op.eff = true ∧ (∀ v σ', r = some (.ret v, σ') → evOp cl t σ op = some (.val v, σ')) ∧ ∀ v σ', r = some (.pan v, σ') → evOp cl t σ op = some (.pan v, σ')

end Go.Eng
