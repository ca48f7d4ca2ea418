/- What holds behind code: rules that ask for no state by name. -/
import Derived.Test.YtjldgekmjnkofaaE25
set_option linter.unusedVariables false
set_option linter.unusedSimpArgs false
namespace Go.Eng
open Go

section
variable (ft : FuncId → Option CF)

/-- Code comes to an end at which Ψ holds. -/
def WP (c : CC) (t : T) (σ : Sto) (Ψ : Out → T → Sto → Prop) : Prop := ∃ o t' σ', BS ft c t σ o t' σ' ∧ Ψ o t' σ'

/-- What is left of a region comes to its end. -/
def WO (ops : List CI) (pd : Pend) (t : T) (σ : Sto) (Ψ : T → Sto → Prop) : Prop := ∃ t' σ', PS ft ops pd t σ t' σ' ∧ Ψ t' σ'

/-- Rounds of a loop. -/
def WL (live : List Pos) (b : CC) (t : T) (σ : Sto) (Ψ : Out → T → Sto → Prop) : Prop := ∃ o t' σ', BL ft live b t σ o t' σ' ∧ Ψ o t' σ'

variable {ft} {t : T} {σ : Sto} {Ψ : Out → T → Sto → Prop}

theorem WP.mono {c : CC} {Φ : Out → T → Sto → Prop} (h : WP ft c t σ Ψ) (hm : ∀ o t σ, Ψ o t σ → Φ o t σ) : WP ft c t σ Φ := by
  obtain ⟨o, t', σ', h1, h2⟩ := h
  exact ⟨o, t', σ', h1, hm _ _ _ h2⟩

theorem WL.mono {live : List Pos} {c : CC} {Φ : Out → T → Sto → Prop} (h : WL ft live c t σ Ψ) (hm : ∀ o t σ, Ψ o t σ → Φ o t σ) : WL ft live c t σ Φ := by
  obtain ⟨o, t', σ', h1, h2⟩ := h
  exact ⟨o, t', σ', h1, hm _ _ _ h2⟩

theorem WP.skip (h : Ψ .normal t σ) : WP ft .skip t σ Ψ := ⟨_, _, _, BS.skip, h⟩
theorem WP.exit {id : Nat} (h : Ψ (.exit id) t σ) : WP ft (.exit id) t σ Ψ := ⟨_, _, _, BS.exit, h⟩
theorem WP.ret (h : Ψ .ret t σ) : WP ft .ret t σ Ψ := ⟨_, _, _, BS.ret, h⟩

/-- What comes behind the first part of two. -/
def Behind (ft : FuncId → Option CF) (b : CC) (Ψ : Out → T → Sto → Prop) (o : Out) (t : T) (σ : Sto) : Prop :=
  match o with
  | .normal => WP ft b t σ Ψ
  | o => Ψ o t σ

theorem WP.seq {a b : CC} (h : WP ft a t σ (Behind ft b Ψ)) : WP ft (.seq a b) t σ Ψ := by
  obtain ⟨o, t', σ', h1, h2⟩ := h
  cases o with
  | normal =>
    obtain ⟨o2, t2, σ2, h3, h4⟩ := h2
    exact ⟨o2, t2, σ2, BS.seq h1 h3, h4⟩
  | exit j => exact ⟨_, t', σ', BS.seqOut h1 (fun h => by cases h), h2⟩
  | ret => exact ⟨_, t', σ', BS.seqOut h1 (fun h => by cases h), h2⟩
  | pan v => exact ⟨_, t', σ', BS.seqOut h1 (fun h => by cases h), h2⟩

theorem WP.condT {c : Opd} {a b : CC} (hc : ev t c = some (.bool true)) (h : WP ft a t σ Ψ) : WP ft (.cond c a b) t σ Ψ := by
  obtain ⟨o, t', σ', h1, h2⟩ := h
  exact ⟨o, t', σ', BS.condT hc h1, h2⟩

theorem WP.condF {c : Opd} {a b : CC} (hc : ev t c = some (.bool false)) (h : WP ft b t σ Ψ) : WP ft (.cond c a b) t σ Ψ := by
  obtain ⟨o, t', σ', h1, h2⟩ := h
  exact ⟨o, t', σ', BS.condF hc h1, h2⟩

theorem WP.cond {c : Opd} {a b : CC} {x : Bool} (hc : ev t c = some (.bool x)) (h1 : x = true → WP ft a t σ Ψ) (h2 : x = false → WP ft b t σ Ψ) : WP ft (.cond c a b) t σ Ψ := by
  cases x with
  | true => exact WP.condT hc (h1 rfl)
  | false => exact WP.condF hc (h2 rfl)

def OutOf (id : Nat) (Ψ : Out → T → Sto → Prop) (o : Out) (t : T) (σ : Sto) : Prop :=
  match o with
  | .exit j => if j = id then Ψ .normal t σ else Ψ (.exit j) t σ
  | o => Ψ o t σ

theorem WP.block {id : Nat} {b : CC} (h : WP ft b t σ (OutOf id Ψ)) : WP ft (.block id b) t σ Ψ := by
  obtain ⟨o, t', σ', h1, h2⟩ := h
  refine ⟨_, t', σ', BS.block h1, ?_⟩
  cases o with
  | exit j =>
    unfold OutOf at h2
    dsimp only at h2 ⊢
    split
    · rename_i e; rw [if_pos e] at h2; exact h2
    · rename_i e; rw [if_neg e] at h2; exact h2
  | _ => exact h2

theorem WP.loop {live : List Pos} {b : CC} (h : WL ft live b t σ Ψ) : WP ft (.loop live b) t σ Ψ := by
  obtain ⟨o, t', σ', h1, h2⟩ := h
  exact ⟨o, t', σ', BS.loop h1, h2⟩

/-- What comes behind a round. -/
def Round (ft : FuncId → Option CF) (live : List Pos) (b : CC) (Ψ : Out → T → Sto → Prop) (o : Out) (t : T) (σ : Sto) : Prop :=
  match o with
  | .normal => WL ft live b t σ Ψ
  | o => Ψ o t σ

theorem WL.round {live : List Pos} {b : CC} {t0 : T} (hk : keep t live = t0) (h : WP ft b t0 σ (Round ft live b Ψ)) : WL ft live b t σ Ψ := by
  obtain ⟨o, t', σ', h1, h2⟩ := h
  cases o with
  | normal =>
    obtain ⟨o2, t2, σ2, h3, h4⟩ := h2
    exact ⟨o2, t2, σ2, BL.step' hk h1 h3, h4⟩
  | exit j => exact ⟨_, t', σ', BL.out' hk h1 (fun h => by cases h), h2⟩
  | ret => exact ⟨_, t', σ', BL.out' hk h1 (fun h => by cases h), h2⟩
  | pan v => exact ⟨_, t', σ', BL.out' hk h1 (fun h => by cases h), h2⟩

/-! ## Regions -/

theorem WP.reg1 {d : Bool} {ops : List CI} {t' : T} {σ' : Sto} (h : ∀ (cl : Cl) (k : K), evOps cl ops [] t σ k = k .normal t' σ') (hΨ : Ψ .normal t' σ') : WP ft (.reg d ops) t σ Ψ := ⟨_, _, _, BS.reg1 h, hΨ⟩

theorem WP.reg {d : Bool} {ops : List CI} (h : WO ft ops [] t σ (Ψ .normal)) : WP ft (.reg d ops) t σ Ψ := by
  obtain ⟨t', σ', h1, h2⟩ := h
  exact ⟨_, t', σ', BS.of h1, h2⟩

variable {Φ : T → Sto → Prop} {pd : Pend}

theorem WO.done {ops : List CI} {t' : T} {σ' : Sto} (h : ∀ (cl : Cl) (k : K), evOps cl ops pd t σ k = k .normal t' σ') (hΦ : Φ t' σ') : WO ft ops pd t σ Φ := ⟨_, _, PS.done h, hΦ⟩

theorem WO.pre {ops : List CI} (n : Nat) {pd1 : Pend} {t1 : T} {σ1 : Sto} (h : ∀ (cl : Cl) (k : K), evOps cl ops pd t σ k = evOps cl (ops.drop n) pd1 t1 σ1 k) (h2 : WO ft (ops.drop n) pd1 t1 σ1 Φ) : WO ft ops pd t σ Φ := by
  obtain ⟨t', σ', h3, h4⟩ := h2
  exact ⟨t', σ', PS.pre n h h3, h4⟩

theorem WO.callP {d : Option Pos} {g : Option (Pos × Bool)} {f : FuncId} {xs : List Opd} {rest : List CI} {vs : List V} {v : V} (hg : guardOf t g = some true) (hv : evs t xs = some vs) (h : Pure ft f vs v)
    (h2 : WO ft rest pd (setD t d v) σ Φ) : WO ft (⟨d, g, .callP f xs, 0⟩ :: rest) pd t σ Φ := by
  obtain ⟨t', σ', h3, h4⟩ := h2
  exact ⟨t', σ', PS.callP hg hv h h3, h4⟩

theorem WO.callF {d : Option Pos} {g : Option (Pos × Bool)} {f : FuncId} {xs : List Opd} {rest : List CI} {pd1 : Pend} {σ1 : Sto} {vs : List V} {v : V} (hg : guardOf t g = some true) (hv : evs t xs = some vs) (h : Big ft f vs σ v σ1)
    (hp : Pend.pass σ1 pd = some pd1) (h2 : WO ft rest pd1 (setD t d v) σ1 Φ) : WO ft (⟨d, g, .callF f xs, 0⟩ :: rest) pd t σ Φ := by
  obtain ⟨t', σ', h3, h4⟩ := h2
  exact ⟨t', σ', PS.callF hg hv h hp h3, h4⟩

theorem WO.callV {d : Option Pos} {g : Option (Pos × Bool)} {x : Opd} {f : FuncId} {caps : List V} {xs : List Opd} {rest : List CI} {pd1 : Pend} {σ1 : Sto} {vs : List V} {v : V} (hg : guardOf t g = some true) (hf : ev t x = some (.func f caps)) (hv : evs t xs = some vs)
    (hpu : (V.pures (vs ++ caps)).isSome = false) (h : Big ft f (vs ++ caps) σ v σ1) (hp : Pend.pass σ1 pd = some pd1) (h2 : WO ft rest pd1 (setD t d v) σ1 Φ) : WO ft (⟨d, g, .callV x xs, 0⟩ :: rest) pd t σ Φ := by
  obtain ⟨t', σ', h3, h4⟩ := h2
  exact ⟨t', σ', PS.callV hg hf hv hpu h hp h3, h4⟩

theorem WO.callVP {d : Option Pos} {g : Option (Pos × Bool)} {x : Opd} {f : FuncId} {caps : List V} {xs : List Opd} {rest : List CI} {pd1 : Pend} {vs : List V} {v : V} (hg : guardOf t g = some true) (hf : ev t x = some (.func f caps)) (hv : evs t xs = some vs)
    (hpu : (V.pures (vs ++ caps)).isSome = true) (h : Pure ft f (vs ++ caps) v) (hp : Pend.pass σ pd = some pd1) (h2 : WO ft rest pd1 (setD t d v) σ Φ) : WO ft (⟨d, g, .callV x xs, 0⟩ :: rest) pd t σ Φ := by
  obtain ⟨t', σ', h3, h4⟩ := h2
  exact ⟨t', σ', PS.callVP hg hf hv hpu h hp h3, h4⟩

/-- A function value called on arguments comes to a value, and the store stays. -/
def FnAt (ft : FuncId → Option CF) (f : FuncId) (vs : List V) (σ : Sto) (v : V) : Prop := ((V.pures vs).isSome = true ∧ Pure ft f vs v) ∨ ((V.pures vs).isSome = false ∧ Big ft f vs σ v σ)

theorem WO.callFn {d : Option Pos} {g : Option (Pos × Bool)} {x : Opd} {f : FuncId} {caps : List V} {xs : List Opd} {rest : List CI} {pd1 : Pend} {vs : List V} {v : V} (hg : guardOf t g = some true) (hf : ev t x = some (.func f caps)) (hv : evs t xs = some vs)
    (h : FnAt ft f (vs ++ caps) σ v) (hp : Pend.pass σ pd = some pd1) (h2 : WO ft rest pd1 (setD t d v) σ Φ) : WO ft (⟨d, g, .callV x xs, 0⟩ :: rest) pd t σ Φ := by
  rcases h with ⟨h1, h⟩ | ⟨h1, h⟩
  · exact WO.callVP hg hf hv h1 h hp h2
  · exact WO.callV hg hf hv h1 h hp h2

theorem WO.val {i : CI} {rest : List CI} {pd1 : Pend} {σ1 : Sto} {v : V} (hg : guardOf t i.g = some true) (ho : ∀ cl, evOp cl t σ i.op = some (.val v, σ1)) (hp : pendOf t σ σ1 i pd = some pd1)
    (h2 : WO ft rest pd1 (setD t i.dst v) σ1 Φ) : WO ft (i :: rest) pd t σ Φ := by
  obtain ⟨t', σ', h3, h4⟩ := h2
  exact ⟨t', σ', PS.val hg ho hp h3, h4⟩

/-! ## Operations that call nothing, reckoned out -/

def noCl : Cl := fun _ _ _ => none

def adv : Nat → List CI → Pend → T → Sto → Option (List CI × Pend × T × Sto)
  | 0, ops, pd, t, σ => some (ops, pd, t, σ)
  | _ + 1, [], _, _, _ => none
  | n + 1, i :: rest, pd, t, σ => match guardOf t i.g with
    | none => none
    | some false => adv n rest pd (setD t i.dst .undef) σ
    | some true => match evOp noCl t σ i.op with
      | none => none
      | some (.pan _, _) => none
      | some (r, σ') => match pendOf t σ σ' i pd with
        | none => none
        | some pd' => adv n rest pd' (nextT t i.dst r) σ'

theorem adv_ev (cl : Cl) (k : K) : ∀ (n : Nat) (ops : List CI) (pd : Pend) (t : T) (σ : Sto) (ops' : List CI) (pd' : Pend) (t' : T) (σ' : Sto), adv n ops pd t σ = some (ops', pd', t', σ') → evOps cl ops pd t σ k = evOps cl ops' pd' t' σ' k
  | 0, ops, pd, t, σ, _, _, _, _, h => by cases h; rfl
  | n + 1, [], pd, t, σ, _, _, _, _, h => by cases h
  | n + 1, i :: rest, pd, t, σ, ops', pd', t', σ', h => by
    unfold adv at h
    rw [evOps]
    cases hg : guardOf t i.g with
    | none => rw [hg] at h; cases h
    | some x =>
      rw [hg] at h
      cases x with
      | false => exact adv_ev cl k n rest pd _ σ ops' pd' t' σ' h
      | true =>
        dsimp only at h ⊢
        cases ho : evOp noCl t σ i.op with
        | none => rw [ho] at h; cases h
        | some q =>
          rw [ho] at h
          rw [evOp_mono (fun f vs σ r h => by cases h) ho]
          obtain ⟨r, σ1⟩ := q
          cases r with
          | pan v => cases h
          | _ =>
            dsimp only at h ⊢
            cases hp : pendOf t σ σ1 i pd with
            | none => rw [hp] at h; cases h
            | some pd1 =>
              rw [hp] at h
              exact adv_ev cl k n rest pd1 _ σ1 ops' pd' t' σ' h

theorem WO.adv (n : Nat) {ops ops' : List CI} {pd1 : Pend} {t1 : T} {σ1 : Sto} (h : adv n ops pd t σ = some (ops', pd1, t1, σ1)) (h2 : WO ft ops' pd1 t1 σ1 Φ) : WO ft ops pd t σ Φ := by
  obtain ⟨t', σ', ⟨N, h3⟩, h4⟩ := h2
  exact ⟨t', σ', ⟨N, fun m hm k => (adv_ev _ k n ops pd t σ ops' pd1 t1 σ1 h).trans (h3 m hm k)⟩, h4⟩

theorem WO.nil (h : Φ t σ) : WO ft [] pd t σ Φ := ⟨t, σ, ⟨0, fun _ _ _ => rfl⟩, h⟩

theorem WO.fin (n : Nat) {ops : List CI} {pd1 : Pend} {t1 : T} {σ1 : Sto} (h : Eng.adv n ops pd t σ = some ([], pd1, t1, σ1)) (h2 : Φ t1 σ1) : WO ft ops pd t σ Φ := WO.adv n h (WO.nil h2)

theorem WP.fin (n : Nat) {d : Bool} {ops : List CI} {pd1 : Pend} {t1 : T} {σ1 : Sto} (h : Eng.adv n ops [] t σ = some ([], pd1, t1, σ1)) (h2 : Ψ .normal t1 σ1) : WP ft (.reg d ops) t σ Ψ := WP.reg (WO.fin n h h2)

/-- A function's body: what it gives. -/
theorem Big.wp {f : FuncId} {cf : CF} {vs : List V} {v : V} {σ' : Sto} (hf : ft f = some cf) (hn : vs.length = cf.n)
    (h : WP ft cf.body (initT 0 vs) σ fun o t1 σ1 => (o = .normal ∨ o = .ret) ∧ (∃ rs, resVs t1 σ1 cf.res = some rs ∧ tupled rs = v) ∧ σ1 = σ') : Big ft f vs σ v σ' := by
  obtain ⟨o, t1, σ1, h1, h2, ⟨rs, h3, rfl⟩, rfl⟩ := h
  exact Big.of hf hn h1 h2 h3

end

end Go.Eng
