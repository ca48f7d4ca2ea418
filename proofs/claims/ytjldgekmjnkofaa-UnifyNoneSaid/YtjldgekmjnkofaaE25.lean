/- What code comes to, whatever the fuel, if there is enough: rules to show it by. -/
import Derived.Test.YtjldgekmjnkofaaE24
set_option linter.unusedVariables false
set_option linter.unusedSimpArgs false
namespace Go.Eng
open Go

mutual
/-- A value that hangs on no store is as it is. -/
theorem snap_pure (σ : Sto) : ∀ (v v' : V), v.pure = some v' → v.snap σ = some v'
  | .undef, _, h => by simp only [V.snap]; exact h
  | .bool _, _, h => by simp only [V.snap]; exact h
  | .int _ _, _, h => by simp only [V.snap]; exact h
  | .str _, _, h => by simp only [V.snap]; exact h
  | .nptr, _, h => by simp only [V.snap]; exact h
  | .ptr _ _, _, h => by simp only [V.snap]; exact h
  | .vp _, _, h => by simp only [V.snap]; exact h
  | .nsl, _, h => by simp only [V.snap]; exact h
  | .sl _ _, _, h => by simp only [V.snap]; exact h
  | .msl _ _ _ _, _, h => by simp only [V.pure] at h; cases h
  | .nmap, _, h => by simp only [V.snap]; exact h
  | .map _, _, h => by simp only [V.snap]; exact h
  | .nfunc, _, h => by simp only [V.snap]; exact h
  | .func _ _, _, h => by simp only [V.snap]; exact h
  | .niface, _, h => by simp only [V.snap]; exact h
  | .iface t v, v', h => by
    simp only [V.pure] at h
    simp only [V.snap]
    obtain ⟨u, h1, rfl⟩ := Option.map_eq_some_iff.1 h
    rw [snap_pure σ v u h1]; rfl
  | .agg cs, v', h => by
    simp only [V.pure] at h
    simp only [V.snap]
    obtain ⟨u, h1, rfl⟩ := Option.map_eq_some_iff.1 h
    rw [snaps_pure σ cs u h1]; rfl
  | .tup cs, v', h => by
    simp only [V.pure] at h
    simp only [V.snap]
    obtain ⟨u, h1, rfl⟩ := Option.map_eq_some_iff.1 h
    rw [snaps_pure σ cs u h1]; rfl
theorem snaps_pure (σ : Sto) : ∀ (l l' : List V), V.pures l = some l' → V.snaps σ l = some l'
  | [], _, h => by simp only [V.pures] at h; simp only [V.snaps]; exact h
  | v :: l, l', h => by
    simp only [V.pures] at h
    simp only [V.snaps]
    split at h
    · rename_i v1 l1 e1 e2
      rw [snap_pure σ v v1 e1, snaps_pure σ l l1 e2]
      exact h
    · cases h
end

section
variable (ft : FuncId → Option CF)

/-- Code comes to an outcome, with fuel enough, whatever stands behind it. -/
def BS (c : CC) (t : T) (σ : Sto) (o : Out) (t' : T) (σ' : Sto) : Prop := ∃ n, ∀ m, n ≤ m → ∀ k : K, run (evalF ft m) m c t σ k = k o t' σ'

/-- A region comes to its end. -/
def RS (ops : List CI) (t : T) (σ : Sto) (t' : T) (σ' : Sto) : Prop := ∃ n, ∀ m, n ≤ m → ∀ k : K, evOps (evalF ft m) ops [] t σ k = k .normal t' σ'

def BL (live : List Pos) (b : CC) (t : T) (σ : Sto) (o : Out) (t' : T) (σ' : Sto) : Prop := ∃ n, ∀ m i, n ≤ m → n ≤ i → ∀ k : K, iter i live (run (evalF ft m) m b) t σ k = k o t' σ'

/-- A call comes to a value. -/
def Big (f : FuncId) (vs : List V) (σ : Sto) (v : V) (σ' : Sto) : Prop := ∃ n, ∀ m, n ≤ m → evalF ft m f vs σ = some (.ret v, σ')

/-- A call by itself comes to a value. -/
def Pure (f : FuncId) (vs : List V) (v : V) : Prop := ∃ n, ∀ m, n ≤ m → callPure (evalF ft m) f vs = some v

variable {ft}

theorem BS.skip {t : T} {σ : Sto} : BS ft .skip t σ .normal t σ := ⟨0, fun _ _ _ => rfl⟩
theorem BS.exit {id : Nat} {t : T} {σ : Sto} : BS ft (.exit id) t σ (.exit id) t σ := ⟨0, fun _ _ _ => rfl⟩
theorem BS.ret {t : T} {σ : Sto} : BS ft .ret t σ .ret t σ := ⟨0, fun _ _ _ => rfl⟩

theorem BS.reg {d : Bool} {ops : List CI} {t t' : T} {σ σ' : Sto} (h : RS ft ops t σ t' σ') : BS ft (.reg d ops) t σ .normal t' σ' := by
  obtain ⟨n, h⟩ := h
  refine ⟨n, fun m hm k => ?_⟩
  simp only [run]
  rw [h m hm]

theorem BS.seq {a b : CC} {t t1 t2 : T} {σ σ1 σ2 : Sto} {o : Out} (h1 : BS ft a t σ .normal t1 σ1) (h2 : BS ft b t1 σ1 o t2 σ2) : BS ft (.seq a b) t σ o t2 σ2 := by
  obtain ⟨n1, h1⟩ := h1
  obtain ⟨n2, h2⟩ := h2
  refine ⟨max n1 n2, fun m hm k => ?_⟩
  simp only [run]
  rw [h1 m (by omega)]
  exact h2 m (by omega) k

theorem BS.seqOut {a b : CC} {t t1 : T} {σ σ1 : Sto} {o : Out} (h1 : BS ft a t σ o t1 σ1) (ho : o ≠ .normal) : BS ft (.seq a b) t σ o t1 σ1 := by
  obtain ⟨n1, h1⟩ := h1
  refine ⟨n1, fun m hm k => ?_⟩
  simp only [run]
  rw [h1 m hm]
  cases o <;> first | rfl | exact absurd rfl ho

theorem BS.cond {c : Opd} {a b : CC} {t t1 : T} {σ σ1 : Sto} {o : Out} {x : Bool} (hc : ev t c = some (.bool x)) (h : BS ft (if x then a else b) t σ o t1 σ1) : BS ft (.cond c a b) t σ o t1 σ1 := by
  obtain ⟨n, h⟩ := h
  refine ⟨n, fun m hm k => ?_⟩
  simp only [run, hc]
  cases x
  · exact h m hm k
  · exact h m hm k

theorem BS.condT {c : Opd} {a b : CC} {t t1 : T} {σ σ1 : Sto} {o : Out} (hc : ev t c = some (.bool true)) (h : BS ft a t σ o t1 σ1) : BS ft (.cond c a b) t σ o t1 σ1 := BS.cond (x := true) hc h
theorem BS.condF {c : Opd} {a b : CC} {t t1 : T} {σ σ1 : Sto} {o : Out} (hc : ev t c = some (.bool false)) (h : BS ft b t σ o t1 σ1) : BS ft (.cond c a b) t σ o t1 σ1 := BS.cond (x := false) hc h

theorem BS.block {id : Nat} {b : CC} {t t1 : T} {σ σ1 : Sto} {o : Out} (h : BS ft b t σ o t1 σ1) : BS ft (.block id b) t σ (match o with | .exit j => if j = id then .normal else .exit j | o => o) t1 σ1 := by
  obtain ⟨n, h⟩ := h
  refine ⟨n, fun m hm k => ?_⟩
  simp only [run]
  rw [h m hm]
  cases o with
  | exit j => dsimp only; split <;> rfl
  | _ => rfl

theorem BS.loop {live : List Pos} {b : CC} {t t1 : T} {σ σ1 : Sto} {o : Out} (h : BL ft live b t σ o t1 σ1) : BS ft (.loop live b) t σ o t1 σ1 := by
  obtain ⟨n, h⟩ := h
  exact ⟨n, fun m hm k => by simp only [run]; exact h m m hm hm k⟩

theorem BL.step {live : List Pos} {b : CC} {t t1 t2 : T} {σ σ1 σ2 : Sto} {o : Out} (h1 : BS ft b (keep t live) σ .normal t1 σ1) (h2 : BL ft live b t1 σ1 o t2 σ2) : BL ft live b t σ o t2 σ2 := by
  obtain ⟨n1, h1⟩ := h1
  obtain ⟨n2, h2⟩ := h2
  refine ⟨max n1 n2 + 1, fun m i hm hi k => ?_⟩
  obtain ⟨i, rfl⟩ : ∃ j, i = j + 1 := ⟨i - 1, by omega⟩
  simp only [iter]
  rw [h1 m (by omega)]
  exact h2 m i (by omega) (by omega) k

theorem BL.out {live : List Pos} {b : CC} {t t1 : T} {σ σ1 : Sto} {o : Out} (h1 : BS ft b (keep t live) σ o t1 σ1) (ho : o ≠ .normal) : BL ft live b t σ o t1 σ1 := by
  obtain ⟨n1, h1⟩ := h1
  refine ⟨n1 + 1, fun m i hm hi k => ?_⟩
  obtain ⟨i, rfl⟩ : ∃ j, i = j + 1 := ⟨i - 1, by omega⟩
  simp only [iter]
  rw [h1 m (by omega)]
  cases o <;> first | rfl | exact absurd rfl ho

theorem BL.step' {live : List Pos} {b : CC} {t t0 t1 t2 : T} {σ σ1 σ2 : Sto} {o : Out} (hk : keep t live = t0) (h1 : BS ft b t0 σ .normal t1 σ1) (h2 : BL ft live b t1 σ1 o t2 σ2) : BL ft live b t σ o t2 σ2 := by
  subst hk; exact BL.step h1 h2

theorem BL.out' {live : List Pos} {b : CC} {t t0 t1 : T} {σ σ1 : Sto} {o : Out} (hk : keep t live = t0) (h1 : BS ft b t0 σ o t1 σ1) (ho : o ≠ .normal) : BL ft live b t σ o t1 σ1 := by
  subst hk; exact BL.out h1 ho

theorem BS.reg1 {d : Bool} {ops : List CI} {t t' : T} {σ σ' : Sto} (h : ∀ (cl : Cl) (k : K), evOps cl ops [] t σ k = k .normal t' σ') : BS ft (.reg d ops) t σ .normal t' σ' := BS.reg ⟨0, fun _ _ k => h _ k⟩

theorem Big.of {f : FuncId} {cf : CF} {vs rs : List V} {σ σ' : Sto} {o : Out} {t' : T} (hf : ft f = some cf) (hn : vs.length = cf.n) (h : BS ft cf.body (initT 0 vs) σ o t' σ') (ho : o = .normal ∨ o = .ret) (hr : resVs t' σ' cf.res = some rs) :
    Big ft f vs σ (tupled rs) σ' := by
  obtain ⟨n, h⟩ := h
  refine ⟨n + 1, fun m hm => ?_⟩
  obtain ⟨m, rfl⟩ : ∃ j, m = j + 1 := ⟨m - 1, by omega⟩
  simp only [evalF, hf, hn, if_true]
  rw [h m (by omega)]
  rcases ho with rfl | rfl <;> simp only [finish, hr, Option.map_some]

theorem Pure.of {f : FuncId} {vs vs' : List V} {v v' : V} {σ' : Sto} (hp : V.pures vs = some vs') (h : Big ft f vs' .empty v σ') (hv : v.pure = some v') : Pure ft f vs v' := by
  obtain ⟨n, h⟩ := h
  refine ⟨n, fun m hm => ?_⟩
  unfold callPure
  simp only [hp, h m hm, snap_pure σ' v v' hv]

/-! ## Regions, a piece at a time -/

/-- What is left of a region comes to its end. -/
def PS (ft : FuncId → Option CF) (ops : List CI) (pd : Pend) (t : T) (σ : Sto) (t' : T) (σ' : Sto) : Prop := ∃ n, ∀ m, n ≤ m → ∀ k : K, evOps (evalF ft m) ops pd t σ k = k .normal t' σ'

theorem BS.of {d : Bool} {ops : List CI} {t t' : T} {σ σ' : Sto} (h : PS ft ops [] t σ t' σ') : BS ft (.reg d ops) t σ .normal t' σ' := BS.reg h

theorem PS.done {ops : List CI} {pd : Pend} {t t' : T} {σ σ' : Sto} (h : ∀ (cl : Cl) (k : K), evOps cl ops pd t σ k = k .normal t' σ') : PS ft ops pd t σ t' σ' := ⟨0, fun _ _ k => h _ k⟩

theorem PS.pre {ops : List CI} (n : Nat) {pd pd1 : Pend} {t t1 t' : T} {σ σ1 σ' : Sto} (h : ∀ (cl : Cl) (k : K), evOps cl ops pd t σ k = evOps cl (ops.drop n) pd1 t1 σ1 k) (h2 : PS ft (ops.drop n) pd1 t1 σ1 t' σ') : PS ft ops pd t σ t' σ' := by
  obtain ⟨N, h2⟩ := h2
  exact ⟨N, fun m hm k => (h _ k).trans (h2 m hm k)⟩

theorem PS.callP {d : Option Pos} {g : Option (Pos × Bool)} {f : FuncId} {xs : List Opd} {rest : List CI} {pd : Pend} {t t' : T} {σ σ' : Sto} {vs : List V} {v : V} (hg : guardOf t g = some true) (hv : evs t xs = some vs) (h : Pure ft f vs v)
    (h2 : PS ft rest pd (setD t d v) σ t' σ') : PS ft (⟨d, g, .callP f xs, 0⟩ :: rest) pd t σ t' σ' := by
  obtain ⟨n1, h⟩ := h
  obtain ⟨n2, h2⟩ := h2
  refine ⟨max n1 n2, fun m hm k => ?_⟩
  simp only [evOps, hg, evOp, hv, Option.bind_some, h m (by omega), pureR, pendOf, CI.late, CO.eff, Pend.note, Bool.false_eq_true, if_false, nextT]
  exact h2 m (by omega) k

theorem PS.callF {d : Option Pos} {g : Option (Pos × Bool)} {f : FuncId} {xs : List Opd} {rest : List CI} {pd pd1 : Pend} {t t' : T} {σ σ1 σ' : Sto} {vs : List V} {v : V} (hg : guardOf t g = some true) (hv : evs t xs = some vs) (h : Big ft f vs σ v σ1)
    (hp : Pend.pass σ1 pd = some pd1) (h2 : PS ft rest pd1 (setD t d v) σ1 t' σ') : PS ft (⟨d, g, .callF f xs, 0⟩ :: rest) pd t σ t' σ' := by
  obtain ⟨n1, h⟩ := h
  obtain ⟨n2, h2⟩ := h2
  refine ⟨max n1 n2, fun m hm k => ?_⟩
  simp only [evOps, hg, evOp, hv, Option.bind_some, h m (by omega), callR, pendOf, CI.late, CO.eff, Bool.false_eq_true, if_false, if_true, hp, nextT]
  exact h2 m (by omega) k

theorem PS.callVP {d : Option Pos} {g : Option (Pos × Bool)} {x : Opd} {f : FuncId} {caps : List V} {xs : List Opd} {rest : List CI} {pd pd1 : Pend} {t t' : T} {σ σ' : Sto} {vs : List V} {v : V} (hg : guardOf t g = some true) (hf : ev t x = some (.func f caps)) (hv : evs t xs = some vs)
    (hpu : (V.pures (vs ++ caps)).isSome = true) (h : Pure ft f (vs ++ caps) v) (hp : Pend.pass σ pd = some pd1) (h2 : PS ft rest pd1 (setD t d v) σ t' σ') : PS ft (⟨d, g, .callV x xs, 0⟩ :: rest) pd t σ t' σ' := by
  obtain ⟨n1, h⟩ := h
  obtain ⟨n2, h2⟩ := h2
  refine ⟨max n1 n2, fun m hm k => ?_⟩
  simp only [evOps, hg, evOp, hf, hv, Option.bind_some, hpu, if_true, h m (by omega), pureR, pendOf, CI.late, CO.eff, Bool.false_eq_true, if_false, if_true, hp, nextT]
  exact h2 m (by omega) k

theorem PS.callV {d : Option Pos} {g : Option (Pos × Bool)} {x : Opd} {f : FuncId} {caps : List V} {xs : List Opd} {rest : List CI} {pd pd1 : Pend} {t t' : T} {σ σ1 σ' : Sto} {vs : List V} {v : V} (hg : guardOf t g = some true) (hf : ev t x = some (.func f caps)) (hv : evs t xs = some vs)
    (hpu : (V.pures (vs ++ caps)).isSome = false) (h : Big ft f (vs ++ caps) σ v σ1) (hp : Pend.pass σ1 pd = some pd1) (h2 : PS ft rest pd1 (setD t d v) σ1 t' σ') : PS ft (⟨d, g, .callV x xs, 0⟩ :: rest) pd t σ t' σ' := by
  obtain ⟨n1, h⟩ := h
  obtain ⟨n2, h2⟩ := h2
  refine ⟨max n1 n2, fun m hm k => ?_⟩
  simp only [evOps, hg, evOp, hf, hv, Option.bind_some, hpu, Bool.false_eq_true, if_false, h m (by omega), callR, pendOf, CI.late, CO.eff, Bool.false_eq_true, if_false, if_true, hp, nextT]
  exact h2 m (by omega) k

/-- One operation that gives a value, whatever the calls give. -/
theorem PS.val {i : CI} {rest : List CI} {pd pd1 : Pend} {t t' : T} {σ σ1 σ' : Sto} {v : V} (hg : guardOf t i.g = some true) (ho : ∀ cl, evOp cl t σ i.op = some (.val v, σ1)) (hp : pendOf t σ σ1 i pd = some pd1)
    (h2 : PS ft rest pd1 (setD t i.dst v) σ1 t' σ') : PS ft (i :: rest) pd t σ t' σ' := by
  obtain ⟨n2, h2⟩ := h2
  refine ⟨n2, fun m hm k => ?_⟩
  simp only [evOps, hg, ho, hp, Option.bind_some, nextT]
  exact h2 m hm k

/-! ## More fuel -/

def ClLt (a b : Cl) : Prop := ∀ f vs σ r, a f vs σ = some r → b f vs σ = some r

theorem callPure_mono {a b : Cl} (h : ClLt a b) {f : FuncId} {vs : List V} {v : V} (hc : callPure a f vs = some v) : callPure b f vs = some v := by
  unfold callPure at hc ⊢
  split at hc
  · cases hc
  · rename_i vs' hvs
    split at hc
    · rename_i v0 σ' hcall
      rw [h _ _ _ _ hcall]
      exact hc
    · cases hc

theorem callR_mono {a b : Cl} (h : ClLt a b) {f : FuncId} {vs : List V} {σ : Sto} {r : OR × Sto} (hc : callR (a f vs σ) = some r) : callR (b f vs σ) = some r := by
  cases ha : a f vs σ with
  | none => rw [ha] at hc; cases hc
  | some q => rw [ha] at hc; rw [h _ _ _ _ ha]; exact hc

theorem evOp_mono {a b : Cl} (h : ClLt a b) {t : T} {σ : Sto} {o : CO} {r : OR × Sto} (he : evOp a t σ o = some r) : evOp b t σ o = some r := by
  cases o <;> try exact he
  case callF f args =>
    simp only [evOp] at he ⊢
    cases hv : evs t args with
    | none => rw [hv] at he; cases he
    | some vs => rw [hv] at he; exact callR_mono h he
  case callV f args =>
    simp only [evOp] at he ⊢
    cases hf : ev t f with
    | none => rw [hf] at he; cases he
    | some x =>
      rw [hf] at he
      cases hv : evs t args with
      | none => rw [hv] at he; cases he
      | some vs =>
        rw [hv] at he
        simp only [Option.bind_some] at he ⊢
        split at he
        · split at he
          · rename_i hp
            rw [if_pos hp]
            rename_i f' caps
            cases hc : callPure a f' (vs ++ caps) with
            | none => rw [hc] at he; cases he
            | some v => rw [hc] at he; rw [callPure_mono h hc]; exact he
          · rename_i hp
            rw [if_neg hp]
            exact callR_mono h he
        · cases he
  case callP f args =>
    simp only [evOp] at he ⊢
    cases hv : evs t args with
    | none => rw [hv] at he; cases he
    | some vs =>
      rw [hv] at he
      simp only [Option.bind_some] at he ⊢
      cases hc : callPure a f vs with
      | none => rw [hc] at he; cases he
      | some v => rw [hc] at he; rw [callPure_mono h hc]; exact he

def KLt (a b : K) : Prop := ∀ o t σ r, a o t σ = some r → b o t σ = some r

theorem evOps_mono {a b : Cl} (h : ClLt a b) {k k' : K} (hk : KLt k k') {r : Res × Sto} : ∀ (l : List CI) (pd : Pend) (t : T) (σ : Sto), evOps a l pd t σ k = some r → evOps b l pd t σ k' = some r
  | [], pd, t, σ, he => hk _ _ _ _ he
  | i :: l, pd, t, σ, he => by
    unfold evOps at he ⊢
    cases hg : guardOf t i.g with
    | none => rw [hg] at he; cases he
    | some x =>
      rw [hg] at he
      cases x with
      | false => exact evOps_mono h hk l pd _ σ he
      | true =>
        dsimp only at he ⊢
        cases ho : evOp a t σ i.op with
        | none => rw [ho] at he; cases he
        | some q =>
          rw [ho] at he
          rw [evOp_mono h ho]
          obtain ⟨r', σ'⟩ := q
          cases r' with
          | pan v => exact hk _ _ _ _ he
          | _ =>
            dsimp only at he ⊢
            cases hp : pendOf t σ σ' i pd with
            | none => rw [hp] at he; cases he
            | some pd' => rw [hp] at he; exact evOps_mono h hk l pd' _ σ' he

theorem run_mono {a b : Cl} (h : ClLt a b) : ∀ (c : CC) (m m' : Nat) (_ : m ≤ m') (t : T) (σ : Sto) (k k' : K), KLt k k' → ∀ r, run a m c t σ k = some r → run b m' c t σ k' = some r := by
  intro c
  induction c with
  | skip => exact fun m m' _ t σ k k' hk r he => hk _ _ _ _ he
  | exit id => exact fun m m' _ t σ k k' hk r he => hk _ _ _ _ he
  | ret => exact fun m m' _ t σ k k' hk r he => hk _ _ _ _ he
  | reg d ops =>
    intro m m' _ t σ k k' hk r he
    simp only [run] at he ⊢
    refine evOps_mono h (fun o t' σ' r' ho => ?_) ops [] t σ he
    cases o <;> exact hk _ _ _ _ ho
  | seq x y ihx ihy =>
    intro m m' hm t σ k k' hk r he
    simp only [run] at he ⊢
    refine ihx m m' hm t σ _ _ (fun o t' σ' r' ho => ?_) r he
    cases o with
    | normal => exact ihy m m' hm t' σ' k k' hk r' ho
    | _ => exact hk _ _ _ _ ho
  | cond c x y ihx ihy =>
    intro m m' hm t σ k k' hk r he
    simp only [run] at he ⊢
    split at he
    · exact ihx m m' hm t σ k k' hk r he
    · exact ihy m m' hm t σ k k' hk r he
    · cases he
  | block id x ih =>
    intro m m' hm t σ k k' hk r he
    simp only [run] at he ⊢
    refine ih m m' hm t σ _ _ (fun o t' σ' r' ho => ?_) r he
    cases o with
    | exit j =>
      dsimp only at ho ⊢
      split at ho
      · rename_i hj; rw [if_pos hj]; exact hk _ _ _ _ ho
      · rename_i hj; rw [if_neg hj]; exact hk _ _ _ _ ho
    | _ => exact hk _ _ _ _ ho
  | loop live x ih =>
    intro m m' hm t σ k k' hk r he
    simp only [run] at he ⊢
    have key : ∀ i i', i ≤ i' → ∀ t σ r, iter i live (run a m x) t σ k = some r → iter i' live (run b m' x) t σ k' = some r := by
      intro i
      induction i with
      | zero => intro i' _ t σ r he; cases he
      | succ i ihi =>
        intro i' hi t σ r he
        obtain ⟨i', rfl⟩ : ∃ j, i' = j + 1 := ⟨i' - 1, by omega⟩
        simp only [iter] at he ⊢
        refine ih m m' hm _ σ _ _ (fun o t' σ' r' ho => ?_) r he
        cases o with
        | normal => exact ihi i' (by omega) t' σ' r' ho
        | _ => exact hk _ _ _ _ ho
    exact key m m' hm t σ r he

theorem KLt.refl (k : K) : KLt k k := fun _ _ _ _ h => h

theorem evalF_mono (ft : FuncId → Option CF) : ∀ n m, n ≤ m → ClLt (evalF ft n) (evalF ft m) := by
  intro n
  induction n with
  | zero => intro m _ f vs σ r h; cases h
  | succ n ih =>
    intro m hm f vs σ r h
    obtain ⟨m, rfl⟩ : ∃ j, m = j + 1 := ⟨m - 1, by omega⟩
    simp only [evalF] at h ⊢
    split at h
    · cases h
    · split at h
      · rename_i hl
        rw [if_pos hl]
        exact run_mono (ih m (by omega)) _ n m (by omega) _ _ _ _ (KLt.refl _) r h
      · cases h

/-- A call that was reckoned out. -/
theorem Pure.known {ft : FuncId → Option CF} (n : Nat) {f : FuncId} {vs : List V} {v : V} (h : callPure (evalF ft n) f vs = some v) : Pure ft f vs v := ⟨n, fun m hm => callPure_mono (evalF_mono ft n m hm) h⟩

theorem Big.known {ft : FuncId → Option CF} (n : Nat) {f : FuncId} {vs : List V} {σ σ' : Sto} {v : V} (h : evalF ft n f vs σ = some (.ret v, σ')) : Big ft f vs σ v σ' := ⟨n, fun m hm => evalF_mono ft n m hm f vs σ _ h⟩

end

end Go.Eng
