/- The interpreter in shapes says no more than the interpreter: proof. -/
import Derived.Test.YtjldgekmjnkofaaE27
set_option linter.unusedVariables false
set_option linter.unusedSimpArgs false
namespace Go.Eng
open Go

section
variable {t t' : T} {cl : Cl} {σ : Sto}

theorem pureR_some {v : V} : pureR σ (some v) = some (.val v, σ) := rfl

theorem shape_ok (h : TLe t t') (op : CO) : ShOk cl t' σ op (shape cl t σ op) := by
  cases op with
  | adr p =>
    simp only [shape]
    cases h1 : t.get p with
    | none => trivial
    | some v => exact ⟨rfl, by simp only [evOp, h p v h1, Option.isSome_some, if_true]⟩
  | mov x =>
    simp only [shape]
    cases h1 : ev t x with
    | none => trivial
    | some v => exact ⟨rfl, by simp only [evOp, h.ev h1, pureR_some]⟩
  | pick c a b =>
    simp only [shape]
    cases h1 : ev t c with
    | none => trivial
    | some v =>
      refine ⟨rfl, fun u hu => ?_⟩
      simp only [evOp, pickV, h.ev h1]
      unfold pickS at hu
      split at hu
      · rw [h.ev hu]; rfl
      · rw [h.ev hu]; rfl
      · cases hu
  | alR p zero => exact ⟨rfl, rfl⟩
  | boxR p x =>
    simp only [shape]
    cases h1 : ev t x with
    | none => trivial
    | some v =>
      refine ⟨rfl, fun c hc => ?_⟩
      unfold boxC at hc
      split at hc
      · rename_i ha
        cases hc
        simp only [evOp, h.ev h1, Option.bind_some, ha, if_true]
      · cases hc
  | ldR p off n =>
    simp only [shape]
    split
    · rename_i cs h1
      refine ⟨rfl, fun u hu => ?_⟩
      simp only [evOp, h p _ h1, hu, pureR_some]
    · trivial
  | stR p off n x =>
    simp only [shape]
    split
    · rename_i cs v h1 h2
      refine ⟨rfl, fun c hc => ?_⟩
      unfold stC at hc
      split at hc
      · rename_i ha
        cases hc
        simp only [evOp, h p _ h1, h.ev h2, stRV]
        rw [if_pos ha]; rfl
      · cases hc
    · trivial
  | al zero => exact ⟨rfl, rfl⟩
  | box n x =>
    simp only [shape]
    cases h1 : ev t x with
    | none => trivial
    | some v =>
      refine ⟨rfl, fun c hc => ?_⟩
      unfold boxN at hc
      split at hc
      · rename_i ha
        cases hc
        simp only [evOp, h.ev h1, Option.bind_some]
        rw [if_pos ha]
      · cases hc
  | ld n x =>
    simp only [shape]
    cases h1 : ev t x with
    | none => trivial
    | some v => exact ⟨rfl, fun u hu => by simp only [evOp, h.ev h1, Option.bind_some, hu, pureR_some], n, x, rfl, h.ev h1⟩
  | st n x y =>
    simp only [shape]
    split
    · rename_i a v h1 h2
      exact ⟨rfl, fun u hu => by simp only [evOp, h.ev h1, h.ev h2, Option.bind_some, hu], n, x, y, rfl, h.ev h1⟩
    · trivial
  | nilCheck x =>
    simp only [shape]
    cases h1 : ev t x with
    | none => trivial
    | some v => exact ⟨rfl, fun u hu => by simp only [evOp, h.ev h1, Option.bind_some, hu, pureR_some]⟩
  | fieldAddr off x =>
    simp only [shape]
    cases h1 : ev t x with
    | none => trivial
    | some v => exact ⟨rfl, fun u hu => by simp only [evOp, h.ev h1, Option.bind_some, hu, pureR_some]⟩
  | indexAddr size x i =>
    simp only [shape]
    split
    · rename_i a v h1 h2
      exact ⟨rfl, fun u hu => by simp only [evOp, h.ev h1, h.ev h2, Option.bind_some, hu, pureR_some]⟩
    · trivial
  | indexArr size len x i =>
    simp only [shape]
    split
    · rename_i a v h1 h2
      exact ⟨rfl, fun u hu => by simp only [evOp, h.ev h1, h.ev h2, Option.bind_some, hu, pureR_some]⟩
    · trivial
  | field off n x =>
    simp only [shape]
    cases h1 : ev t x with
    | none => trivial
    | some v => exact ⟨rfl, fun u hu => by simp only [evOp, h.ev h1, Option.bind_some, hu, pureR_some]⟩
  | index size len n x i =>
    simp only [shape]
    split
    · rename_i a v h1 h2
      exact ⟨rfl, fun u hu => by simp only [evOp, h.ev h1, h.ev h2, Option.bind_some, hu, pureR_some]⟩
    · trivial
  | indexS x i =>
    simp only [shape]
    split
    · rename_i a v h1 h2
      exact ⟨rfl, fun u hu => by simp only [evOp, h.ev h1, h.ev h2, Option.bind_some, hu, pureR_some]⟩
    · trivial
  | bin op kd x y =>
    simp only [shape]
    split
    · rename_i a v h1 h2
      exact ⟨rfl, fun u hu => by simp only [evOp, h.ev h1, h.ev h2, Option.bind_some, hu, pureR_some]⟩
    · trivial
  | not x =>
    simp only [shape]
    cases h1 : ev t x with
    | none => trivial
    | some v => exact ⟨rfl, fun u hu => by simp only [evOp, h.ev h1, Option.bind_some, hu, pureR_some]⟩
  | build zero parts =>
    simp only [shape]
    split
    · rename_i ps h1
      refine ⟨rfl, fun c hc => ?_⟩
      simp only [evOp, parts3_fill h h1 hc, Option.map_some, pureR_some]
    · trivial
  | buildSl size zero len parts mu =>
    simp only [shape]
    split
    · rename_i ps h1
      cases mu with
      | true =>
        refine ⟨rfl, fun c hc => ?_⟩
        simp only [evOp, parts2_fill h h1 hc, if_true]
      | false =>
        refine ⟨rfl, fun c hc => ?_⟩
        simp only [evOp, parts2_fill h h1 hc, Bool.false_eq_true, if_false]
    · trivial
  | mkFunc f caps =>
    simp only [shape]
    cases h1 : evs t caps with
    | none => trivial
    | some vs => exact ⟨rfl, by simp only [evOp, h.evs h1, Option.bind_some]⟩
  | mkIface d x =>
    simp only [shape]
    cases h1 : ev t x with
    | none => trivial
    | some v => exact ⟨rfl, by simp only [evOp, h.ev h1, Option.bind_some]⟩
  | mkMap => exact ⟨rfl, rfl⟩
  | mkSl size bytes zero len mu =>
    simp only [shape]
    split
    · rename_i n h1
      cases mu with
      | true =>
        refine ⟨rfl, fun v σ' hc => ?_⟩
        simp only [evOp, h.ev h1, Option.bind_some, hc]
      | false =>
        refine ⟨rfl, fun v hc => ?_⟩
        simp only [evOp, h.ev h1, Option.bind_some]
        unfold mkSlV at hc ⊢
        split at hc
        · rename_i j
          split at hc
          · rename_i hj
            rw [if_pos hj]
            simp only [Bool.false_eq_true, if_false, Option.map_some, Option.bind_some] at hc ⊢
            cases hc; rfl
          · cases hc
        · cases hc
    · trivial
  | mapUpd kk m k x =>
    simp only [shape]
    split
    · rename_i a b c h1 h2 h3
      exact ⟨rfl, fun u hu => by simp only [evOp, h.ev h1, h.ev h2, h.ev h3, Option.bind_some, hu]⟩
    · trivial
  | lookup kk zero m k ok =>
    simp only [shape]
    split
    · rename_i a b h1 h2
      exact ⟨rfl, fun u hu => by simp only [evOp, h.ev h1, h.ev h2, Option.bind_some, hu, pureR_some]⟩
    · trivial
  | len kd x =>
    simp only [shape]
    split
    · rename_i v h1
      cases kd <;> exact ⟨rfl, fun u hu => by simp only [evOp, h.ev h1, Option.bind_some, hu, pureR_some]⟩
    · trivial
  | append size bytes x y mu =>
    simp only [shape]
    split
    · rename_i a b h1 h2
      exact ⟨rfl, fun u σ' hu => by simp only [evOp, h.ev h1, h.ev h2, Option.bind_some, hu]⟩
    · trivial
  | sliceE kd size x lo hi =>
    simp only [shape]
    split
    · rename_i a b c h1 h2 h3
      refine ⟨rfl, fun u hu => ?_⟩
      simp only [evOp, h.ev h1, h.evO h2, h.evO h3, Option.bind_some]
      split at hu
      · rename_i hk
        rw [if_pos hk, hu]; rfl
      · cases hu
    · trivial
  | extract x i =>
    simp only [shape]
    cases h1 : ev t x with
    | none => trivial
    | some v => exact ⟨rfl, fun u hu => by simp only [evOp, h.ev h1, Option.bind_some, hu, pureR_some]⟩
  | callF f args =>
    simp only [shape]
    cases h1 : evs t args with
    | none => trivial
    | some vs => exact ⟨rfl, fun v σ' hr => by simp only [evOp, h.evs h1, Option.bind_some, hr, callR], fun v σ' hr => by simp only [evOp, h.evs h1, Option.bind_some, hr, callR]⟩
  | callV f args =>
    simp only [shape]
    split
    · rename_i fv vs h1 h2
      have key : ∀ r, appV cl fv vs σ = some r → evOp cl t' σ (.callV f args) = callR (some r) := fun r hr => by
        simp only [evOp, h.ev h1, h.evs h2, Option.bind_some]
        unfold appV at hr
        split at hr
        · rename_i f' caps
          simp only
          split at hr
          · rename_i hp
            rw [if_pos hp]
            cases hc : callPure cl f' (vs ++ caps) with
            | none => rw [hc] at hr; cases hr
            | some u => rw [hc] at hr; cases hr; rfl
          · rename_i hp
            rw [if_neg hp, hr]
        · cases hr
      exact ⟨rfl, fun v σ' hr => key _ hr, fun v σ' hr => key _ hr⟩
    · trivial
  | callP f args =>
    simp only [shape]
    cases h1 : evs t args with
    | none => trivial
    | some vs => exact ⟨rfl, fun v hv => by simp only [evOp, h.evs h1, Option.bind_some, hv, pureR_some]⟩

/-- One continuation stands for another. -/
def KSim (k k' : K) : Prop := (∀ o t t' σ r, TLe t t' → k o t σ = some r → k' o t' σ = some r) ∧ ∀ v t σ, k' (.pan v) t σ = some (.pan v, σ)

theorem guardOf_none {g : Option (Pos × Bool)} (hg : g = none) : guardOf t g = some true := by rw [hg]; rfl

theorem evOps_val {i : CI} {l : List CI} {pd pd' : Pend} {k : K} {v : V} {σ' : Sto} (hg : guardOf t i.g = some true) (ho : evOp cl t σ i.op = some (.val v, σ')) (hp : pendOf t σ σ' i pd = some pd') : evOps cl (i :: l) pd t σ k = evOps cl l pd' (setD t i.dst v) σ' k := by
  simp only [evOps, hg, ho, hp, Option.bind_some, nextT]

theorem evOps_skip {i : CI} {l : List CI} {pd : Pend} {k : K} (hg : guardOf t i.g = some false) : evOps cl (i :: l) pd t σ k = evOps cl l pd (setD t i.dst .undef) σ k := by
  simp only [evOps, hg]

theorem late_zero {i : CI} (hc : i.chk = 0) : i.late = false := by
  unfold CI.late
  rw [hc]

theorem late_pure {i : CI} (he : i.op.eff = false) : i.late = false := by
  unfold CI.late
  split
  · rename_i h
    rw [h] at he
    cases he
  · rfl

theorem pend_pure {i : CI} {pd : Pend} {σ' : Sto} (he : i.op.eff = false) (hc : i.chk = 0) : pendOf t σ σ' i pd = some pd := by
  simp only [pendOf, late_zero hc, he, Bool.false_eq_true, if_false, Pend.note, hc]

theorem pend_eff {i : CI} {pd : Pend} {σ' : Sto} (he : i.op.eff = true) (hc : i.chk = 0) : pendOf t σ σ' i pd = Pend.pass σ' pd := by
  simp only [pendOf, late_zero hc, he, Bool.false_eq_true, if_false, if_true]

theorem passK_some {pd : Pend} {k : Pend → R} {r : Res × Sto} (h : passK pd σ k = some r) : ∃ pd', Pend.pass σ pd = some pd' ∧ k pd' = some r := by
  cases pd with
  | nil => exact ⟨[], rfl, h⟩
  | cons e l =>
    simp only [passK] at h
    exact Option.bind_eq_some_iff.1 h

theorem noChk_some {n : Nat} {r : R} {q : Res × Sto} (h : noChk n r = some q) : n = 0 ∧ r = some q := by
  cases n with
  | zero => exact ⟨rfl, h⟩
  | succ n => cases h

theorem gd_some {x : V} {w : Bool} {o : Option V} {u : V} (h : gd x w o = some u) {p : Pos} (hp : t.get p = some x) : (guardOf t (some (p, w)) = some true ∧ o = some u) ∨ (guardOf t (some (p, w)) = some false ∧ u = .undef) := by
  unfold gd at h
  simp only [guardOf, hp]
  split at h
  · rename_i b
    simp only
    by_cases e : (b == w) = true
    · rw [if_pos e] at h; rw [e]; exact Or.inl ⟨rfl, h⟩
    · rw [if_neg e] at h
      have : (b == w) = false := by cases hb : b == w <;> simp_all
      rw [this]; cases h; exact Or.inr ⟨rfl, rfl⟩
  · cases h; exact Or.inr ⟨rfl, rfl⟩
  · cases h

theorem opsS_ev {kS : T → Sto → R} {k : K} {r : Res × Sto} (hk : ∀ t t' σ, TLe t t' → kS t σ = some r → k .normal t' σ = some r) (hp : ∀ v t σ, k (.pan v) t σ = some (.pan v, σ)) : ∀ (l : List CI) (pd : Pend) (t t' : T) (σ : Sto), TLe t t' →
    opsS cl l pd t σ kS = some r → evOps cl l pd t' σ k = some r
  | [], pd, t, t', σ, h, he => hk _ _ _ h he
  | i :: l, pd, t, t', σ, h, he => by
    have ih := opsS_ev hk hp l
    have sh := shape_ok (cl := cl) (σ := σ) h i.op
    simp only [opsS] at he
    cases hg : i.g with
    | none =>
      have hg' : guardOf t' i.g = some true := guardOf_none hg
      rw [hg] at he
      simp only at he
      cases hs : shape cl t σ i.op with
      | bad => rw [hs] at he; cases he
      | sub v =>
        rw [hs] at he sh
        obtain ⟨hc, he⟩ := noChk_some he
        rw [evOps_val hg' sh.2 (pend_pure sh.1 hc)]
        exact ih _ _ _ _ (h.setD _ _) he
      | val o =>
        rw [hs] at he sh
        obtain ⟨hc, he⟩ := noChk_some he
        obtain ⟨v, ho, he⟩ := Option.bind_eq_some_iff.1 he
        rw [evOps_val hg' (sh.2 v ho) (pend_pure sh.1 hc)]
        exact ih _ _ _ _ (h.setD _ _) he
      | valE o =>
        rw [hs] at he sh
        obtain ⟨hc, he⟩ := noChk_some he
        obtain ⟨v, ho, he⟩ := Option.bind_eq_some_iff.1 he
        obtain ⟨pd', hpd, he⟩ := passK_some he
        rw [evOps_val hg' (sh.2 v ho) ((pend_eff sh.1 hc).trans hpd)]
        exact ih _ _ _ _ (h.setD _ _) he
      | lod x o =>
        rw [hs] at he sh
        obtain ⟨v, ho, he⟩ := Option.bind_eq_some_iff.1 he
        obtain ⟨he1, he2, n, y, hop, hy⟩ := sh
        cases hc : i.chk with
        | zero =>
          rw [hc] at he
          rw [evOps_val hg' (he2 v ho) (pend_pure he1 hc)]
          exact ih _ _ _ _ (h.setD _ _) he
        | succ m =>
          rw [hc] at he
          obtain ⟨pd', hpd, he⟩ := Option.bind_eq_some_iff.1 he
          have hpd' : pendOf t' σ σ i pd = some pd' := by
            simp only [pendOf, late_pure he1, he1, Bool.false_eq_true, if_false, Pend.note, hc]
            rw [hop]
            simp only [hy]
            unfold noteV at hpd
            cases x <;> exact hpd
          rw [evOps_val hg' (he2 v ho) hpd']
          exact ih _ _ _ _ (h.setD _ _) he
      | lst o f =>
        rw [hs] at he sh
        obtain ⟨hc, he⟩ := noChk_some he
        obtain ⟨v, ho, he⟩ := Option.bind_eq_some_iff.1 he
        rw [evOps_val hg' (sh.2 v ho) (pend_pure sh.1 hc)]
        exact ih _ _ _ _ (h.setD _ _) he
      | set p v =>
        rw [hs] at he sh
        obtain ⟨hc, he⟩ := noChk_some he
        have hpd : pendOf t' σ σ i pd = some pd := pend_pure sh.1 hc
        simp only [evOps, hg', sh.2, hpd, Option.bind_some, nextT]
        exact ih _ _ _ _ (h.set _ _) he
      | wr p o =>
        rw [hs] at he sh
        obtain ⟨hc, he⟩ := noChk_some he
        obtain ⟨c, ho, he⟩ := Option.bind_eq_some_iff.1 he
        have hpd : pendOf t' σ σ i pd = some pd := pend_pure sh.1 hc
        simp only [evOps, hg', sh.2 c ho, hpd, Option.bind_some, nextT]
        exact ih _ _ _ _ (h.set _ _) he
      | unk =>
        rw [hs] at he sh
        obtain ⟨hc, he⟩ := noChk_some he
        have hpd : pendOf t' σ σ i pd = some pd := pend_pure sh.1 hc
        simp only [evOps, hg', sh.2, hpd, Option.bind_some, nextT]
        exact ih _ _ _ _ (h.forget _) he
      | new x f =>
        rw [hs] at he sh
        obtain ⟨hc, he⟩ := noChk_some he
        simp only [alS] at he
        obtain ⟨pd', hpd, he⟩ := passK_some he
        rw [evOps_val hg' sh.2 ((pend_eff sh.1 hc).trans hpd)]
        exact ih _ _ _ _ (h.setD _ _) he
      | newO o g f =>
        rw [hs] at he sh
        obtain ⟨hc, he⟩ := noChk_some he
        obtain ⟨c, ho, he⟩ := Option.bind_eq_some_iff.1 he
        simp only [alS] at he
        obtain ⟨pd', hpd, he⟩ := passK_some he
        rw [evOps_val hg' (sh.2 c ho) ((pend_eff sh.1 hc).trans hpd)]
        exact ih _ _ _ _ (h.setD _ _) he
      | stor a o =>
        rw [hs] at he sh
        obtain ⟨σ', ho, he⟩ := Option.bind_eq_some_iff.1 he
        obtain ⟨he1, he2, n, x, y, hop, hy⟩ := sh
        unfold storK at he
        cases hc : i.chk with
        | zero =>
          rw [hc] at he
          obtain ⟨pd', hpd, he⟩ := passK_some he
          rw [evOps_val hg' (he2 σ' ho) ((pend_eff he1 hc).trans hpd)]
          exact ih _ _ _ _ (h.setD _ _) he
        | succ m =>
          rw [hc] at he
          cases hd : i.dst with
          | some q => rw [hd] at he; cases pd <;> cases he
          | none =>
            rw [hd] at he
            cases pd with
            | cons e l' => cases he
            | nil =>
              obtain ⟨pd', hpd, he⟩ := Option.bind_eq_some_iff.1 he
              have hl : i.late = true := by
                unfold CI.late
                rw [hc, hop]
              have hpd' : pendOf t' σ σ' i [] = some pd' := by
                simp only [pendOf, hl, if_true]
                unfold lateP
                rw [hop, hg, hd]
                simp only [hy, Option.bind_some, hc]
                exact hpd
              rw [evOps_val hg' (he2 σ' ho) hpd', hd]
              exact ih _ _ _ _ (h.setD none _) he
      | effU o =>
        rw [hs] at he sh
        obtain ⟨hc, he⟩ := noChk_some he
        obtain ⟨σ', ho, he⟩ := Option.bind_eq_some_iff.1 he
        obtain ⟨pd', hpd, he⟩ := passK_some he
        rw [evOps_val hg' (sh.2 σ' ho) ((pend_eff sh.1 hc).trans hpd)]
        exact ih _ _ _ _ (h.setD _ _) he
      | eff o =>
        rw [hs] at he sh
        obtain ⟨hc, he⟩ := noChk_some he
        simp only [bind2] at he
        cases ho : o with
        | none => rw [ho] at he; cases he
        | some q =>
          obtain ⟨v, σ'⟩ := q
          rw [ho] at he
          obtain ⟨pd', hpd, he⟩ := passK_some he
          rw [evOps_val hg' (sh.2 v σ' ho) ((pend_eff sh.1 hc).trans hpd)]
          exact ih _ _ _ _ (h.setD _ _) he
      | res q =>
        rw [hs] at he sh
        obtain ⟨hc, he⟩ := noChk_some he
        simp only [bindR] at he
        cases ho : q with
        | none => rw [ho] at he; cases he
        | some q' =>
          obtain ⟨q', σ'⟩ := q'
          cases q' with
          | ret v =>
            rw [ho] at he
            obtain ⟨pd', hpd, he⟩ := passK_some he
            rw [evOps_val hg' (sh.2.1 v σ' ho) ((pend_eff sh.1 hc).trans hpd)]
            exact ih _ _ _ _ (h.setD _ _) he
          | pan v =>
            rw [ho] at he
            simp only [evOps, hg', sh.2.2 v σ' ho]
            rw [hp]; exact he
    | some pw =>
      obtain ⟨p, w⟩ := pw
      rw [hg] at he
      simp only at he
      cases hx : t.get p with
      | none => rw [hx] at he; cases he
      | some x =>
        have hx' := h p x hx
        rw [hx] at he
        simp only at he
        have fin : ∀ (o : Option V) (v : V) (pd' : Pend), gd x w o = some v → (∀ v, o = some v → evOp cl t' σ i.op = some (.val v, σ)) → (guardOf t' (some (p, w)) = some true → pendOf t' σ σ i pd = some pd') → (guardOf t' (some (p, w)) = some false → pd' = pd) →
            opsS cl l pd' (setD t i.dst v) σ kS = some r → evOps cl (i :: l) pd t' σ k = some r := by
          clear he
          intro o v pd' ho hv hpd hpd2 he
          rcases gd_some ho hx' with ⟨hg', ho'⟩ | ⟨hg', rfl⟩
          · have hpd := hpd hg'
            rw [← hg] at hg'
            rw [evOps_val hg' (hv v ho') hpd]
            exact ih _ _ _ _ (h.setD _ _) he
          · have hpd2 := hpd2 hg'
            subst hpd2
            rw [← hg] at hg'
            rw [evOps_skip hg']
            exact ih _ _ _ _ (h.setD _ _) he
        have passed : ∀ {σ' : Sto} {kp : Pend → R}, passG x w pd σ' kp = some r → ∃ pd', kp pd' = some r ∧ (guardOf t' (some (p, w)) = some true → Pend.pass σ' pd = some pd') ∧ (guardOf t' (some (p, w)) = some false → pd' = pd) := fun {σ' kp} he => by
          cases pd with
          | nil => exact ⟨[], he, fun _ => rfl, fun _ => rfl⟩
          | cons e l =>
            simp only [passG] at he
            simp only [guardOf, hx']
            cases x with
            | bool b =>
              simp only at he
              split at he
              · rename_i e'
                obtain ⟨pd', h1, h2⟩ := Option.bind_eq_some_iff.1 he
                exact ⟨pd', h2, fun _ => h1, fun hf => by simp only [Option.some.injEq] at hf; rw [hf] at e'; cases e'⟩
              · rename_i e'
                exact ⟨_, he, fun hf => by simp only [Option.some.injEq] at hf; exact absurd hf e', fun _ => rfl⟩
            | undef =>
              refine ⟨_, he, ?_, fun _ => rfl⟩
              intro hf
              cases hf
            | _ =>
              refine ⟨_, he, ?_, fun _ => rfl⟩
              intro hf
              cases hf
        cases hs : shape cl t σ i.op with
        | sub v =>
          rw [hs] at he sh
          obtain ⟨hc, he⟩ := noChk_some he
          obtain ⟨u, ho, he⟩ := Option.bind_eq_some_iff.1 he
          exact fin _ u pd ho (fun v' hv' => by cases hv'; exact sh.2) (fun _ => pend_pure sh.1 hc) (fun _ => rfl) he
        | val o =>
          rw [hs] at he sh
          obtain ⟨hc, he⟩ := noChk_some he
          obtain ⟨u, ho, he⟩ := Option.bind_eq_some_iff.1 he
          exact fin _ u pd ho sh.2 (fun _ => pend_pure sh.1 hc) (fun _ => rfl) he
        | lod y o =>
          rw [hs] at he sh
          obtain ⟨u, ho, he⟩ := Option.bind_eq_some_iff.1 he
          obtain ⟨he1, he2, n, z, hop, hy⟩ := sh
          unfold lodG at he
          cases hc : i.chk with
          | zero =>
            rw [hc] at he
            exact fin _ u pd ho he2 (fun _ => pend_pure he1 hc) (fun _ => rfl) he
          | succ m =>
            rw [hc] at he
            obtain ⟨pd', hpd, he⟩ := Option.bind_eq_some_iff.1 he
            refine fin _ u pd' ho he2 (fun hgt => ?_) (fun hgf => ?_) he
            · simp only [guardOf, hx'] at hgt
              simp only [pendOf, late_pure he1, he1, Bool.false_eq_true, if_false, Pend.note, hc]
              rw [hop]
              simp only [hy]
              cases x <;> simp only at hgt <;> try (cases hgt; done)
              simp only [Option.some.injEq] at hgt
              simp only [noteG, hgt, if_true] at hpd
              unfold noteV at hpd
              cases y <;> exact hpd
            · simp only [guardOf, hx'] at hgf
              cases x with
              | bool b =>
                simp only [Option.some.injEq] at hgf
                simp only [noteG, hgf, Bool.false_eq_true, if_false] at hpd
                cases hpd; rfl
              | undef => cases hpd; rfl
              | _ => cases hgf
        | lst o f =>
          rw [hs] at he sh
          obtain ⟨hc, he⟩ := noChk_some he
          obtain ⟨u, ho, he⟩ := Option.bind_eq_some_iff.1 he
          refine fin _ u pd ho (fun v hv => ?_) (fun _ => pend_pure sh.1 hc) (fun _ => rfl) he
          obtain ⟨c, rfl, rfl⟩ := Option.map_eq_some_iff.1 hv
          exact sh.2 c rfl
        | unk =>
          rw [hs] at he sh
          obtain ⟨hc, he⟩ := noChk_some he
          have hpd : pendOf t' σ σ i pd = some pd := pend_pure sh.1 hc
          have he' : opsS cl l pd (forget t i.dst) σ kS = some r := by
            unfold chkB at he
            split at he
            · exact he
            · exact he
            · cases he
          have hgd : guardOf t' i.g = some true ∨ guardOf t' i.g = some false := by
            rw [hg]
            simp only [guardOf, hx']
            simp only [chkB] at he
            cases x with
            | bool b => cases hbw : b == w <;> simp [hbw]
            | undef => exact Or.inr rfl
            | _ => cases he
          rcases hgd with hgd | hgd
          · simp only [evOps, hgd, sh.2, hpd, Option.bind_some, nextT]
            exact ih _ _ _ _ (h.forget _) he'
          · rw [evOps_skip hgd]
            exact ih _ _ _ _ (h.forgetU _) he'
        | valE o =>
          rw [hs] at he sh
          obtain ⟨hc, he⟩ := noChk_some he
          obtain ⟨u, ho, he⟩ := Option.bind_eq_some_iff.1 he
          obtain ⟨pd', he, hp1, hp2⟩ := passed he
          exact fin _ u pd' ho sh.2 (fun hg => (pend_eff sh.1 hc).trans (hp1 hg)) hp2 he
        | eff o =>
          rw [hs] at he sh
          have hc0 := (noChk_some he).1
          replace he := (noChk_some he).2
          change (match gd2 x w σ o with
            | some (v, σ') => passG x w pd σ' fun pd => opsS cl l pd (setD t i.dst v) σ' kS
            | none => none) = some r at he
          cases ho : gd2 x w σ o with
          | none => rw [ho] at he; cases he
          | some q =>
            obtain ⟨u, σ'⟩ := q
            rw [ho] at he
            simp only at he
            obtain ⟨pd', he2, hp1, hp2⟩ := passed he
            clear he
            have he := he2
            clear he2
            have skip : guardOf t' (some (p, w)) = some false → (u, σ') = (V.undef, σ) → evOps cl (i :: l) pd t' σ k = some r := fun hgf e => by
              cases e
              have := hp2 hgf
              subst this
              rw [← hg] at hgf
              rw [evOps_skip hgf]
              exact ih _ _ _ _ (h.setD _ _) he
            unfold gd2 at ho
            cases x with
            | bool b =>
              simp only at ho
              split at ho
              · rename_i e
                have hgo : guardOf t' (some (p, w)) = some true := by simp only [guardOf, hx', e]
                have hp1 := hp1 hgo
                rw [← hg] at hgo
                rw [evOps_val hgo (sh.2 u σ' ho) ((pend_eff sh.1 hc0).trans hp1)]
                exact ih _ _ _ _ (h.setD _ _) he
              · rename_i e
                have e' : (b == w) = false := by cases hb : b == w <;> simp_all
                exact skip (by simp only [guardOf, hx', e']) (by cases ho; rfl)
            | undef => exact skip (by simp only [guardOf, hx']) (by cases ho; rfl)
            | _ => cases ho
        | res q =>
          rw [hs] at he sh
          have hc0 := (noChk_some he).1
          replace he := (noChk_some he).2
          change bindR (gdR x w σ q) (fun v σ' => passG x w pd σ' fun pd => opsS cl l pd (setD t i.dst v) σ' kS) = some r at he
          unfold bindR at he
          cases ho : gdR x w σ q with
          | none => rw [ho] at he; cases he
          | some q' =>
            obtain ⟨u, σ'⟩ := q'
            rw [ho] at he
            cases u with
            | ret v =>
              simp only at he
              obtain ⟨pd', he2, hp1, hp2⟩ := passed he
              clear he
              have he := he2
              clear he2
              have skip : guardOf t' (some (p, w)) = some false → (Res.ret v, σ') = (Res.ret V.undef, σ) → evOps cl (i :: l) pd t' σ k = some r := fun hgf e => by
                cases e
                have := hp2 hgf
                subst this
                rw [← hg] at hgf
                rw [evOps_skip hgf]
                exact ih _ _ _ _ (h.setD _ _) he
              unfold gdR at ho
              cases x with
              | bool b =>
                simp only at ho
                split at ho
                · rename_i e
                  have hgo : guardOf t' (some (p, w)) = some true := by simp only [guardOf, hx', e]
                  have hp1 := hp1 hgo
                  rw [← hg] at hgo
                  rw [evOps_val hgo (sh.2.1 v σ' ho) ((pend_eff sh.1 hc0).trans hp1)]
                  exact ih _ _ _ _ (h.setD _ _) he
                · rename_i e
                  have e' : (b == w) = false := by cases hb : b == w <;> simp_all
                  exact skip (by simp only [guardOf, hx', e']) (by cases ho; rfl)
              | undef => exact skip (by simp only [guardOf, hx']) (by cases ho; rfl)
              | _ => cases ho
            | pan v =>
              unfold gdR at ho
              cases x with
              | bool b =>
                simp only at ho
                split at ho
                · rename_i e
                  have hgo : guardOf t' i.g = some true := by rw [hg]; simp only [guardOf, hx', e]
                  simp only [evOps, hgo, sh.2.2 v σ' ho]
                  rw [hp]; exact he
                · cases ho
              | undef => cases ho
              | _ => cases ho
        | _ => rw [hs] at he; cases he

theorem iterS_le {live : List Pos} {f g : T → Sto → K → R} (hfg : ∀ t t' σ k k' r, TLe t t' → KSim k k' → f t σ k = some r → g t' σ k' = some r) : ∀ (m : Nat) (t t' : T) (σ : Sto) (k k' : K) (r : Res × Sto), TLe t t' → KSim k k' → iterS m live f (keep t live) σ k = some r → iter m live g t' σ k' = some r
  | 0, _, _, _, _, _, _, _, _, he => by cases he
  | m + 1, t, t', σ, k, k', r, h, hk, he => by
    simp only [iterS] at he
    simp only [iter]
    refine hfg _ _ _ _ _ _ (h.keep live) ⟨fun o t t' σ r h he => ?_, fun v t σ => hk.2 v t σ⟩ he
    cases o with
    | normal => exact iterS_le hfg m t t' σ k k' r h hk he
    | exit j => exact hk.1 _ _ _ _ _ h he
    | ret => exact hk.1 _ _ _ _ _ h he
    | pan v => exact hk.1 _ _ _ _ _ h he

theorem runS_le {m : Nat} : ∀ (c : CC) (t t' : T) (σ : Sto) (k k' : K) (r : Res × Sto), TLe t t' → KSim k k' → runS cl m c t σ k = some r → run cl m c t' σ k' = some r := by
  intro c
  induction c with
  | skip => exact fun t t' σ k k' r h hk he => hk.1 _ _ _ _ _ h he
  | exit id => exact fun t t' σ k k' r h hk he => hk.1 _ _ _ _ _ h he
  | ret => exact fun t t' σ k k' r h hk he => hk.1 _ _ _ _ _ h he
  | reg d ops =>
    intro t t' σ k k' r h hk he
    simp only [runS] at he
    simp only [run]
    refine opsS_ev (k := fun o t1 σ' => match o with | .pan v => k' (.pan v) (panT t' ops) σ' | o => k' o t1 σ') (fun t t' σ h he => hk.1 .normal _ _ _ _ h he) (fun v t σ => hk.2 v _ σ) ops [] t t' σ h he
  | seq a b iha ihb =>
    intro t t' σ k k' r h hk he
    simp only [runS] at he
    simp only [run]
    refine iha _ _ _ _ _ _ h ⟨fun o t t' σ r h he => ?_, fun v t σ => hk.2 v t σ⟩ he
    cases o with
    | normal => exact ihb _ _ _ _ _ _ h hk he
    | exit j => exact hk.1 _ _ _ _ _ h he
    | ret => exact hk.1 _ _ _ _ _ h he
    | pan v => exact hk.1 _ _ _ _ _ h he
  | cond c a b iha ihb =>
    intro t t' σ k k' r h hk he
    simp only [runS] at he
    simp only [run]
    split at he
    · rename_i x hx
      rw [h.ev hx]
      unfold condV at he
      split at he
      · exact iha _ _ _ _ _ _ h hk he
      · exact ihb _ _ _ _ _ _ h hk he
      · cases he
    · cases he
  | block id b ih =>
    intro t t' σ k k' r h hk he
    simp only [runS] at he
    simp only [run]
    refine ih _ _ _ _ _ _ h ⟨fun o t t' σ r h he => ?_, fun v t σ => hk.2 v t σ⟩ he
    cases o with
    | exit j =>
      simp only at he ⊢
      split at he
      · rename_i e; rw [if_pos e]; exact hk.1 _ _ _ _ _ h he
      · rename_i e; rw [if_neg e]; exact hk.1 _ _ _ _ _ h he
    | normal => exact hk.1 _ _ _ _ _ h he
    | ret => exact hk.1 _ _ _ _ _ h he
    | pan v => exact hk.1 _ _ _ _ _ h he
  | loop live b ih =>
    intro t t' σ k k' r h hk he
    simp only [runS] at he
    simp only [run]
    exact iterS_le (fun t t' σ k k' r h hk he => ih t t' σ k k' r h hk he) m t t' σ k k' r h hk he

theorem resVs_of : ∀ (l : List CRes) (t t' : T) (σ : Sto) (k : List V → R) (r : Res × Sto), TLe t t' → finS l t σ k = some r → ∃ vs, resVs t' σ l = some vs ∧ k vs = some r
  | [], _, _, _, _, _, _, he => ⟨[], rfl, he⟩
  | .reg p :: l, t, t', σ, k, r, h, he => by
    simp only [finS] at he
    cases hp : t.get p with
    | none => rw [hp] at he; cases he
    | some v =>
      rw [hp] at he
      obtain ⟨vs, h1, h2⟩ := resVs_of l t t' σ _ r h he
      exact ⟨v :: vs, by simp only [resVs, resV, h p v hp, h1], h2⟩
  | .cell p n :: l, t, t', σ, k, r, h, he => by
    simp only [finS] at he
    cases hp : t.get p with
    | none => rw [hp] at he; cases he
    | some v =>
      rw [hp] at he
      obtain ⟨u, hu, he⟩ := Option.bind_eq_some_iff.1 he
      obtain ⟨vs, h1, h2⟩ := resVs_of l t t' σ _ r h he
      exact ⟨u :: vs, by simp only [resVs, resV, h p v hp, Option.bind_some, hu, h1], h2⟩
  | .part p n :: l, t, t', σ, k, r, h, he => by
    simp only [finS] at he
    split at he
    · rename_i cs hp
      obtain ⟨u, hu, he⟩ := Option.bind_eq_some_iff.1 he
      obtain ⟨vs, h1, h2⟩ := resVs_of l t t' σ _ r h he
      exact ⟨u :: vs, by simp only [resVs, resV, h p _ hp, hu, h1], h2⟩
    · cases he

theorem fin_sim (cf : CF) : KSim (finO cf) (finish cf) := by
  refine ⟨fun o t t' σ r h he => ?_, fun v t σ => rfl⟩
  cases o with
  | normal =>
    obtain ⟨vs, h1, h2⟩ := resVs_of _ t t' σ _ r h he
    simp only [finish, h1, Option.map_some]
    exact h2
  | ret =>
    obtain ⟨vs, h1, h2⟩ := resVs_of _ t t' σ _ r h he
    simp only [finish, h1, Option.map_some]
    exact h2
  | exit j => cases he
  | pan v => cases he

end

end Go.Eng
