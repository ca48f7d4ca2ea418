/- What calls come to, without fuel: equations. -/
import Derived.Test.YtjldgekmjnkofaaE28
set_option linter.unusedVariables false
set_option linter.unusedSimpArgs false
namespace Go.Eng
open Go

/-! ## More known, more told -/

inductive ShLe : Sh → Sh → Prop
  | refl (s : Sh) : ShLe s s
  | val (o o' : Option V) (h : ∀ v, o = some v → o' = some v) : ShLe (.val o) (.val o')
  | res (r r' : R) (h : ∀ q, r = some q → r' = some q) : ShLe (.res r) (.res r')

theorem shape_call {a b : Cl} {t : T} {σ : Sto} (op : CO) (hf : ∀ f vs, op = .callF f vs → ∀ vs', evs t vs = some vs' → ∀ q, a f vs' σ = some q → b f vs' σ = some q)
    (hp : ∀ f vs, op = .callP f vs → ∀ vs', evs t vs = some vs' → ∀ v, callPure a f vs' = some v → callPure b f vs' = some v)
    (hv : ∀ f vs, op = .callV f vs → ∀ fv vs', evs t vs = some vs' → ∀ q, appV a fv vs' σ = some q → appV b fv vs' σ = some q) : ShLe (shape a t σ op) (shape b t σ op) := by
  cases op <;> try exact .refl _
  case callF f args =>
    simp only [shape]
    cases h1 : evs t args with
    | none => exact .refl _
    | some vs => exact .res _ _ (hf f args rfl vs h1)
  case callV f args =>
    simp only [shape]
    split
    · rename_i fv vs h1 h2
      exact .res _ _ (hv f args rfl fv vs h2)
    · exact .refl _
  case callP f args =>
    simp only [shape]
    cases h1 : evs t args with
    | none => exact .refl _
    | some vs => exact .val _ _ (hp f args rfl vs h1)

theorem appV_mono {a b : Cl} (h : ClLt a b) {fv : V} {vs : List V} {σ : Sto} {q : Res × Sto} (he : appV a fv vs σ = some q) : appV b fv vs σ = some q := by
  unfold appV at he ⊢
  cases fv <;> try (cases he; done)
  rename_i f caps
  simp only at he ⊢
  split at he
  · rename_i hp
    rw [if_pos hp]
    obtain ⟨v, hv, rfl⟩ := Option.map_eq_some_iff.1 he
    rw [callPure_mono h hv]; rfl
  · rename_i hp
    rw [if_neg hp]
    exact h _ _ _ _ he

theorem shape_le {a b : Cl} (h : ClLt a b) (t : T) (σ : Sto) (op : CO) : ShLe (shape a t σ op) (shape b t σ op) :=
  shape_call op (fun f vs _ vs' _ q hq => h _ _ _ _ hq) (fun f vs _ vs' _ v hv => callPure_mono h hv) (fun f vs _ fv vs' _ q hq => appV_mono h hq)

theorem opsS_step {c : Cl} {i : CI} {l : List CI} {pd : Pend} {t : T} {σ : Sto} {k : T → Sto → R} {r : Res × Sto} (he : opsS c (i :: l) pd t σ k = some r) :
    (∀ c' k', ShLe (shape c t σ i.op) (shape c' t σ i.op) → opsS c' (i :: l) pd t σ k' = some r) ∨
    ∃ pd' t' σ', opsS c l pd' t' σ' k = some r ∧ ∀ c' k', ShLe (shape c t σ i.op) (shape c' t σ i.op) → opsS c' (i :: l) pd t σ k' = opsS c' l pd' t' σ' k' := by
  simp only [opsS] at he
  cases hg : i.g with
  | none =>
    rw [hg] at he
    simp only at he
    generalize hs : shape c t σ i.op = s at he
    have key : ∀ (c' : Cl) (k' : T → Sto → R) (s' : Sh), shape c' t σ i.op = s' → opsS c' (i :: l) pd t σ k' = (match s' with
      | .bad => none
      | .sub v => noChk i.chk (opsS c' l pd (setD t i.dst v) σ k')
      | .val o => noChk i.chk (o.bind fun v => opsS c' l pd (setD t i.dst v) σ k')
      | .valE o => noChk i.chk (o.bind fun v => passK pd σ fun pd => opsS c' l pd (setD t i.dst v) σ k')
      | .lod x o => o.bind fun v => lodK i.chk σ x pd fun pd => opsS c' l pd (setD t i.dst v) σ k'
      | .lst o f => noChk i.chk (o.bind fun c => opsS c' l pd (setD t i.dst (f c)) σ k')
      | .set p v => noChk i.chk (opsS c' l pd (t.set p v) σ k')
      | .wr p o => noChk i.chk (o.bind fun c => opsS c' l pd (t.set p (.agg c)) σ k')
      | .unk => noChk i.chk (opsS c' l pd (forget t i.dst) σ k')
      | .new x f => noChk i.chk (alS x σ fun b σ' => passK pd σ' fun pd => opsS c' l pd (setD t i.dst (f b)) σ' k')
      | .newO o g f => noChk i.chk (o.bind fun c => alS (g c) σ fun b σ' => passK pd σ' fun pd => opsS c' l pd (setD t i.dst (f b)) σ' k')
      | .stor a o => o.bind fun σ' => storK i.chk i.dst a pd σ' fun pd => opsS c' l pd (setD t i.dst .undef) σ' k'
      | .effU o => noChk i.chk (o.bind fun σ' => passK pd σ' fun pd => opsS c' l pd (setD t i.dst .undef) σ' k')
      | .eff o => noChk i.chk (bind2 o fun v σ' => passK pd σ' fun pd => opsS c' l pd (setD t i.dst v) σ' k')
      | .res r => noChk i.chk (bindR r fun v σ' => passK pd σ' fun pd => opsS c' l pd (setD t i.dst v) σ' k')) := fun c' k' s' h => by
      simp only [opsS, hg]
      rw [h]
      cases s' <;> rfl
    have pass : ∀ {pd pd' : Pend} {σ' : Sto}, Pend.pass σ' pd = some pd' → ∀ k : Pend → R, passK pd σ' k = k pd' := fun {pd pd' σ'} h k => by
      cases pd with
      | nil => cases h; rfl
      | cons e l => simp only [passK, h, Option.bind_some]
    cases s with
    | bad => cases he
    | sub v =>
      obtain ⟨hc, he⟩ := noChk_some he
      refine Or.inr ⟨_, _, _, he, fun c' k' hle => ?_⟩
      generalize hs' : shape c' t σ i.op = s' at hle
      cases hle
      rw [key c' k' _ hs', hc]; rfl
    | val o =>
      obtain ⟨hc, he⟩ := noChk_some he
      obtain ⟨v, ho, he⟩ := Option.bind_eq_some_iff.1 he
      refine Or.inr ⟨_, _, _, he, fun c' k' hle => ?_⟩
      generalize hs' : shape c' t σ i.op = s' at hle
      cases hle with
      | refl => rw [key c' k' _ hs', hc, ho]; rfl
      | val _ o' h => rw [key c' k' _ hs', hc, h v ho]; rfl
    | valE o =>
      obtain ⟨hc, he⟩ := noChk_some he
      obtain ⟨v, ho, he⟩ := Option.bind_eq_some_iff.1 he
      obtain ⟨pd', hpd, he⟩ := passK_some he
      refine Or.inr ⟨_, _, _, he, fun c' k' hle => ?_⟩
      generalize hs' : shape c' t σ i.op = s' at hle
      cases hle
      rw [key c' k' _ hs', hc]
      simp only [noChk, ho, Option.bind_some, pass hpd]
    | lod x o =>
      obtain ⟨v, ho, he⟩ := Option.bind_eq_some_iff.1 he
      unfold lodK at he
      cases hc : i.chk with
      | zero =>
        rw [hc] at he
        refine Or.inr ⟨_, _, _, he, fun c' k' hle => ?_⟩
        generalize hs' : shape c' t σ i.op = s' at hle
        cases hle
        rw [key c' k' _ hs', hc, ho]; rfl
      | succ n =>
        rw [hc] at he
        obtain ⟨pd', hpd, he⟩ := Option.bind_eq_some_iff.1 he
        refine Or.inr ⟨_, _, _, he, fun c' k' hle => ?_⟩
        generalize hs' : shape c' t σ i.op = s' at hle
        cases hle
        rw [key c' k' _ hs', hc]
        simp only [ho, Option.bind_some, lodK, hpd]
    | lst o f =>
      obtain ⟨hc, he⟩ := noChk_some he
      obtain ⟨v, ho, he⟩ := Option.bind_eq_some_iff.1 he
      refine Or.inr ⟨_, _, _, he, fun c' k' hle => ?_⟩
      generalize hs' : shape c' t σ i.op = s' at hle
      cases hle
      rw [key c' k' _ hs', hc, ho]; rfl
    | set p v =>
      obtain ⟨hc, he⟩ := noChk_some he
      refine Or.inr ⟨_, _, _, he, fun c' k' hle => ?_⟩
      generalize hs' : shape c' t σ i.op = s' at hle
      cases hle
      rw [key c' k' _ hs', hc]; rfl
    | wr p o =>
      obtain ⟨hc, he⟩ := noChk_some he
      obtain ⟨v, ho, he⟩ := Option.bind_eq_some_iff.1 he
      refine Or.inr ⟨_, _, _, he, fun c' k' hle => ?_⟩
      generalize hs' : shape c' t σ i.op = s' at hle
      cases hle
      rw [key c' k' _ hs', hc, ho]; rfl
    | unk =>
      obtain ⟨hc, he⟩ := noChk_some he
      refine Or.inr ⟨_, _, _, he, fun c' k' hle => ?_⟩
      generalize hs' : shape c' t σ i.op = s' at hle
      cases hle
      rw [key c' k' _ hs', hc]; rfl
    | new x f =>
      obtain ⟨hc, he⟩ := noChk_some he
      simp only [alS] at he
      obtain ⟨pd', hpd, he⟩ := passK_some he
      refine Or.inr ⟨_, _, _, he, fun c' k' hle => ?_⟩
      generalize hs' : shape c' t σ i.op = s' at hle
      cases hle
      rw [key c' k' _ hs', hc]
      simp only [noChk, alS, pass hpd]
    | newO o g f =>
      obtain ⟨hc, he⟩ := noChk_some he
      obtain ⟨v, ho, he⟩ := Option.bind_eq_some_iff.1 he
      simp only [alS] at he
      obtain ⟨pd', hpd, he⟩ := passK_some he
      refine Or.inr ⟨_, _, _, he, fun c' k' hle => ?_⟩
      generalize hs' : shape c' t σ i.op = s' at hle
      cases hle
      rw [key c' k' _ hs', hc]
      simp only [noChk, ho, Option.bind_some, alS, pass hpd]
    | stor a o =>
      obtain ⟨v, ho, he⟩ := Option.bind_eq_some_iff.1 he
      unfold storK at he
      cases hc : i.chk with
      | zero =>
        rw [hc] at he
        obtain ⟨pd', hpd, he⟩ := passK_some he
        refine Or.inr ⟨_, _, _, he, fun c' k' hle => ?_⟩
        generalize hs' : shape c' t σ i.op = s' at hle
        cases hle
        rw [key c' k' _ hs', hc]
        simp only [ho, Option.bind_some, storK, pass hpd]
      | succ n =>
        rw [hc] at he
        cases hd : i.dst with
        | some q => rw [hd] at he; cases pd <;> cases he
        | none =>
          rw [hd] at he
          cases pd with
          | cons e l' => cases he
          | nil =>
            obtain ⟨pd', hpd, he⟩ := Option.bind_eq_some_iff.1 he
            refine Or.inr ⟨_, _, _, he, fun c' k' hle => ?_⟩
            generalize hs' : shape c' t σ i.op = s' at hle
            cases hle
            rw [key c' k' _ hs', hc]
            simp only [ho, Option.bind_some, storK, hd, hpd]
    | effU o =>
      obtain ⟨hc, he⟩ := noChk_some he
      obtain ⟨v, ho, he⟩ := Option.bind_eq_some_iff.1 he
      obtain ⟨pd', hpd, he⟩ := passK_some he
      refine Or.inr ⟨_, _, _, he, fun c' k' hle => ?_⟩
      generalize hs' : shape c' t σ i.op = s' at hle
      cases hle
      rw [key c' k' _ hs', hc]
      simp only [noChk, ho, Option.bind_some, pass hpd]
    | eff o =>
      obtain ⟨hc, he⟩ := noChk_some he
      cases ho : o with
      | none => rw [ho] at he; cases he
      | some q =>
        obtain ⟨v, σ'⟩ := q
        rw [ho] at he
        simp only [bind2] at he
        obtain ⟨pd', hpd, he⟩ := passK_some he
        refine Or.inr ⟨_, _, _, he, fun c' k' hle => ?_⟩
        generalize hs' : shape c' t σ i.op = s' at hle
        cases hle
        rw [key c' k' _ hs', hc]
        simp only [noChk, bind2, pass hpd]
    | res q =>
      obtain ⟨hc, he⟩ := noChk_some he
      cases hq : q with
      | none => rw [hq] at he; cases he
      | some q' =>
        obtain ⟨q', σ'⟩ := q'
        rw [hq] at he
        cases q' with
        | ret v =>
          simp only [bindR] at he
          obtain ⟨pd', hpd, he⟩ := passK_some he
          refine Or.inr ⟨_, _, _, he, fun c' k' hle => ?_⟩
          generalize hs' : shape c' t σ i.op = s' at hle
          cases hle with
          | refl => rw [key c' k' _ hs', hc]; simp only [noChk, bindR, pass hpd]
          | res _ r' h => rw [key c' k' _ hs', hc]; simp only [noChk, bindR, h _ rfl, pass hpd]
        | pan v =>
          refine Or.inl fun c' k' hle => ?_
          generalize hs' : shape c' t σ i.op = s' at hle
          cases hle with
          | refl => rw [key c' k' _ hs', hc]; exact he
          | res _ r' h => rw [key c' k' _ hs', hc]; simp only [noChk, bindR, h _ rfl]; exact he
  | some pw =>
    obtain ⟨p, w⟩ := pw
    rw [hg] at he
    simp only at he
    cases hx : t.get p with
    | none => rw [hx] at he; cases he
    | some x =>
      rw [hx] at he
      simp only at he
      generalize hs : shape c t σ i.op = s at he
      have key : ∀ (c' : Cl) (k' : T → Sto → R) (s' : Sh), shape c' t σ i.op = s' → opsS c' (i :: l) pd t σ k' = (match s' with
        | .sub v => noChk i.chk ((gd x w (some v)).bind fun v => opsS c' l pd (setD t i.dst v) σ k')
        | .val o => noChk i.chk ((gd x w o).bind fun v => opsS c' l pd (setD t i.dst v) σ k')
        | .lod y o => (gd x w o).bind fun v => lodG i.chk σ x w y pd fun pd => opsS c' l pd (setD t i.dst v) σ k'
        | .lst o f => noChk i.chk ((gd x w (o.map f)).bind fun v => opsS c' l pd (setD t i.dst v) σ k')
        | .unk => noChk i.chk (chkB x (opsS c' l pd (forget t i.dst) σ k'))
        | .valE o => noChk i.chk ((gd x w o).bind fun v => passG x w pd σ fun pd => opsS c' l pd (setD t i.dst v) σ k')
        | .eff o => noChk i.chk (bind2 (gd2 x w σ o) fun v σ' => passG x w pd σ' fun pd => opsS c' l pd (setD t i.dst v) σ' k')
        | .res r => noChk i.chk (bindR (gdR x w σ r) fun v σ' => passG x w pd σ' fun pd => opsS c' l pd (setD t i.dst v) σ' k')
        | _ => none) := fun c' k' s' h => by
        simp only [opsS, hg, hx]
        rw [h]
        cases s' <;> rfl
      have gmono : ∀ {o o' : Option V} {v : V}, (∀ v, o = some v → o' = some v) → gd x w o = some v → gd x w o' = some v := fun {o o' v} h hv => by
        unfold gd at hv ⊢
        cases x <;> simp only at hv ⊢ <;> try exact hv
        split at hv
        · rename_i e; rw [if_pos e]; exact h _ hv
        · rename_i e; rw [if_neg e]; exact hv
      have passed : ∀ {σ' : Sto} {kp : Pend → R}, passG x w pd σ' kp = some r → ∃ pd', kp pd' = some r ∧ ∀ kp' : Pend → R, passG x w pd σ' kp' = kp' pd' := fun {σ' kp} he => by
        cases pd with
        | nil => exact ⟨[], he, fun _ => rfl⟩
        | cons e l =>
          simp only [passG] at he ⊢
          cases x with
          | bool b =>
            simp only at he ⊢
            split at he
            · rename_i e'
              obtain ⟨pd', h1, h2⟩ := Option.bind_eq_some_iff.1 he
              exact ⟨pd', h2, fun kp' => by rw [if_pos e', h1]; rfl⟩
            · rename_i e'
              exact ⟨_, he, fun kp' => by rw [if_neg e']⟩
          | _ => exact ⟨_, he, fun kp' => rfl⟩
      cases s with
      | sub v =>
        obtain ⟨hc, he⟩ := noChk_some he
        obtain ⟨u, ho, he⟩ := Option.bind_eq_some_iff.1 he
        refine Or.inr ⟨_, _, _, he, fun c' k' hle => ?_⟩
        generalize hs' : shape c' t σ i.op = s' at hle
        cases hle
        rw [key c' k' _ hs', hc]
        simp only [ho, Option.bind_some]; rfl
      | val o =>
        obtain ⟨hc, he⟩ := noChk_some he
        obtain ⟨u, ho, he⟩ := Option.bind_eq_some_iff.1 he
        refine Or.inr ⟨_, _, _, he, fun c' k' hle => ?_⟩
        generalize hs' : shape c' t σ i.op = s' at hle
        cases hle with
        | refl => rw [key c' k' _ hs', hc]; simp only [ho, Option.bind_some]; rfl
        | val _ o' h => rw [key c' k' _ hs', hc]; simp only [gmono h ho, Option.bind_some]; rfl
      | lod y o =>
        obtain ⟨u, ho, he⟩ := Option.bind_eq_some_iff.1 he
        unfold lodG at he
        cases hc : i.chk with
        | zero =>
          rw [hc] at he
          refine Or.inr ⟨_, _, _, he, fun c' k' hle => ?_⟩
          generalize hs' : shape c' t σ i.op = s' at hle
          cases hle
          rw [key c' k' _ hs', hc]
          simp only [ho, Option.bind_some]; rfl
        | succ n =>
          rw [hc] at he
          obtain ⟨pd', hpd, he⟩ := Option.bind_eq_some_iff.1 he
          refine Or.inr ⟨_, _, _, he, fun c' k' hle => ?_⟩
          generalize hs' : shape c' t σ i.op = s' at hle
          cases hle
          rw [key c' k' _ hs', hc]
          simp only [ho, Option.bind_some, lodG, hpd]
      | lst o f =>
        obtain ⟨hc, he⟩ := noChk_some he
        obtain ⟨u, ho, he⟩ := Option.bind_eq_some_iff.1 he
        refine Or.inr ⟨_, _, _, he, fun c' k' hle => ?_⟩
        generalize hs' : shape c' t σ i.op = s' at hle
        cases hle
        rw [key c' k' _ hs', hc]
        simp only [ho, Option.bind_some]; rfl
      | unk =>
        obtain ⟨hc, he⟩ := noChk_some he
        have hb : (∀ r : R, chkB x r = r) ∨ ∀ r : R, chkB x r = none := by cases x <;> first | exact Or.inl fun r => rfl | exact Or.inr fun r => rfl
        rcases hb with hb | hb
        · rw [hb] at he
          refine Or.inr ⟨_, _, _, he, fun c' k' hle => ?_⟩
          generalize hs' : shape c' t σ i.op = s' at hle
          cases hle
          rw [key c' k' _ hs', hc]
          simp only [hb]; rfl
        · rw [hb] at he; cases he
      | valE o =>
        obtain ⟨hc, he⟩ := noChk_some he
        obtain ⟨u, ho, he⟩ := Option.bind_eq_some_iff.1 he
        obtain ⟨pd', he, hp⟩ := passed he
        refine Or.inr ⟨_, _, _, he, fun c' k' hle => ?_⟩
        generalize hs' : shape c' t σ i.op = s' at hle
        cases hle
        rw [key c' k' _ hs', hc]
        simp only [noChk, ho, Option.bind_some, hp]
      | eff o =>
        obtain ⟨hc, he⟩ := noChk_some he
        change bind2 (gd2 x w σ o) (fun v σ' => passG x w pd σ' fun pd => opsS c l pd (setD t i.dst v) σ' k) = some r at he
        cases ho : gd2 x w σ o with
        | none => rw [ho] at he; cases he
        | some q =>
          obtain ⟨u, σ'⟩ := q
          rw [ho] at he
          simp only [bind2] at he
          obtain ⟨pd', he, hp⟩ := passed he
          refine Or.inr ⟨_, _, _, he, fun c' k' hle => ?_⟩
          generalize hs' : shape c' t σ i.op = s' at hle
          cases hle
          rw [key c' k' _ hs', hc]
          simp only [noChk, ho, bind2, hp]
      | res q =>
        have rmono : ∀ {r r' : R} {q}, (∀ q, r = some q → r' = some q) → gdR x w σ r = some q → gdR x w σ r' = some q := fun {r r' q} h hv => by
          unfold gdR at hv ⊢
          cases x <;> simp only at hv ⊢ <;> try exact hv
          split at hv
          · rename_i e; rw [if_pos e]; exact h _ hv
          · rename_i e; rw [if_neg e]; exact hv
        obtain ⟨hc, he⟩ := noChk_some he
        change bindR (gdR x w σ q) (fun v σ' => passG x w pd σ' fun pd => opsS c l pd (setD t i.dst v) σ' k) = some r at he
        cases hq : gdR x w σ q with
        | none => rw [hq] at he; cases he
        | some q' =>
          obtain ⟨q', σ'⟩ := q'
          rw [hq] at he
          cases q' with
          | ret v =>
            simp only [bindR] at he
            obtain ⟨pd', he, hp⟩ := passed he
            refine Or.inr ⟨_, _, _, he, fun c' k' hle => ?_⟩
            generalize hs' : shape c' t σ i.op = s' at hle
            cases hle with
            | refl => rw [key c' k' _ hs', hc]; simp only [noChk, hq, hp, bindR]
            | res _ r' h => rw [key c' k' _ hs', hc]; simp only [noChk, rmono h hq, hp, bindR]
          | pan v =>
            refine Or.inl fun c' k' hle => ?_
            generalize hs' : shape c' t σ i.op = s' at hle
            cases hle with
            | refl => rw [key c' k' _ hs', hc]; simp only [noChk, hq]; exact he
            | res _ r' h => rw [key c' k' _ hs', hc]; simp only [noChk, rmono h hq]; exact he
      | _ => cases he

theorem opsS_mono {a b : Cl} (h : ClLt a b) {k k' : T → Sto → R} (hk : ∀ t σ r, k t σ = some r → k' t σ = some r) : ∀ (l : List CI) (pd : Pend) (t : T) (σ : Sto) (r : Res × Sto), opsS a l pd t σ k = some r → opsS b l pd t σ k' = some r
  | [], _, _, _, _, he => hk _ _ _ he
  | i :: l, pd, t, σ, r, he => by
    rcases opsS_step he with h1 | ⟨pd', t', σ', h1, h2⟩
    · exact h1 b k' (shape_le h t σ i.op)
    · rw [h2 b k' (shape_le h t σ i.op)]
      exact opsS_mono h hk l pd' t' σ' r h1

/-- A row of callees that grows to one. -/
def ClLim (cn : Nat → Cl) (c : Cl) : Prop := (∀ i j, i ≤ j → ClLt (cn i) (cn j)) ∧ ∀ f vs σ r, c f vs σ = some r → ∃ n, cn n f vs σ = some r

def TLim (kn : Nat → T → Sto → R) (k : T → Sto → R) : Prop := (∀ i j, i ≤ j → ∀ t σ r, kn i t σ = some r → kn j t σ = some r) ∧ ∀ t σ r, k t σ = some r → ∃ n, kn n t σ = some r

def KLim (kn : Nat → K) (k : K) : Prop := (∀ i j, i ≤ j → KLt (kn i) (kn j)) ∧ ∀ o t σ r, k o t σ = some r → ∃ n, kn n o t σ = some r

theorem callPure_lim {cn : Nat → Cl} {c : Cl} (h : ClLim cn c) {f : FuncId} {vs : List V} {v : V} (hc : callPure c f vs = some v) : ∃ n, callPure (cn n) f vs = some v := by
  unfold callPure at hc ⊢
  split at hc
  · cases hc
  · rename_i vs' hvs
    split at hc
    · rename_i v0 σ' hcall
      obtain ⟨n, hn⟩ := h.2 _ _ _ _ hcall
      exact ⟨n, by simp only [hn]; exact hc⟩
    · cases hc

theorem appV_lim {cn : Nat → Cl} {c : Cl} (h : ClLim cn c) {fv : V} {vs : List V} {σ : Sto} {q : Res × Sto} (he : appV c fv vs σ = some q) : ∃ n, appV (cn n) fv vs σ = some q := by
  unfold appV at he ⊢
  cases fv <;> try (cases he; done)
  rename_i f caps
  simp only at he ⊢
  split at he
  · rename_i hp
    obtain ⟨v, hv, rfl⟩ := Option.map_eq_some_iff.1 he
    obtain ⟨n, hn⟩ := callPure_lim h hv
    exact ⟨n, by rw [if_pos hp, hn]; rfl⟩
  · rename_i hp
    obtain ⟨n, hn⟩ := h.2 _ _ _ _ he
    exact ⟨n, by rw [if_neg hp]; exact hn⟩

theorem shape_lim {cn : Nat → Cl} {c : Cl} (h : ClLim cn c) (t : T) (σ : Sto) (op : CO) : ∃ n, ShLe (shape c t σ op) (shape (cn n) t σ op) := by
  have some_or : ∀ {α : Type} (o : Option α) (P : Nat → α → Prop), (∀ v, o = some v → ∃ n, P n v) → ∃ n, ∀ v, o = some v → P n v := fun o P h => by
    cases o with
    | none => exact ⟨0, fun v hv => by cases hv⟩
    | some v =>
      obtain ⟨n, hn⟩ := h v rfl
      exact ⟨n, fun u hu => by cases hu; exact hn⟩
  cases op <;> try exact ⟨0, .refl _⟩
  case callF f args =>
    simp only [shape]
    cases h1 : evs t args with
    | none => exact ⟨0, .refl _⟩
    | some vs =>
      obtain ⟨n, hn⟩ := some_or (c f vs σ) (fun n q => cn n f vs σ = some q) fun q hq => h.2 _ _ _ _ hq
      exact ⟨n, .res _ _ hn⟩
  case callV f args =>
    simp only [shape]
    split
    · rename_i fv vs h1 h2
      obtain ⟨n, hn⟩ := some_or (appV c fv vs σ) (fun n q => appV (cn n) fv vs σ = some q) fun q hq => appV_lim h hq
      exact ⟨n, .res _ _ hn⟩
    · exact ⟨0, .refl _⟩
  case callP f args =>
    simp only [shape]
    cases h1 : evs t args with
    | none => exact ⟨0, .refl _⟩
    | some vs =>
      obtain ⟨n, hn⟩ := some_or (callPure c f vs) (fun n q => callPure (cn n) f vs = some q) fun q hq => callPure_lim h hq
      exact ⟨n, .val _ _ hn⟩

theorem ShLe.trans {a b c : Sh} (h : ShLe a b) (k : ShLe b c) : ShLe a c := by
  cases h with
  | refl => exact k
  | val o o' h => cases k with
    | refl => exact .val _ _ h
    | val _ o2 h2 => exact .val _ _ fun v hv => h2 v (h v hv)
  | res o o' h => cases k with
    | refl => exact .res _ _ h
    | res _ o2 h2 => exact .res _ _ fun v hv => h2 v (h v hv)

theorem opsS_lim {cn : Nat → Cl} {c : Cl} (h : ClLim cn c) {kn : Nat → T → Sto → R} {k : T → Sto → R} (hk : TLim kn k) : ∀ (l : List CI) (pd : Pend) (t : T) (σ : Sto) (r : Res × Sto), opsS c l pd t σ k = some r → ∃ n, opsS (cn n) l pd t σ (kn n) = some r
  | [], _, _, _, _, he => hk.2 _ _ _ he
  | i :: l, pd, t, σ, r, he => by
    obtain ⟨n1, hn1⟩ := shape_lim h t σ i.op
    rcases opsS_step he with h1 | ⟨pd', t', σ', h1, h2⟩
    · exact ⟨n1, h1 _ _ hn1⟩
    · obtain ⟨n2, hn2⟩ := opsS_lim h hk l pd' t' σ' r h1
      refine ⟨max n1 n2, ?_⟩
      rw [h2 _ _ (hn1.trans (shape_le (h.1 n1 _ (by omega)) t σ i.op))]
      exact opsS_mono (h.1 n2 _ (by omega)) (hk.1 n2 _ (by omega)) l pd' t' σ' r hn2

theorem iterS_mono {live : List Pos} {f g : T → Sto → K → R} (hfg : ∀ t σ k k' r, KLt k k' → f t σ k = some r → g t σ k' = some r) : ∀ (m m' : Nat) (_ : m ≤ m') (t : T) (σ : Sto) (k k' : K) (r : Res × Sto), KLt k k' → iterS m live f t σ k = some r → iterS m' live g t σ k' = some r
  | 0, _, _, _, _, _, _, _, _, he => by cases he
  | m + 1, m', hm, t, σ, k, k', r, hk, he => by
    obtain ⟨m', rfl⟩ : ∃ j, m' = j + 1 := ⟨m' - 1, by omega⟩
    simp only [iterS] at he ⊢
    refine hfg _ _ _ _ _ (fun o t σ r he => ?_) he
    cases o with
    | normal => exact iterS_mono hfg m m' (by omega) _ σ k k' r hk he
    | exit j => exact hk _ _ _ _ he
    | ret => exact hk _ _ _ _ he
    | pan v => exact hk _ _ _ _ he

theorem runS_mono {a b : Cl} (h : ClLt a b) {m m' : Nat} (hm : m ≤ m') : ∀ (c : CC) (t : T) (σ : Sto) (k k' : K) (r : Res × Sto), KLt k k' → runS a m c t σ k = some r → runS b m' c t σ k' = some r := by
  intro c
  induction c with
  | skip => exact fun t σ k k' r hk he => hk _ _ _ _ he
  | exit id => exact fun t σ k k' r hk he => hk _ _ _ _ he
  | ret => exact fun t σ k k' r hk he => hk _ _ _ _ he
  | reg d ops => exact fun t σ k k' r hk he => opsS_mono h (fun t σ r he => hk _ _ _ _ he) ops [] t σ r he
  | seq x y ihx ihy =>
    intro t σ k k' r hk he
    simp only [runS] at he ⊢
    refine ihx _ _ _ _ _ (fun o t σ r he => ?_) he
    cases o with
    | normal => exact ihy _ _ _ _ _ hk he
    | exit j => exact hk _ _ _ _ he
    | ret => exact hk _ _ _ _ he
    | pan v => exact hk _ _ _ _ he
  | cond c x y ihx ihy =>
    intro t σ k k' r hk he
    simp only [runS] at he ⊢
    cases hc : ev t c with
    | none => rw [hc] at he; cases he
    | some v =>
      rw [hc] at he
      simp only at he ⊢
      unfold condV at he ⊢
      split at he
      · exact ihx _ _ _ _ _ hk he
      · exact ihy _ _ _ _ _ hk he
      · cases he
  | block id x ih =>
    intro t σ k k' r hk he
    simp only [runS] at he ⊢
    refine ih _ _ _ _ _ (fun o t σ r he => ?_) he
    cases o with
    | exit j =>
      simp only at he ⊢
      split at he
      · rename_i e; rw [if_pos e]; exact hk _ _ _ _ he
      · rename_i e; rw [if_neg e]; exact hk _ _ _ _ he
    | normal => exact hk _ _ _ _ he
    | ret => exact hk _ _ _ _ he
    | pan v => exact hk _ _ _ _ he
  | loop live x ih =>
    intro t σ k k' r hk he
    exact iterS_mono (fun t σ k k' r hk he => ih t σ k k' r hk he) m m' hm _ _ _ _ _ hk he

theorem KLt.rfl' (k : K) : KLt k k := fun _ _ _ _ h => h

theorem evalS_mono (ft : FuncId → Option CF) : ∀ n m, n ≤ m → ClLt (evalS ft n) (evalS ft m) := by
  intro n
  induction n with
  | zero => intro m _ f vs σ r h; cases h
  | succ n ih =>
    intro m hm f vs σ r h
    obtain ⟨m, rfl⟩ : ∃ j, m = j + 1 := ⟨m - 1, by omega⟩
    simp only [evalS] at h ⊢
    split at h
    · cases h
    · split at h
      · rename_i hl
        rw [if_pos hl]
        exact runS_mono (ih m (by omega)) (by omega) _ _ _ _ _ _ (KLt.rfl' _) h
      · cases h

theorem evalS_le (ft : FuncId → Option CF) : ∀ n, ClLt (evalS ft n) (evalF ft n) := by
  intro n
  induction n with
  | zero => intro f vs σ r h; cases h
  | succ n ih =>
    intro f vs σ r h
    simp only [evalS, evalF] at h ⊢
    cases hf : ft f with
    | none => rw [hf] at h; cases h
    | some cf =>
      rw [hf] at h
      simp only at h ⊢
      split at h
      · rename_i hl
        rw [if_pos hl]
        exact run_mono ih _ n n (Nat.le_refl _) _ _ _ _ (KLt.refl _) r (runS_le _ _ _ _ _ _ r (TLe.refl _) (fin_sim _) h)
      · cases h

/-! ## The limit -/

open Classical in
noncomputable def lim (g : Nat → R) : R := if h : ∃ r n, g n = some r then some h.choose else none

theorem lim_iff {g : Nat → R} (hm : ∀ i j, i ≤ j → ∀ r, g i = some r → g j = some r) {r : Res × Sto} : lim g = some r ↔ ∃ n, g n = some r := by
  have uniq : ∀ a b n m, g n = some a → g m = some b → a = b := fun a b n m ha hb => by
    have h1 := hm n (max n m) (by omega) _ ha
    have h2 := hm m (max n m) (by omega) _ hb
    rw [h1] at h2; cases h2; rfl
  unfold lim
  constructor
  · intro h
    split at h
    · rename_i hex
      cases h
      exact hex.choose_spec
    · cases h
  · rintro ⟨n, hn⟩
    have hex : ∃ r n, g n = some r := ⟨r, n, hn⟩
    rw [dif_pos hex]
    obtain ⟨m, hm'⟩ := hex.choose_spec
    rw [uniq _ _ _ _ hm' hn]

section
variable (ft : FuncId → Option CF)

/-- What a call comes to. -/
noncomputable def D : Cl := fun f vs σ => lim fun n => evalS ft n f vs σ

/-- What the rounds of a loop come to. -/
noncomputable def lpS (live : List Pos) (b : CC) (t : T) (σ : Sto) (k : K) : R := lim fun n => iterS n live (runS (evalS ft n) n b) t σ k

noncomputable def rnS : CC → T → Sto → K → R
  | .skip, t, σ, k => k .normal t σ
  | .reg _ ops, t, σ, k => opsS (D ft) ops [] t σ fun t σ => k .normal t σ
  | .seq a b, t, σ, k => rnS a t σ fun o t σ => match o with
    | .normal => rnS b t σ k
    | o => k o t σ
  | .cond c a b, t, σ, k => match ev t c with
    | some x => condV x (rnS a t σ k) (rnS b t σ k)
    | none => none
  | .block id b, t, σ, k => rnS b t σ fun o t σ => match o with
    | .exit j => if j = id then k .normal t σ else k (.exit j) t σ
    | o => k o t σ
  | .loop live b, t, σ, k => lpS ft live b (keep t live) σ k
  | .exit id, t, σ, k => k (.exit id) t σ
  | .ret, t, σ, k => k .ret t σ

noncomputable def kSeq (b : CC) (k : K) : K := fun o t σ => match o with
  | .normal => rnS ft b t σ k
  | o => k o t σ

def kBlk (id : Nat) (k : K) : K := fun o t σ => match o with
  | .exit j => if j = id then k .normal t σ else k (.exit j) t σ
  | o => k o t σ

noncomputable def kLp (live : List Pos) (b : CC) (k : K) : K := fun o t σ => match o with
  | .normal => lpS ft live b (keep t live) σ k
  | o => k o t σ

/-- A part of code. -/
def CC.at : CC → List Bool → CC
  | c, [] => c
  | .seq a _, false :: p => a.at p
  | .seq _ b, true :: p => b.at p
  | .cond _ a _, false :: p => a.at p
  | .cond _ _ b, true :: p => b.at p
  | .block _ b, _ :: p => b.at p
  | .loop _ b, _ :: p => b.at p
  | c, _ :: _ => c

/-- What comes behind it. -/
noncomputable def kAt : CC → List Bool → K → K
  | _, [], k => k
  | .seq a b, false :: p, k => kAt a p (kSeq ft b k)
  | .seq _ b, true :: p, k => kAt b p k
  | .cond _ a _, false :: p, k => kAt a p k
  | .cond _ _ b, true :: p, k => kAt b p k
  | .block id b, _ :: p, k => kAt b p (kBlk id k)
  | .loop live b, _ :: p, k => kAt b p (kLp ft live b k)
  | _, _ :: _, k => k

variable {ft}

theorem D_iff {f : FuncId} {vs : List V} {σ : Sto} {r : Res × Sto} : D ft f vs σ = some r ↔ ∃ n, evalS ft n f vs σ = some r := lim_iff fun i j h r hr => evalS_mono ft i j h _ _ _ _ hr

theorem D_known (n : Nat) {f : FuncId} {vs : List V} {σ : Sto} {r : Res × Sto} (h : evalS ft n f vs σ = some r) : D ft f vs σ = some r := D_iff.2 ⟨n, h⟩

theorem D_run {f : FuncId} {vs : List V} {σ : Sto} {r : Res × Sto} (h : D ft f vs σ = some r) : ∃ n, evalF ft n f vs σ = some r := by
  obtain ⟨n, hn⟩ := D_iff.1 h
  exact ⟨n, evalS_le ft n _ _ _ _ hn⟩

theorem D_lim : ClLim (evalS ft) (D ft) := ⟨fun i j h => evalS_mono ft i j h, fun _ _ _ _ h => D_iff.1 h⟩

theorem D_ge (n : Nat) : ClLt (evalS ft n) (D ft) := fun _ _ _ _ h => D_iff.2 ⟨n, h⟩

theorem lpS_iff {live : List Pos} {b : CC} {t : T} {σ : Sto} {k : K} {r : Res × Sto} : lpS ft live b t σ k = some r ↔ ∃ n, iterS n live (runS (evalS ft n) n b) t σ k = some r :=
  lim_iff fun i j h _ hr => iterS_mono (fun t σ k k' r hk he => runS_mono (evalS_mono ft i j h) h b t σ k k' r hk he) i j h _ _ _ _ _ (KLt.rfl' _) hr

theorem rnS_ge {n : Nat} : ∀ (c : CC) (t : T) (σ : Sto) (k k' : K) (r : Res × Sto), KLt k k' → runS (evalS ft n) n c t σ k = some r → rnS ft c t σ k' = some r := by
  intro c
  induction c with
  | skip => exact fun t σ k k' r hk he => hk _ _ _ _ he
  | exit id => exact fun t σ k k' r hk he => hk _ _ _ _ he
  | ret => exact fun t σ k k' r hk he => hk _ _ _ _ he
  | reg d ops => exact fun t σ k k' r hk he => opsS_mono (D_ge n) (fun t σ r he => hk _ _ _ _ he) ops [] t σ r he
  | seq x y ihx ihy =>
    intro t σ k k' r hk he
    simp only [runS] at he
    simp only [rnS]
    refine ihx _ _ _ _ _ (fun o t σ r he => ?_) he
    cases o with
    | normal => exact ihy _ _ _ _ _ hk he
    | exit j => exact hk _ _ _ _ he
    | ret => exact hk _ _ _ _ he
    | pan v => exact hk _ _ _ _ he
  | cond c x y ihx ihy =>
    intro t σ k k' r hk he
    simp only [runS] at he
    simp only [rnS]
    cases hc : ev t c with
    | none => rw [hc] at he; cases he
    | some v =>
      rw [hc] at he
      simp only at he ⊢
      unfold condV at he ⊢
      split at he
      · exact ihx _ _ _ _ _ hk he
      · exact ihy _ _ _ _ _ hk he
      · cases he
  | block id x ih =>
    intro t σ k k' r hk he
    simp only [runS] at he
    simp only [rnS]
    refine ih _ _ _ _ _ (fun o t σ r he => ?_) he
    cases o with
    | exit j =>
      simp only at he ⊢
      split at he
      · rename_i e; rw [if_pos e]; exact hk _ _ _ _ he
      · rename_i e; rw [if_neg e]; exact hk _ _ _ _ he
    | normal => exact hk _ _ _ _ he
    | ret => exact hk _ _ _ _ he
    | pan v => exact hk _ _ _ _ he
  | loop live x ih =>
    intro t σ k k' r hk he
    exact lpS_iff.2 ⟨n, iterS_mono (fun t σ k k' r hk he => runS_mono (fun _ _ _ _ h => h) (Nat.le_refl n) x t σ k k' r hk he) n n (Nat.le_refl _) _ _ _ _ _ hk he⟩

theorem iterS_limK {live : List Pos} {f : T → Sto → K → R} (hm : ∀ t σ k k' r, KLt k k' → f t σ k = some r → f t σ k' = some r) (hf : ∀ t σ (kn : Nat → K) k r, KLim kn k → f t σ k = some r → ∃ n, f t σ (kn n) = some r) :
    ∀ (m : Nat) (t : T) (σ : Sto) (kn : Nat → K) (k : K) (r : Res × Sto), KLim kn k → iterS m live f t σ k = some r → ∃ n, iterS m live f t σ (kn n) = some r
  | 0, _, _, _, _, _, _, he => by cases he
  | m + 1, t, σ, kn, k, r, hk, he => by
    simp only [iterS] at he ⊢
    refine hf t σ (fun n o t σ => match o with
      | .normal => iterS m live f (keep t live) σ (kn n)
      | o => kn n o t σ) _ r ⟨fun i j hij o t σ r he => ?_, fun o t σ r he => ?_⟩ he
    · cases o with
      | normal => exact iterS_mono hm m m (Nat.le_refl _) _ _ _ _ _ (hk.1 i j hij) he
      | exit j' => exact hk.1 i j hij _ _ _ _ he
      | ret => exact hk.1 i j hij _ _ _ _ he
      | pan v => exact hk.1 i j hij _ _ _ _ he
    · cases o with
      | normal => exact iterS_limK hm hf m _ _ kn k r hk he
      | exit j' => exact hk.2 _ _ _ _ he
      | ret => exact hk.2 _ _ _ _ he
      | pan v => exact hk.2 _ _ _ _ he

theorem runS_limK {cl : Cl} {m : Nat} : ∀ (c : CC) (t : T) (σ : Sto) (kn : Nat → K) (k : K) (r : Res × Sto), KLim kn k → runS cl m c t σ k = some r → ∃ n, runS cl m c t σ (kn n) = some r := by
  intro c
  induction c with
  | skip => exact fun t σ kn k r hk he => hk.2 _ _ _ _ he
  | exit id => exact fun t σ kn k r hk he => hk.2 _ _ _ _ he
  | ret => exact fun t σ kn k r hk he => hk.2 _ _ _ _ he
  | reg d ops =>
    intro t σ kn k r hk he
    exact opsS_lim (cn := fun _ => cl) ⟨fun _ _ _ _ _ _ _ h => h, fun _ _ _ _ h => ⟨0, h⟩⟩ (kn := fun n t σ => kn n .normal t σ) ⟨fun i j hij t σ r h => hk.1 i j hij _ _ _ _ h, fun t σ r h => hk.2 _ _ _ _ h⟩ ops [] t σ r he
  | seq x y ihx ihy =>
    intro t σ kn k r hk he
    simp only [runS] at he ⊢
    refine ihx t σ (fun n o t σ => match o with
      | .normal => runS cl m y t σ (kn n)
      | o => kn n o t σ) _ r ⟨fun i j hij o t σ r he => ?_, fun o t σ r he => ?_⟩ he
    · cases o with
      | normal => exact runS_mono (fun _ _ _ _ h => h) (Nat.le_refl m) y _ _ _ _ _ (hk.1 i j hij) he
      | exit j' => exact hk.1 i j hij _ _ _ _ he
      | ret => exact hk.1 i j hij _ _ _ _ he
      | pan v => exact hk.1 i j hij _ _ _ _ he
    · cases o with
      | normal => exact ihy _ _ kn k r hk he
      | exit j' => exact hk.2 _ _ _ _ he
      | ret => exact hk.2 _ _ _ _ he
      | pan v => exact hk.2 _ _ _ _ he
  | cond c x y ihx ihy =>
    intro t σ kn k r hk he
    simp only [runS] at he ⊢
    cases hc : ev t c with
    | none => rw [hc] at he; cases he
    | some v =>
      rw [hc] at he
      simp only at he ⊢
      unfold condV at he ⊢
      split at he
      · exact ihx _ _ _ _ _ hk he
      · exact ihy _ _ _ _ _ hk he
      · cases he
  | block id x ih =>
    intro t σ kn k r hk he
    simp only [runS] at he ⊢
    refine ih t σ (fun n o t σ => match o with
      | .exit j => if j = id then kn n .normal t σ else kn n (.exit j) t σ
      | o => kn n o t σ) _ r ⟨fun i j hij o t σ r he => ?_, fun o t σ r he => ?_⟩ he
    · cases o with
      | exit j' =>
        simp only at he ⊢
        split at he
        · rename_i e; rw [if_pos e]; exact hk.1 i j hij _ _ _ _ he
        · rename_i e; rw [if_neg e]; exact hk.1 i j hij _ _ _ _ he
      | normal => exact hk.1 i j hij _ _ _ _ he
      | ret => exact hk.1 i j hij _ _ _ _ he
      | pan v => exact hk.1 i j hij _ _ _ _ he
    · cases o with
      | exit j' =>
        simp only at he ⊢
        split at he
        · rename_i e; simp only [if_pos e]; exact hk.2 _ _ _ _ he
        · rename_i e; simp only [if_neg e]; exact hk.2 _ _ _ _ he
      | normal => exact hk.2 _ _ _ _ he
      | ret => exact hk.2 _ _ _ _ he
      | pan v => exact hk.2 _ _ _ _ he
  | loop live x ih =>
    intro t σ kn k r hk he
    exact iterS_limK (fun t σ k k' r hk he => runS_mono (fun _ _ _ _ h => h) (Nat.le_refl m) x t σ k k' r hk he) (fun t σ kn k r hk he => ih t σ kn k r hk he) m _ _ kn k r hk he

theorem rnS_lim : ∀ (c : CC) (t : T) (σ : Sto) (kn : Nat → K) (k : K) (r : Res × Sto), KLim kn k → rnS ft c t σ k = some r → ∃ n, runS (evalS ft n) n c t σ (kn n) = some r := by
  intro c
  induction c with
  | skip => exact fun t σ kn k r hk he => hk.2 _ _ _ _ he
  | exit id => exact fun t σ kn k r hk he => hk.2 _ _ _ _ he
  | ret => exact fun t σ kn k r hk he => hk.2 _ _ _ _ he
  | reg d ops =>
    intro t σ kn k r hk he
    exact opsS_lim D_lim (kn := fun n t σ => kn n .normal t σ) ⟨fun i j hij t σ r h => hk.1 i j hij _ _ _ _ h, fun t σ r h => hk.2 _ _ _ _ h⟩ ops [] t σ r he
  | seq x y ihx ihy =>
    intro t σ kn k r hk he
    simp only [rnS] at he
    simp only [runS]
    refine ihx t σ (fun n o t σ => match o with
      | .normal => runS (evalS ft n) n y t σ (kn n)
      | o => kn n o t σ) _ r ⟨fun i j hij o t σ r he => ?_, fun o t σ r he => ?_⟩ he
    · cases o with
      | normal => exact runS_mono (evalS_mono ft i j hij) hij y _ _ _ _ _ (hk.1 i j hij) he
      | exit j' => exact hk.1 i j hij _ _ _ _ he
      | ret => exact hk.1 i j hij _ _ _ _ he
      | pan v => exact hk.1 i j hij _ _ _ _ he
    · cases o with
      | normal => exact ihy _ _ kn k r hk he
      | exit j' => exact hk.2 _ _ _ _ he
      | ret => exact hk.2 _ _ _ _ he
      | pan v => exact hk.2 _ _ _ _ he
  | cond c x y ihx ihy =>
    intro t σ kn k r hk he
    simp only [rnS] at he
    simp only [runS]
    cases hc : ev t c with
    | none => rw [hc] at he; cases he
    | some v =>
      rw [hc] at he
      simp only at he ⊢
      unfold condV at he ⊢
      split at he
      · exact ihx _ _ _ _ _ hk he
      · exact ihy _ _ _ _ _ hk he
      · cases he
  | block id x ih =>
    intro t σ kn k r hk he
    simp only [rnS] at he
    simp only [runS]
    refine ih t σ (fun n o t σ => match o with
      | .exit j => if j = id then kn n .normal t σ else kn n (.exit j) t σ
      | o => kn n o t σ) _ r ⟨fun i j hij o t σ r he => ?_, fun o t σ r he => ?_⟩ he
    · cases o with
      | exit j' =>
        simp only at he ⊢
        split at he
        · rename_i e; rw [if_pos e]; exact hk.1 i j hij _ _ _ _ he
        · rename_i e; rw [if_neg e]; exact hk.1 i j hij _ _ _ _ he
      | normal => exact hk.1 i j hij _ _ _ _ he
      | ret => exact hk.1 i j hij _ _ _ _ he
      | pan v => exact hk.1 i j hij _ _ _ _ he
    · cases o with
      | exit j' =>
        simp only at he ⊢
        split at he
        · rename_i e; simp only [if_pos e]; exact hk.2 _ _ _ _ he
        · rename_i e; simp only [if_neg e]; exact hk.2 _ _ _ _ he
      | normal => exact hk.2 _ _ _ _ he
      | ret => exact hk.2 _ _ _ _ he
      | pan v => exact hk.2 _ _ _ _ he
  | loop live x ih =>
    intro t σ kn k r hk he
    simp only [rnS] at he
    simp only [runS]
    obtain ⟨n, hn⟩ := lpS_iff.1 he
    obtain ⟨j, hj⟩ := iterS_limK (fun t σ k k' r hk he => runS_mono (fun _ _ _ _ h => h) (Nat.le_refl n) x t σ k k' r hk he) (fun t σ kn k r hk he => runS_limK x t σ kn k r hk he) n _ _ kn k r hk hn
    exact ⟨max n j, iterS_mono (fun t σ k k' r hk he => runS_mono (evalS_mono ft n _ (by omega)) (by omega) x t σ k k' r hk he) n _ (by omega) _ _ _ _ _ (hk.1 j _ (by omega)) hj⟩

theorem KLim.const (k : K) : KLim (fun _ => k) k := ⟨fun _ _ _ _ _ _ _ h => h, fun _ _ _ _ h => ⟨0, h⟩⟩

theorem D_eq {f : FuncId} (cf : CF) {vs : List V} (hf : ft f = some cf) (hn : vs.length = cf.n) (σ : Sto) : D ft f vs σ = rnS ft cf.body (initT 0 vs) σ (finO cf) := by
  refine Option.ext fun r => ⟨fun h => ?_, fun h => ?_⟩
  · obtain ⟨n, h⟩ := D_iff.1 h
    cases n with
    | zero => cases h
    | succ n =>
      simp only [evalS, hf, hn, if_true] at h
      exact rnS_ge _ _ _ _ _ _ (KLt.rfl' _) h
  · obtain ⟨n, h⟩ := rnS_lim _ _ _ _ _ _ (KLim.const _) h
    refine D_iff.2 ⟨n + 1, ?_⟩
    simp only [evalS, hf, hn, if_true]
    exact h

theorem lpS_eq (live : List Pos) (b : CC) (t : T) (σ : Sto) (k : K) : lpS ft live b t σ k = rnS ft b t σ (kLp ft live b k) := by
  refine Option.ext fun r => ⟨fun h => ?_, fun h => ?_⟩
  · obtain ⟨n, h⟩ := lpS_iff.1 h
    cases n with
    | zero => cases h
    | succ n =>
      simp only [iterS] at h
      refine rnS_ge _ _ _ _ _ _ (fun o t σ r he => ?_) h
      cases o with
      | normal => exact lpS_iff.2 ⟨n + 1, iterS_mono (fun t σ k k' r hk he => runS_mono (fun _ _ _ _ h => h) (Nat.le_refl _) b t σ k k' r hk he) n _ (by omega) _ _ _ _ _ (KLt.rfl' _) he⟩
      | exit j => exact he
      | ret => exact he
      | pan v => exact he
  · have hfam : KLim (fun n o t σ => match o with
      | .normal => iterS n live (runS (evalS ft n) n b) (keep t live) σ k
      | o => k o t σ) (kLp ft live b k) := by
      refine ⟨fun i j hij o t σ r he => ?_, fun o t σ r he => ?_⟩
      · cases o with
        | normal => exact iterS_mono (fun t σ k k' r hk he => runS_mono (evalS_mono ft i j hij) hij b t σ k k' r hk he) i j hij _ _ _ _ _ (KLt.rfl' _) he
        | exit j => exact he
        | ret => exact he
        | pan v => exact he
      · cases o with
        | normal => exact lpS_iff.1 he
        | exit j => exact ⟨0, he⟩
        | ret => exact ⟨0, he⟩
        | pan v => exact ⟨0, he⟩
    obtain ⟨n, h⟩ := rnS_lim _ _ _ _ _ _ hfam h
    refine lpS_iff.2 ⟨n + 1, ?_⟩
    simp only [iterS]
    refine runS_mono (evalS_mono ft n (n + 1) (by omega)) (by omega) b _ _ _ _ _ (fun o t σ r he => ?_) h
    cases o with
    | normal => exact iterS_mono (fun t σ k k' r hk he => runS_mono (evalS_mono ft n (n + 1) (by omega)) (by omega) b t σ k k' r hk he) n n (Nat.le_refl _) _ _ _ _ _ (KLt.rfl' _) he
    | exit j => exact he
    | ret => exact he
    | pan v => exact he

end

end Go.Eng
