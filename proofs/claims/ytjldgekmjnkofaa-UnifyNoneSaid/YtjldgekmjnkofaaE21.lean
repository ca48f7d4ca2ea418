/- The code of a function: how it is compiled; what it computes is what the interpreter says. -/
import Derived.Test.YtjldgekmjnkofaaE20
import Derived.Scope
set_option linter.unusedVariables false
set_option linter.unusedSimpArgs false
namespace Go.Eng
open Go

inductive Hint where
  | perm (l : List Nat)
  | live (l : List Nat)

section
variable (fx : FX) (ty : Ty)

def cCode : Code → List Hint → Option (CC × List Hint)
  | .skip, h => some (.skip, h)
  | .region _ ops false, h => match cSeq fx ty ops ops.toList 0 [] with
    | some cs => some (.reg false cs, h)
    | none => none
  | .region _ ops true, .perm p :: h => match cDraw fx ty ops p with
    | some cs => some (.reg true cs, h)
    | none => none
  | .seq a b, h => match cCode a h with
    | some (a', h) => match cCode b h with
      | some (b', h) => some (.seq a' b', h)
      | none => none
    | none => none
  | .cond c a b, h => match cOpd fx c with
    | some c' => match cCode a h with
      | some (a', h) => match cCode b h with
        | some (b', h) => some (.cond c' a' b', h)
        | none => none
      | none => none
    | none => none
  | .block id b, h => match cCode b h with
    | some (b', h) => some (.block id b', h)
    | none => none
  | .loop b, .live l :: h => match cCode b h with
    | some (b', h) => some (.loop (l.map pos) b', h)
    | none => none
  | .exit id, h => some (.exit id, h)
  | .ret, h => some (.ret, h)
  | .scope b, h => cCode b h
  | .label _, h => some (.skip, h)
  | _, _ => none

def cRes : List ResultVar → Option (List CRes)
  | [] => some []
  | x :: l => match x, cRes l with
    | .tmp s, some rs => if fx.pv s then none else some (.reg (pos s) :: rs)
    | .cell s t, some rs => match ty t with
      | some i => some ((if fx.pv s then .part (pos s) i.n else .cell (pos s) i.n) :: rs)
      | none => none
    | _, none => none

end

/-- A function's own hints. -/
structure FH where
  pv : List Nat
  mu : List Nat
  pu : List Nat
  hints : List Hint

def fxOf (fn : Func) (fh : FH) : FX := { pv := fh.pv.contains, n := fn.ntmps, mu := fh.mu.contains, pu := fh.pu.contains }

def cFn (ty : Ty) (fn : Func) (nargs : Nat) (fh : FH) : Option CF :=
  match fn.body with
  | none => none
  | some c => match cCode (fxOf fn fh) ty c fh.hints, cRes (fxOf fn fh) ty fn.results.toList with
    | some (cc, _), some rs => if decide (nargs ≤ fn.ntmps) && (!(fn.name == "runtime.NumGoroutine") && (List.range nargs).all fun i => !fh.pv.contains i) then some { n := nargs, body := cc, res := rs } else none
    | _, _ => none

/-! ## Worlds that differ in what is drawn -/

theorem Mon.drew (g : Gh) (w : World) (n : Nat) : Mon g w g { w with drawn := n } :=
  ⟨fun _ _ h => h, fun _ _ h => h, fun _ B m L h => ⟨B, m, L, h, Nat.le_refl _, fun _ => ⟨rfl, rfl⟩⟩, fun _ _ _ => rfl, fun _ c _ _ h => ⟨c, h, rfl⟩, Nat.le_refl _, rfl, rfl, rfl⟩

theorem Ext.drew (σ : Sto) (g : Gh) (w : World) (n : Nat) : Ext σ g w σ g { w with drawn := n } :=
  { Mon.drew g w n with rest := fun _ _ _ => rfl, news := fun _ _ h => ⟨h, fun _ h => h⟩, next := Nat.le_refl _ }

theorem Inv.drew {B0 : Nat} {σ : Sto} {g : Gh} {w : World} (h : Inv B0 σ g w) (n : Nat) : Inv B0 σ g { w with drawn := n } := by
  have m := Mon.drew g w n
  refine ⟨fun b => ?_, h.sep, h.base, h.gamlt, h.iotalt, h.tault, h.b0⟩
  have := h.blk b
  unfold BlkOk at this ⊢
  split at this
  · obtain ⟨B, d, c, el, h1, h2, h3, h4⟩ := this
    exact ⟨B, d, c, el, h1, h2, h3.mono m, h4⟩
  · obtain ⟨B, us, h1, h2, h3, h4⟩ := this
    exact ⟨B, us, h1, h2, h3.mono m, h4⟩
  · exact this
  · trivial

theorem St.drew {fx : FX} {B0 : Nat} {σ0 : Sto} {g0 : Gh} {w0 : World} {t : T} {σ : Sto} {g : Gh} {w : World} {a : Act} (st : St fx B0 σ0 g0 w0 t σ g w a) (n : Nat) : St fx B0 σ0 g0 w0 t σ g { w with drawn := n } a :=
  ⟨st.fr.mono (Ext.drew σ g w n), st.inv.drew n, st.ext.trans (Ext.drew σ g w n), st.defers⟩

theorem keep_get : ∀ (l : List Pos) (t : T) (q : Pos) (v : V), (keep t l).get q = some v → t.get q = some v
  | [], t, q, v, h => by rw [keep, Tr.get_leaf] at h; cases h
  | p :: l, t, q, v, h => by
    unfold keep at h
    split at h
    · rename_i x hx
      by_cases e : p = q
      · subst e
        rw [Tr.get_set_same] at h
        cases h; exact hx
      · rw [Tr.get_set_ne _ _ _ _ e] at h
        exact keep_get l t q v h
    · exact keep_get l t q v h

/-! ## Code -/

section
variable {P : Program} {ty : Ty} {fx : FX} {B0 : Nat} {cl : Cl} {σ0 : Sto} {g0 : Gh} {w0 : World}

theorem regEnd {tp : T} {k : K} {r : Res × Sto} {Q : Exit → Act → World → Prop} (h : QOk fx B0 σ0 g0 w0 k r Q) :
    RegEnd fx B0 σ0 g0 w0 tp (fun o t' σ' => match o with | .pan v => k (.pan v) tp σ' | o => k o t' σ') r Q :=
  ⟨fun t σ g w a st hk => h .normal t σ g w a st hk .normal trivial, fun _ v σ g w a u st hk hv => h (.pan v) tp σ g w a st hk (.panic [{ v := u, recovered := false }]) ⟨u, rfl, hv⟩⟩

theorem code_wp (tok : TyOk P ty) (hcl : ClAll P cl) (hcle : ClLe cl) (hmix : P.follows .mixedOrders = true) : ∀ (c : Code) (h : List Hint) (cc : CC) (h' : List Hint), cCode fx ty c h = some (cc, h') →
    ∀ (m : Nat) (t : T) (σ : Sto) (g : Gh) (w : World) (a : Act) (k : K) (r : Res × Sto) (Q : Exit → Act → World → Prop), St fx B0 σ0 g0 w0 t σ g w a → run cl m cc t σ k = some r → QOk fx B0 σ0 g0 w0 k r Q → c.wp P Q a w := by
  intro c
  induction c with
  | skip =>
    intro h cc h' hc m t σ g w a k r Q st hr hq
    cases hc
    exact wp_skip (hq .normal t σ g w a st hr .normal trivial)
  | exit id =>
    intro h cc h' hc m t σ g w a k r Q st hr hq
    cases hc
    exact wp_exit (hq (.exit id) t σ g w a st hr (.exit id) rfl)
  | ret =>
    intro h cc h' hc m t σ g w a k r Q st hr hq
    cases hc
    exact wp_ret (hq .ret t σ g w a st hr .ret trivial)
  | region id ops draw =>
    intro h cc h' hc m t σ g w a k r Q st hr hq
    cases draw with
    | false =>
      simp only [cCode] at hc
      split at hc
      case h_2 => cases hc
      rename_i cs hcs
      cases hc
      simp only [run] at hr
      refine wp_region ?_
      have := cSeq_wp tok hcl (regEnd (tp := panT t cs) hq) ops.toList 0 [] cs hcs (fun j o hj => by simpa using hj) (fun c hc q hq => panT_none cs t c q hc hq) t σ g w a [] st (fun q v h => panT_sub cs t q v h) (fun e he => by cases he) hr
      rw [Array.length_toList] at this
      rw [List.range_eq_range']
      exact this
    | true =>
      cases h with
      | nil => simp [cCode] at hc
      | cons x h =>
        cases x with
        | live l => simp [cCode] at hc
        | perm p =>
          simp only [cCode] at hc
          split at hc
          case h_2 => cases hc
          rename_i cs hcs
          cases hc
          simp only [run] at hr
          exact wp_region_any hmix (cDraw_wp tok hcl hcle (regEnd (tp := panT t cs) hq) hcs (fun c hc q hq => panT_none cs t c q hc hq) (st.drew _) (fun q v h => panT_sub cs t q v h) hr)
  | seq x y ihx ihy =>
    intro h cc h' hc m t σ g w a k r Q st hr hq
    simp only [cCode] at hc
    split at hc
    case h_2 => cases hc
    rename_i a' h1 ha
    split at hc
    case h_2 => cases hc
    rename_i b' h2 hb
    cases hc
    simp only [run] at hr
    refine wp_seq (ihx h a' h1 ha m t σ g w a _ r _ st hr ?_)
    intro o t σ g w a st hk e ho
    cases o with
    | normal =>
      cases e <;> try (exact ho.elim)
      exact ihy h1 b' _ hb m t σ g w a k r Q st hk hq
    | _ =>
      cases e <;> first
        | exact ho.elim
        | exact hq _ t σ g w a st hk _ ho
  | cond c x y ihx ihy =>
    intro h cc h' hc m t σ g w a k r Q st hr hq
    simp only [cCode] at hc
    split at hc
    case h_2 => cases hc
    rename_i c' hc'
    split at hc
    case h_2 => cases hc
    rename_i a' h1 ha
    split at hc
    case h_2 => cases hc
    rename_i b' h2 hb
    cases hc
    simp only [run] at hr
    split at hr
    · rename_i hev
      exact wp_cond_true ((cOpd_rel st.fr hc' hev).bool_inv) (ihx h a' h1 ha m t σ g w a k r Q st hr hq)
    · rename_i hev
      exact wp_cond_false ((cOpd_rel st.fr hc' hev).bool_inv) (ihy h1 b' _ hb m t σ g w a k r Q st hr hq)
    · cases hr
  | block id x ih =>
    intro h cc h' hc m t σ g w a k r Q st hr hq
    simp only [cCode] at hc
    split at hc
    case h_2 => cases hc
    rename_i b' h1 hb
    cases hc
    simp only [run] at hr
    refine wp_block (ih h b' _ hb m t σ g w a _ r _ st hr ?_)
    intro o t σ g w a st hk e ho
    cases o with
    | exit j =>
      cases e <;> try (exact ho.elim)
      rename_i j'
      have : j = j' := ho
      subst this
      dsimp only at hk
      unfold Exit.inBlock
      dsimp only
      split at hk
      · rename_i hj
        rw [if_pos hj]
        exact hq .normal t σ g w a st hk .normal trivial
      · rename_i hj
        rw [if_neg hj]
        exact hq (.exit j) t σ g w a st hk (.exit j) rfl
    | _ =>
      cases e <;> first
        | exact ho.elim
        | exact hq _ t σ g w a st hk _ ho
  | loop x ih =>
    intro h cc h' hc m t σ g w a k r Q st hr hq
    cases h with
    | nil => simp [cCode] at hc
    | cons y h =>
      cases y with
      | perm p => simp [cCode] at hc
      | live l =>
        simp only [cCode] at hc
        split at hc
        case h_2 => cases hc
        rename_i b' h1 hb
        cases hc
        simp only [run] at hr
        intro fr ks cs
        have key : ∀ n (t : T) (σ : Sto) (g : Gh) (w : World) (a : Act), St fx B0 σ0 g0 w0 t σ g w a → iter n (l.map pos) (run cl m b') t σ k = some r →
            ∃ e a' w', Q e a' w' ∧ Arrives P (lone (fr.at a (.code x :: .inLoop x :: ks)) cs w) fr ks cs e a' w' := by
          intro n
          induction n with
          | zero => intro t σ g w a st hr; cases hr
          | succ n ihn =>
            intro t σ g w a st hr
            simp only [iter] at hr
            have hb2 := ih h b' _ hb m (keep t (l.map pos)) σ g w a _ r (Exit.then (fun a' w' => ∃ t' σ' g', St fx B0 σ0 g0 w0 t' σ' g' w' a' ∧ iter n (l.map pos) (run cl m b') t' σ' k = some r) Q) (st.sub fun q v h => keep_get _ _ _ _ h) hr (by
              intro o t σ g w a st hk e ho
              cases o with
              | normal =>
                cases e <;> try (exact ho.elim)
                exact ⟨t, σ, g, st, hk⟩
              | _ =>
                cases e <;> first
                  | exact ho.elim
                  | exact hq _ t σ g w a st hk _ ho)
            obtain ⟨e, a₁, w₁, hq1, harr⟩ := hb2 fr (.inLoop x :: ks) cs
            cases e with
            | normal =>
              obtain ⟨t', σ', g', st', hr'⟩ := hq1
              obtain ⟨e₂, a₂, w₂, hq₂, harr₂⟩ := ihn t' σ' g' w₁ a₁ st' hr'
              exact ⟨e₂, a₂, w₂, hq₂, .of_steps (Steps.trans harr (.one step_inLoop)) harr₂⟩
            | exit id => exact ⟨_, a₁, w₁, hq1, .pass (x := .inLoop x) rfl (fun _ _ => .inl (by simp)) harr⟩
            | goto l => exact ⟨_, a₁, w₁, hq1, .pass (x := .inLoop x) rfl (fun _ _ => .inl (by simp)) harr⟩
            | ret => exact ⟨_, a₁, w₁, hq1, .pass (x := .inLoop x) rfl (fun _ _ => .inl (by simp)) harr⟩
            | panic ch => exact ⟨_, a₁, w₁, hq1, .pass (x := .inLoop x) rfl (fun _ _ => .inl (by simp)) harr⟩
            | outgrown => exact ⟨_, a₁, w₁, hq1, .pass (x := .inLoop x) rfl (fun _ _ => .inl (by simp)) harr⟩
        obtain ⟨e, a', w', hq', harr⟩ := key m t σ g w a st hr
        exact ⟨e, a', w', hq', .of_steps (.one step_loop) harr⟩
  | label l =>
    intro h cc h' hc m t σ g w a k r Q st hr hq
    cases hc
    exact wp_label (hq .normal t σ g w a st hr .normal trivial)
  | scope x ih =>
    intro h cc h' hc m t σ g w a k r Q st hr hq
    refine wp_scope_straight (ih h cc h' hc m t σ g w a k r _ st hr ?_)
    intro o t σ g w a st hk e ho
    have := hq o t σ g w a st hk e ho
    cases o <;> cases e <;> first
      | exact ho.elim
      | exact this
  | _ =>
    intro h cc h' hc
    simp [cCode] at hc

end

end Go.Eng
