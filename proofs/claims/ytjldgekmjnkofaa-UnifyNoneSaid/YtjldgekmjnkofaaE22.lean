/- A function: its results; the interpreter is what the calls come to. -/
import Derived.Test.YtjldgekmjnkofaaE21
set_option linter.unusedVariables false
set_option linter.unusedSimpArgs false
namespace Go.Eng
open Go

def resM (tmps : Array Value) : ResultVar → Sem Value
  | .tmp t => pure (tmps.getD t undef)
  | .cell a t => do loadVar t (← asAddr (tmps.getD a undef))

section
variable {P : Program} {ty : Ty} {fx : FX} {B0 Bf : Nat} {σ : Sto} {g : Gh} {w : World} {t : T} {a : Act}

theorem cRes_rel (tok : TyOk P ty) (inv : Inv B0 σ g w) (fr : FR fx.pv B0 Bf fx.n σ g w t a) : ∀ (l : List ResultVar) (rs : List CRes), cRes fx ty l = some rs → ∀ vs, resVs t σ rs = some vs →
    ∃ us : List Value, (l.mapM (resM a.tmps)).run P w = .ok us w ∧ us.length = vs.length ∧ ∀ (j : Nat) v, vs[j]? = some v → ∃ u, us[j]? = some u ∧ VR g w v u := by
  intro l
  induction l with
  | nil =>
    intro rs h vs hv
    cases h
    cases hv
    exact ⟨[], rfl, rfl, fun j v hj => by simp at hj⟩
  | cons x l ih =>
    intro rs h vs hv
    -- one result, and the others
    have step : ∀ (r : CRes) (rs' : List CRes), cRes fx ty l = some rs' → rs = r :: rs' → (∀ v, resV t σ r = some v → ∃ u, (resM a.tmps x).run P w = .ok u w ∧ VR g w v u) →
        ∃ us : List Value, ((x :: l).mapM (resM a.tmps)).run P w = .ok us w ∧ us.length = vs.length ∧ ∀ (j : Nat) v, vs[j]? = some v → ∃ u, us[j]? = some u ∧ VR g w v u := fun r rs' h1 h2 h3 => by
      subst h2
      simp only [resVs] at hv
      split at hv
      · rename_i v vs' hr hrs
        cases hv
        obtain ⟨u, hu, hvr⟩ := h3 v hr
        obtain ⟨us, hus, hl, hat⟩ := ih rs' h1 vs' hrs
        refine ⟨u :: us, by simp [List.mapM_cons, hu, hus], by simp [hl], fun j v hj => ?_⟩
        cases j with
        | zero =>
          simp at hj
          subst hj
          exact ⟨u, by simp, hvr⟩
        | succ j =>
          obtain ⟨u', h1, h2⟩ := hat j v (by simpa using hj)
          exact ⟨u', by simpa using h1, h2⟩
      · cases hv
    cases x with
    | tmp s =>
      simp only [cRes] at h
      split at h
      · rename_i s' rs' heq hrs
        cases heq
        split at h
        · cases h
        · rename_i hp
          cases h
          refine step _ rs' hrs rfl fun v hv => ⟨a.tmps.getD s undef, by simp [resM], fr.val s v (by simpa using hp) hv⟩
      · rename_i heq _; cases heq
      · cases h
    | cell s ty' =>
      simp only [cRes] at h
      split at h
      · rename_i heq _; cases heq
      · rename_i s' t' rs' heq hrs
        cases heq
        split at h
        · rename_i i hi
          cases h
          refine step _ rs' hrs rfl fun v hv => ?_
          split at hv
          · rename_i hp
            simp only [resV] at hv
            split at hv
            · rename_i cs hcs
              obtain ⟨B, cs', h1, h2, hpr⟩ := fr.priv s _ hp hcs
              cases h1
              obtain ⟨c, el, hh, hsz, hrd⟩ := hpr.heap
              obtain ⟨y, hy, hvr⟩ := run_loadVar tok hi (B := B) (o := 0) (f := fun j => c.getD j undef) hv (fun j hj => by
                obtain ⟨_, u, hu, _⟩ := hrd j cs[j] (List.getElem?_eq_getElem hj)
                rw [Nat.zero_add] at hu ⊢
                rw [cell?_of_heap hh, hu]
                simp [hu]) (fun j y hj => by
                obtain ⟨_, u, hu, hur⟩ := hrd j y hj
                rw [Nat.zero_add] at hu
                have : c.getD j undef = u := by simp [hu]
                rw [this]; exact hur)
              refine ⟨y, ?_, hvr⟩
              simp only [Nat.add_zero] at hy
              simp [resM, h2, asAddr, hy]
            · cases hv
          · rename_i hp
            simp only [resV] at hv
            cases hg : t.get (pos s) with
            | none => rw [hg] at hv; cases hv
            | some z =>
              rw [hg] at hv
              simp only [Option.bind_some] at hv
              have hz := fr.val s z (by simpa using hp) hg
              generalize hzu : a.tmps.getD s undef = zu at hz
              cases z <;> simp only [ldV] at hv <;> try (cases hv; done)
              · rename_i b off
                split at hv
                · rename_i cs hb
                  obtain ⟨B, d, c, el, hι, hh, hr, _⟩ := inv.cells hb
                  cases hz with
                  | ptr b off B' d' h =>
                    rw [hι] at h
                    cases h
                    obtain ⟨y, hy, hvr⟩ := run_loadVar tok hi (B := B) (o := d) (f := fun j => c.getD (d + j) undef) hv (fun j hj => by
                      obtain ⟨_, u, hu, _⟩ := hr j cs[j] (List.getElem?_eq_getElem hj)
                      rw [cell?_of_heap hh, hu]
                      simp [hu]) (fun j y hj => by
                      obtain ⟨_, u, hu, hur⟩ := hr j y hj
                      have : c.getD (d + j) undef = u := by simp [hu]
                      rw [this]; exact hur)
                    exact ⟨y, by simp [resM, hzu, asAddr, hy], hvr⟩
                · cases hv
              · rename_i cs
                cases hz with
                | vp cs B of f hs hr =>
                  obtain ⟨y, hy, hvr⟩ := run_loadVar tok hi (B := B) (o := of) (f := f) hv (fun j hj => (hs j hj).1) hr
                  exact ⟨y, by simp [resM, hzu, asAddr] at hy ⊢; simpa using hy, hvr⟩
        · cases h
      · cases h

theorem results_rel (tok : TyOk P ty) (inv : Inv B0 σ g w) (fr : FR fx.pv B0 Bf fx.n σ g w t a) {fn : Func} {rs : List CRes} (h : cRes fx ty fn.results.toList = some rs) {vs : List V} (hv : resVs t σ rs = some vs) :
    ∃ u, (results fn a.tmps).run P w = .ok u w ∧ VR g w (tupled vs) u := by
  obtain ⟨us, h1, h2, h3⟩ := cRes_rel tok inv fr _ _ h vs hv
  have hm : (fn.results.mapM (resM a.tmps)).run P w = .ok us.toArray w := by
    rw [Array.mapM_eq_mapM_toList]
    simp [h1]
  have hres : (results fn a.tmps).run P w = .ok (if h : us.toArray.size = 1 then us.toArray[0] else .tuple us.toArray) w := by
    unfold results
    have hfun : ∀ f : ResultVar → Sem Value, (∀ x, f x = resM a.tmps x) → ((fn.results.mapM f).run P w = .ok us.toArray w) := fun f hf => by
      have : f = resM a.tmps := funext hf
      rw [this]; exact hm
    rw [Sem.run_bind, hfun _ (fun x => by cases x <;> rfl), Result.andThen_ok]
    rfl
  refine ⟨_, hres, ?_⟩
  by_cases h1' : us.length = 1
  · obtain ⟨u, rfl⟩ := List.length_eq_one_iff.1 h1'
    obtain ⟨v, rfl⟩ := List.length_eq_one_iff.1 (h2 ▸ h1')
    obtain ⟨u', hu', hvr⟩ := h3 0 v rfl
    cases hu'
    simpa [tupled] using hvr
  · have ht : tupled vs = .tup vs := by
      unfold tupled
      split
      · simp at h2; omega
      · rfl
    rw [ht, dif_neg (by simpa using h1')]
    refine .tup _ _ (by simpa using h2) fun j v hj => ?_
    obtain ⟨u, hu, hvr⟩ := h3 j v hj
    have : us.toArray.getD j undef = u := by simp [hu]
    rw [this]; exact hvr

end

/-! ## The store only grows older -/

section
variable {cl : Cl}

theorem evOps_le (hcl : ClLe cl) : ∀ (l : List CI) (pd : Pend) (t : T) (σ : Sto) (k : K) (r : Res × Sto), evOps cl l pd t σ k = some r → ∃ o t' σ', σ.Le σ' ∧ k o t' σ' = some r
  | [], _, t, σ, k, r, h => ⟨.normal, t, σ, Sto.Le.refl _, h⟩
  | i :: l, pd, t, σ, k, r, h => by
    obtain ⟨s, h1, h2, h3⟩ := evOps_cons h
    cases s with
    | pan v σ' =>
      refine ⟨.pan v, t, σ', ?_, h2 v σ' rfl⟩
      unfold stepS at h1
      split at h1
      · cases h1
      · cases h1
      · split at h1
        · cases h1
        · rename_i hev; cases h1; exact evOp_le hcl hev
        · cases h1
    | go t' σ' =>
      obtain ⟨pd', h⟩ := h3 t' σ' rfl
      obtain ⟨o, t2, σ2, e1, e2⟩ := evOps_le hcl l pd' t' σ' k r h
      exact ⟨o, t2, σ2, (stepS_le hcl h1).trans e1, e2⟩

theorem run_le (hcl : ClLe cl) : ∀ (c : CC) (m : Nat) (t : T) (σ : Sto) (k : K) (r : Res × Sto), run cl m c t σ k = some r → ∃ o t' σ', σ.Le σ' ∧ k o t' σ' = some r := by
  intro c
  induction c with
  | skip => exact fun m t σ k r h => ⟨.normal, t, σ, Sto.Le.refl _, h⟩
  | exit id => exact fun m t σ k r h => ⟨.exit id, t, σ, Sto.Le.refl _, h⟩
  | ret => exact fun m t σ k r h => ⟨.ret, t, σ, Sto.Le.refl _, h⟩
  | reg d ops =>
    intro m t σ k r h
    simp only [run] at h
    obtain ⟨o, t', σ', e1, e2⟩ := evOps_le hcl _ _ _ _ _ _ h
    cases o <;> exact ⟨_, _, σ', e1, e2⟩
  | seq a b iha ihb =>
    intro m t σ k r h
    simp only [run] at h
    obtain ⟨o, t', σ', e1, e2⟩ := iha _ _ _ _ _ h
    cases o with
    | normal =>
      obtain ⟨o, t2, σ2, e3, e4⟩ := ihb _ _ _ _ _ e2
      exact ⟨o, t2, σ2, e1.trans e3, e4⟩
    | _ => exact ⟨_, t', σ', e1, e2⟩
  | cond c a b iha ihb =>
    intro m t σ k r h
    simp only [run] at h
    split at h
    · exact iha _ _ _ _ _ h
    · exact ihb _ _ _ _ _ h
    · cases h
  | block id b ih =>
    intro m t σ k r h
    simp only [run] at h
    obtain ⟨o, t', σ', e1, e2⟩ := ih _ _ _ _ _ h
    cases o with
    | exit j =>
      dsimp only at e2
      split at e2
      · exact ⟨_, t', σ', e1, e2⟩
      · exact ⟨_, t', σ', e1, e2⟩
    | _ => exact ⟨_, t', σ', e1, e2⟩
  | loop live b ih =>
    intro m t σ k r h
    simp only [run] at h
    have key : ∀ n (t : T) (σ : Sto), iter n live (run cl m b) t σ k = some r → ∃ o t' σ', σ.Le σ' ∧ k o t' σ' = some r := by
      intro n
      induction n with
      | zero => intro t σ h; cases h
      | succ n ihn =>
        intro t σ h
        simp only [iter] at h
        obtain ⟨o, t', σ', e1, e2⟩ := ih _ _ _ _ _ h
        cases o with
        | normal =>
          obtain ⟨o, t2, σ2, e3, e4⟩ := ihn t' σ' e2
          exact ⟨o, t2, σ2, e1.trans e3, e4⟩
        | _ => exact ⟨_, t', σ', e1, e2⟩
    exact key m t σ h

end

/-! ## Functions -/

/-- Each function that the interpreter knows is compiled from the program's. -/
def FtOk (P : Program) (ty : Ty) (ft : FuncId → Option CF) : Prop := ∀ f cf, ft f = some cf → ∃ fn fh, P.funcs[f]? = some fn ∧ cFn ty fn cf.n fh = some cf

theorem initT_get : ∀ (l : List V) (i s : Nat) (v : V), (initT i l).get (pos s) = some v → i ≤ s ∧ l[s - i]? = some v
  | [], i, s, v, h => by rw [initT, Tr.get_leaf] at h; cases h
  | x :: l, i, s, v, h => by
    unfold initT at h
    by_cases e : i = s
    · subst e
      rw [Tr.get_set_same] at h
      exact ⟨Nat.le_refl _, by simpa using h⟩
    · rw [Tr.get_set_ne _ _ _ _ (pos_ne e)] at h
      obtain ⟨h1, h2⟩ := initT_get l (i + 1) s v h
      refine ⟨by omega, ?_⟩
      have : s - i = (s - (i + 1)) + 1 := by omega
      rw [this]
      simpa using h2

section
variable {P : Program} {ty : Ty} {ft : FuncId → Option CF}

theorem evalF_ok (tok : TyOk P ty) (hmix : P.follows .mixedOrders = true) (hft : FtOk P ty ft) : ∀ n, ClAll P (evalF ft n) ∧ ClLe (evalF ft n) := by
  intro n
  induction n with
  | zero => exact ⟨(fun B0 f vs σ r σ' h => by cases h), (fun f vs σ r σ' h => by cases h)⟩
  | succ n ih =>
    refine ⟨fun B0 f vs σ r σ' h g w us inv hsz hvs => ?_, fun f vs σ r σ' h => ?_⟩
    · simp only [evalF] at h
      split at h
      · cases h
      · rename_i cf hcf
        split at h
        case isFalse => cases h
        rename_i hlen
        obtain ⟨fn, fh, hfn, hc⟩ := hft f cf hcf
        unfold cFn at hc
        split at hc
        case h_1 => cases hc
        rename_i c hbody
        split at hc
        case h_2 => cases hc
        rename_i cc hh rs hcc hrs
        split at hc
        case isFalse => cases hc
        rename_i hchk
        simp only [Bool.and_eq_true, decide_eq_true_eq, Bool.not_eq_true', List.all_eq_true, List.mem_range] at hchk
        obtain ⟨c1, c2, c3⟩ := hchk
        have hcfb : cf.body = cc := by rw [← Option.some.inj hc]
        have hcfr : cf.res = rs := by rw [← Option.some.inj hc]
        rw [hcfb] at h
        refine ⟨by unfold callFunc; simp [hfn, c2, hbody, ← beq_eq_false_iff_ne], calls_of_wp hfn hbody ?_⟩
        have hus : us.size ≤ fn.ntmps := by omega
        refine code_wp (fx := fxOf fn fh) (B0 := B0) (σ0 := σ) (g0 := g) (w0 := w) tok ih.1 ih.2 hmix c fh.hints cc hh hcc n (initT 0 vs) σ g w _ (finish cf) (r, σ') _ ?_ h ?_
        · refine ⟨⟨?_, fun s v hp hv => ?_, fun s v hp hv => ?_, fun s s' v v' B hp _ hv _ => ?_⟩, inv, Ext.refl σ g w, rfl⟩
          · simp only [Array.size_append, Array.size_replicate]
            show us.size + (fn.ntmps - us.size) = fn.ntmps
            omega
          · obtain ⟨_, hv⟩ := initT_get _ _ _ _ hv
            rw [Nat.sub_zero] at hv
            have := hvs s v hv
            have hlt : s < us.size := by rw [hsz]; exact (List.getElem?_eq_some_iff.1 hv).1
            rw [Array.getD_eq_getD_getElem?] at this ⊢
            rw [Array.getElem?_append_left hlt]
            exact this
          · exfalso
            obtain ⟨_, hv⟩ := initT_get _ _ _ _ hv
            rw [Nat.sub_zero] at hv
            have := c3 s (by rw [← hlen]; exact (List.getElem?_eq_some_iff.1 hv).1)
            have hp' : fh.pv.contains s = true := hp
            rw [hp'] at this
            cases this
          · exfalso
            obtain ⟨_, hv⟩ := initT_get _ _ _ _ hv
            rw [Nat.sub_zero] at hv
            have := c3 s (by rw [← hlen]; exact (List.getElem?_eq_some_iff.1 hv).1)
            have hp' : fh.pv.contains s = true := hp
            rw [hp'] at this
            cases this
        · intro o t1 σ1 g1 w1 a1 st hk e ho
          have fin : ∀ vs', resVs t1 σ1 cf.res = some vs' → r = .ret (tupled vs') → σ' = σ1 → a1.defers = [] ∧ ∃ v, (results fn a1.tmps).run P w1 = .ok v w1 ∧ Post B0 σ g w r σ' (.returned v) w1 := fun vs' h1 h2 h3 => by
            subst h2 h3
            rw [hcfr] at h1
            obtain ⟨u, hu, hvr⟩ := results_rel tok st.inv st.fr hrs h1
            exact ⟨st.defers, u, hu, _, g1, rfl, st.ext, st.inv, hvr⟩
          cases o with
          | normal =>
            cases e <;> try (exact ho.elim)
            simp only [finish, Option.map_eq_some_iff] at hk
            obtain ⟨vs', h1, h2⟩ := hk
            cases h2
            exact fin vs' h1 rfl rfl
          | ret =>
            cases e <;> try (exact ho.elim)
            simp only [finish, Option.map_eq_some_iff] at hk
            obtain ⟨vs', h1, h2⟩ := hk
            cases h2
            exact fin vs' h1 rfl rfl
          | exit j => cases hk
          | pan v =>
            cases e <;> try (exact ho.elim)
            obtain ⟨u, rfl, hvr⟩ := ho
            cases hk
            exact ⟨st.defers, v, u, g1, rfl, rfl, st.ext, st.inv, hvr⟩
    · simp only [evalF] at h
      split at h
      · cases h
      · rename_i cf hcf
        split at h
        case isFalse => cases h
        obtain ⟨o, t', σ1, e1, e2⟩ := run_le ih.2 _ _ _ _ _ _ h
        unfold finish at e2
        cases o with
        | normal =>
          simp only [Option.map_eq_some_iff] at e2
          obtain ⟨vs', h1, h2⟩ := e2
          cases h2; exact e1
        | ret =>
          simp only [Option.map_eq_some_iff] at e2
          obtain ⟨vs', h1, h2⟩ := e2
          cases h2; exact e1
        | exit j => cases e2
        | pan v => cases e2; exact e1

end

end Go.Eng
