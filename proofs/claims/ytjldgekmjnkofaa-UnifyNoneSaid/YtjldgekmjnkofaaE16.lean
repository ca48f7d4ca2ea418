/- One operation, whatever it is. -/
import Derived.Test.YtjldgekmjnkofaaE15
set_option linter.unusedVariables false
set_option linter.unusedSimpArgs false
namespace Go.Eng
open Go

theorem headOk_all {es : List V} {s size : Nat} (hl : ∀ v ∈ es, v.cells.length = s) (h : headOk size es = true) : ∀ q ∈ es, q.cells.length = size := by
  intro q hq
  cases es with
  | nil => simp at hq
  | cons e es =>
    simp only [headOk, beq_iff_eq] at h
    have := hl e (by simp)
    rw [hl q hq]; omega

def coOf : Made → CO
  | .op o => o
  | .adr p _ => .adr (pos p)

/-- Does an operation make a variable of the frame's own? -/
def Made.isNew : Made → Bool
  | .op (.alR _ _) | .op (.boxR _ _) => true
  | _ => false

def dstOk (fx : FX) (o : Oper) (m : Made) : Bool :=
  match o.dst with
  | none => true
  | some d => decide (d < fx.n) && (fx.pv d == m.isNew)

def ciDst (o : Oper) (m : Made) : Option Pos := if m.isNew then none else o.dst.map pos

/-- The addresses in the frame's own variables are where they are said to be. -/
def AdrOk (adr : Adr) (a : Act) : Prop := ∀ d p off, adr.find d = some (p, off) → ∃ B, a.tmps.getD p undef = .pointer (some ⟨B, 0, none⟩) ∧ a.tmps.getD d undef = .pointer (some ⟨B, off, none⟩)

section
variable {P : Program} {ty : Ty} {fx : FX} {adr : Adr} {B0 Bf : Nat} {cl : Cl} {o : Oper} {a : Act} {σ0 σ σ' : Sto} {g0 g : Gh} {w0 w : World} {t : T} {m : Made} {r : OR}

theorem FR.nextVal {g : Gh} {w : World} (fr : FR fx.pv B0 Bf fx.n σ g w t a) (hnew : m.isNew = false) (hd : dstOk fx o m = true) {v : V} {u : Value} (hv : VR g w v u) :
    FR fx.pv B0 Bf fx.n σ g w (nextT t (ciDst o m) (.val v)) (a.put o.dst u) := by
  unfold ciDst
  rw [hnew]
  unfold dstOk at hd
  rw [hnew] at hd
  cases hdst : o.dst with
  | none => exact fr
  | some d =>
    rw [hdst] at hd
    simp at hd
    exact fr.put_val hd.2 hd.1 hv

theorem FR.nextUnk {g : Gh} {w : World} (fr : FR fx.pv B0 Bf fx.n σ g w t a) (hnew : m.isNew = false) (hd : dstOk fx o m = true) (u : Value) :
    FR fx.pv B0 Bf fx.n σ g w (nextT t (ciDst o m) .unk) (a.put o.dst u) := by
  unfold ciDst
  rw [hnew]
  unfold dstOk at hd
  rw [hnew] at hd
  cases hdst : o.dst with
  | none => exact fr
  | some d =>
    rw [hdst] at hd
    simp at hd
    exact fr.put_unk hd.2 hd.1 u

theorem opVal_wp {v : V} {K : Act → World → Prop} {Q : Exit → Act → World → Prop} (h : OpVal P B0 o a σ g w v σ')
    (hK : ∀ u g' w', Ext σ g w σ' g' w' → Inv B0 σ' g' w' → VR g' w' v u → K (a.put o.dst u) w') : o.wp P a w K Q := by
  obtain ⟨n, u, g', w', hr, hn, e, i, hv⟩ := h
  unfold Oper.wp
  rw [hr]
  rcases hn with rfl | ⟨rfl, rfl⟩
  · rw [Oper.upon_value]; exact hK u g' w' e i hv
  · rw [Oper.upon_skip]; exact hK undef g' w' e i hv

theorem place_rel (fr : FR fx.pv B0 Bf fx.n σ g w t a) (ha : AdrOk adr a) {x : Operand} {p off : Nat} (h : place fx adr x = some (p, off)) (ht : (t.get (pos p)).isSome = true) (hp : fx.pv p = true) :
    ∃ B, a.tmps.getD p undef = .pointer (some ⟨B, 0, none⟩) ∧ a.eval x = .pointer (some ⟨B, off, none⟩) := by
  cases x with
  | tmp s =>
    simp only [place] at h
    split at h
    · obtain ⟨rfl, rfl⟩ : s = p ∧ 0 = off := by simpa using h
      obtain ⟨v, hv⟩ := Option.isSome_iff_exists.1 ht
      obtain ⟨B, cs, _, hB, _⟩ := fr.priv _ v hp hv
      exact ⟨B, hB, hB⟩
    · exact ha s p off h
  | _ => cases h

/-- Operands of an expression, each as the world has it. -/
theorem ev_rel (fr : FR fx.pv B0 Bf fx.n σ g w t a) {x : Operand} {y : Opd} (h : cOpd fx x = some y) {β : Type} {f : V → Option β} {z : β} (hb : (ev t y).bind f = some z) : ∃ v, VR g w v (a.eval x) ∧ f v = some z := by
  cases hv : ev t y with
  | none => rw [hv] at hb; cases hb
  | some v =>
    rw [hv] at hb
    exact ⟨v, cOpd_rel fr h hv, hb⟩

theorem evs_rel (fr : FR fx.pv B0 Bf fx.n σ g w t a) {xs : Array Operand} {ys : List Opd} (h : cOpds fx xs.toList = some ys) {β : Type} {f : List V → Option β} {z : β} (hb : (evs t ys).bind f = some z) :
    ∃ vs, ((xs.map a.eval).size = vs.length ∧ ∀ (j : Nat) v, vs[j]? = some v → VR g w v ((xs.map a.eval).getD j undef)) ∧ f vs = some z := by
  cases hv : evs t ys with
  | none => rw [hv] at hb; cases hb
  | some vs =>
    rw [hv] at hb
    obtain ⟨h1, h2⟩ := cOpds_rel fr xs.toList ys h vs hv
    exact ⟨vs, map_rel h1 h2, hb⟩

theorem evO_rel (fr : FR fx.pv B0 Bf fx.n σ g w t a) {x : Option Operand} {y : Option Opd} (h : (match x with | none => some none | some z => (cOpd fx z).map some) = some y) {β : Type} {f : Option V → Option β} {z : β} (hb : (evO t y).bind f = some z) :
    ∃ u, OptR g w a x u ∧ f u = some z := by
  cases x with
  | none => cases h; exact ⟨none, trivial, hb⟩
  | some x =>
    dsimp only at h
    cases hc : cOpd fx x with
    | none => rw [hc] at h; cases h
    | some y' =>
      rw [hc] at h
      cases h
      simp only [evO] at hb
      cases hv : ev t y' with
      | none => rw [hv] at hb; cases hb
      | some v =>
        rw [hv] at hb
        exact ⟨some v, cOpd_rel fr hc hv, hb⟩

theorem callR_inv {x : R} {r : OR} (h : callR x = some (r, σ')) : ∃ q, x = some (q, σ') ∧ (∀ v, q = .ret v → r = .val v) ∧ (∀ v, q = .pan v → r = .pan v) := by
  unfold callR at h
  split at h
  · cases h; exact ⟨_, rfl, (fun v e => by cases e; rfl), (fun v e => by cases e)⟩
  · cases h; exact ⟨_, rfl, (fun v e => by cases e), (fun v e => by cases e; rfl)⟩
  · cases h

/-- Where an address comes from is a variable of the frame's own. -/
def AdrPv (fx : FX) (adr : Adr) : Prop := ∀ d p off, adr.find d = some (p, off) → fx.pv p = true

theorem place_pv (h0 : AdrPv fx adr) {x : Operand} {p off : Nat} (h : place fx adr x = some (p, off)) : fx.pv p = true := by
  cases x with
  | tmp s =>
    simp only [place] at h
    split at h
    · rename_i hs
      obtain ⟨rfl, rfl⟩ : s = p ∧ 0 = off := by simpa using h
      exact hs
    · exact h0 s p off h
  | _ => cases h

theorem op_step (tok : TyOk P ty) (hcl : ClAll P cl) (fr : FR fx.pv B0 Bf fx.n σ g w t a) (inv : Inv B0 σ g w) (E : Ext σ0 g0 w0 σ g w) (hBf : Bf = w0.heap.size) (ha : AdrOk adr a) (hap : AdrPv fx adr)
    (hm : cOp fx ty adr o = some m) (hd : dstOk fx o m = true) (hev : evOp cl t σ (coOf m) = some (r, σ')) {K : Act → World → Prop} {Q : Exit → Act → World → Prop}
    (hK : ∀ u g' w', FR fx.pv B0 Bf fx.n σ' g' w' (nextT t (ciDst o m) r) (a.put o.dst u) → Ext σ0 g0 w0 σ' g' w' → Inv B0 σ' g' w' → Mon g w g' w' →
      (∀ p off, m = .adr p off → ∃ B, a.tmps.getD p undef = .pointer (some ⟨B, 0, none⟩) ∧ u = .pointer (some ⟨B, off, none⟩)) → (∀ v, r ≠ .pan v) → K (a.put o.dst u) w')
    (hQ : ∀ v u g' w', r = .pan v → Ext σ g w σ' g' w' → Inv B0 σ' g' w' → VR g' w' v u → Q (.panic [{ v := u, recovered := false }]) a w') : o.wp P a w K Q := by
  -- an operation that gives a value
  have value : ∀ v, m.isNew = false → (∀ p off, m ≠ .adr p off) → r = .val v → OpVal P B0 o a σ g w v σ' → o.wp P a w K Q := fun v hn hna hr h => opVal_wp h fun u g' w' e i hv => by
    subst hr
    exact hK u g' w' ((fr.mono e).nextVal hn hd hv) (E.trans e) i e.toMon (fun p off h => absurd h (hna p off)) (fun v h => by cases h)
  -- an operation that looks at the store alone
  have look : ∀ {x : Option V}, m.isNew = false → (∀ p off, m ≠ .adr p off) → pureR σ x = some (r, σ') → (∀ v, x = some v → OpVal P B0 o a σ g w v σ) → o.wp P a w K Q := fun {x} hn hna h hx => by
    obtain ⟨v, h1, h2, h3⟩ := pureR_inv h
    subst h3
    exact value v hn hna h2 (hx v h1)
  -- an address in a variable of the frame's own
  have address : ∀ {p off : Nat} {z : Value}, m = .adr p off → (∀ B, a.tmps.getD p undef = .pointer (some ⟨B, 0, none⟩) → z = .pointer (some ⟨B, off, none⟩)) → (∃ B, a.tmps.getD p undef = .pointer (some ⟨B, 0, none⟩)) →
      r = .unk → σ' = σ → (execOp a.eval o).run P w = .ok (.value z) w → o.wp P a w K Q := fun {p off z} hm hz hex hr hσ hrun => by
    subst hr hσ
    unfold Oper.wp
    rw [hrun, Oper.upon_value]
    refine hK z g w (fr.nextUnk (by rw [hm]; rfl) hd z) E inv (Mon.refl g w) (fun p' off' h => ?_) (fun v h => by cases h)
    rw [hm] at h
    cases h
    obtain ⟨B, hB⟩ := hex
    exact ⟨B, hB, hz B hB⟩
  have adrev : ∀ {p off : Nat}, m = .adr p off → (t.get (pos p)).isSome = true ∧ r = .unk ∧ σ' = σ := fun {p off} h => by
    rw [h] at hev
    simp only [coOf, evOp] at hev
    split at hev
    · rename_i hs
      cases hev
      exact ⟨hs, rfl, rfl⟩
    · cases hev
  cases ho : o.op with
  | move x =>
    simp only [cOp, ho] at hm
    cases hx : cOpd fx x with
    | none => rw [hx] at hm; cases hm
    | some y =>
      rw [hx] at hm
      cases hm
      exact look rfl (fun _ _ h => by cases h) hev fun v hv => s_move inv (Or.inl ho) (cOpd_rel fr hx hv)
  | assign x =>
    simp only [cOp, ho] at hm
    cases hx : cOpd fx x with
    | none => rw [hx] at hm; cases hm
    | some y =>
      rw [hx] at hm
      cases hm
      exact look rfl (fun _ _ h => by cases h) hev fun v hv => s_move inv (Or.inr ho) (cOpd_rel fr hx hv)
  | pick c x y =>
    simp only [cOp, ho, Option.bind_eq_some_iff] at hm
    obtain ⟨c', hc, x', hx, y', hy, h⟩ := hm
    cases h
    refine look rfl (fun _ _ h => by cases h) hev fun v hv => ?_
    unfold pickV at hv
    split at hv
    · rename_i hcv
      exact s_pick inv ho (b := true) (cOpd_rel fr hc hcv) (by simpa using cOpd_rel fr hx hv)
    · rename_i hcv
      exact s_pick inv ho (b := false) (cOpd_rel fr hc hcv) (by simpa using cOpd_rel fr hy hv)
    · cases hv
  | alloc e =>
    simp only [cOp, ho, Option.bind_eq_some_iff] at hm
    obtain ⟨i, hi, z, hz, hm⟩ := hm
    split at hm
    case isFalse => cases hm
    rename_i hone
    split at hm
    case h_2 => cases hm
    rename_i d hdst
    split at hm
    · rename_i hpv
      split at hm
      case isFalse => cases hm
      cases hm
      simp only [coOf, evOp] at hev
      cases hev
      obtain ⟨u, hu, hc⟩ := run_zero (P := P) tok hi hz w
      have hr := ofC_rel g w 100 u z hc
      have hst := step_priv inv (WPush.alloc w (.cells u.cells e))
      have hdn : d < fx.n := by
        unfold dstOk at hd
        rw [hdst] at hd
        simp at hd
        exact hd.1
      have hrun : (execOp a.eval o).run P w = .ok (.value (.pointer (some ⟨w.heap.size, 0, none⟩))) (w.alloc (.cells u.cells e)) := by
        unfold execOp
        simp [ho, Instr.alloc, hu, newVar, newRow]
      unfold Oper.wp
      rw [hrun, Oper.upon_value]
      have hrd := Reads.ofCells hr hone
      have hfr := fr.mono hst.2
      refine hK _ g _ ?_ (E.trans hst.2) hst.1 hst.2.toMon (fun p off h => by cases h) (fun v h => by cases h)
      rw [hdst]
      have hpriv : Priv B0 Bf σ g (w.alloc (.cells u.cells e)) w.heap.size z.cells := ⟨⟨u.cells, e, (WPush.alloc w (.cells u.cells e)).new, (hr.cells_one hone).1, hrd.mono hst.2.toMon⟩,
        fun b hb => by have := hb.lt inv; omega, fun o ho => by have := inv.gam_lt ho; omega, inv.b0, by rw [hBf]; exact E.size⟩
      refine hfr.put_new hpv hdn hpriv fun s v B' cs' hs hv hB' _ => ?_
      obtain ⟨B'', cs'', _, h2, h3⟩ := fr.priv s v hs hv
      rw [h2] at hB'
      injection hB' with hB'
      injection hB' with hB'
      injection hB' with hB'
      obtain ⟨c, el, hh, _⟩ := h3.heap
      have := lt_of_heap hh
      omega
    · rename_i hpv
      cases hm
      simp only [coOf, evOp] at hev
      cases hev
      exact value _ rfl (fun _ _ h => by cases h) rfl (s_al tok inv ho hi hz hone)
  | box e x =>
    simp only [cOp, ho, Option.bind_eq_some_iff] at hm
    obtain ⟨i, hi, x', hx, hm⟩ := hm
    split at hm
    case h_2 => cases hm
    rename_i d hdst
    split at hm
    · rename_i hpv
      split at hm
      case isFalse => cases hm
      cases hm
      simp only [coOf, evOp] at hev
      obtain ⟨v, hvr, hev⟩ := ev_rel fr hx hev
      split at hev
      case isFalse => cases hev
      rename_i hone
      cases hev
      have hst := step_priv inv (WPush.alloc w (.cells (a.eval x).cells e))
      have hdn : d < fx.n := by
        unfold dstOk at hd
        rw [hdst] at hd
        simp at hd
        exact hd.1
      have hrun : (execOp a.eval o).run P w = .ok (.value (.pointer (some ⟨w.heap.size, 0, none⟩))) (w.alloc (.cells (a.eval x).cells e)) := by
        unfold execOp
        simp [ho, Instr.box, newVar, newRow]
      unfold Oper.wp
      rw [hrun, Oper.upon_value]
      have hrd := Reads.ofCells hvr hone
      have hfr := fr.mono hst.2
      refine hK _ g _ ?_ (E.trans hst.2) hst.1 hst.2.toMon (fun p off h => by cases h) (fun v h => by cases h)
      rw [hdst]
      have hpriv : Priv B0 Bf σ g (w.alloc (.cells (a.eval x).cells e)) w.heap.size v.cells := ⟨⟨(a.eval x).cells, e, (WPush.alloc w (.cells (a.eval x).cells e)).new, (hvr.cells_one hone).1, hrd.mono hst.2.toMon⟩,
        fun b hb => by have := hb.lt inv; omega, fun o ho => by have := inv.gam_lt ho; omega, inv.b0, by rw [hBf]; exact E.size⟩
      refine hfr.put_new hpv hdn hpriv fun s v B' cs' hs hv hB' _ => ?_
      obtain ⟨B'', cs'', _, h2, h3⟩ := fr.priv s v hs hv
      rw [h2] at hB'
      injection hB' with hB'
      injection hB' with hB'
      injection hB' with hB'
      obtain ⟨c, el, hh, _⟩ := h3.heap
      have := lt_of_heap hh
      omega
    · cases hm
      simp only [coOf, evOp] at hev
      obtain ⟨v, hvr, hev⟩ := ev_rel fr hx hev
      split at hev
      case isFalse => cases hev
      rename_i hone
      cases hev
      exact value _ rfl (fun _ _ h => by cases h) rfl (s_box inv ho hvr hone.2)
  | load s x =>
    simp only [cOp, ho, Option.bind_eq_some_iff] at hm
    obtain ⟨i, hi, hm⟩ := hm
    split at hm
    · rename_i p off hpl
      cases hm
      simp only [coOf, evOp] at hev
      split at hev
      case h_2 => cases hev
      rename_i cs hcs
      have hpv := place_pv hap hpl
      obtain ⟨B, hB, hxe⟩ := place_rel fr ha hpl (by rw [hcs]; rfl) hpv
      refine look rfl (fun _ _ h => by cases h) hev fun v hv => ?_
      obtain ⟨B', cs', hcs', hB', hpriv⟩ := fr.priv p _ hpv hcs
      cases hcs'
      rw [hB] at hB'
      cases hB'
      obtain ⟨c, el, hh, hsz, hrd⟩ := hpriv.heap
      obtain ⟨y, hy, hvr⟩ := run_loadVar (P := P) tok hi (g := g) (w := w) (B := B) (o := 0) (f := fun j => c.getD j undef) hv (fun j hj => by
        obtain ⟨_, u, hu, _⟩ := hrd j cs[j] (List.getElem?_eq_getElem hj)
        rw [cell?_of_heap hh, hu]
        rw [Nat.zero_add] at hu
        simp [hu]) (fun j y hj => by
        obtain ⟨_, u, hu, hur⟩ := hrd j y hj
        rw [Nat.zero_add] at hu
        have : c.getD j undef = u := by simp [hu]
        rw [this]; exact hur)
      rw [Nat.zero_add] at hy
      refine .same inv y ?_ hvr
      unfold execOp
      simp [ho, hxe, Instr.loadAt, Instr.sureAddr, hy]
    · cases hx : cOpd fx x with
      | none => rw [hx] at hm; cases hm
      | some y =>
        rw [hx] at hm
        cases hm
        simp only [coOf, evOp] at hev
        obtain ⟨v, hvr, hev⟩ := ev_rel fr hx hev
        exact look rfl (fun _ _ h => by cases h) hev fun v hv => s_ld tok inv ho hi hvr hv
  | store s x y =>
    simp only [cOp, ho] at hm
    split at hm
    case isTrue => cases hm
    rename_i hdn
    have hdst0 : o.dst = none := by cases h : o.dst with | none => rfl | some d => rw [h] at hdn; simp at hdn
    simp only [Option.bind_eq_some_iff] at hm
    obtain ⟨i, hi, y', hy, hm⟩ := hm
    split at hm
    · rename_i p off hpl
      cases hm
      simp only [coOf, evOp] at hev
      split at hev
      case h_2 => cases hev
      rename_i cs v hcs hv
      simp only [Option.bind_eq_some_iff] at hev
      obtain ⟨u', hu', hev⟩ := hev
      cases hev
      unfold stRV at hu'
      split at hu'
      case isFalse => cases hu'
      rename_i hc
      obtain ⟨c1, c2, c3⟩ := hc
      cases hu'
      have hpv := place_pv hap hpl
      obtain ⟨B, hB, hxe⟩ := place_rel fr ha hpl (by rw [hcs]; rfl) hpv
      have hvr := cOpd_rel fr hy hv
      obtain ⟨B', c, el, hB', hh, hsz, hbf, hb0, hfree, hgm, hinv, hmon, hfr⟩ := fr.store inv hpv hcs hvr c3 (off := off) (by omega)
      rw [hB] at hB'
      cases hB'
      have hlen : (a.eval y).cells.toList.length = v.cells.length := by simpa using (hvr.cells_one c3).1
      have hone : ∀ u ∈ (a.eval y).cells.toList, u.oneCell' = true := fun u hu => by
        obtain ⟨j, hj⟩ := List.getElem?_of_mem hu
        have hjl : j < v.cells.length := by have := (List.getElem?_eq_some_iff.1 hj).1; omega
        obtain ⟨u', hu', _, ho'⟩ := (hvr.cells_one c3).2 j v.cells[j] (List.getElem?_eq_getElem hjl)
        have : u' = u := by
          have h1 : (a.eval y).cells.toList[j]? = some u' := by simpa using hu'
          rw [h1] at hj; cases hj; rfl
        rw [← this]; exact ho'
      have hrun := run_storeCells (P := P) B off el (0, 0) (a.eval y).cells.toList 0 c w hh (by omega) (Or.inl rfl) hone
      rw [Nat.add_zero] at hrun
      have hex : (execOp a.eval o).run P w = .ok .skip (setB w B (.cells (wrow c off (a.eval y).cells.toList) el (0, 0))) := by
        unfold execOp
        simp only [ho, hxe, Instr.storeAt, Instr.sureAddr, Sem.run_bind, Sem.run_pure, Result.andThen_ok, storeVar, run_sizeOf tok hi]
        rw [if_neg (by rw [(hvr.cells_one c3).1]; simp [c1]), hrun]
        rfl
      unfold Oper.wp
      rw [hex, Oper.upon_skip]
      have hws := WSet.setB (lt_of_heap hh) (.cells (wrow c off (a.eval y).cells.toList) el (0, 0))
      have E' : Ext σ0 g0 w0 σ g (setB w B (.cells (wrow c off (a.eval y).cells.toList) el (0, 0))) :=
        { E.toMon.trans hmon with
          rest := fun k hk hno => by rw [hws.other k (by omega)]; exact E.rest k hk hno
          news := E.news
          next := E.next }
      have hfr' : FR fx.pv B0 Bf fx.n σ g (setB w B (.cells (wrow c off (a.eval y).cells.toList) el (0, 0))) (t.set (pos p) (.agg (over cs off v.cells))) (a.put o.dst undef) := by
        rw [hdst0]; exact hfr
      exact hK _ g _ hfr' E' hinv hmon (fun p off h => by cases h) (fun v h => by cases h)
    · cases hx : cOpd fx x with
      | none => rw [hx] at hm; cases hm
      | some x' =>
        rw [hx] at hm
        cases hm
        simp only [coOf, evOp] at hev
        obtain ⟨ua, har, hev⟩ := ev_rel fr hx hev
        obtain ⟨uv, hvr, hev⟩ := ev_rel fr hy hev
        simp only [Option.bind_eq_some_iff] at hev
        obtain ⟨σ1, hs, hev⟩ := hev
        cases hev
        exact value _ rfl (fun _ _ h => by cases h) rfl (s_st tok inv ho hi har hvr hs)
  | nilCheck x =>
    simp only [cOp, ho] at hm
    split at hm
    · rename_i p off hpl
      cases hm
      obtain ⟨h1, h2, h3⟩ := adrev rfl
      obtain ⟨B, hB, hxe⟩ := place_rel fr ha hpl h1 (place_pv hap hpl)
      refine address rfl (z := .pointer (some ⟨B, off, none⟩)) (fun B' hB' => by rw [hB] at hB'; cases hB'; rfl) ⟨B, hB⟩ h2 h3 ?_
      unfold execOp
      simp [ho, hxe]
    · cases hx : cOpd fx x with
      | none => rw [hx] at hm; cases hm
      | some y =>
        rw [hx] at hm
        cases hm
        simp only [coOf, evOp] at hev
        obtain ⟨v, hvr, hev⟩ := ev_rel fr hx hev
        exact look rfl (fun _ _ h => by cases h) hev fun v hv => s_nilCheck inv ho hvr hv
  | fieldAddr s x f =>
    simp only [cOp, ho, Option.bind_eq_some_iff] at hm
    obtain ⟨fl, hf, i, hi, hm⟩ := hm
    split at hm
    case isTrue => cases hm
    rename_i hsz
    split at hm
    · rename_i p off hpl
      cases hm
      obtain ⟨h1, h2, h3⟩ := adrev rfl
      obtain ⟨B, hB, hxe⟩ := place_rel fr ha hpl h1 (place_pv hap hpl)
      obtain ⟨j, fs, hj, hd', hfl⟩ := fieldOf_inv hf
      have hu := tok.under s j hj
      rw [hd'] at hu
      refine address rfl (z := .pointer (some ⟨B, off + fl.offset, none⟩)) (fun B' hB' => by rw [hB] at hB'; cases hB'; rfl) ⟨B, hB⟩ h2 h3 ?_
      unfold execOp
      simp [ho, hxe, Instr.fieldAt, run_underlying hu, hfl, Instr.sureAddr, fieldPlace, run_sizeOf tok hi, hsz, Addr.add_lit]
    · cases hx : cOpd fx x with
      | none => rw [hx] at hm; cases hm
      | some y =>
        rw [hx] at hm
        cases hm
        simp only [coOf, evOp] at hev
        obtain ⟨v, hvr, hev⟩ := ev_rel fr hx hev
        exact look rfl (fun _ _ h => by cases h) hev fun v hv => s_fieldAddr tok inv ho hf hi hsz hvr hv
  | field s x f =>
    simp only [cOp, ho, Option.bind_eq_some_iff] at hm
    obtain ⟨fl, hf, i, hi, hm⟩ := hm
    cases hx : cOpd fx x with
    | none => rw [hx] at hm; cases hm
    | some y =>
      rw [hx] at hm
      cases hm
      simp only [coOf, evOp] at hev
      obtain ⟨v, hvr, hev⟩ := ev_rel fr hx hev
      exact look rfl (fun _ _ h => by cases h) hev fun v hv => s_field tok inv ho hf hi hvr hv
  | indexAddr s x j =>
    simp only [cOp, ho] at hm
    split at hm
    · rename_i e he
      simp only [Option.bind_eq_some_iff] at hm
      obtain ⟨x', hx, j', hj, hm⟩ := hm
      cases hm
      simp only [coOf, evOp] at hev
      obtain ⟨v, hvr, hev⟩ := ev_rel fr hx hev
      obtain ⟨u, hur, hev⟩ := ev_rel fr hj hev
      exact look rfl (fun _ _ h => by cases h) hev fun z hz => s_indexAddr tok inv ho he hvr hur hz
    · simp only [Option.bind_eq_some_iff] at hm
      obtain ⟨e, he, x', hx, j', hj, hm⟩ := hm
      cases hm
      simp only [coOf, evOp] at hev
      obtain ⟨v, hvr, hev⟩ := ev_rel fr hx hev
      obtain ⟨u, hur, hev⟩ := ev_rel fr hj hev
      exact look rfl (fun _ _ h => by cases h) hev fun z hz => s_indexArr tok inv ho he hvr hur hz
  | index s x j =>
    simp only [cOp, ho, Option.bind_eq_some_iff] at hm
    obtain ⟨i, hi, x', hx, j', hj, hm⟩ := hm
    split at hm
    · rename_i len et hdesc
      simp only [Option.bind_eq_some_iff] at hm
      obtain ⟨e, he, hm⟩ := hm
      cases hm
      simp only [coOf, evOp] at hev
      obtain ⟨v, hvr, hev⟩ := ev_rel fr hx hev
      obtain ⟨u, hur, hev⟩ := ev_rel fr hj hev
      refine look rfl (fun _ _ h => by cases h) hev fun z hz => ?_
      unfold indexV at hz
      split at hz
      · split at hz
        · rename_i hb
          exact s_index_arr tok inv ho hi hdesc he hvr hur hb.1 hb.2 hz
        · cases hz
      · cases hz
    · rename_i hdesc
      cases hm
      simp only [coOf, evOp] at hev
      obtain ⟨v, hvr, hev⟩ := ev_rel fr hx hev
      obtain ⟨u, hur, hev⟩ := ev_rel fr hj hev
      refine look rfl (fun _ _ h => by cases h) hev fun z hz => ?_
      unfold indexS at hz
      split at hz
      · split at hz
        · rename_i h0
          cases hb : ‹List UInt8›[(‹Int›).toNat]? with
          | none => rw [hb] at hz; cases hz
          | some b =>
            rw [hb] at hz
            cases hz
            exact s_index_str tok inv ho hi hdesc hvr hur h0 hb
        · cases hz
      · cases hz
    · cases hm
  | binOp op s x y yt =>
    simp only [cOp, ho, Option.bind_eq_some_iff] at hm
    obtain ⟨i, hi, x', hx, y', hy, hm⟩ := hm
    cases hm
    simp only [coOf, evOp] at hev
    obtain ⟨v, hvr, hev⟩ := ev_rel fr hx hev
    obtain ⟨u, hur, hev⟩ := ev_rel fr hy hev
    exact look rfl (fun _ _ h => by cases h) hev fun z hz => s_bin tok inv ho hi hvr hur hz
  | unOp op s x =>
    cases op with
    | not =>
      simp only [cOp, ho] at hm
      cases hx : cOpd fx x with
      | none => rw [hx] at hm; cases hm
      | some y =>
        rw [hx] at hm
        cases hm
        simp only [coOf, evOp] at hev
        obtain ⟨v, hvr, hev⟩ := ev_rel fr hx hev
        exact look rfl (fun _ _ h => by cases h) hev fun v hv => s_not inv ho hvr hv
    | _ => simp only [cOp, ho] at hm; cases hm
  | build s parts =>
    simp only [cOp, ho] at hm
    split at hm
    case isFalse =>
      simp only [Option.bind_eq_some_iff] at hm
      obtain ⟨e, he, i, hi, z, hz, hm⟩ := hm
      split at hm
      case h_2 => cases hm
      rename_i cs
      cases hp : cParts fx (fun q => some (q * e.2.size, e.2.size)) parts.toList with
      | none => rw [hp] at hm; cases hm
      | some ps =>
        rw [hp] at hm
        cases hm
        simp only [coOf, evOp] at hev
        refine look rfl (fun _ _ h => by cases h) hev fun v hv => ?_
        cases hf : fillV t cs ps with
        | none => rw [hf] at hv; cases hv
        | some cs' =>
          rw [hf] at hv
          cases hv
          exact s_buildArr tok fr inv ho he hi hz hp hf
    rename_i hk
    simp only [Option.bind_eq_some_iff] at hm
    obtain ⟨i, hi, z, hz, hm⟩ := hm
    split at hm
    case h_2 => cases hm
    rename_i cs
    split at hm
    case isFalse => cases hm
    cases hp : cParts fx (placesOf ty s) parts.toList with
    | none => rw [hp] at hm; cases hm
    | some ps =>
      rw [hp] at hm
      cases hm
      simp only [coOf, evOp] at hev
      refine look rfl (fun _ _ h => by cases h) hev fun v hv => ?_
      cases hf : fillV t cs ps with
      | none => rw [hf] at hv; cases hv
      | some cs' =>
        rw [hf] at hv
        cases hv
        exact s_build tok fr inv ho hk hi hz hp hf
  | buildSlice s len parts =>
    simp only [cOp, ho, Option.bind_eq_some_iff] at hm
    obtain ⟨e, he, z, hz, hm⟩ := hm
    split at hm
    case isFalse => cases hm
    rename_i hc
    obtain ⟨c1, c2, c3, c4⟩ := hc
    cases hp : cElems fx parts.toList with
    | none => rw [hp] at hm; cases hm
    | some ps =>
      rw [hp] at hm
      cases hm
      simp only [coOf, evOp] at hev
      split at hev
      case h_2 => cases hev
      rename_i es hf
      have := s_buildSl tok fr inv ho he hz c1 c2 c3 c4 hp hf (isTmp o.dst fx.mu)
      split at hev
      · rename_i hmu
        rw [hmu] at this
        cases hev
        exact value _ rfl (fun _ _ h => by cases h) rfl this
      · rename_i hmu
        have hmu' : isTmp o.dst fx.mu = false := by simpa using hmu
        rw [hmu'] at this
        cases hev
        exact value _ rfl (fun _ _ h => by cases h) rfl this
  | makeInterface s x =>
    simp only [cOp, ho, Option.bind_eq_some_iff] at hm
    obtain ⟨i, hi, x', hx, hm⟩ := hm
    split at hm
    · cases hm
    · rename_i hno
      cases hm
      simp only [coOf, evOp] at hev
      obtain ⟨v, hvr, hev⟩ := ev_rel fr hx hev
      cases hev
      exact value _ rfl (fun _ _ h => by cases h) rfl (s_mkIface tok inv ho hi (fun ms h => hno ms h) hvr)
  | makeFunc fn first caps =>
    simp only [cOp, ho] at hm
    cases fn with
    | func f =>
      dsimp only at hm
      split at hm
      case isFalse => cases hm
      rename_i hf
      have hf' : first = #[] := Array.eq_empty_of_size_eq_zero hf
      subst hf'
      cases hx : cOpds fx caps.toList with
      | none => rw [hx] at hm; cases hm
      | some ys =>
        rw [hx] at hm
        cases hm
        simp only [coOf, evOp] at hev
        obtain ⟨vs, hvs, hev⟩ := evs_rel fr hx hev
        cases hev
        exact value _ rfl (fun _ _ h => by cases h) rfl (s_mkFunc inv ho hvs)
    | _ => cases hm
  | makeMap s r =>
    cases r with
    | some _ => simp only [cOp, ho] at hm; cases hm
    | none =>
      simp only [cOp, ho] at hm
      cases hm
      simp only [coOf, evOp] at hev
      cases hev
      exact value _ rfl (fun _ _ h => by cases h) rfl (s_mkMap inv ho)
  | makeSlice s l c =>
    simp only [cOp, ho, Option.bind_eq_some_iff] at hm
    obtain ⟨e, he, z, hz, hm⟩ := hm
    split at hm
    case isFalse => cases hm
    rename_i hc
    obtain ⟨c1, c2, c3⟩ := hc
    have fin : a.eval c = a.eval l → ∀ l', cOpd fx l = some l' → m = .op (.mkSl e.size e.bytes z l' (isTmp o.dst fx.mu)) → o.wp P a w K Q := fun hlc l' hl hm => by
      subst hm
      simp only [coOf, evOp] at hev
      obtain ⟨v, hvr, hev⟩ := ev_rel fr hl hev
      simp only [Option.bind_eq_some_iff] at hev
      obtain ⟨x, hx, hev⟩ := hev
      cases hev
      exact value _ rfl (fun _ _ h => by cases h) rfl (s_mkSl tok inv ho hlc he hz c1 c2 hvr _ hx)
    split at hm
    · rename_i x y
      split at hm
      case isFalse => cases hm
      rename_i hxy
      subst hxy
      cases hl : cOpd fx (.tmp x) with
      | none => rw [hl] at hm; cases hm
      | some l' => rw [hl] at hm; cases hm; exact fin rfl l' hl rfl
    · rename_i k n k' n'
      split at hm
      case isFalse => cases hm
      rename_i hxy
      obtain ⟨rfl, rfl⟩ := hxy
      cases hl : cOpd fx (.const (.int k n)) with
      | none => rw [hl] at hm; cases hm
      | some l' => rw [hl] at hm; cases hm; exact fin rfl l' hl rfl
    · cases hm
  | mapUpdate s mp k x =>
    simp only [cOp, ho, Option.bind_eq_some_iff] at hm
    obtain ⟨i, hi, hm⟩ := hm
    split at hm
    case h_2 => cases hm
    rename_i kt et hdesc
    simp only [Option.bind_eq_some_iff] at hm
    obtain ⟨ki, hki, hm⟩ := hm
    have fin : (∃ q, ki.desc = .int q) ∨ ki.desc = .string → ((cOpd fx mp).bind fun m => (cOpd fx k).bind fun k => (cOpd fx x).bind fun x => some (Made.op (.mapUpd (kdOf ki.desc) m k x))) = some m → o.wp P a w K Q := fun hkd hm => by
      simp only [Option.bind_eq_some_iff] at hm
      obtain ⟨m', hm', k', hk', x', hx', hm⟩ := hm
      cases hm
      simp only [coOf, evOp] at hev
      obtain ⟨um, hmr, hev⟩ := ev_rel fr hm' hev
      obtain ⟨uk, hkr, hev⟩ := ev_rel fr hk' hev
      obtain ⟨ux, hxr, hev⟩ := ev_rel fr hx' hev
      simp only [Option.bind_eq_some_iff] at hev
      obtain ⟨σ1, hs, hev⟩ := hev
      cases hev
      exact value _ rfl (fun _ _ h => by cases h) rfl (s_mapUpd tok inv (Or.inl ho) hi hdesc hki hkd hmr hkr hxr hs)
    split at hm
    · rename_i q hq; rw [hq] at fin; exact fin (Or.inl ⟨q, rfl⟩) (by rw [← hq]; simpa [hq] using hm)
    · rename_i hq; rw [hq] at fin; exact fin (Or.inr rfl) (by simpa [hq] using hm)
    · cases hm
  | insert s mp k x =>
    simp only [cOp, ho, Option.bind_eq_some_iff] at hm
    obtain ⟨i, hi, hm⟩ := hm
    split at hm
    case h_2 => cases hm
    rename_i kt et hdesc
    simp only [Option.bind_eq_some_iff] at hm
    obtain ⟨ki, hki, hm⟩ := hm
    have fin : (∃ q, ki.desc = .int q) ∨ ki.desc = .string → ((cOpd fx mp).bind fun m => (cOpd fx k).bind fun k => (cOpd fx x).bind fun x => some (Made.op (.mapUpd (kdOf ki.desc) m k x))) = some m → o.wp P a w K Q := fun hkd hm => by
      simp only [Option.bind_eq_some_iff] at hm
      obtain ⟨m', hm', k', hk', x', hx', hm⟩ := hm
      cases hm
      simp only [coOf, evOp] at hev
      obtain ⟨um, hmr, hev⟩ := ev_rel fr hm' hev
      obtain ⟨uk, hkr, hev⟩ := ev_rel fr hk' hev
      obtain ⟨ux, hxr, hev⟩ := ev_rel fr hx' hev
      simp only [Option.bind_eq_some_iff] at hev
      obtain ⟨σ1, hs, hev⟩ := hev
      cases hev
      exact value _ rfl (fun _ _ h => by cases h) rfl (s_mapUpd tok inv (Or.inr ho) hi hdesc hki hkd hmr hkr hxr hs)
    split at hm
    · rename_i q hq; rw [hq] at fin; exact fin (Or.inl ⟨q, rfl⟩) (by simpa [hq] using hm)
    · rename_i hq; rw [hq] at fin; exact fin (Or.inr rfl) (by simpa [hq] using hm)
    · cases hm
  | lookup s mp k ok =>
    simp only [cOp, ho, Option.bind_eq_some_iff] at hm
    obtain ⟨i, hi, hm⟩ := hm
    split at hm
    case h_2 => cases hm
    rename_i kt et hdesc
    simp only [Option.bind_eq_some_iff] at hm
    obtain ⟨ki, hki, ei, hei, z, hz, hm⟩ := hm
    have fin : (∃ q, ki.desc = .int q) ∨ ki.desc = .string → ((cOpd fx mp).bind fun m => (cOpd fx k).bind fun k => some (Made.op (.lookup (kdOf ki.desc) z m k ok))) = some m → o.wp P a w K Q := fun hkd hm => by
      simp only [Option.bind_eq_some_iff] at hm
      obtain ⟨m', hm', k', hk', hm⟩ := hm
      cases hm
      simp only [coOf, evOp] at hev
      obtain ⟨um, hmr, hev⟩ := ev_rel fr hm' hev
      obtain ⟨uk, hkr, hev⟩ := ev_rel fr hk' hev
      exact look rfl (fun _ _ h => by cases h) hev fun v hv => s_lookup tok inv ho hi hdesc hki hei hz hkd hmr hkr hv
    split at hm
    · rename_i q hq; rw [hq] at fin; exact fin (Or.inl ⟨q, rfl⟩) (by simpa [hq] using hm)
    · rename_i hq; rw [hq] at fin; exact fin (Or.inr rfl) (by simpa [hq] using hm)
    · cases hm
  | extract x j =>
    simp only [cOp, ho] at hm
    cases hx : cOpd fx x with
    | none => rw [hx] at hm; cases hm
    | some y =>
      rw [hx] at hm
      cases hm
      simp only [coOf, evOp] at hev
      obtain ⟨v, hvr, hev⟩ := ev_rel fr hx hev
      exact look rfl (fun _ _ h => by cases h) hev fun v hv => s_extract inv ho hvr hv
  | slice s x lo hi mx =>
    cases mx with
    | some _ => simp only [cOp, ho] at hm; cases hm
    | none =>
      simp only [cOp, ho, Option.bind_eq_some_iff] at hm
      obtain ⟨i, hi', x', hx, lo', hlo, hi2, hhi, hm⟩ := hm
      split at hm
      · rename_i hdesc
        cases hm
        simp only [coOf, evOp] at hev
        obtain ⟨v, hvr, hev⟩ := ev_rel fr hx hev
        obtain ⟨ul, hul, hev⟩ := evO_rel fr hlo hev
        obtain ⟨uh, huh, hev⟩ := evO_rel fr hhi hev
        split at hev
        case isFalse => cases hev
        rename_i hkd
        refine look rfl (fun _ _ h => by cases h) hev fun z hz => ?_
        unfold sliceV at hz
        split at hz
        · split at hz
          · rename_i l h hl hh
            split at hz
            · rename_i hc
              cases hz
              exact s_slice_str tok inv ho hi' hdesc hvr (boundV_is hul hl) (boundV_is huh hh) hc.1 hc.2
            · cases hz
          · cases hz
        · cases hkd
        · cases hkd
        · cases hz
      · rename_i et hdesc
        simp only [Option.bind_eq_some_iff] at hm
        obtain ⟨e, he, hm⟩ := hm
        cases hm
        simp only [coOf, evOp] at hev
        obtain ⟨v, hvr, hev⟩ := ev_rel fr hx hev
        obtain ⟨ul, hul, hev⟩ := evO_rel fr hlo hev
        obtain ⟨uh, huh, hev⟩ := evO_rel fr hhi hev
        split at hev
        case isFalse => cases hev
        rename_i hkd
        refine look rfl (fun _ _ h => by cases h) hev fun z hz => ?_
        unfold sliceV at hz
        split at hz
        · cases hkd
        · split at hz
          · rename_i l h hl hh
            split at hz
            · rename_i hc
              cases hz
              obtain ⟨c1, c2, c3⟩ := hc
              refine s_slice_sl tok inv ho hi' hdesc he hvr ?_ (boundV_is hul hl) (boundV_is huh hh) c1 c2
              obtain ⟨s2, hls⟩ := hvr.sl_len
              exact fun q hq => headOk_all hls c3 q hq
            · cases hz
          · cases hz
        · split at hz
          · rename_i hl hh
            cases hz
            exact s_slice_nil tok inv ho hi' hdesc he hvr (boundV_is hul hl) (boundV_is huh hh)
          · cases hz
        · cases hz
      · cases hm
  | call c =>
    simp only [cOp, ho] at hm
    obtain ⟨callee, args, argTypes⟩ := c
    -- a call of a function
    have callee_ : ∀ {f : FuncId} {vs : List V} {us : Array Value}, m.isNew = false → (∀ p off, m ≠ .adr p off) → callR (cl f vs σ) = some (r, σ') → us.size = vs.length → (∀ (j : Nat) v, vs[j]? = some v → VR g w v (us.getD j undef)) →
        (execOp a.eval o).run P w = (callFunc f us).run P w → o.wp P a w K Q := fun {f vs us} hn hna h hsz hv hex => by
      obtain ⟨q, hq, h1, h2⟩ := callR_inv h
      refine call_wp (hcl B0) hq inv hsz hv hex (fun v u g' w' hr e i hv => ?_) (fun v u g' w' hr e i hv => hQ v u g' w' (h2 v hr) e i hv)
      have := h1 v hr
      subst this
      exact hK u g' w' ((fr.mono e).nextVal hn hd hv) (E.trans e) i e.toMon (fun p off h => absurd h (hna p off)) (fun v h => by cases h)
    cases callee with
    | builtin b =>
      cases b with
      | len =>
        dsimp only at hm
        split at hm
        · rename_i x s hx0 hs0
          have hargs : args = #[x] := by cases args; simp at hx0; simp [hx0]
          have htys : argTypes = #[s] := by cases argTypes; simp at hs0; simp [hs0]
          subst hargs htys
          simp only [Option.bind_eq_some_iff] at hm
          obtain ⟨i, hi, hm⟩ := hm
          cases hx : cOpd fx x with
          | none => rw [hx] at hm; cases hm
          | some y =>
            rw [hx] at hm
            cases hm
            simp only [coOf, evOp] at hev
            obtain ⟨v, hvr, hev⟩ := ev_rel fr hx hev
            exact look rfl (fun _ _ h => by cases h) hev fun v hv => s_len tok inv ho hi hvr hv
        · cases hm
      | append =>
        dsimp only at hm
        split at hm
        · rename_i x y s s' hx0 hs0
          have hargs : args = #[x, y] := by cases args; simp at hx0; simp [hx0]
          have htys : argTypes = #[s, s'] := by cases argTypes; simp at hs0; simp [hs0]
          subst hargs htys
          split at hm
          case isFalse => cases hm
          rename_i hss
          subst hss
          simp only [Option.bind_eq_some_iff] at hm
          obtain ⟨e, he, x', hx, y', hy, z, hz, hm⟩ := hm
          split at hm
          case isFalse => cases hm
          rename_i hc
          cases hm
          simp only [coOf, evOp] at hev
          obtain ⟨v, hvr, hev⟩ := ev_rel fr hx hev
          obtain ⟨u, hur, hev⟩ := ev_rel fr hy hev
          simp only [Option.bind_eq_some_iff] at hev
          obtain ⟨q, hq, hev⟩ := hev
          cases hev
          exact value _ rfl (fun _ _ h => by cases h) rfl (s_append tok inv ho he hz hc.2.2 hc.2.1 hc.1 hvr hur hq)
        · cases hm
      | _ => cases hm
    | invoke r m => cases hm
    | value f =>
      have dyn : ((cOpd fx f).bind fun f => (cOpds fx args.toList).map fun xs => Made.op (.callV f xs)) = some m → o.wp P a w K Q := fun hm => by
        simp only [Option.bind_eq_some_iff] at hm
        obtain ⟨f', hf, hm⟩ := hm
        cases hx : cOpds fx args.toList with
        | none => rw [hx] at hm; cases hm
        | some ys =>
          rw [hx] at hm
          cases hm
          simp only [coOf, evOp] at hev
          obtain ⟨vf, hfr, hev⟩ := ev_rel fr hf hev
          obtain ⟨vs, hvs, hev⟩ := evs_rel fr hx hev
          cases vf <;> try (cases hev; done)
          rename_i fid caps _
          dsimp only at hev
          generalize hz : a.eval f = z at hfr
          cases hfr with
          | func _ _ us hn hv =>
            have hsz : (args.map a.eval ++ us).size = (vs ++ caps).length := by rw [Array.size_append, List.length_append, hvs.1, hn]
            have hrel : ∀ (j : Nat) v, (vs ++ caps)[j]? = some v → VR g w v ((args.map a.eval ++ us).getD j undef) := fun j v hj => by
              by_cases hlt : j < vs.length
              · rw [List.getElem?_append_left hlt] at hj
                have := hvs.2 j v hj
                rw [Array.getD_eq_getD_getElem?] at this ⊢
                rw [Array.getElem?_append_left (by rw [hvs.1]; exact hlt)]
                exact this
              · rw [List.getElem?_append_right (by omega)] at hj
                have := hv _ v hj
                rw [Array.getD_eq_getD_getElem?] at this ⊢
                rw [Array.getElem?_append_right (by rw [hvs.1]; omega), hvs.1]
                exact this
            have hexec : (execOp a.eval o).run P w = (callFunc fid (args.map a.eval ++ us)).run P w := by
              unfold execOp
              simp [ho, resolve, Deferred.ofValue, hz, invoke]
            split at hev
            · obtain ⟨v, h1, h2, h3⟩ := pureR_inv hev
              subst h2 h3
              exact pure_wp hcl h1 inv hsz hrel hexec fun u g' w' e i hv => hK u g' w' ((fr.mono e).nextVal rfl hd hv) (E.trans e) i e.toMon (fun p off h => by cases h) (fun v h => by cases h)
            · exact callee_ (us := args.map a.eval ++ us) rfl (fun _ _ h => by cases h) hev hsz hrel hexec
      cases f with
      | func fid =>
        dsimp only at hm
        cases hx : cOpds fx args.toList with
        | none => rw [hx] at hm; cases hm
        | some ys =>
          rw [hx] at hm
          have hexec : (execOp a.eval o).run P w = (callFunc fid (args.map a.eval)).run P w := by
            unfold execOp
            simp [ho, resolve, Deferred.ofValue, Act.eval, invoke]
          cases hpu : fx.pu fid with
          | true =>
            rw [hpu] at hm
            cases hm
            simp only [if_true, coOf, evOp] at hev
            obtain ⟨vs, hvs, hev⟩ := evs_rel fr hx hev
            obtain ⟨v, h1, h2, h3⟩ := pureR_inv hev
            subst h2 h3
            exact pure_wp hcl h1 inv hvs.1 hvs.2 hexec fun u g' w' e i hv => hK u g' w' ((fr.mono e).nextVal rfl hd hv) (E.trans e) i e.toMon (fun p off h => by cases h) (fun v h => by cases h)
          | false =>
            rw [hpu] at hm
            cases hm
            simp only [Bool.false_eq_true, if_false, coOf, evOp] at hev
            obtain ⟨vs, hvs, hev⟩ := evs_rel fr hx hev
            exact callee_ (us := args.map a.eval) rfl (fun _ _ h => by cases h) hev hvs.1 hvs.2 hexec
      | tmp s => exact dyn hm
      | const v => exact dyn hm
      | global n => exact dyn hm
  | _ => simp only [cOp, ho] at hm; cases hm

end

end Go.Eng
