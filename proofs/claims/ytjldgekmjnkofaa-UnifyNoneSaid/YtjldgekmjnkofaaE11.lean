/- Structs that are built; looks into maps. -/
import Derived.Test.YtjldgekmjnkofaaE10
import Derived.Laws.Tables
set_option linter.unusedVariables false
set_option linter.unusedSimpArgs false
namespace Go.Eng
open Go

theorem foldl_wrow (l : List Value) (off : Nat) : ∀ (k : Nat) (cs : Array Value), (l.zipIdx k).foldl (fun (cs : Array Value) (p : Value × Nat) => cs.setIfInBounds (off + p.2) p.1) cs = wrow cs (off + k) l := by
  induction l with
  | nil => intro k cs; rfl
  | cons v l ih =>
    intro k cs
    rw [List.zipIdx_cons, List.foldl_cons, ih (k + 1)]
    rfl

theorem fill_step (u : Value) (off : Nat) (cs : Array Value) : u.cells.zipIdx.foldl (fun cs x => match x with | (c, j) => cs.setIfInBounds (off + j) c) cs = wrow cs off u.cells.toList := by
  rw [← Array.foldl_toList]
  have := foldl_wrow u.cells.toList off 0 cs
  rw [Nat.add_zero] at this
  rw [← this]
  simp

/-- A row of cells, whole, reads as a list. -/
def Same (g : Gh) (w : World) (us : Array Value) (cs : List V) : Prop := us.size = cs.length ∧ ∀ (j : Nat) v, cs[j]? = some v → VR g w v (us.getD j undef)

theorem Same.over {g : Gh} {w : World} {us : Array Value} {cs : List V} (h : Same g w us cs) {v : V} {u : Value} (hv : VR g w v u) (hone : v.cells.all V.one = true) (off : Nat) (hoff : off + v.cells.length ≤ cs.length) :
    Same g w (wrow us off u.cells.toList) (over cs off v.cells) := by
  obtain ⟨h1, h2⟩ := hv.cells_one hone
  have hl : u.cells.toList.length = v.cells.length := by simpa using h1
  refine ⟨by rw [wrow_size, over_length _ _ _ hoff]; exact h.1, fun j x hj => ?_⟩
  rw [over_get _ _ _ _ hoff] at hj
  have hout : (j < off ∨ off + v.cells.length ≤ j) → cs[j]? = some x → VR g w x ((wrow us off u.cells.toList).getD j undef) := fun ho hx => by
    have := h.2 j x hx
    rw [Array.getD_eq_getD_getElem?] at this ⊢
    rw [wrow_out _ _ _ _ (by omega)]
    exact this
  by_cases c1 : j < off
  · rw [if_pos c1] at hj
    exact hout (Or.inl c1) hj
  · rw [if_neg c1] at hj
    by_cases c2 : j < off + v.cells.length
    · rw [if_pos c2] at hj
      obtain ⟨y, hy, hyr, _⟩ := h2 _ _ hj
      have := wrow_in u.cells.toList us off (j - off) y (by rw [hl, h.1]; exact hoff) (by simpa using hy)
      rw [show off + (j - off) = j from by omega] at this
      rw [Array.getD_eq_getD_getElem?, this]
      exact hyr
    · rw [if_neg c2] at hj
      exact hout (Or.inr (by omega)) hj

section
variable {P : Program} {ty : Ty} {fx : FX} {B0 Bf : Nat} {o : Oper} {a : Act} {σ : Sto} {g : Gh} {w : World} {t : T} {v : V}

theorem fill_rel (fr : FR fx.pv B0 Bf fx.n σ g w t a) {places pl : Nat → Option (Nat × Nat)} (hpl : ∀ i x, places i = some x → pl i = some x) : ∀ (parts : List (Nat × Operand)) (ps : List (Nat × Nat × Opd)), cParts fx places parts = some ps →
    ∀ (cs cs' : List V) (us : Array Value), Same g w us cs → fillV t cs ps = some cs' → ∃ us', Instr.fill pl us (parts.map fun p => (p.1, a.eval p.2)) = some us' ∧ Same g w us' cs' := by
  intro parts
  induction parts with
  | nil =>
    intro ps h cs cs' us hs hf
    cases h
    cases hf
    exact ⟨us, rfl, hs⟩
  | cons p parts ih =>
    intro ps h cs cs' us hs hf
    obtain ⟨i, x⟩ := p
    simp only [cParts] at h
    split at h
    · rename_i off n y ys hp hy hys
      cases h
      simp only [fillV] at hf
      split at hf
      · rename_i v hv
        split at hf
        · rename_i hc
          obtain ⟨c1, c2, c3⟩ := hc
          have hvr := cOpd_rel fr hy hv
          have hsz := (hvr.cells_one c3).1
          obtain ⟨us', h1, h2⟩ := ih ys hys (over cs off v.cells) cs' (wrow us off (a.eval x).cells.toList) (hs.over hvr c3 off (by omega)) hf
          refine ⟨us', ?_, h2⟩
          rw [List.map_cons]
          unfold Instr.fill
          simp only [hpl _ _ hp]
          rw [if_neg (fun hcon => by
            rw [hsz, c1, hs.1] at hcon
            simp at hcon
            omega), fill_step]
          exact h1
        · cases hf
      · cases hf
    · cases h

theorem mapM_some {α β : Type} (f : α → Option β) : ∀ (l : List α), (∀ x ∈ l, (f x).isSome = true) → ∃ r, l.mapM f = some r ∧ r.length = l.length ∧ ∀ (j : Nat) x, l[j]? = some x → r[j]? = f x := by
  intro l
  induction l with
  | nil => intro _; exact ⟨[], rfl, rfl, fun j x h => by simp at h⟩
  | cons x l ih =>
    intro h
    obtain ⟨y, hy⟩ := Option.isSome_iff_exists.1 (h x (by simp))
    obtain ⟨r, h1, h2, h3⟩ := ih (fun z hz => h z (by simp [hz]))
    refine ⟨y :: r, by simp [List.mapM_cons, hy, h1], by simp [h2], fun j z hj => ?_⟩
    cases j with
    | zero => simp at hj; subst hj; simp [hy]
    | succ j => simpa using h3 j z (by simpa using hj)

theorem s_build (tok : TyOk P ty) (fr : FR fx.pv B0 Bf fx.n σ g w t a) (inv : Inv B0 σ g w) {s : TypeId} {parts : Array (Nat × Operand)} (ho : o.op = .build s parts) (hk : allKnown ty s = true) {i : TI} (hi : ty s = some i)
    {cs : List V} (hz : i.zero = some (.agg cs)) {ps : List (Nat × Nat × Opd)} (hps : cParts fx (placesOf ty s) parts.toList = some ps) {cs' : List V} (hf : fillV t cs ps = some cs') : OpVal P B0 o a σ g w (.agg cs') σ := by
  obtain ⟨x, hx, _, _, hzz⟩ := tok.info s i hi
  obtain ⟨zu, hzu, hzc⟩ := hzz _ hz
  have hu := tok.under s i hi
  have hzr := ofC_rel g w 100 zu _ hzc
  unfold allKnown at hk
  rw [hi] at hk
  dsimp only at hk
  split at hk
  · rename_i fs hd
    rw [hd] at hu
    obtain ⟨us, hzus, hsame⟩ : ∃ us, zu = .agg us ∧ Same g w us cs := by
      cases hzr with
      | agg cs us hn hv => exact ⟨us, rfl, hn, hv⟩
    have hall : ∀ f ∈ fs.toList, ((P.info? f.type).map fun i => (f.offset, i.size)).isSome = true := fun f hf => by
      have := Array.all_eq_true_iff_forall_mem.1 hk f (by simpa using hf)
      obtain ⟨j, hj⟩ := Option.isSome_iff_exists.1 this
      obtain ⟨y, hy, _⟩ := tok.info f.type j hj
      simp [hy]
    obtain ⟨pl, hp1, _, hp3⟩ := mapM_some (fun f : Field => (P.info? f.type).map fun i => (f.offset, i.size)) fs.toList hall
    have hpl : ∀ j y, placesOf ty s j = some y → (pl.toArray[·]?) j = some y := fun j y hj => by
      unfold placesOf at hj
      split at hj
      · rename_i f hff
        obtain ⟨i', fs', hi', hd', hfs'⟩ := fieldOf_inv hff
        rw [hi] at hi'
        cases hi'
        rw [hd] at hd'
        cases hd'
        split at hj
        · rename_i q hq
          cases hj
          obtain ⟨yy, hy, hys, _⟩ := tok.info f.type q hq
          have := hp3 j f (by simpa using hfs')
          simp only [List.getElem?_toArray]
          rw [this, hy]
          simp [hys]
        · cases hj
      · cases hj
    obtain ⟨us', h1, h2⟩ := fill_rel fr hpl parts.toList ps hps cs cs' us hsame hf
    have hb : P.built s (parts.map fun (i, x) => (i, a.eval x)).toList = some us' := by
      unfold Program.built
      have e : (parts.map fun (i, x) => (i, a.eval x)).toList = parts.toList.map fun p => (p.1, a.eval p.2) := by simp
      simp only [hx, hu, hzu, hp1, e]
      rw [hzus]
      exact h1
    refine .same inv (.agg us') ?_ (.agg _ _ h2.1 h2.2)
    unfold execOp
    simp only [ho, Sem.run_bind, run_build w s _ us' hb, Result.andThen_ok]
    rfl
  · cases hk

theorem s_buildArr (tok : TyOk P ty) (fr : FR fx.pv B0 Bf fx.n σ g w t a) (inv : Inv B0 σ g w) {s : TypeId} {parts : Array (Nat × Operand)} (ho : o.op = .build s parts) {e : Nat × TI} (he : arrOf ty s = some e) {i : TI} (hi : ty s = some i)
    {cs : List V} (hz : i.zero = some (.agg cs)) {ps : List (Nat × Nat × Opd)} (hps : cParts fx (fun q => some (q * e.2.size, e.2.size)) parts.toList = some ps) {cs' : List V} (hf : fillV t cs ps = some cs') : OpVal P B0 o a σ g w (.agg cs') σ := by
  obtain ⟨x, hx, _, _, hzz⟩ := tok.info s i hi
  obtain ⟨zu, hzu, hzc⟩ := hzz _ hz
  obtain ⟨j, et, hj, hd, het⟩ := arrOf_inv he
  rw [hi] at hj
  cases hj
  have hu := tok.under s i hi
  rw [hd] at hu
  obtain ⟨y, hy, hys, _⟩ := tok.info et e.2 het
  have hzr := ofC_rel g w 100 zu _ hzc
  obtain ⟨us, hzus, hsame⟩ : ∃ us, zu = .agg us ∧ Same g w us cs := by
    cases hzr with
    | agg cs us hn hv => exact ⟨us, rfl, hn, hv⟩
  obtain ⟨us', h1, h2⟩ := fill_rel fr (places := fun q => some (q * e.2.size, e.2.size)) (pl := fun q => some (q * y.size, y.size)) (fun q z hq => by rw [hys]; exact hq) parts.toList ps hps cs cs' us hsame hf
  have hb : P.built s (parts.map fun (i, x) => (i, a.eval x)).toList = some us' := by
    unfold Program.built
    have e : (parts.map fun (i, x) => (i, a.eval x)).toList = parts.toList.map fun p => (p.1, a.eval p.2) := by simp
    simp only [hx, hu, hzu, hy, e]
    rw [hzus]
    exact h1
  refine .same inv (.agg us') ?_ (.agg _ _ h2.1 h2.2)
  unfold execOp
  simp only [ho, Sem.run_bind, run_build w s _ us' hb, Result.andThen_ok]
  rfl

/-! ## Looks into maps -/

theorem sameNow_of {kd : TypeDesc} {k k' : V} {u u' : Value} (hk : (∃ i, kd = .int i) ∧ isKey .other k = true ∨ kd = .string ∧ isKey .str k = true) (hu : VR g w k u) (hu' : VR g w k' u') {b : Bool} (h : keyEq k k' = some b) :
    Instr.sameNow kd u u' = some b := by
  cases k <;> cases k' <;> simp only [keyEq] at h <;> try (cases h; done)
  · rename_i x m y n
    split at h
    · rename_i hxy
      cases h
      subst hxy
      rcases hk with ⟨⟨i, rfl⟩, _⟩ | ⟨rfl, hk⟩
      · rw [hu.int_inv, hu'.int_inv]
        simp only [Instr.sameNow, if_true]
        congr 1
      · cases hk
    · cases h
  · cases h
    rename_i l l'
    rcases hk with ⟨⟨i, rfl⟩, hk⟩ | ⟨rfl, _⟩
    · cases hk
    · obtain ⟨s, e1, e1'⟩ := hu.str_inv
      obtain ⟨s', e2, e2'⟩ := hu'.str_inv
      subst e1 e2 e1' e2'
      simp only [Instr.sameNow]
      congr 1
      rw [beq_toListBytes, ByteArray.toList_eq, ByteArray.toList_eq]

theorem findNow_of {kd : TypeDesc} {k : V} {u : Value} (hk : (∃ i, kd = .int i) ∧ isKey .other k = true ∨ kd = .string ∧ isKey .str k = true) (hu : VR g w k u) : ∀ (es : List (V × V × Nat)) (us : List MapEntry) (i : Nat),
    us.length = es.length → (∀ (j : Nat) k v n, es[j]? = some (k, v, n) → ∃ e, us[j]? = some e ∧ VR g w k e.key ∧ VR g w v e.val ∧ e.born = n) → ∀ r, findK k es = some r →
    ∃ r', Instr.findNow kd u us i = some r' ∧ (match r, r' with | none, none => True | some v, some (j, x) => VR g w v x ∧ i ≤ j ∧ ∃ k' n, es[j - i]? = some (k', v, n) ∧ keyEq k k' = some true ∧ ∀ q k'' v'' n'', q < j - i → es[q]? = some (k'', v'', n'') → keyEq k k'' = some false | _, _ => False) := by
  intro es
  induction es with
  | nil =>
    intro us i hl _ r h
    cases us with
    | nil => cases h; exact ⟨none, rfl, trivial⟩
    | cons x us => simp at hl
  | cons e es ih =>
    intro us i hl hr r h
    obtain ⟨k', v', n'⟩ := e
    cases us with
    | nil => simp at hl
    | cons x us =>
      obtain ⟨y, hy, hyk, hyv, _⟩ := hr 0 k' v' n' rfl
      simp at hy
      subst hy
      simp only [findK] at h
      simp only [Instr.findNow]
      split at h
      · rename_i hb
        cases h
        rw [sameNow_of hk hu hyk hb]
        exact ⟨_, rfl, hyv, Nat.le_refl _, k', n', by simp, hb, fun q _ _ _ hq => by omega⟩
      · rename_i hb
        rw [sameNow_of hk hu hyk hb]
        obtain ⟨r', h1, h2⟩ := ih us (i + 1) (by simpa using hl) (fun j k v n hj => hr (j + 1) k v n (by simpa using hj)) r h
        refine ⟨r', h1, ?_⟩
        cases r <;> cases r' <;> try exact h2
        rename_i rv rj
        obtain ⟨j, xx⟩ := rj
        obtain ⟨c1, c2, kk, nn, c3, c4, c5⟩ := h2
        refine ⟨c1, by omega, kk, nn, ?_, c4, fun q k'' v'' n'' hq hqe => ?_⟩
        · rw [show j - i = (j - (i + 1)) + 1 from by omega]
          simpa using c3
        · cases q with
          | zero => simp at hqe; obtain ⟨rfl, rfl, rfl⟩ := hqe; exact hb
          | succ q => exact c5 q k'' v'' n'' (by omega) (by simpa using hqe)
      · cases h

theorem run_checkKey {kt : TypeId} {kd : TypeDesc} (hu : P.underlying kt = some kd) {k : V} {u : Value} (hk : (∃ i, kd = .int i) ∧ isKey .other k = true ∨ kd = .string ∧ isKey .str k = true) (emp : Bool) :
    (Instr.checkKey emp 10000 kt u).run P w = .ok () w := by
  show (Instr.checkKey emp (9999 + 1) kt u).run P w = .ok () w
  unfold Instr.checkKey
  simp only [Sem.run_bind, run_underlying hu, Result.andThen_ok]
  rcases hk with ⟨⟨i, rfl⟩, _⟩ | ⟨rfl, _⟩ <;> rfl

theorem s_lookup (tok : TyOk P ty) (inv : Inv B0 σ g w) {s kt et : TypeId} {m k : Operand} {ok : Bool} (ho : o.op = .lookup s m k ok) {i ki ei : TI} (hi : ty s = some i) (hd : i.desc = .map kt et) (hki : ty kt = some ki) (hei : ty et = some ei)
    {z : V} (hz : ei.zero = some z) (hkd : (∃ q, ki.desc = .int q) ∨ ki.desc = .string) {um uk : V} (hm : VR g w um (a.eval m)) (hkr : VR g w uk (a.eval k)) (hv : lookupV (kdOf ki.desc) σ z um uk ok = some v) :
    OpVal P B0 o a σ g w v σ := by
  have hu := tok.under s i hi
  rw [hd] at hu
  have huk := tok.under kt ki hki
  obtain ⟨zu, hzr, hzc⟩ := run_zero (P := P) tok hei hz w
  have hzrel := ofC_rel g w 100 zu z hzc
  have hkey : isKey (kdOf ki.desc) uk = true → (∃ i, ki.desc = .int i) ∧ isKey .other uk = true ∨ ki.desc = .string ∧ isKey .str uk = true := fun h => by
    rcases hkd with ⟨q, hq⟩ | hq
    · rw [hq] at h ⊢; exact Or.inl ⟨⟨q, rfl⟩, h⟩
    · rw [hq] at h ⊢; exact Or.inr ⟨rfl, h⟩
  have hz' : ∀ (r : Option V) (x : Value), (match r with | none => x = zu | some y => VR g w y x) → VR g w (if ok then .tup [r.getD z, .bool r.isSome] else r.getD z) (if ok then .tuple #[x, .bool r.isSome] else x) := fun r x hx => by
    have h1 : VR g w (r.getD z) x := by cases r with | none => simp at hx; subst hx; exact hzrel | some y => exact hx
    cases ok with
    | false => exact h1
    | true =>
      refine .tup _ _ rfl fun j y hj => ?_
      match j with
      | 0 => simp at hj; subst hj; exact h1
      | 1 => simp at hj; subst hj; exact .bool _
      | j + 2 => simp at hj
  unfold lookupV at hv
  dsimp only at hv
  generalize hzm : a.eval m = zm at hm
  split at hv
  · split at hv
    · rename_i hik
      cases hv
      cases hm
      refine .same inv _ ?_ (hz' none zu rfl)
      unfold execOp
      simp only [ho, hzm, Instr.lookup, Sem.run_bind, run_underlying hu, Result.andThen_ok, Sem.run_pure]
      rw [run_checkKey huk (hkey hik)]
      simp only [Result.andThen_ok, Instr.findKey, Sem.run_bind, run_underlying huk, Instr.findNow]
      simp [hzr]
    · cases hv
  · rename_i b
    split at hv
    · rename_i es ck hb
      split at hv
      · rename_i hik
        cases hf : findK uk es with
        | none => rw [hf] at hv; cases hv
        | some r =>
          rw [hf] at hv
          cases hv
          obtain ⟨B, us, hι, hh, hr, _⟩ := inv.maps hb
          cases hm with
          | map b B' h =>
            rw [hι] at h
            cases h
            have hg : (getObj B).run P w = .ok (.map us ck) w := by simp [getObj, Sem.run, hh]
            obtain ⟨r', h1, h2⟩ := findNow_of (kd := ki.desc) (hkey hik) hkr es us.toList 0 (by simpa using hr.len) (fun j k v n hj => by simpa using hr.at_ j k v n hj) r hf
            have hrun : ∃ x, (match r with | none => x = zu | some y => VR g w y x) ∧ (execOp a.eval o).run P w = .ok (.value (if ok then .tuple #[x, .bool r.isSome] else x)) w := by
              cases r with
              | none =>
                cases r' with
                | some y => exact h2.elim
                | none =>
                  refine ⟨zu, rfl, ?_⟩
                  unfold execOp
                  simp only [ho, hzm, Instr.lookup, Sem.run_bind, run_underlying hu, Result.andThen_ok, hg]
                  simp only [Sem.run_pure, Result.andThen_ok]
                  rw [run_checkKey huk (hkey hik)]
                  simp only [Result.andThen_ok, Instr.findKey, Sem.run_bind, run_underlying huk, h1]
                  simp [hzr]
              | some y =>
                cases r' with
                | none => exact h2.elim
                | some y' =>
                  obtain ⟨j, x⟩ := y'
                  refine ⟨x, h2.1, ?_⟩
                  unfold execOp
                  simp only [ho, hzm, Instr.lookup, Sem.run_bind, run_underlying hu, Result.andThen_ok, hg]
                  simp only [Sem.run_pure, Result.andThen_ok]
                  rw [run_checkKey huk (hkey hik)]
                  simp only [Result.andThen_ok, Instr.findKey, Sem.run_bind, run_underlying huk, h1]
                  simp
            obtain ⟨x, hx1, hx2⟩ := hrun
            exact .same inv _ hx2 (hz' r x hx1)
      · cases hv
    · cases hv
  · cases hv
end

end Go.Eng
