/- The operations that only look: what the interpreter says of them the model does. -/
import Derived.Test.YtjldgekmjnkofaaE6
import Derived.Laws.Build
set_option linter.unusedVariables false
set_option linter.unusedSimpArgs false
namespace Go.Eng
open Go

theorem mapM_get {α β : Type} (f : α → Option β) : ∀ (l : List α) (r : List β), l.mapM f = some r → r.length = l.length ∧ ∀ (j : Nat) y, r[j]? = some y → ∃ x, l[j]? = some x ∧ f x = some y := by
  intro l
  induction l with
  | nil =>
    intro r h
    simp at h
    subst h
    exact ⟨rfl, fun j y hj => by simp at hj⟩
  | cons x l ih =>
    intro r h
    rw [List.mapM_cons] at h
    cases hx : f x with
    | none => rw [hx] at h; cases h
    | some y =>
      rw [hx] at h
      cases hl : l.mapM f with
      | none => rw [hl] at h; cases h
      | some ys =>
        rw [hl] at h
        cases h
        obtain ⟨h1, h2⟩ := ih ys hl
        refine ⟨by simp [h1], fun j z hj => ?_⟩
        cases j with
        | zero => simp at hj; subst hj; exact ⟨x, rfl, hx⟩
        | succ j => exact h2 j z (by simpa using hj)

theorem ofC_rel (g : Gh) (w : World) : ∀ (f : Nat) (u : Value) (v : V), ofC f u = some v → VR g w v u := by
  intro f
  induction f with
  | zero => intro u v h; simp [ofC] at h
  | succ f ih =>
    intro u v h
    unfold ofC at h
    split at h
    · cases h; exact .bool _
    · cases h; exact .int _ _
    · cases h; exact .str _ _ rfl
    · cases h; exact .nptr
    · cases h; exact .nsl
    · cases h; exact .nmap
    · cases h; exact .nfunc
    · cases h; exact .niface
    · rename_i cs
      cases hm : cs.toList.mapM (ofC f) with
      | none => rw [hm] at h; cases h
      | some r =>
        rw [hm] at h
        cases h
        obtain ⟨h1, h2⟩ := mapM_get _ _ _ hm
        refine .agg r cs (by simp [h1]) fun j v hj => ?_
        obtain ⟨x, hx, hf⟩ := h2 j v hj
        have : cs.getD j undef = x := by
          have hlt : j < cs.size := by
            have := (List.getElem?_eq_some_iff.1 hx).1
            simpa using this
          simp at hx
          simp [hx]
        rw [this]
        exact ih x v hf
    · cases h

section
variable {fx : FX} {B0 Bf : Nat} {σ : Sto} {g : Gh} {w : World} {t : T} {a : Act}

theorem cOpd_rel (fr : FR fx.pv B0 Bf fx.n σ g w t a) {x : Operand} {y : Opd} (h : cOpd fx x = some y) {v : V} (hv : ev t y = some v) : VR g w v (a.eval x) := by
  cases x with
  | tmp s =>
    simp only [cOpd] at h
    split at h
    · rename_i hs
      cases h
      exact fr.val s v hs.1 hv
    · cases h
  | const u =>
    simp only [cOpd] at h
    cases hc : ofC 100 u with
    | none => rw [hc] at h; cases h
    | some z =>
      rw [hc] at h
      cases h
      simp only [ev] at hv
      cases hv
      exact ofC_rel g w 100 u _ hc
  | global n => cases h
  | func f =>
    cases h
    cases hv
    exact .func f [] #[] rfl fun j v hj => by simp at hj

theorem cOpds_rel (fr : FR fx.pv B0 Bf fx.n σ g w t a) : ∀ (xs : List Operand) (ys : List Opd), cOpds fx xs = some ys → ∀ vs, evs t ys = some vs →
    vs.length = xs.length ∧ ∀ (j : Nat) v, vs[j]? = some v → ∃ x, xs[j]? = some x ∧ VR g w v (a.eval x) := by
  intro xs
  induction xs with
  | nil =>
    intro ys h vs hv
    cases h
    cases hv
    exact ⟨rfl, fun j v hj => by simp at hj⟩
  | cons x xs ih =>
    intro ys h vs hv
    simp only [cOpds] at h
    split at h
    · rename_i y ys' hy hys
      cases h
      simp only [evs] at hv
      split at hv
      · rename_i v vs' h1 h2
        cases hv
        obtain ⟨k1, k2⟩ := ih ys' hys vs' h2
        refine ⟨by simp [k1], fun j u hj => ?_⟩
        cases j with
        | zero => simp at hj; subst hj; exact ⟨x, rfl, cOpd_rel fr hy h1⟩
        | succ j => exact k2 j u (by simpa using hj)
      · cases hv
    · cases h

theorem map_rel {xs : Array Operand} {vs : List V} (h1 : vs.length = xs.toList.length) (h2 : ∀ (j : Nat) v, vs[j]? = some v → ∃ x, xs.toList[j]? = some x ∧ VR g w v (a.eval x)) :
    (xs.map a.eval).size = vs.length ∧ ∀ (j : Nat) v, vs[j]? = some v → VR g w v ((xs.map a.eval).getD j undef) := by
  refine ⟨by simp [h1], fun j v hj => ?_⟩
  obtain ⟨x, hx, hr⟩ := h2 j v hj
  have : (xs.map a.eval).getD j undef = a.eval x := by
    simp at hx
    simp [hx]
  rw [this]
  exact hr
end

section
variable {g : Gh} {w : World} {u : Value}
theorem VR.bool_inv {b : Bool} (h : VR g w (.bool b) u) : u = .bool b := by cases h; rfl
theorem VR.int_inv {k : IntKind} {n : Int} (h : VR g w (.int k n) u) : u = .int k n := by cases h; rfl
theorem VR.str_inv {l : List UInt8} (h : VR g w (.str l) u) : ∃ s, u = .string s ∧ s.data.toList = l := by cases h with | str s l h => exact ⟨s, rfl, h⟩
theorem VR.nsl_inv (h : VR g w .nsl u) : u = .slice none 0 0 := by cases h; rfl
theorem VR.sl_len {ow : Own} {es : List V} (h : VR g w (.sl ow es) u) : ∃ s, ∀ v ∈ es, v.cells.length = s := by
  cases h with
  | sl ow es B o cap s f hl hc hs hv hone ho => exact ⟨s, hl⟩
  | esl A => exact ⟨0, fun v hv => by cases hv⟩
theorem VR.sl_inv {ow : Own} {es : List V} (hne : ow ≠ .none) (h : VR g w (.sl ow es) u) : ∃ (B o cap s : Nat) (f : Nat → Value), u = .slice (some ⟨B, o, none⟩) es.length cap ∧ (∀ v ∈ es, v.cells.length = s) ∧ es.length ≤ cap ∧
    (∀ j, j < es.length * s → w.cell? ⟨B, o + j, none⟩ = some (f j) ∧ g.Γ B (o + j)) ∧ (∀ (j : Nat) v, (es.flatMap V.cells)[j]? = some v → VR g w v (f j)) ∧ (∀ v ∈ es, ∀ x ∈ v.cells, x.one = true) ∧ OwnOk g w es.length s B o cap ow := by
  cases h with
  | sl ow es B o cap s f hl hc hs hv hone ho => exact ⟨B, o, cap, s, f, rfl, hl, hc, hs, hv, hone, ho⟩
  | esl A => exact absurd rfl hne
theorem VR.msl_inv {b off len s : Nat} (h : VR g w (.msl b off len s) u) : ∃ (B d cap : Nat), u = .slice (some ⟨B, d + off, none⟩) len cap ∧ g.ι b = some (B, d) ∧ len ≤ cap ∧
    ∃ (c : Array Value) (el : TypeId) (fr : Nat × Nat), w.heap[B]? = some (Obj.cells c el fr) ∧ d + off + cap * s ≤ c.size := by
  cases h with
  | msl b off len s B d cap h hc hr => exact ⟨B, d, cap, rfl, h, hc, hr⟩
theorem VR.undef_inv (h : VR g w .undef u) : u = Go.undef := by cases h; rfl
end

/-- What an operation that gives a value, or stores, comes to. -/
def OpVal (P : Program) (B0 : Nat) (o : Oper) (a : Act) (σ : Sto) (g : Gh) (w : World) (v : V) (σ' : Sto) : Prop :=
  ∃ n u g' w', (execOp a.eval o).run P w = .ok n w' ∧ (n = .value u ∨ (n = .skip ∧ u = undef)) ∧ Ext σ g w σ' g' w' ∧ Inv B0 σ' g' w' ∧ VR g' w' v u

section
variable {P : Program} {B0 : Nat} {o : Oper} {a : Act} {σ : Sto} {g : Gh} {w : World} {v : V}

theorem OpVal.same (inv : Inv B0 σ g w) (u : Value) (hr : (execOp a.eval o).run P w = .ok (.value u) w) (hv : VR g w v u) : OpVal P B0 o a σ g w v σ :=
  ⟨_, u, g, w, hr, Or.inl rfl, Ext.refl _ _ _, inv, hv⟩

theorem OpVal.drew (inv : Inv B0 σ g w) (u : Value) (n : Nat) (hr : (execOp a.eval o).run P w = .ok (.value u) { w with drawn := n }) (hv : VR g w v u) : OpVal P B0 o a σ g w v σ := by
  have m : Mon g w g { w with drawn := n } := ⟨fun _ _ h => h, fun _ _ h => h, fun _ B m L h => ⟨B, m, L, h, Nat.le_refl _, fun _ => ⟨rfl, rfl⟩⟩, fun _ _ _ => rfl, fun _ c _ _ h => ⟨c, h, rfl⟩, Nat.le_refl _, rfl, rfl, rfl⟩
  refine ⟨_, u, g, _, hr, Or.inl rfl, { m with rest := fun _ _ _ => rfl, news := fun _ _ h => ⟨h, fun _ h => h⟩, next := Nat.le_refl _ }, ?_, hv.mono m⟩
  exact ⟨fun b => (inv.blk b).keep m rfl rfl rfl fun _ _ => ⟨rfl, fun _ h => h⟩, inv.sep, inv.base, fun B o ho => inv.gamlt B o ho, inv.iotalt, inv.tault, inv.b0⟩
end

/-! ## Parts of rows -/

theorem agg_of {i : TI} (h : i.agg = true) : ∃ d, i.desc = d ∧ ((∃ fs, d = .struct fs) ∨ (∃ n e, d = .array n e)) := by
  unfold TI.agg at h
  split at h
  · rename_i fs hd; exact ⟨_, hd, Or.inl ⟨fs, rfl⟩⟩
  · rename_i n e hd; exact ⟨_, hd, Or.inr ⟨n, e, rfl⟩⟩
  · cases h

section
variable {P : Program} {ty : Ty}

theorem run_isAgg (tok : TyOk P ty) {t : TypeId} {i : TI} (h : ty t = some i) (w : World) : (isAgg t).run P w = .ok i.agg w := by
  unfold isAgg
  simp only [Sem.run_bind, run_underlying (tok.under t i h), Result.andThen_ok]
  unfold TI.agg
  cases i.desc <;> rfl

theorem run_sizeOf (tok : TyOk P ty) {t : TypeId} {i : TI} (h : ty t = some i) (w : World) : (sizeOf t).run P w = .ok i.size w := by
  obtain ⟨x, hx, hs, _⟩ := tok.info t i h
  simp [sizeOf, typeInfo, hx, hs]

theorem run_zero (tok : TyOk P ty) {t : TypeId} {i : TI} (h : ty t = some i) {z : V} (hz : i.zero = some z) (w : World) : ∃ u, (zeroValue t).run P w = .ok u w ∧ ofC 100 u = some z := by
  obtain ⟨x, hx, _, _, hzz⟩ := tok.info t i h
  obtain ⟨u, hu, hc⟩ := hzz z hz
  exact ⟨u, by simp [zeroValue, typeInfo, hx, hu], hc⟩

/-- A part of an aggregate. -/
theorem run_part (tok : TyOk P ty) {t : TypeId} {i : TI} (h : ty t = some i) {g : Gh} {w : World} {cs : List V} {us : Array Value} (hn : us.size = cs.length)
    (hv : ∀ (j : Nat) v, cs[j]? = some v → VR g w v (us.getD j undef)) {off : Nat} {v : V} (hp : part cs off i.n = some v) : ∃ u, (Go.part t us off).run P w = .ok u w ∧ VR g w v u := by
  unfold TI.n at hp
  unfold Go.part
  simp only [Sem.run_bind, run_isAgg tok h, Result.andThen_ok]
  cases ha : i.agg with
  | true =>
    rw [ha, if_pos rfl] at hp
    unfold part at hp
    dsimp only at hp
    split at hp
    · rename_i hle
      cases hp
      refine ⟨.agg (us.extract off (off + i.size)), by simp [run_sizeOf tok h], ?_⟩
      refine .agg _ _ (by simp; omega) fun j x hj => ?_
      rw [List.getElem?_take] at hj
      split at hj
      · rename_i hlt
        rw [List.getElem?_drop] at hj
        have := hv _ _ hj
        have e : (us.extract off (off + i.size)).getD j undef = us.getD (off + j) undef := by
          have h1 : (us.extract off (off + i.size))[j]? = us[off + j]? := by
            rw [Array.getElem?_extract]
            split
            · rfl
            · omega
          simp only [Array.getD_eq_getD_getElem?, h1]
        rw [e]; exact this
      · cases hj
    · cases hp
  | false =>
    rw [ha] at hp
    simp only [Bool.false_eq_true, if_false] at hp
    unfold part at hp
    dsimp only at hp
    have hlt : off < us.size := by
      rw [hn]
      exact (List.getElem?_eq_some_iff.1 hp).1
    have hx := hv _ _ hp
    refine ⟨us.getD off undef, ?_, hx⟩
    simp [hlt]

/-- So many cells of a row, or one, loaded. -/
theorem run_loadVar (tok : TyOk P ty) {t : TypeId} {i : TI} (h : ty t = some i) {g : Gh} {w : World} {B o : Nat} {f : Nat → Value} {cs : List V} {off : Nat} {v : V} (hp : part cs off i.n = some v)
    (hc : ∀ j, j < cs.length → w.cell? ⟨B, o + j, none⟩ = some (f j)) (hv : ∀ (j : Nat) v, cs[j]? = some v → VR g w v (f j)) : ∃ u, (loadVar t ⟨B, o + off, none⟩).run P w = .ok u w ∧ VR g w v u := by
  unfold TI.n at hp
  unfold loadVar
  simp only [Sem.run_bind, run_isAgg tok h, Result.andThen_ok]
  cases ha : i.agg with
  | true =>
    rw [ha, if_pos rfl] at hp
    unfold part at hp
    dsimp only at hp
    split at hp
    · rename_i hle
      cases hp
      obtain ⟨us, hr, hs, hu⟩ := run_loadCells (P := P) B (o + off) i.size (fun j => f (off + j)) w (fun j hj => by rw [Nat.add_assoc]; exact hc _ (by omega))
      refine ⟨.agg us, by simp [run_sizeOf tok h, hr], .agg _ _ (by simp; omega) fun j x hj => ?_⟩
      rw [List.getElem?_take] at hj
      split at hj
      · rename_i hlt
        rw [List.getElem?_drop] at hj
        have hx := hv _ _ hj
        have : us.getD j undef = f (off + j) := by
          have := hu j hlt
          simp [this]
        rw [this]; exact hx
      · cases hj
    · cases hp
  | false =>
    rw [ha] at hp
    simp only [Bool.false_eq_true, if_false] at hp
    unfold part at hp
    dsimp only at hp
    have hlt := (List.getElem?_eq_some_iff.1 hp).1
    refine ⟨f off, ?_, hv _ _ hp⟩
    simp [hc off hlt]
end

end Go.Eng
