/- The operations that make memory, or write it. -/
import Derived.Test.YtjldgekmjnkofaaE11
import Derived.Laws.Append
import Derived.Laws.AppendOwn
import Derived.Laws.MakeOwn
set_option linter.unusedVariables false
set_option linter.unusedSimpArgs false
namespace Go.Eng
open Go

section
variable {P : Program} {ty : Ty} {fx : FX} {B0 Bf : Nat} {o : Oper} {a : Act} {σ : Sto} {g : Gh} {w : World} {t : T} {v : V}

theorem Reads.ofCells {u : Value} {v : V} (h : VR g w v u) (ho : v.cells.all V.one = true) : Reads g w u.cells 0 v.cells := fun j x hj => by
  obtain ⟨y, hy, hr, _⟩ := (h.cells_one ho).2 j x hj
  exact ⟨List.all_eq_true.1 ho x (List.mem_of_getElem? hj), y, by rw [Nat.zero_add]; exact hy, hr⟩

theorem s_al (tok : TyOk P ty) (inv : Inv B0 σ g w) {e : TypeId} (ho : o.op = .alloc e) {i : TI} (hi : ty e = some i) {z : V} (hz : i.zero = some z) (hone : z.cells.all V.one = true) :
    OpVal P B0 o a σ g w (.ptr σ.next 0) (σ.alloc (.cells z.cells)) := by
  obtain ⟨u, hu, hc⟩ := run_zero (P := P) tok hi hz w
  have hr := ofC_rel g w 100 u z hc
  have hst := step_own inv (WPush.alloc w (.cells u.cells e)) (Reads.ofCells hr hone)
  refine ⟨_, .pointer (some ⟨w.heap.size, 0, none⟩), _, _, ?_, Or.inl rfl, hst.2, hst.1, .ptr _ _ _ _ (by simp [Gh.own])⟩
  unfold execOp
  simp [ho, Instr.alloc, hu, newVar, newRow]

theorem s_box (inv : Inv B0 σ g w) {e : TypeId} {x : Operand} (ho : o.op = .box e x) {u : V} (hx : VR g w u (a.eval x)) (hone : u.cells.all V.one = true) :
    OpVal P B0 o a σ g w (.ptr σ.next 0) (σ.alloc (.cells u.cells)) := by
  have hst := step_own inv (WPush.alloc w (.cells (a.eval x).cells e)) (Reads.ofCells hx hone)
  refine ⟨_, .pointer (some ⟨w.heap.size, 0, none⟩), _, _, ?_, Or.inl rfl, hst.2, hst.1, .ptr _ _ _ _ (by simp [Gh.own])⟩
  unfold execOp
  simp [ho, Instr.box, newVar, newRow]

theorem s_st (tok : TyOk P ty) (inv : Inv B0 σ g w) {s : TypeId} {x y : Operand} (ho : o.op = .store s x y) {i : TI} (hi : ty s = some i) {ua uv : V} (ha : VR g w ua (a.eval x)) (hv : VR g w uv (a.eval y)) {σ' : Sto}
    (hs : stV σ i.size ua uv = some σ') : OpVal P B0 o a σ g w .undef σ' := by
  unfold stV at hs
  split at hs
  · rename_i b off
    split at hs
    · rename_i cs hb
      split at hs
      · rename_i hc
        obtain ⟨c1, c2, c3, c4⟩ := hc
        cases hs
        obtain ⟨B, d, c, el, hι, hh, hr, hgm⟩ := inv.cells hb
        generalize hz : a.eval x = z at ha
        cases ha with
        | ptr b off B' d' h =>
          rw [hι] at h
          cases h
          obtain ⟨k1, k2⟩ := hv.cells_one c3
          have hlen : (a.eval y).cells.toList.length = uv.cells.length := by simpa using k1
          have hn : ∀ (j : Nat) v, uv.cells[j]? = some v → v.one = true ∧ ∃ u, (a.eval y).cells.toList[j]? = some u ∧ VR g w v u := fun j v hj => by
            obtain ⟨u, hu, hur, _⟩ := k2 j v hj
            exact ⟨List.all_eq_true.1 c3 v (List.mem_of_getElem? hj), u, by simpa using hu, hur⟩
          have hst := step_store inv hb hι hh hr hgm off (by omega) hlen hn
          refine ⟨.skip, undef, g, _, ?_, Or.inr ⟨rfl, rfl⟩, hst.2, hst.1, .undef⟩
          have hsz : d + off + 0 + (a.eval y).cells.toList.length ≤ c.size := by
            have := hr.size (fun hne => by rw [hne] at c2; simp at c2; omega)
            omega
          have hone : ∀ u ∈ (a.eval y).cells.toList, u.oneCell' = true := fun u hu => by
            obtain ⟨j, hj⟩ := List.getElem?_of_mem hu
            have hjl : j < uv.cells.length := by have := (List.getElem?_eq_some_iff.1 hj).1; omega
            obtain ⟨u', hu', _, ho'⟩ := k2 j uv.cells[j] (List.getElem?_eq_getElem hjl)
            have : u' = u := by
              have h1 : (a.eval y).cells.toList[j]? = some u' := by simpa using hu'
              rw [h1] at hj; cases hj; rfl
            rw [← this]; exact ho'
          have hrun := run_storeCells (P := P) B (d + off) el (0, 0) (a.eval y).cells.toList 0 c w hh hsz (Or.inl rfl) hone
          unfold execOp
          simp only [ho, hz, Instr.storeAt, Instr.sureAddr, Sem.run_bind, Sem.run_pure, Result.andThen_ok, storeVar, run_sizeOf tok hi]
          rw [if_neg (by rw [k1]; simp [c1])]
          rw [hrun]
          rfl
      · cases hs
    · cases hs
  · cases hs

/-! ## Literals of slices -/

theorem elems_set (s : Nat) : ∀ (es : List V) (i : Nat) (v : V), (∀ x ∈ es, x.cells.length = s) → v.cells.length = s → i < es.length → (es.set i v).flatMap V.cells = over (es.flatMap V.cells) (i * s) v.cells := by
  intro es
  induction es with
  | nil => intro i v _ _ h; simp at h
  | cons e es ih =>
    intro i v hl hv hi
    have he := hl e (by simp)
    cases i with
    | zero =>
      simp only [List.set_cons_zero, List.flatMap_cons, over, Nat.zero_mul, List.take_zero, List.nil_append, Nat.zero_add]
      rw [hv, List.drop_append, he, List.drop_eq_nil_of_le (by omega), Nat.sub_self, List.drop_zero, List.nil_append]
    | succ i =>
      simp only [List.set_cons_succ, List.flatMap_cons]
      rw [ih i v (fun x hx => hl x (by simp [hx])) hv (by simpa using hi)]
      unfold over
      have e1 : (i + 1) * s = e.cells.length + i * s := by rw [Nat.add_mul, he]; omega
      rw [e1, List.take_append, List.drop_append]
      have h1 : e.cells.take (e.cells.length + i * s) = e.cells := List.take_of_length_le (by omega)
      have h2 : e.cells.drop (e.cells.length + i * s + v.cells.length) = [] := List.drop_eq_nil_of_le (by omega)
      rw [h1, h2, List.nil_append]
      simp only [List.append_assoc]
      congr 3
      · congr 1; omega
      · congr 1; omega

theorem flat_replicate (z : V) (s : Nat) (hz : z.cells.length = s) : ∀ (n j : Nat) (x : V), ((List.replicate n z).flatMap V.cells)[j]? = some x → j < n * s ∧ z.cells[j % s]? = some x := by
  intro n
  induction n with
  | zero => intro j x h; simp at h
  | succ n ih =>
    intro j x h
    rw [List.replicate_succ, List.flatMap_cons] at h
    by_cases hj : j < s
    · rw [List.getElem?_append_left (by omega)] at h
      rw [Nat.mod_eq_of_lt hj]
      exact ⟨by rw [Nat.add_mul]; omega, h⟩
    · rw [List.getElem?_append_right (by omega), hz] at h
      obtain ⟨h1, h2⟩ := ih _ _ h
      refine ⟨by rw [Nat.add_mul]; omega, ?_⟩
      rw [← Nat.sub_add_cancel (show s ≤ j by omega), Nat.add_mod_right]
      exact h2

/-- The row of zero values that a literal, or make, begins with. -/
theorem zeros_same {z : V} {zu : Value} (hr : VR g w z zu) (hone : z.cells.all V.one = true) {s : Nat} (hz : z.cells.length = s) (n : Nat) :
    Same g w ((Array.range (n * s)).map fun i => zu.cells[i % zu.cells.size]!) ((List.replicate n z).flatMap V.cells) := by
  obtain ⟨h1, h2⟩ := hr.cells_one hone
  refine ⟨?_, fun j x hj => ?_⟩
  · rw [flatMap_len s _ (fun v hv => by rw [List.eq_of_mem_replicate hv]; exact hz)]
    simp
  · obtain ⟨c1, c2⟩ := flat_replicate z s hz n j x hj
    obtain ⟨y, hy, hyr, _⟩ := h2 _ _ c2
    have : ((Array.range (n * s)).map fun i => zu.cells[i % zu.cells.size]!).getD j undef = y := by
      rw [Array.getD_eq_getD_getElem?]
      simp only [Array.getElem?_map, Array.getElem?_range, c1, if_true, Option.map_some, Option.getD_some]
      rw [h1, hz]
      exact (by simp [getElem!_def, hy])
    rw [this]; exact hyr

theorem fillE_rel (fr : FR fx.pv B0 Bf fx.n σ g w t a) (s : Nat) : ∀ (parts : List (Nat × Operand)) (ps : List (Nat × Opd)), cElems fx parts = some ps →
    ∀ (es es' : List V) (us : Array Value), (∀ x ∈ es, x.cells.length = s) → Same g w us (es.flatMap V.cells) → fillE t s es ps = some es' →
    ∃ us', Instr.fill (fun i => some (i * s, s)) us (parts.map fun p => (p.1, a.eval p.2)) = some us' ∧ Same g w us' (es'.flatMap V.cells) ∧ (∀ x ∈ es', x.cells.length = s) ∧ es'.length = es.length ∧
      ((∀ x ∈ es, x.cells.all V.one = true) → ∀ x ∈ es', x.cells.all V.one = true) := by
  intro parts
  induction parts with
  | nil =>
    intro ps h es es' us hl hs hf
    cases h
    cases hf
    exact ⟨us, rfl, hs, hl, rfl, fun h => h⟩
  | cons p parts ih =>
    intro ps h es es' us hl hs hf
    obtain ⟨i, x⟩ := p
    simp only [cElems] at h
    split at h
    · rename_i y ys hy hys
      cases h
      simp only [fillE] at hf
      split at hf
      · rename_i v hv
        split at hf
        · rename_i hc
          obtain ⟨c1, c2, c3⟩ := hc
          have hvr := cOpd_rel fr hy hv
          have hsz := (hvr.cells_one c3).1
          have hlen := flatMap_len s es hl
          have hoff : i * s + v.cells.length ≤ (es.flatMap V.cells).length := by
            rw [hlen, c1, ← Nat.succ_mul]; exact Nat.mul_le_mul_right _ c2
          have hso := hs.over hvr c3 (i * s) hoff
          rw [← elems_set s es i v hl c1 c2] at hso
          have hl' : ∀ x ∈ es.set i v, x.cells.length = s := fun x hx => by
            rcases List.mem_or_eq_of_mem_set hx with h | h
            · exact hl x h
            · rw [h]; exact c1
          obtain ⟨us', h1, h2, h3, h4, h5⟩ := ih ys hys (es.set i v) es' _ hl' hso hf
          refine ⟨us', ?_, h2, h3, by rw [h4, List.length_set], fun hall => h5 fun x hx => ?_⟩
          · rw [List.map_cons]
            unfold Instr.fill
            dsimp only
            have husz : us.size = es.length * s := hs.1.trans hlen
            rw [if_neg (fun hcon => by
              rw [hsz, c1, husz] at hcon
              rw [hlen, c1] at hoff
              simp at hcon
              omega), fill_step]
            exact h1
          · rcases List.mem_or_eq_of_mem_set hx with h | h
            · exact hall x h
            · rw [h]; exact c3
        · cases hf
      · cases hf
    · cases h

theorem s_buildSl (tok : TyOk P ty) (fr : FR fx.pv B0 Bf fx.n σ g w t a) (inv : Inv B0 σ g w) {s : TypeId} {len : Nat} {parts : Array (Nat × Operand)} (ho : o.op = .buildSlice s len parts) {e : TI} (he : elemOf ty s = some e)
    {z : V} (hz : e.zero = some z) (hone : z.cells.all V.one = true) (hzl : z.cells.length = e.size) (hle : len * e.size ≤ 16777216) (hpos : 0 < e.size) {ps : List (Nat × Opd)} (hps : cElems fx parts.toList = some ps)
    {es : List V} (hf : fillE t e.size (List.replicate len z) ps = some es) (mu : Bool) :
    OpVal P B0 o a σ g w (if mu then .msl σ.next 0 len e.size else .sl .full es) (if mu then σ.alloc (.cells (es.flatMap V.cells)) else σ) := by
  obtain ⟨j, et, hj, hd, het⟩ := elemOf_inv he
  have hu := tok.under s j hj
  rw [hd] at hu
  obtain ⟨zu, hzu, hzc⟩ := run_zero (P := P) tok het hz w
  have hzr := ofC_rel g w 100 zu z hzc
  have h0 := zeros_same (g := g) (w := w) hzr hone hzl len
  obtain ⟨us, h1, h2, h3, h4, h5⟩ := fillE_rel fr e.size parts.toList ps hps _ es _ (fun v hv => by rw [List.eq_of_mem_replicate hv]; exact hzl) h0 hf
  have hlen : es.length = len := by rw [h4, List.length_replicate]
  have hones := h5 (fun x hx => by rw [List.eq_of_mem_replicate hx]; exact hone)
  have hsz : us.size = len * e.size := by rw [h2.1, flatMap_len e.size es h3, hlen]
  have hrun : (execOp a.eval o).run P w = .ok (.value (.slice (some ⟨w.heap.size, 0, none⟩) len len)) (w.alloc (.cells us et)) := by
    unfold execOp
    by_cases hn : len * e.size = 0
    · have hl0 : len = 0 := by rcases Nat.mul_eq_zero.1 hn with h | h <;> omega
      subst hl0
      simp only [Nat.zero_mul] at h1 ⊢
      have h1' : Instr.fill (fun i => some (i * e.size, e.size)) #[] (parts.toList.map fun p => (p.1, a.eval p.2)) = some us := by simpa [Array.range_zero'] using h1
      have e' : (parts.map fun (i, x) => (i, a.eval x)).toList = parts.toList.map fun p => (p.1, a.eval p.2) := by simp
      simp [ho, Instr.buildSlice, run_underlying hu, run_sizeOf tok het, Array.range_zero', h1', newRow]
    · have e' : (parts.map fun (i, x) => (i, a.eval x)).toList = parts.toList.map fun p => (p.1, a.eval p.2) := by simp
      have hle' : ¬ (16777216 < len * e.size) := by omega
      simp only [ho, Instr.buildSlice, run_underlying hu, run_sizeOf tok het, Sem.run_bind, Result.andThen_ok, e']
      rw [if_neg (by omega)]
      simp only [Sem.run_pure]
      rw [if_neg hn]
      simp only [Sem.run_bind, hzu, Result.andThen_ok, Sem.run_pure, h1]
      simp [newRow]
  have hread : ∀ (j : Nat) v, (es.flatMap V.cells)[j]? = some v → v.one = true := fun j v hv => by
    obtain ⟨x, hx, hxv⟩ := List.mem_flatMap.1 (List.mem_of_getElem? hv)
    exact List.all_eq_true.1 (hones x hx) v hxv
  cases mu with
  | true =>
    have hr : Reads g w us 0 (es.flatMap V.cells) := fun j v hv => by
      have hlt := (List.getElem?_eq_some_iff.1 hv).1
      have := h2.2 j v hv
      rw [Array.getD_eq_getD_getElem?] at this
      have hlt' : j < us.size := by rw [h2.1]; exact hlt
      refine ⟨hread j v hv, us[j], by rw [Nat.zero_add]; simp [hlt'], ?_⟩
      simpa [hlt'] using this
    have hst := step_own inv (WPush.alloc w (.cells us et)) hr
    refine ⟨_, _, _, _, hrun, Or.inl rfl, hst.2, hst.1, ?_⟩
    exact .msl _ 0 len e.size _ 0 len (by simp [Gh.own]) (Nat.le_refl _) ⟨us, et, (0, 0), (WPush.alloc w (.cells us et)).new, by omega⟩
  | false =>
    have hst := step_snap inv (WPush.alloc w (.cells us et)) us.size (Nat.le_refl _)
    refine ⟨_, _, _, _, hrun, Or.inl rfl, hst.2, hst.1, ?_⟩
    have hmon := hst.2.toMon
    have hv : VR (g.snap w.heap.size us.size) (w.alloc (.cells us et)) (.sl .full es) (.slice (some ⟨w.heap.size, 0, none⟩) es.length len) := by
      refine .sl .full es w.heap.size 0 len e.size (fun j => us.getD j undef) h3 (by omega) (fun j hj => ?_) (fun j v hv => (h2.2 j v hv).mono hmon) (fun v hv x hx => List.all_eq_true.1 (hones v hv) x hx) hlen.symm
      have hlt : j < us.size := by rw [hsz, ← hlen]; exact hj
      rw [Nat.zero_add]
      exact ⟨by rw [World.cell?_alloc_new]; simp [hlt], Or.inr ⟨rfl, hlt⟩⟩
    rw [hlen] at hv
    exact hv

end

end Go.Eng
