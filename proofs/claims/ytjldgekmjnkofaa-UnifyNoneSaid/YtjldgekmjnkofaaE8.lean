/- The operations that only look, one by one. -/
import Derived.Test.YtjldgekmjnkofaaE7
import Derived.Laws.StructEq
import Derived.Laws.Slices
import Derived.LaidEql
set_option linter.unusedVariables false
set_option linter.unusedSimpArgs false
namespace Go.Eng
open Go

section
variable {P : Program} {ty : Ty} {B0 : Nat} {o : Oper} {a : Act} {σ : Sto} {g : Gh} {w : World} {v : V}

theorem pureR_inv {σ σ' : Sto} {x : Option V} {r : OR} (h : pureR σ x = some (r, σ')) : ∃ v, x = some v ∧ r = .val v ∧ σ' = σ := by
  unfold pureR at h
  split at h
  · rename_i u
    cases h
    exact ⟨u, rfl, rfl, rfl⟩
  · cases h

theorem s_move (inv : Inv B0 σ g w) {x : Operand} (ho : o.op = .move x ∨ o.op = .assign x) (hx : VR g w v (a.eval x)) : OpVal P B0 o a σ g w v σ := by
  refine .same inv (a.eval x) ?_ hx
  rcases ho with ho | ho <;> · unfold execOp; simp [ho]

theorem s_pick (inv : Inv B0 σ g w) {c x y : Operand} (ho : o.op = .pick c x y) {b : Bool} (hc : VR g w (.bool b) (a.eval c)) (hx : if b then VR g w v (a.eval x) else VR g w v (a.eval y)) :
    OpVal P B0 o a σ g w v σ := by
  have hc' : a.eval c = .bool b := hc.bool_inv
  cases b with
  | true => exact .same inv (a.eval x) (by unfold execOp; simp [ho, hc', asBool]) (by simpa using hx)
  | false => exact .same inv (a.eval y) (by unfold execOp; simp [ho, hc', asBool]) (by simpa using hx)

theorem s_not (inv : Inv B0 σ g w) {x : Operand} {t : TypeId} (ho : o.op = .unOp .not t x) {u : V} (hx : VR g w u (a.eval x)) (hv : notV u = some v) : OpVal P B0 o a σ g w v σ := by
  cases u <;> simp only [notV] at hv <;> try (cases hv; done)
  cases hv
  rename_i b
  have e : a.eval x = .bool b := hx.bool_inv
  exact .same inv (.bool !b) (by unfold execOp; simp [ho, e, Op.unary]) (.bool _)

theorem s_nilCheck (inv : Inv B0 σ g w) {x : Operand} (ho : o.op = .nilCheck x) {u : V} (hx : VR g w u (a.eval x)) (hv : nilCheckV u = some v) : OpVal P B0 o a σ g w v σ := by
  have key : ∀ z, a.eval x = z → (match z with | .pointer none | .nilIface | .nilFunc => False | .func (.method _) _ _ => False | _ => True) → (execOp a.eval o).run P w = .ok (.value z) w := by
    intro z hz hok
    unfold execOp
    simp only [ho, hz]
    cases z <;> first | rfl | skip
    · rename_i r; cases r <;> first | rfl | exact hok.elim
    · rename_i fn first cap; cases fn <;> first | rfl | exact hok.elim
    · exact hok.elim
    · exact hok.elim
  cases u <;> simp only [nilCheckV] at hv <;> try (cases hv; done)
  all_goals
    cases hv
    refine .same inv (a.eval x) (key _ rfl ?_) hx
    generalize a.eval x = z at hx
    cases hx <;> trivial

theorem s_extract (inv : Inv B0 σ g w) {x : Operand} {i : Nat} (ho : o.op = .extract x i) {u : V} (hx : VR g w u (a.eval x)) (hv : extractV i u = some v) : OpVal P B0 o a σ g w v σ := by
  cases u <;> simp only [extractV] at hv <;> try (cases hv; done)
  rename_i cs
  generalize hz : a.eval x = z at hx
  cases hx with
  | tup cs us hn hr =>
    have hlt : i < us.size := by rw [hn]; exact (List.getElem?_eq_some_iff.1 hv).1
    refine .same inv (us.getD i undef) ?_ (hr _ _ hv)
    unfold execOp
    simp [ho, hz, Instr.extract, hlt]

theorem fieldOf_inv {s : TypeId} {f : Nat} {fl : Field} (h : fieldOf ty s f = some fl) : ∃ i fs, ty s = some i ∧ i.desc = .struct fs ∧ fs[f]? = some fl := by
  unfold fieldOf at h
  split at h
  · rename_i i hi
    split at h
    · rename_i fs hd
      exact ⟨i, fs, hi, hd, h⟩
    · cases h
  · cases h

theorem s_field (tok : TyOk P ty) (inv : Inv B0 σ g w) {s : TypeId} {x : Operand} {f : Nat} (ho : o.op = .field s x f) {fl : Field} (hf : fieldOf ty s f = some fl) {i : TI} (hi : ty fl.type = some i)
    {u : V} (hx : VR g w u (a.eval x)) (hv : fieldV fl.offset i.n u = some v) : OpVal P B0 o a σ g w v σ := by
  obtain ⟨j, fs, hj, hd, hfl⟩ := fieldOf_inv hf
  cases u <;> simp only [fieldV] at hv <;> try (cases hv; done)
  rename_i cs
  generalize hz : a.eval x = z at hx
  cases hx with
  | agg cs us hn hr =>
    obtain ⟨y, hy, hvr⟩ := run_part tok hi hn hr hv
    refine .same inv y ?_ hvr
    have hu := tok.under s j hj
    rw [hd] at hu
    unfold execOp
    simp [ho, hz, Instr.field, run_underlying hu, hfl, asAgg, hy]

theorem s_fieldAddr (tok : TyOk P ty) (inv : Inv B0 σ g w) {s : TypeId} {x : Operand} {f : Nat} (ho : o.op = .fieldAddr s x f) {fl : Field} (hf : fieldOf ty s f = some fl) {i : TI} (hi : ty fl.type = some i)
    (hsz : i.size ≠ 0) {u : V} (hx : VR g w u (a.eval x)) (hv : fieldAddrV fl.offset u = some v) : OpVal P B0 o a σ g w v σ := by
  obtain ⟨j, fs, hj, hd, hfl⟩ := fieldOf_inv hf
  have hu := tok.under s j hj
  rw [hd] at hu
  have key : ∀ B of, a.eval x = .pointer (some ⟨B, of, none⟩) → (execOp a.eval o).run P w = .ok (.value (.pointer (some ⟨B, of + fl.offset, none⟩))) w := by
    intro B of hz
    unfold execOp
    simp [ho, hz, Instr.fieldAt, run_underlying hu, hfl, Instr.sureAddr, fieldPlace, run_sizeOf tok hi, hsz, Addr.add_lit]
  cases u <;> simp only [fieldAddrV] at hv <;> try (cases hv; done)
  · cases hv
    generalize hz : a.eval x = z at hx
    cases hx with
    | ptr b off B d h =>
      refine .same inv _ (key _ _ hz) ?_
      rw [Nat.add_assoc]
      exact .ptr _ _ _ _ h
  · rename_i cs
    split at hv
    · rename_i hle
      cases hv
      generalize hz : a.eval x = z at hx
      cases hx with
      | vp cs B of f hs hr =>
        refine .same inv _ (key _ _ hz) ?_
        refine .vp _ B (of + fl.offset) (fun k => f (fl.offset + k)) (fun k hk => ?_) (fun k y hk => ?_)
        · rw [List.length_drop] at hk
          rw [Nat.add_assoc]
          exact hs (fl.offset + k) (by omega)
        · rw [List.getElem?_drop] at hk
          exact hr _ _ hk
    · cases hv

theorem elemOf_inv {t : TypeId} {e : TI} (h : elemOf ty t = some e) : ∃ i et, ty t = some i ∧ i.desc = .slice et ∧ ty et = some e := by
  unfold elemOf at h
  split at h
  · rename_i i hi
    split at h
    · rename_i et hd
      exact ⟨i, et, hi, hd, h⟩
    · cases h
  · cases h

theorem flatMap_get (s : Nat) : ∀ (es : List V), (∀ v ∈ es, v.cells.length = s) → ∀ (i : Nat) v, es[i]? = some v → ∀ (j : Nat) x, v.cells[j]? = some x → (es.flatMap V.cells)[i * s + j]? = some x := by
  intro es
  induction es with
  | nil => intro _ i v h; simp at h
  | cons e es ih =>
    intro hl i v h j x hx
    have he := hl e (by simp)
    rw [List.flatMap_cons]
    cases i with
    | zero =>
      simp at h
      subst h
      have hj := (List.getElem?_eq_some_iff.1 hx).1
      rw [List.getElem?_append_left (by omega)]
      simpa using hx
    | succ i =>
      rw [List.getElem?_append_right (by rw [he, Nat.add_mul]; omega), he]
      have := ih (fun v hv => hl v (by simp [hv])) i v (by simpa using h) j x hx
      rw [show (i + 1) * s + j - s = i * s + j from by rw [Nat.add_mul]; omega]
      exact this

theorem flatMap_len (s : Nat) : ∀ (es : List V), (∀ v ∈ es, v.cells.length = s) → (es.flatMap V.cells).length = es.length * s := by
  intro es
  induction es with
  | nil => intro _; simp
  | cons e es ih =>
    intro hl
    rw [List.flatMap_cons, List.length_append, hl e (by simp), ih (fun v hv => hl v (by simp [hv])), List.length_cons, Nat.add_mul]
    omega

theorem s_indexAddr (tok : TyOk P ty) (inv : Inv B0 σ g w) {t : TypeId} {x i : Operand} (ho : o.op = .indexAddr t x i) {e : TI} (he : elemOf ty t = some e)
    {u z : V} (hx : VR g w u (a.eval x)) (hi : VR g w z (a.eval i)) (hv : indexAddrV e.size u z = some v) : OpVal P B0 o a σ g w v σ := by
  obtain ⟨j, et, hj, hd, het⟩ := elemOf_inv he
  have hu := tok.under t j hj
  rw [hd] at hu
  have key : ∀ B of len cap k n, a.eval x = .slice (some ⟨B, of, none⟩) len cap → a.eval i = .int k n → 0 ≤ n → n < len →
      (execOp a.eval o).run P w = .ok (.value (.pointer (some ⟨B, of + n.toNat * e.size, none⟩))) w := by
    intro B of len cap k n h1 h2 h3 h4
    unfold execOp
    simp [ho, h1, h2, Instr.indexAt, run_underlying hu, asIntOf, h3, h4, run_sizeOf tok het, Addr.add_lit]
  cases u <;> cases z <;> simp only [indexAddrV] at hv <;> try (cases hv; done)
  · rename_i ow es k n
    split at hv
    · rename_i h0
      cases hn : es[n.toNat]? with
      | none => rw [hn] at hv; cases hv
      | some y =>
        rw [hn] at hv
        simp only [Option.bind_some] at hv
        split at hv
        case isFalse => cases hv
        rename_i hys
        cases hv
        have hlt := (List.getElem?_eq_some_iff.1 hn).1
        generalize hzi : a.eval i = zi at hi
        cases hi
        generalize hz : a.eval x = zx at hx
        cases hx with
        | esl A => simp at hn
        | sl ow es B of cap s f hl hc hss hr hone hown =>
          have hse : s = e.size := (hl y (List.mem_of_getElem? hn)).symm.trans hys
          subst hse
          refine .same inv _ (key B of es.length cap k n hz hzi h0 (by omega)) ?_
          have hle : n.toNat * e.size + e.size ≤ es.length * e.size := by
            rw [← Nat.succ_mul]; exact Nat.mul_le_mul_right _ hlt
          refine .vp _ B (of + n.toNat * e.size) (fun q => f (n.toNat * e.size + q)) (fun q hq => ?_) (fun q y' hq => ?_)
          · have := hl y (List.mem_of_getElem? hn)
            rw [Nat.add_assoc]
            exact hss _ (by omega)
          · exact hr _ _ (flatMap_get _ es hl _ y hn _ _ hq)
    · cases hv
  · rename_i b off len s k n
    split at hv
    · rename_i h0
      cases hv
      generalize hzi : a.eval i = zi at hi
      cases hi
      generalize hz : a.eval x = zx at hx
      cases hx with
      | msl b off len s B d cap h hc hroom =>
        refine .same inv _ (key B (d + off) len cap k n hz hzi h0.1 (by omega)) ?_
        rw [Nat.add_assoc]
        exact .ptr _ _ _ _ h
    · cases hv

theorem arrOf_inv {t : TypeId} {e : Nat × TI} (h : arrOf ty t = some e) : ∃ i et, ty t = some i ∧ i.desc = .array e.1 et ∧ ty et = some e.2 := by
  unfold arrOf at h
  split at h
  · rename_i i hi
    split at h
    · rename_i n et hd
      split at h
      · rename_i j hj
        cases h
        exact ⟨i, et, hi, hd, hj⟩
      · cases h
    · cases h
  · cases h

theorem s_indexArr (tok : TyOk P ty) (inv : Inv B0 σ g w) {t : TypeId} {x i : Operand} (ho : o.op = .indexAddr t x i) {e : Nat × TI} (he : arrOf ty t = some e)
    {u z : V} (hx : VR g w u (a.eval x)) (hi : VR g w z (a.eval i)) (hv : indexArrV e.2.size e.1 u z = some v) : OpVal P B0 o a σ g w v σ := by
  obtain ⟨j, et, hj, hd, het⟩ := arrOf_inv he
  have hu := tok.under t j hj
  rw [hd] at hu
  have key : ∀ B of k n, a.eval x = .pointer (some ⟨B, of, none⟩) → a.eval i = .int k n → 0 ≤ n → n < e.1 →
      (execOp a.eval o).run P w = .ok (.value (.pointer (some ⟨B, of + n.toNat * e.2.size, none⟩))) w := by
    intro B of k n h1 h2 h3 h4
    unfold execOp
    simp [ho, h1, h2, Instr.indexAt, Instr.sureAddr, run_underlying hu, asIntOf, h3, h4, run_sizeOf tok het, Addr.add_lit]
  cases u <;> cases z <;> simp only [indexArrV] at hv <;> try (cases hv; done)
  · rename_i b off k n
    split at hv
    · rename_i h0
      cases hv
      generalize hzi : a.eval i = zi at hi
      cases hi
      generalize hz : a.eval x = zx at hx
      cases hx with
      | ptr b off B d h =>
        refine .same inv _ (key _ _ k n hz hzi h0.1 h0.2) ?_
        rw [Nat.add_assoc]
        exact .ptr _ _ _ _ h
    · cases hv
  · rename_i cs k n
    split at hv
    · rename_i h0
      cases hv
      generalize hzi : a.eval i = zi at hi
      cases hi
      generalize hz : a.eval x = zx at hx
      cases hx with
      | vp cs B of f hs hr =>
        refine .same inv _ (key _ _ k n hz hzi h0.1 h0.2.1) ?_
        refine .vp _ B (of + n.toNat * e.2.size) (fun q => f (n.toNat * e.2.size + q)) (fun q hq => ?_) (fun q y hq => ?_)
        · rw [List.length_drop] at hq
          rw [Nat.add_assoc]
          exact hs _ (by omega)
        · rw [List.getElem?_drop] at hq
          exact hr _ _ hq
    · cases hv

theorem s_ld (tok : TyOk P ty) (inv : Inv B0 σ g w) {t : TypeId} {x : Operand} (ho : o.op = .load t x) {i : TI} (hi : ty t = some i) {u : V} (hx : VR g w u (a.eval x)) (hv : ldV σ i.n u = some v) :
    OpVal P B0 o a σ g w v σ := by
  have key : ∀ A y, a.eval x = .pointer (some A) → (loadVar t A).run P w = .ok y w → (execOp a.eval o).run P w = .ok (.value y) w := by
    intro A y h1 h2
    unfold execOp
    simp [ho, h1, Instr.loadAt, Instr.sureAddr, h2]
  cases u <;> simp only [ldV] at hv <;> try (cases hv; done)
  · rename_i b off
    split at hv
    · rename_i cs hb
      obtain ⟨B, d, c, el, hι, hh, hr, _⟩ := inv.cells hb
      generalize hz : a.eval x = z at hx
      cases hx with
      | ptr b off B' d' h =>
        rw [hι] at h
        cases h
        obtain ⟨y, hy, hvr⟩ := run_loadVar tok hi (B := B) (o := d) (f := fun j => c.getD (d + j) undef) hv (fun j hj => by
          obtain ⟨_, u, hu, _⟩ := hr j cs[j] (List.getElem?_eq_getElem hj)
          rw [cell?_of_heap hh, hu]
          simp [hu]) (fun j y hj => by
          obtain ⟨_, u, hu, hur⟩ := hr j y hj
          have : c.getD (d + j) undef = u := by simp [hu]
          rw [this]; exact hur)
        exact .same inv y (key _ _ hz hy) hvr
    · cases hv
  · rename_i cs
    generalize hz : a.eval x = z at hx
    cases hx with
    | vp cs B of f hs hr =>
      obtain ⟨y, hy, hvr⟩ := run_loadVar tok hi (B := B) (o := of) (f := f) hv (fun j hj => (hs j hj).1) hr
      exact .same inv y (key _ _ hz hy) hvr

end

end Go.Eng
