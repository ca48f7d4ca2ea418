/- More of the operations that only look: comparisons, sums, lengths, parts, functions, boxes of an interface, structs. -/
import Derived.Test.YtjldgekmjnkofaaE8
import Derived.Laws.Strings
import Derived.Laws.Strings2
import Derived.Laws.Concat
set_option linter.unusedVariables false
set_option linter.unusedSimpArgs false
namespace Go.Eng
open Go

theorem wrapI_eq (k : IntKind) (n : Int) : wrapI k n = k.wrap n := by
  cases k <;> try rfl
  unfold wrapI
  dsimp only
  split
  · simp only [IntKind.wrap, IntKind.bits, IntKind.signed]
    simp
    split <;> omega
  · rfl

section
variable {P : Program} {ty : Ty} {B0 : Nat} {o : Oper} {a : Act} {σ : Sto} {g : Gh} {w : World} {v : V}

theorem run_bin_int {t : TypeId} {op : BinOp} {k : IntKind} {m n : Int} (hv : intBin op k m n = some v) : ∃ u, (binOp op t (.int k m) (.int k n)).run P w = .ok u w ∧ VR g w v u := by
  cases op <;> simp only [intBin] at hv <;> try (cases hv; done)
  all_goals
    cases hv
    first
      | exact ⟨_, by simp only [binOp_add, binOp_sub, binOp_mul, Op.intArith, Sem.run_pure]; rfl, by rw [wrapI_eq]; exact .int _ _⟩
      | (refine ⟨_, by simp only [binOp_eql, binOp_neq, binOp_lss, binOp_leq, binOp_gtr, binOp_geq, Sem.run_pure]; rfl, ?_⟩
         first
           | exact .bool _
           | (have e : (m == n) = decide (m = n) := by by_cases h : m = n <;> simp [h]
              simp only [bne, e]
              exact .bool _))

theorem run_bin_str {t : TypeId} {op : BinOp} {x y : ByteArray} (hv : strBin op x.data.toList y.data.toList = some v) : ∃ u, (binOp op t (.string x) (.string y)).run P w = .ok u w ∧ VR g w v u := by
  cases op <;> simp only [strBin] at hv <;> try (cases hv; done)
  · split at hv
    · rename_i hle
      cases hv
      refine ⟨.string (x ++ y), ?_, .str _ _ (by simp)⟩
      rw [binOp_string_add]
      exact run_string_add_sum w x y (by simpa using hle)
    · cases hv
  · cases hv
    exact ⟨_, by rw [binOp_string_eql, ByteArray.toList_eq, ByteArray.toList_eq]; rfl, .bool _⟩
  · cases hv
    exact ⟨_, by rw [binOp_string_neq, ByteArray.toList_eq, ByteArray.toList_eq]; rfl, .bool _⟩

theorem kdOf_inv {d : TypeDesc} {k : Kd} (h : (kdOf d).beq k = true) : (k = .bool ∧ d = .bool) ∨ (k = .sl ∧ ∃ e, d = .slice e) ∨ (k = .ptr ∧ ∃ e, d = .pointer e) ∨ (k = .map ∧ ∃ x y, d = .map x y) ∨ (k = .func ∧ ∃ x y z, d = .func x y z) ∨ (k = .iface ∧ ∃ x, d = .interface x) ∨ (k = .str ∧ d = .string) := by
  cases d <;> cases k <;> simp_all [kdOf, Kd.beq]

theorem equal_run {t : TypeId} {x y : Value} {b : Bool} (h : (Op.equalIn (9999 + 1) t x y).run P w = .ok b w) : (Op.equal t x y).run P w = .ok b w := h

theorem run_equal_nil {t : TypeId} {i : TI} (tok : TyOk P ty) (hi : ty t = some i) {x y : V} {ux uy : Value} (hx : VR g w x ux) (hy : VR g w y uy) {b : Bool} (hb : nilEq (kdOf i.desc) x y = some b) :
    (Op.equal t ux uy).run P w = .ok b w := by
  have hu := tok.under t i hi
  unfold nilEq at hb
  split at hb
  case isFalse => cases hb
  rename_i hk
  apply equal_run
  unfold Op.equalIn
  simp only [Sem.run_bind, run_underlying hu, Result.andThen_ok]
  have hk' := kdOf_inv hk
  cases x <;> cases y <;> simp only [nilEqs] at hb <;> try (cases hb; done)
  all_goals
    cases hb
    simp only [V.kd] at hk'
    rcases hk' with ⟨h, h'⟩ | ⟨h, e, h'⟩ | ⟨h, e, h'⟩ | ⟨h, e1, e2, h'⟩ | ⟨h, e1, e2, e3, h'⟩ | ⟨h, e, h'⟩ | ⟨h, h'⟩ <;> first | (cases h; done) | skip
    rw [h']
    cases hx <;> cases hy <;> rfl

theorem eqGuard_ok {t : TypeId} {op : BinOp} {x y : V} {ux uy : Value} (hx : VR g w x ux) (hy : VR g w y uy) (h : (nilEqs x y).isSome = true ∨ (∃ b, x = .bool b) ∨ (∃ k n, x = .int k n) ∨ ∃ l, x = .str l) (p q : Operand) :
    eqGuard op t p q ux uy = pure () := by
  rcases h with h | ⟨b, rfl⟩ | ⟨k, n, rfl⟩ | ⟨l, rfl⟩
  · cases x <;> cases y <;> simp only [nilEqs] at h <;> try (cases h; done)
    all_goals
      cases hx <;> cases hy <;> first
        | rw [eqGuard_at_pointer] | rw [eqGuard_at_slice] | rw [eqGuard_at_map] | rw [eqGuard_at_func] | rw [eqGuard_at_nilFunc] | rw [eqGuard_at_iface] | rw [eqGuard_nil_iface]
  · rw [hx.bool_inv, eqGuard_at_bool]
  · rw [hx.int_inv, eqGuard_at_int]
  · obtain ⟨s, hs, _⟩ := hx.str_inv
    rw [hs, eqGuard_at_string]

theorem binOp_nilEq {t : TypeId} {x y : V} {ux uy : Value} (hx : VR g w x ux) (hy : VR g w y uy) (h : (nilEqs x y).isSome = true) :
    binOp .eql t ux uy = (do pure (.bool (← Op.equal t ux uy)) : Sem Value) ∧ binOp .neq t ux uy = (do pure (.bool (!(← Op.equal t ux uy))) : Sem Value) := by
  cases x <;> cases y <;> simp only [nilEqs] at h <;> try (cases h; done)
  all_goals
    cases hx <;> cases hy <;> exact ⟨rfl, rfl⟩

theorem s_bin (tok : TyOk P ty) (inv : Inv B0 σ g w) {op : BinOp} {t yt : TypeId} {x y : Operand} (ho : o.op = .binOp op t x y yt) {i : TI} (hi : ty t = some i)
    {p q : V} (hx : VR g w p (a.eval x)) (hy : VR g w q (a.eval y)) (hv : binV op (kdOf i.desc) p q = some v) : OpVal P B0 o a σ g w v σ := by
  have key : ∀ u, eqGuard op t x y (a.eval x) (a.eval y) = pure () → (binOp op t (a.eval x) (a.eval y)).run P w = .ok u w → (execOp a.eval o).run P w = .ok (.value u) w := by
    intro u h1 h2
    unfold execOp
    simp [ho, h1, h2]
  have hnil : nilBin op (kdOf i.desc) p q = some v → OpVal P B0 o a σ g w v σ := by
    intro hz
    unfold nilBin at hz
    cases hb : nilEq (kdOf i.desc) p q with
    | none => rw [hb] at hz; cases op <;> cases hz
    | some b =>
      rw [hb] at hz
      have hs : (nilEqs p q).isSome = true := by
        unfold nilEq at hb
        split at hb
        · rw [hb]; rfl
        · cases hb
      have he := run_equal_nil tok hi hx hy hb
      have hbo := binOp_nilEq (t := t) hx hy hs
      cases op <;> simp at hz <;> subst hz
      · exact .same inv (.bool b) (key _ (eqGuard_ok hx hy (Or.inl hs) x y) (by rw [hbo.1]; simp [he])) (.bool _)
      · exact .same inv (.bool !b) (key _ (eqGuard_ok hx hy (Or.inl hs) x y) (by rw [hbo.2]; simp [he])) (.bool _)
  unfold binV at hv
  split at hv
  · rename_i _ _ k m k' n
    split at hv
    · rename_i hk
      subst hk
      obtain ⟨u, hr, hvr⟩ := run_bin_int (P := P) (w := w) (g := g) (t := t) hv
      have h1 := eqGuard_ok (t := t) (op := op) hx hy (Or.inr (Or.inr (Or.inl ⟨_, _, rfl⟩))) x y
      have e1 := hx.int_inv
      have e2 := hy.int_inv
      exact .same inv u (key u h1 (by rw [e1, e2]; exact hr)) hvr
    · cases hv
  · rename_i l l'
    obtain ⟨s, e1, e1'⟩ := hx.str_inv
    obtain ⟨s', e2, e2'⟩ := hy.str_inv
    subst e1' e2'
    obtain ⟨u, hr, hvr⟩ := run_bin_str (P := P) (w := w) (g := g) (t := t) hv
    have h1 := eqGuard_ok (t := t) (op := op) hx hy (Or.inr (Or.inr (Or.inr ⟨_, rfl⟩))) x y
    exact .same inv u (key u h1 (by rw [e1, e2]; exact hr)) hvr
  · rename_i b c
    have h1 := eqGuard_ok (t := t) (op := op) hx hy (Or.inr (Or.inl ⟨_, rfl⟩)) x y
    have e1 := hx.bool_inv
    have e2 := hy.bool_inv
    have hu := tok.under t i hi
    split at hv
    · rename_i hd
      cases hv
      have hd' : i.desc = .bool := by cases h : i.desc <;> rw [h] at hd <;> simp [kdOf] at hd ⊢
      rw [hd'] at hu
      refine .same inv (.bool (b == c)) (key _ h1 ?_) (.bool _)
      rw [e1, e2]
      have : binOp .eql t (.bool b) (.bool c) = (do pure (.bool (← Op.equal t (.bool b) (.bool c))) : Sem Value) := rfl
      rw [this]
      have he : (Op.equal t (.bool b) (.bool c)).run P w = .ok (b == c) w := equal_run (by unfold Op.equalIn; simp [run_underlying hu])
      simp [he]
    · rename_i hd
      cases hv
      have hd' : i.desc = .bool := by cases h : i.desc <;> rw [h] at hd <;> simp [kdOf] at hd ⊢
      rw [hd'] at hu
      refine .same inv (.bool (!(b == c))) (key _ h1 ?_) (.bool _)
      rw [e1, e2]
      have : binOp .neq t (.bool b) (.bool c) = (do pure (.bool (!(← Op.equal t (.bool b) (.bool c)))) : Sem Value) := rfl
      rw [this]
      have he : (Op.equal t (.bool b) (.bool c)).run P w = .ok (b == c) w := equal_run (by unfold Op.equalIn; simp [run_underlying hu])
      simp [he]
    · cases hv
  · exact hnil hv

theorem kd_sl {d : TypeDesc} (h : kdOf d = .sl) : ∃ e, d = .slice e := by cases d <;> simp [kdOf] at h ⊢
theorem kd_str {d : TypeDesc} (h : kdOf d = .str) : d = .string := by cases d <;> simp [kdOf] at h ⊢
theorem kd_map {d : TypeDesc} (h : kdOf d = .map) : ∃ k e, d = .map k e := by cases d <;> simp [kdOf] at h ⊢

theorem s_len (tok : TyOk P ty) (inv : Inv B0 σ g w) {x : Operand} {t : TypeId} (ho : o.op = .call { callee := .builtin .len, args := #[x], argTypes := #[t] }) {i : TI} (hi : ty t = some i)
    {u : V} (hx : VR g w u (a.eval x)) (hv : lenV (kdOf i.desc) σ u = some v) : OpVal P B0 o a σ g w v σ := by
  have hu := tok.under t i hi
  have key : ∀ y, (Builtin.len_ #[t] o.type #[a.eval x]).run P w = .ok y w → (execOp a.eval o).run P w = .ok (.value y) w := by
    intro y h
    unfold execOp
    simp [ho, resolve, invoke, builtin, h]
  generalize hz : a.eval x = z at hx
  rw [hz] at key
  unfold lenV at hv
  split at hv
  · rename_i hd
    cases hv
    obtain ⟨e, he⟩ := kd_sl hd
    rw [he] at hu
    cases hx
    exact .same inv (.int .i64 0) (key _ (by simp [Builtin.len_, run_underlying hu, goInt])) (.int _ _)
  · rename_i hd
    cases hv
    obtain ⟨e, he⟩ := kd_sl hd
    rw [he] at hu
    cases hx with
    | esl A => exact .same inv (.int .i64 0) (key _ (by simp [Builtin.len_, run_underlying hu, goInt])) (.int _ _)
    | sl => exact .same inv _ (key _ (by simp [Builtin.len_, run_underlying hu, goInt])) (.int _ _)
  · rename_i hd
    cases hv
    obtain ⟨e, he⟩ := kd_sl hd
    rw [he] at hu
    cases hx
    exact .same inv _ (key _ (by simp [Builtin.len_, run_underlying hu, goInt])) (.int _ _)
  · rename_i l hd
    cases hv
    rw [kd_str hd] at hu
    obtain ⟨s, e1, e1'⟩ := hx.str_inv
    subst e1'
    subst e1
    refine .same inv (.int .i64 s.size) (key _ (by simp [Builtin.len_, run_underlying hu, goInt])) ?_
    have : s.data.toList.length = s.size := by simp
    rw [this]; exact .int _ _
  · rename_i hd
    cases hv
    obtain ⟨k, e, he⟩ := kd_map hd
    rw [he] at hu
    cases hx
    exact .same inv (.int .i64 0) (key _ (by simp [Builtin.len_, run_underlying hu, goInt])) (.int _ _)
  · rename_i b hd
    split at hv
    · rename_i es ck hb
      cases hv
      obtain ⟨k, e, he⟩ := kd_map hd
      rw [he] at hu
      obtain ⟨B, us, hι, hh, hr, _⟩ := inv.maps hb
      cases hx with
      | map b B' h =>
        rw [hι] at h
        cases h
        refine .same inv (.int .i64 us.size) (key _ ?_) (by rw [hr.len]; exact .int _ _)
        have hg : (getObj B).run P w = .ok (.map us ck) w := by simp [getObj, Sem.run, hh]
        simp [Builtin.len_, run_underlying hu, goInt, hg]
    · cases hv
  · cases hv

end

end Go.Eng
