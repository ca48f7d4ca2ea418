/- The row of UnifyMore: whatever the input, it says true. -/
import Derived.Test.YtjldgekmjnkofaaU11
import Derived.Test.YtjldgekmjnkofaaR0
set_option linter.unusedVariables false
set_option linter.unusedSimpArgs false
namespace Go.Proofs.Ytjldgekmjnkofaa
open Go Go.Eng Go.Proofs Go.ChangeShapes Go.WideShapes Go.ChangeAt Go.RowKit

theorem fits_typs {n : Nat} {cs : List V} (h : Fits ty n 27 cs) : ∃ v es, cs = [v] ∧ IsTyps n v es := by
  cases n with
  | zero => exact h.elim
  | succ n =>
    obtain ⟨s, es, rfl, h3, h4, h5⟩ := fits_slice (e := 29) (j := ⟨Try.t28.desc, 3, 48, (some (.agg [(.int .i64 (0)), (.str []), .nsl]))⟩) h rfl (by kernel_rfl) rfl
    refine ⟨s, es, rfl, ⟨h3, reach_le h4, fun e he => ?_⟩⟩
    obtain ⟨_, h6, _, h7⟩ := h5 e he
    have hag : (⟨Try.t28.desc, 3, 48, (some (.agg [(.int .i64 (0)), (.str []), .nsl]))⟩ : TI).agg = true := by kernel_rfl
    rw [h6 hag]
    exact (fits_typ n _ h7).succ

/-- Names, patterns, types, what stands already. -/
theorem fits_ask12 {n : Nat} {cs : List V} (h : Fits ty n 70 cs) : ∃ a b c d row P T m, cs = [a, b, c, d] ∧ IsNames a row ∧ IsTyps m b P ∧ IsTyps m c T ∧ V.one d = true := by
  cases n with
  | zero => exact h.elim
  | succ n =>
    obtain ⟨hl, hf⟩ := fits_struct (i := ⟨Try.t69.desc, 4, 96, (some (.agg [.nsl, .nsl, .nsl, .nsl]))⟩) h rfl (by kernel_rfl)
    have hfs : fieldsOf Try.t69.desc = [(30, 0), (27, 1), (27, 2), (27, 3)] := by kernel_rfl
    simp only [hfs] at hf
    obtain ⟨j0, e0, f0⟩ := hf (30, 0) (by simp)
    obtain ⟨j1, e1, f1⟩ := hf (27, 1) (by simp)
    obtain ⟨j2, e2, f2⟩ := hf (27, 2) (by simp)
    obtain ⟨j3, e3, f3⟩ := hf (27, 3) (by simp)
    cases e0; cases e1; cases e2; cases e3
    match cs, hl with
    | [a, b, c, d], _ =>
    obtain ⟨v0, row, c0, h0⟩ := fits_names f0
    obtain ⟨v1, P, c1, h1⟩ := fits_typs f1
    obtain ⟨v2, T, c2, h2⟩ := fits_typs f2
    obtain ⟨v3, B, c3, h3⟩ := fits_typs f3
    cases c0; cases c1; cases c2; cases c3
    exact ⟨_, _, _, _, row, P, T, n, rfl, h0, h1, h2, h3.ex.one⟩

def dataL7 : List TypeId := [3, 4, 9, 22, 23, 24, 26, 27, 29, 30, 32, 57, 59, 70, 79, 83, 86]
theorem dataOk7 : dataSet ty dataL7 = true := by kernel_rfl

theorem law7_says (xs : List V) (hl : xs.length = Try.f7.params.size) (hx : ∀ (j : Nat) t, Try.f7.params[j]? = some t → ∃ x n, xs[j]? = some x ∧ Arg ty n t x) : ∃ n σ', evalF ft n 7 xs .empty = some (.ret (.bool true), σ') := by
  have hp : Try.f7.params = #[22, 70] := by kernel_rfl
  rw [hp] at hl hx
  match xs, hl with
  | [x0, x1], _ =>
  obtain ⟨y0, n0, e0, i0, hi0, _, k0, h0⟩ := hx 0 22 rfl
  obtain ⟨y1, n1, e1, i1, hi1, k1, _, h1⟩ := hx 1 70 rfl
  cases e0; cases e1
  cases hi0; cases hi1
  rw [k0 (by kernel_rfl)] at h0
  obtain ⟨v0, ds, c0, hd⟩ := fits_defs h0
  cases c0
  obtain ⟨a, b, c, d, row, P, T, m, c2, hr, hpt, htt, hb⟩ := fits_ask12 h1
  have hx2 := k1 (by kernel_rfl)
  rw [c2] at hx2
  subst hx2
  obtain ⟨σ', h⟩ := law7 hd hr hpt htt hb
  obtain ⟨k, hk⟩ := D_run h
  exact ⟨k, σ', hk⟩

set_option maxRecDepth 100000 in
theorem unifyMore_lifted (os : Os) (started : os.Started) (H : Type) (enc : TypeId × Value → H) :
    ReturnsInHanded {} Try.checked os 7 .any (Rows.unifyMoreSpec.pre6 enc Try.prog Try.f7 Rows.unifyMoreRow.domain false) (Rows.unifyMoreSpec.post enc Try.prog Try.f7 false Rows.unifyMoreRow.fresh Rows.unifyMoreRow.handsOn Rows.unifyMoreRow.again) := by
  refine returnsInHanded_of_change_shaped (C := Try.checked) own0 started (by kernel_rfl) Try.func7
    (ChangeSpec.witness6 (enc := enc) (C := Try.checked) false ⟨#[], #[.slice none 0 0, .agg #[.slice none 0 0, .slice none 0 0, .slice none 0 0, .slice none 0 0]], []⟩ 12 (by kernel_rfl) (by kernel_rfl) (by kernel_rfl) (by kernel_rfl)) ?_
  intro W base args ds gs before hval hW _ hsz _ _
  have hp : Try.f7.params = #[22, 70] := by kernel_rfl
  refine law_calls (fn := Try.f7) tok mix0 ftOk dataOk7 laid0 (fun t ht => ?_) (show Try.f7.resultTypes = #[4] by kernel_rfl) (by kernel_rfl) rfl (fun ds hds => ?_) hval hW (fun x hx => ?_) law7_says
  · rw [hp] at ht
    simp only [List.mem_cons, List.not_mem_nil, or_false] at ht
    rcases ht with rfl | rfl <;> exact ⟨by decide, by kernel_rfl, by decide +kernel⟩
  · have hp3 : Try.f7.params.size = 2 := by kernel_rfl
    rw [hp3] at hds
    match ds, hds with
    | [d1, d2], _ => rfl
  · have := List.all_eq_true.1 hsz x (by
      have hv : Rows.unifyMoreSpec.plain.varTypes Try.prog = [] := rfl
      obtain ⟨_, _, _, hV, _⟩ := hW
      obtain ⟨rfl, _⟩ := trodVars_none hV
      rw [List.append_nil]
      show x ∈ DataW.weightsEach Try.prog (Try.f7.params.toList ++ Rows.unifyMoreSpec.plain.varTypes Try.prog) ds
      rw [hv, List.append_nil]
      exact hx)
    simpa using this

theorem unifyMore_holds : Rows.UnifyMoreSaid :=
  OpenClaim.holds_of_wide 7 Try.f7 rfl rfl rfl rfl rfl rfl rfl ⟨rfl, rfl, rfl, rfl, rfl⟩ rfl rfl rfl rfl rfl (by kernel_rfl) Try.func7 (by kernel_rfl)
    (of_decide_eq_true (by kernel_rfl)) (by unfold Func.isWrapper; first | (rw [if_pos (by decide +kernel)]; kernel_rfl) | (rw [if_neg (by decide +kernel)]; exact ⟨rfl, rfl⟩))
    (fun os started H enc _ => unifyMore_lifted os started H enc)

end Go.Proofs.Ytjldgekmjnkofaa
