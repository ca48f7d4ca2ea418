/- The row of UnifyNone: whatever the input, it says true. -/
import Derived.Test.YtjldgekmjnkofaaU12
import Derived.Test.YtjldgekmjnkofaaR0
set_option linter.unusedVariables false
set_option linter.unusedSimpArgs false
namespace Go.Proofs.Ytjldgekmjnkofaa
open Go Go.Eng Go.Proofs Go.ChangeShapes Go.WideShapes Go.ChangeAt Go.RowKit

theorem law8_says (xs : List V) (hl : xs.length = Try.f8.params.size) (hx : ∀ (j : Nat) t, Try.f8.params[j]? = some t → ∃ x n, xs[j]? = some x ∧ Arg ty n t x) : ∃ n σ', evalF ft n 8 xs .empty = some (.ret (.bool true), σ') := by
  have hp : Try.f8.params = #[30, 9] := by kernel_rfl
  rw [hp] at hl hx
  match xs, hl with
  | [x0, x1], _ =>
  obtain ⟨y0, n0, e0, i0, hi0, _, k0, h0⟩ := hx 0 30 rfl
  obtain ⟨y1, n1, e1, i1, hi1, _, k1, h1⟩ := hx 1 9 rfl
  cases e0; cases e1
  cases hi0; cases hi1
  rw [k0 (by kernel_rfl)] at h0
  rw [k1 (by kernel_rfl)] at h1
  obtain ⟨v0, row, c0, hr⟩ := fits_names h0
  cases c0
  obtain ⟨name, c1, hn⟩ := fits_str h1 rfl (by kernel_rfl)
  cases c1
  obtain ⟨σ', h⟩ := law8 (name := name) hr (reach_le hn)
  obtain ⟨k, hk⟩ := D_run h
  exact ⟨k, σ', hk⟩

set_option maxRecDepth 100000 in
theorem unifyNone_lifted (os : Os) (started : os.Started) (H : Type) (enc : TypeId × Value → H) :
    ReturnsInHanded {} Try.checked os 8 .any (Rows.unifyNoneSpec.pre6 enc Try.prog Try.f8 Rows.unifyNoneRow.domain false) (Rows.unifyNoneSpec.post enc Try.prog Try.f8 false Rows.unifyNoneRow.fresh Rows.unifyNoneRow.handsOn Rows.unifyNoneRow.again) := by
  refine returnsInHanded_of_change_shaped (C := Try.checked) own0 started (by kernel_rfl) Try.func8
    (ChangeSpec.witness6 (enc := enc) (C := Try.checked) false ⟨#[], #[.slice none 0 0, .string ByteArray.empty], []⟩ 12 (by kernel_rfl) (by kernel_rfl) (by kernel_rfl) (by kernel_rfl)) ?_
  intro W base args ds gs before hval hW _ hsz _ _
  have hp : Try.f8.params = #[30, 9] := by kernel_rfl
  refine law_calls (fn := Try.f8) tok mix0 ftOk dataOk laid0 (fun t ht => ?_) (show Try.f8.resultTypes = #[4] by kernel_rfl) (by kernel_rfl) rfl (fun ds hds => ?_) hval hW (fun x hx => ?_) law8_says
  · rw [hp] at ht
    simp only [List.mem_cons, List.not_mem_nil, or_false] at ht
    rcases ht with rfl | rfl <;> exact ⟨by decide, by kernel_rfl, by decide +kernel⟩
  · have hp3 : Try.f8.params.size = 2 := by kernel_rfl
    rw [hp3] at hds
    match ds, hds with
    | [d1, d2], _ => rfl
  · have := List.all_eq_true.1 hsz x (by
      have hv : Rows.unifyNoneSpec.plain.varTypes Try.prog = [] := rfl
      obtain ⟨_, _, _, hV, _⟩ := hW
      obtain ⟨rfl, _⟩ := trodVars_none hV
      rw [List.append_nil]
      show x ∈ DataW.weightsEach Try.prog (Try.f8.params.toList ++ Rows.unifyNoneSpec.plain.varTypes Try.prog) ds
      rw [hv, List.append_nil]
      exact hx)
    simpa using this

theorem unifyNone_holds : Rows.UnifyNoneSaid :=
  OpenClaim.holds_of_wide 8 Try.f8 rfl rfl rfl rfl rfl rfl rfl ⟨rfl, rfl, rfl, rfl, rfl⟩ rfl rfl rfl rfl rfl (by kernel_rfl) Try.func8 (by kernel_rfl)
    (of_decide_eq_true (by kernel_rfl)) (by unfold Func.isWrapper; first | (rw [if_pos (by decide +kernel)]; kernel_rfl) | (rw [if_neg (by decide +kernel)]; exact ⟨rfl, rfl⟩))
    (fun os started H enc _ => unifyNone_lifted os started H enc)

end Go.Proofs.Ytjldgekmjnkofaa
