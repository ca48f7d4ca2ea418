/- The row of SetsOf: whatever the input, it says true. -/
import Derived.Test.YtjldgekmjnkofaaS16
import Derived.Test.YtjldgekmjnkofaaR0
set_option linter.unusedVariables false
set_option linter.unusedSimpArgs false
namespace Go.Proofs.Ytjldgekmjnkofaa
open Go Go.Eng Go.Proofs Go.ChangeShapes Go.WideShapes Go.ChangeAt Go.RowKit

theorem law6_says (xs : List V) (hl : xs.length = Try.f6.params.size) (hx : ∀ (j : Nat) t, Try.f6.params[j]? = some t → ∃ x n, xs[j]? = some x ∧ Arg ty n t x) : ∃ n σ', evalF ft n 6 xs .empty = some (.ret (.bool true), σ') := by
  have hp : Try.f6.params = #[59, 23, 9] := by kernel_rfl
  rw [hp] at hl hx
  match xs, hl with
  | [x0, x1, x2], _ =>
  obtain ⟨y0, n0, e0, i0, hi0, k0, _, h0⟩ := hx 0 59 rfl
  obtain ⟨y1, n1, e1, i1, hi1, _, k1, h1⟩ := hx 1 23 rfl
  obtain ⟨y2, n2, e2, i2, hi2, _, k2, h2⟩ := hx 2 9 rfl
  cases e0; cases e1; cases e2
  cases hi0; cases hi1; cases hi2
  rw [k1 (by kernel_rfl)] at h1
  rw [k2 (by kernel_rfl)] at h2
  obtain ⟨v1, bs, c1, hb⟩ := fits_scope h1
  cases c1
  obtain ⟨name, c2, _⟩ := fits_str h2 rfl (by kernel_rfl)
  cases c2
  obtain ⟨t, ht⟩ := fits_node _ _ h0
  rw [k0 (by kernel_rfl)]
  obtain ⟨σ', h⟩ := law6 (name := name) ht hb
  obtain ⟨k, hk⟩ := D_run h
  exact ⟨k, σ', hk⟩

set_option maxRecDepth 100000 in
theorem setsOf_lifted (os : Os) (started : os.Started) (H : Type) (enc : TypeId × Value → H) :
    ReturnsInHanded {} Try.checked os 6 .any (Rows.setsOfSpec.pre6 enc Try.prog Try.f6 Rows.setsOfRow.domain false) (Rows.setsOfSpec.post enc Try.prog Try.f6 false Rows.setsOfRow.fresh Rows.setsOfRow.handsOn Rows.setsOfRow.again) := by
  refine returnsInHanded_of_change_shaped (C := Try.checked) own0 started (by kernel_rfl) Try.func6
    (ChangeSpec.witness6 (enc := enc) (C := Try.checked) false ⟨#[], #[.agg #[.int .i64 0, .string ByteArray.empty, .slice none 0 0, .int .i64 0], .slice none 0 0, .string ByteArray.empty], []⟩ 12 (by kernel_rfl) (by kernel_rfl) (by kernel_rfl) (by kernel_rfl)) ?_
  intro W base args ds gs before hval hW _ hsz _ _
  have hp : Try.f6.params = #[59, 23, 9] := by kernel_rfl
  refine law_calls (fn := Try.f6) tok mix0 ftOk dataOk laid0 (fun t ht => ?_) (show Try.f6.resultTypes = #[4] by kernel_rfl) (by kernel_rfl) rfl (fun ds hds => ?_) hval hW (fun x hx => ?_) law6_says
  · rw [hp] at ht
    simp only [List.mem_cons, List.not_mem_nil, or_false] at ht
    rcases ht with rfl | rfl | rfl <;> exact ⟨by decide, by kernel_rfl, by decide +kernel⟩
  · have hp3 : Try.f6.params.size = 3 := by kernel_rfl
    rw [hp3] at hds
    match ds, hds with
    | [d1, d2, d3], _ => rfl
  · have := List.all_eq_true.1 hsz x (by
      have hv : Rows.setsOfSpec.plain.varTypes Try.prog = [] := rfl
      obtain ⟨_, _, _, hV, _⟩ := hW
      obtain ⟨rfl, _⟩ := trodVars_none hV
      rw [List.append_nil]
      show x ∈ DataW.weightsEach Try.prog (Try.f6.params.toList ++ Rows.setsOfSpec.plain.varTypes Try.prog) ds
      rw [hv, List.append_nil]
      exact hx)
    simpa using this

theorem setsOf_holds : Rows.SetsOfSaid :=
  OpenClaim.holds_of_wide 6 Try.f6 rfl rfl rfl rfl rfl rfl rfl ⟨rfl, rfl, rfl, rfl, rfl⟩ rfl rfl rfl rfl rfl (by kernel_rfl) Try.func6 (by kernel_rfl)
    (of_decide_eq_true (by kernel_rfl)) (by unfold Func.isWrapper; first | (rw [if_pos (by decide +kernel)]; kernel_rfl) | (rw [if_neg (by decide +kernel)]; exact ⟨rfl, rfl⟩))
    (fun os started H enc _ => setsOf_lifted os started H enc)

end Go.Proofs.Ytjldgekmjnkofaa
