/- The row of SetsMore: whatever the input, it says true. -/
import Derived.Test.YtjldgekmjnkofaaS11
import Derived.Test.YtjldgekmjnkofaaRows
import Derived.HandedShaped
set_option linter.unusedVariables false
set_option linter.unusedSimpArgs false
namespace Go.Proofs.Ytjldgekmjnkofaa
open Go Go.Eng Go.Proofs Go.ChangeShapes Go.WideShapes Go.ChangeAt Go.RowKit

theorem own0 : ownKnob Try.prog.godebug = none := by kernel_rfl
theorem laid0 : laidOutB Try.prog = true := by kernel_rfl
theorem mix0 : Try.prog.follows .mixedOrders = true := by kernel_rfl

def dataL : List TypeId := [3, 4, 9, 22, 23, 24, 26, 27, 29, 30, 32, 57, 59, 79, 83, 86]
theorem dataOk : dataSet ty dataL = true := by kernel_rfl

theorem law3_says (xs : List V) (hl : xs.length = Try.f3.params.size) (hx : ∀ (j : Nat) t, Try.f3.params[j]? = some t → ∃ x n, xs[j]? = some x ∧ Arg ty n t x) : ∃ n σ', evalF ft n 3 xs .empty = some (.ret (.bool true), σ') := by
  have hp : Try.f3.params = #[22, 23, 32] := by kernel_rfl
  rw [hp] at hl hx
  match xs, hl with
  | [x0, x1, x2], _ =>
  obtain ⟨y0, n0, e0, i0, hi0, _, k0, h0⟩ := hx 0 22 rfl
  obtain ⟨y1, n1, e1, i1, hi1, _, k1, h1⟩ := hx 1 23 rfl
  obtain ⟨y2, n2, e2, i2, hi2, k2, _, h2⟩ := hx 2 32 rfl
  cases e0; cases e1; cases e2
  cases hi0; cases hi1; cases hi2
  rw [k0 (by kernel_rfl)] at h0
  rw [k1 (by kernel_rfl)] at h1
  obtain ⟨v0, ds, c0, hd⟩ := fits_defs h0
  obtain ⟨v1, bs, c1, hb⟩ := fits_scope h1
  obtain ⟨a, b, c, d, e, f, g, s, m, l, c2, hs, ht, hn⟩ := fits_ask h2
  cases c0; cases c1
  have hx2 := k2 (by kernel_rfl)
  rw [c2] at hx2
  subst hx2
  obtain ⟨σ', h⟩ := law3 hd hb hs ht hn
  obtain ⟨k, hk⟩ := D_run h
  exact ⟨k, σ', hk⟩

set_option maxRecDepth 100000 in
theorem setsMore_lifted (os : Os) (started : os.Started) (H : Type) (enc : TypeId × Value → H) :
    ReturnsInHanded {} Try.checked os 3 .any (Rows.setsMoreSpec.pre6 enc Try.prog Try.f3 Rows.setsMoreRow.domain false) (Rows.setsMoreSpec.post enc Try.prog Try.f3 false Rows.setsMoreRow.fresh Rows.setsMoreRow.handsOn Rows.setsMoreRow.again) := by
  refine returnsInHanded_of_change_shaped (C := Try.checked) own0 started (by kernel_rfl) Try.func3
    (ChangeSpec.witness6 (enc := enc) (C := Try.checked) false ⟨#[], #[.slice none 0 0, .slice none 0 0, .agg #[.bool false, .bool false, .slice none 0 0, .int .i64 0, .string ByteArray.empty, .slice none 0 0, .slice none 0 0]], []⟩ 12 (by kernel_rfl) (by kernel_rfl) (by kernel_rfl) (by kernel_rfl)) ?_
  intro W base args ds gs before hval hW _ hsz _ _
  have hp : Try.f3.params = #[22, 23, 32] := by kernel_rfl
  refine law_calls (fn := Try.f3) tok mix0 ftOk dataOk laid0 (fun t ht => ?_) (show Try.f3.resultTypes = #[4] by kernel_rfl) (by kernel_rfl) rfl (fun ds hds => ?_) hval hW (fun x hx => ?_) law3_says
  · rw [hp] at ht
    simp only [List.mem_cons, List.not_mem_nil, or_false] at ht
    rcases ht with rfl | rfl | rfl <;> exact ⟨by decide, by kernel_rfl, by decide +kernel⟩
  · have hp3 : Try.f3.params.size = 3 := by kernel_rfl
    rw [hp3] at hds
    match ds, hds with
    | [d1, d2, d3], _ => rfl
  · have := List.all_eq_true.1 hsz x (by
      have hv : Rows.setsMoreSpec.plain.varTypes Try.prog = [] := rfl
      obtain ⟨_, _, _, hV, _⟩ := hW
      obtain ⟨rfl, _⟩ := trodVars_none hV
      rw [List.append_nil]
      show x ∈ DataW.weightsEach Try.prog (Try.f3.params.toList ++ Rows.setsMoreSpec.plain.varTypes Try.prog) ds
      rw [hv, List.append_nil]
      exact hx)
    simpa using this

theorem setsMore_holds : Rows.SetsMoreSaid :=
  OpenClaim.holds_of_wide 3 Try.f3 rfl rfl rfl rfl rfl rfl rfl ⟨rfl, rfl, rfl, rfl, rfl⟩ rfl rfl rfl rfl rfl (by kernel_rfl) Try.func3 (by kernel_rfl)
    (of_decide_eq_true (by kernel_rfl)) (by unfold Func.isWrapper; first | (rw [if_pos (by decide +kernel)]; kernel_rfl) | (rw [if_neg (by decide +kernel)]; exact ⟨rfl, rfl⟩))
    (fun os started H enc _ => setsMore_lifted os started H enc)

end Go.Proofs.Ytjldgekmjnkofaa
