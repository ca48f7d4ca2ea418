/- The laws of what constraints let in: SetsMore. -/
import Derived.Test.YtjldgekmjnkofaaS10
set_option linter.unusedVariables false
set_option linter.unusedSimpArgs false
namespace Go.Eng
open Go

def sAwake : Sto := match evalS ft 60 16 [] .empty with
  | some (_, σ) => σ
  | none => .empty

theorem awake16 : callPure (D ft) 16 [] = some (.bool true) :=
  callPure_of (vs' := []) rfl (v := .bool true) (σ := sAwake) (D_known 60 (by kernel_rfl)) rfl

/-! ## Plain laws -/

theorem right_terms {s : SetL} (h : rightB s = true) (ht : 0 < s.terms.length) : s.all = false ∧ s.cmp = false ∧ (s.terms.all fun t => basicB t.name) = true := by
  unfold rightB at h
  obtain ⟨a, c, ts⟩ := s
  simp only at h ht ⊢
  simp only [ht, decide_true, Bool.and_eq_true] at h
  refine ⟨?_, ?_, h.2⟩
  · cases a with
    | false => rfl
    | true => cases c <;> simp [b2i] at h
  · cases c with
    | false => rfl
    | true => cases a <;> simp [b2i] at h

theorem within_more {ts more : List Trm} {t : Trm} (h : withinB ts t = true) : withinB (ts ++ more) t = true := by
  unfold withinB at h ⊢
  rw [List.any_append, h, Bool.true_or]

def guardB (a : Asked) : Bool := decide (a.kind = 0) || (decide (a.kind = 4) && (!a.own.isSome || !rightB (a.own.getD noSet)))

theorem lets_guard {a : Asked} {s : SetL} (h : letsB a s = true) : rightB s = true ∧ guardB a = false := by
  unfold letsB at h
  unfold guardB
  split at h
  · cases h
  · rename_i hc
    simp only [Bool.or_eq_true, Bool.not_eq_true'] at hc
    constructor
    · cases hr : rightB s with
      | true => rfl
      | false => exact absurd (Or.inl hr) hc
    · cases hg : (decide (a.kind = 0) || (decide (a.kind = 4) && (!a.own.isSome || !rightB (a.own.getD noSet)))) with
      | false => rfl
      | true =>
        exfalso
        apply hc
        refine Or.inr ?_
        simpa using hg

theorem lets_of {a : Asked} {s : SetL} (hr : rightB s = true) (hg : guardB a = false) : letsB a s = (if s.all then true
  else if s.cmp then decide (a.bk = 1) || (decide (a.kind = 4) && !(a.own.getD noSet).all)
  else if decide (a.kind = 4) then decide (0 < (a.own.getD noSet).terms.length) && (a.own.getD noSet).terms.all fun x => withinB s.terms x
  else decide (a.bk = 1) && withinB s.terms ⟨!decide (a.kind = 1), a.bn⟩) := by
  unfold guardB at hg
  unfold letsB
  rw [hg, hr]
  rfl

theorem lets_more {a : Asked} {s : SetL} (h : letsB a s = true) (ht : 0 < s.terms.length) : letsB a ⟨false, false, s.terms ++ [⟨false, nBool⟩, ⟨true, nInt⟩]⟩ = true := by
  obtain ⟨hr, hg⟩ := lets_guard h
  obtain ⟨h1, h2, h3⟩ := right_terms hr ht
  have hr2 : rightB ⟨false, false, s.terms ++ [⟨false, nBool⟩, ⟨true, nInt⟩]⟩ = true := by
    unfold rightB
    simp only [List.length_append, List.all_append, h3]
    have : decide (0 < s.terms.length + [(⟨false, nBool⟩ : Trm), ⟨true, nInt⟩].length) = true := by simp
    rw [this]
    rfl
  rw [lets_of hr hg, h1, h2] at h
  rw [lets_of hr2 hg]
  simp only [Bool.false_eq_true, if_false] at h ⊢
  split at h
  · rename_i h4
    rw [if_pos h4]
    simp only [Bool.and_eq_true, List.all_eq_true] at h ⊢
    exact ⟨h.1, fun x hx => within_more (h.2 x hx)⟩
  · rename_i h4
    rw [if_neg h4]
    simp only [Bool.and_eq_true] at h ⊢
    exact ⟨h.1, within_more h.2⟩

theorem lets_all {a : Asked} {s : SetL} (h : letsB a s = true) : letsB a ⟨true, false, []⟩ = true := by
  obtain ⟨_, hg⟩ := lets_guard h
  rw [lets_of (by rfl) hg]
  rfl

theorem lets_cmp {a : Asked} {s : SetL} (h : letsB a s = true) (ht : 0 < s.terms.length) : letsB a ⟨false, true, []⟩ = true := by
  obtain ⟨hr, hg⟩ := lets_guard h
  obtain ⟨h1, h2, h3⟩ := right_terms hr ht
  rw [lets_of hr hg, h1, h2] at h
  rw [lets_of (by rfl) hg]
  simp only [Bool.false_eq_true, if_false, if_true] at h ⊢
  split at h
  · rename_i h4
    simp only [Bool.and_eq_true, decide_eq_true_eq] at h
    have hro : rightB (a.own.getD noSet) = true := by
      unfold guardB at hg
      rw [h4] at hg
      cases hro : rightB (a.own.getD noSet) with
      | true => rfl
      | false => rw [hro] at hg; simp at hg
    obtain ⟨h5, _, _⟩ := right_terms hro h.1
    rw [h4, h5]
    simp
  · simp only [Bool.and_eq_true] at h
    rw [h.1]
    rfl

/-! ## SetsMore -/

theorem isSet_all : IsSet (.agg [.bool true, .bool false, .nsl]) ⟨true, false, []⟩ := ⟨⟨.nsl, rfl, .nsl⟩, by simp⟩
theorem isSet_cmp : IsSet (.agg [.bool false, .bool true, .nsl]) ⟨false, true, []⟩ := ⟨⟨.nsl, rfl, .nsl⟩, by simp⟩

theorem law3 {x0 x1 : V} {ds : List DefL} {bs : List Bnd} {a b c d e f g : V} {s : SetL} {n : Nat} {l : List (List UInt8)} (h0 : IsDefs x0 ds) (h1 : IsScope x1 bs) (hs : IsSet (.agg [a, b, c]) s) (ht : IsTyp n (.agg [d, e, f])) (hn : IsNames g l) :
    ∃ σ', D ft 3 [x0, x1, .agg [a, b, c, d, e, f, g]] .empty = some (.ret (.bool true), σ') := by
  have hz3 : [V.int .i64 0, .str [], .nsl].length = 3 := rfl
  have hz3' : [V.bool false, .bool false, .nsl].length = 3 := rfl
  obtain ⟨⟨tv, he, htv⟩, hl⟩ := hs
  cases he
  obtain ⟨lb, hlb⟩ := pure9 h0
  obtain ⟨es1, hs1, hall1⟩ := h1.ex
  obtain ⟨sz, hsz⟩ := pure10 n _ ht
  obtain ⟨k, nm, sv, es, hk, _⟩ := ht.names
  cases hk
  have hsv := ht.one3
  have hone : [V.bool s.all, .bool s.cmp, c, .int .i64 k, .str nm, f, g].all V.one = true := by simp [htv.one, hsv, hn.ex.one]
  have hp1 : part [V.bool s.all, .bool s.cmp, c, .int .i64 k, .str nm, f, g] 3 (some 3) = some (.agg [.int .i64 k, .str nm, f]) := rfl
  have hp2 : part [V.bool s.all, .bool s.cmp, c, .int .i64 k, .str nm, f, g] 0 (some 3) = some (.agg [.bool s.all, .bool s.cmp, c]) := rfl
  obtain ⟨dv, hd1, hd2⟩ := pure11 h0
  obtain ⟨bv, hb1, hb2⟩ := pure12 h1
  obtain ⟨t, ht1, ht2, _⟩ := pure13 n _ ht
  obtain ⟨r, hr1, hr2⟩ := pure14 (v := .agg [.bool s.all, .bool s.cmp, c]) ⟨⟨c, rfl, htv⟩, hl⟩
  obtain ⟨cr, rfl, hcr, hor⟩ := hr2.cells
  obtain ⟨ct, rfl, hct⟩ := ht2.agg
  have hot := ht2.ones
  obtain ⟨A, hA, _, _⟩ := asked_of (bv := bv) (bs := bs) hd2 ht2
  have hlets : ∀ (sv : V) (st : SetL), IsSet sv st → callPure (D ft) 15 [dv, bv, sv, .agg ct] = some (.bool (letsB A st)) := fun sv st h => pure15 hd2 hb2 ht2 h hA
  rw [D3_eq]
  iterate 4 (try simp only [boxC_all hone, Option.bind_some, hlb, notV_bool])
  cases lb with
  | false => exact ⟨.empty, by iterate 5 (try simp only [Bool.not_false, gd_tf, gd_u, Option.bind_some, pickS_t, chkB_b, condV_t])⟩
  | true =>
    iterate 4 (try simp only [Bool.not_true, gd_ff, Option.bind_some, hs1.len, binV_int, intBin_gtr, pickS_f, chkB_b])
    cases decide ((20 : Int) < es1.length) with
    | true => exact ⟨.empty, by iterate 5 (try simp only [gd_tf, gd_u, Option.bind_some, pickS_t, chkB_b, condV_t])⟩
    | false =>
      iterate 4 (try simp only [gd_ff, Option.bind_some, part_none, List.getElem?_cons_succ, List.getElem?_cons_zero, htv.len, binV_int, intBin_gtr, pickS_f, chkB_b])
      cases hlong : decide ((20 : Int) < (s.terms.map Trm.v).length) with
      | true => exact ⟨.empty, by iterate 5 (try simp only [gd_tf, gd_u, Option.bind_some, pickS_t, chkB_b, condV_t])⟩
      | false =>
        have hshort : s.terms.length ≤ 20 := by simp at hlong; omega
        iterate 4 (try simp only [gd_ff, Option.bind_some, hp1, hsz, binV_int, intBin_gtr, pickS_f, chkB_b])
        cases decide ((60 : Int) < sz) with
        | true => exact ⟨.empty, rfl⟩
        | false =>
          have hpcr : part cr 0 (some 3) = some (.agg cr) := part_all hcr
          have hpct : part ct 0 (some 3) = some (.agg ct) := part_all hct
          obtain ⟨rv, hcr', hrv⟩ : ∃ rv, cr = [.bool s.all, .bool s.cmp, rv] ∧ IsSl rv (s.terms.map Trm.v) := by
            obtain ⟨⟨rv, h, h2⟩, _⟩ := hr2
            cases h
            exact ⟨rv, rfl, h2⟩
          iterate 4 (try simp only [condV_f, hd1, Option.bind_some, hb1, hp1, hp2, ht1, stC_all hct hz3 hot, hr1, stC_all hcr hz3' hor, hpcr, hpct, hlets _ _ hr2, notV_bool])
          cases hL : letsB A s with
          | false => exact ⟨.empty, by iterate 3 (try simp only [Bool.not_false, condV_t, awake16, Option.bind_some])⟩
          | true =>
            have hall := lets_all hL
            -- the end
            have hf1 : fillC [V.bool false, .bool false, .nsl] [(0, 1, .bool true)] = some [.bool true, .bool false, .nsl] := rfl
            have hf2 : (fillC [V.bool false, .bool false, .nsl] [(1, 1, .bool true)]).map V.agg = some (V.agg [.bool false, .bool true, .nsl]) := rfl
            have hend : ∀ σ, J3_0 (.bool false) dv bv ct cr σ = some (.ret (.bool true), σ) := fun σ => by
              unfold J3_0
              have hc2 : cr[2]? = some rv := by rw [hcr']; rfl
              iterate 4 (try simp only [hf1, Option.bind_some, hpct, hlets _ _ isSet_all, hall, chkB_b, gd_tt, part_none, hc2, hrv.len, binV_int, intBin_eql])
              cases hz : decide (((s.terms.map Trm.v).length : Int) = 0) with
              | true => iterate 5 (try simp only [gd_tf, gd_tt, gd_u, Option.bind_some, pickS_t, awake16])
              | false =>
                have hpos : 0 < s.terms.length := by simp at hz; exact List.length_pos_iff.2 hz
                iterate 5 (try simp only [gd_ff, gd_tt, gd_u, Option.bind_some, hf2, hpct, hlets _ _ isSet_cmp, lets_cmp hL hpos, pickS_f, pickS_t, awake16])
            have hc2 : cr[2]? = some rv := by rw [hcr']; rfl
            iterate 4 (try simp only [Bool.not_true, condV_f, part_none, hc2, Option.bind_some, hrv.len, binV_int, intBin_gtr])
            cases hz : decide ((0 : Int) < (s.terms.map Trm.v).length) with
            | false => exact ⟨.empty, by simp only [condV_f]; exact hend _⟩
            | true =>
              have hpos : 0 < s.terms.length := by simpa using hz
              have hem : fillD 2 (List.replicate 0 (.agg [V.bool false, .str []])) [] = some [] := rfl
              obtain ⟨v1, σ1, g1, g2, _⟩ := Grow.append (n0 := 0) (σ := Sto.empty) (size := 2) (bytes := 24) (.full []) (Nat.zero_le _) hrv (by simp; omega) (by omega) (fun x hx => by cases hx) (fun x hx => by obtain ⟨c, rfl, hc⟩ := terms_agg x hx; exact hc)
              rw [List.nil_append] at g2
              have hm1 : fillC [V.bool false, .str []] [(1, 1, .str [98, 111, 111, 108])] = some [.bool false, .str nBool] := rfl
              have hm2 : fillC [V.bool false, .str []] [(0, 1, .bool true), (1, 1, .str [105, 110, 116])] = some [.bool true, .str nInt] := rfl
              have hm3 : fillD 2 (List.replicate 2 (.agg [V.bool false, .str []])) [(0, .agg [.bool false, .str nBool]), (1, .agg [.bool true, .str nInt])] = some [(⟨false, nBool⟩ : Trm).v, (⟨true, nInt⟩ : Trm).v] := rfl
              obtain ⟨v2, σ2, q1, q2, _⟩ := g2.append (y := .sl .full [(⟨false, nBool⟩ : Trm).v, (⟨true, nInt⟩ : Trm).v]) (new := [(⟨false, nBool⟩ : Trm).v, (⟨true, nInt⟩ : Trm).v]) (size := 2) (bytes := 24) (Nat.zero_le _) (.sl _ _) (by simp; omega) (by omega)
                (fun x hx => by obtain ⟨c, rfl, hc⟩ := terms_agg x hx; exact hc) (fun x hx => by simp at hx; rcases hx with rfl | rfl <;> rfl)
              have hmore : IsSet (.agg [.bool false, .bool false, v2]) ⟨false, false, s.terms ++ [⟨false, nBool⟩, ⟨true, nInt⟩]⟩ := ⟨⟨v2, rfl, by simpa using q2.isSl⟩, by simp; omega⟩
              have hm4 : fillC [V.bool false, .bool false, .nsl] [(2, 1, v2)] = some [.bool false, .bool false, v2] := by simp [q2.isSl.one, q2.isSl.cells]
              have hm5 : stC [V.bool false, .bool false, .nsl] 0 3 (.agg [.bool false, .bool false, v2]) = some [.bool false, .bool false, v2] := stC_all rfl hz3' (by simp [q2.isSl.one])
              have hm6 : part [V.bool false, .bool false, v2] 0 (some 3) = some (.agg [.bool false, .bool false, v2]) := rfl
              refine ⟨σ2, ?_⟩
              iterate 5 (try simp only [condV_t, hem, Option.bind_some, part_none, hc2, g1, bind2_some, hm1, hm2, hm3, q1, hm4, hm5, hm6, hpct, hlets _ _ hmore, lets_more hL hpos, notV_bool, Bool.not_true, condV_f])
              exact hend _

end Go.Eng
