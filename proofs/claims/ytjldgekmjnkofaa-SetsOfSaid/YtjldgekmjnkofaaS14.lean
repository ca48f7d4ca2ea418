/- The laws of what constraints let in: SetsNames. -/
import Derived.Test.YtjldgekmjnkofaaS13
set_option linter.unusedVariables false
set_option linter.unusedSimpArgs false
namespace Go.Eng
open Go

/-- A basic type, by its name. -/
def basicT (w : List UInt8) : V := .agg [.int .i64 1, .str w, .nsl]

def sOf (f : FuncId) (vs : List V) : Sto := match evalS ft 60 f vs .empty with
  | some (_, σ) => σ
  | none => .empty

theorem full_int : callPure (D ft) 33 [.nsl, basicT nInt] = some (basicT nInt) := callPure_of (vs' := [.nsl, basicT nInt]) rfl (v := basicT nInt) (σ := sOf 33 [.nsl, basicT nInt]) (D_known 60 (by kernel_rfl)) rfl
theorem full_string : callPure (D ft) 33 [.nsl, basicT nString] = some (basicT nString) := callPure_of (vs' := [.nsl, basicT nString]) rfl (v := basicT nString) (σ := sOf 33 [.nsl, basicT nString]) (D_known 60 (by kernel_rfl)) rfl
theorem full_bool : callPure (D ft) 33 [.nsl, basicT nBool] = some (basicT nBool) := callPure_of (vs' := [.nsl, basicT nBool]) rfl (v := basicT nBool) (σ := sOf 33 [.nsl, basicT nBool]) (D_known 60 (by kernel_rfl)) rfl
theorem behind_int : callPure (D ft) 39 [.nsl, basicT nInt] = some (basicT nInt) := callPure_of (vs' := [.nsl, basicT nInt]) rfl (v := basicT nInt) (σ := sOf 39 [.nsl, basicT nInt]) (D_known 60 (by kernel_rfl)) rfl
theorem behind_string : callPure (D ft) 39 [.nsl, basicT nString] = some (basicT nString) := callPure_of (vs' := [.nsl, basicT nString]) rfl (v := basicT nString) (σ := sOf 39 [.nsl, basicT nString]) (D_known 60 (by kernel_rfl)) rfl
theorem behind_bool : callPure (D ft) 39 [.nsl, basicT nBool] = some (basicT nBool) := callPure_of (vs' := [.nsl, basicT nBool]) rfl (v := basicT nBool) (σ := sOf 39 [.nsl, basicT nBool]) (D_known 60 (by kernel_rfl)) rfl

theorem isTyp_basic (w : List UInt8) : IsTyp 1 (basicT w) := ⟨1, w, .nsl, [], rfl, .nsl, by simp, fun e he => by cases he⟩
theorem isDefs_nil : IsDefs .nsl [] := ⟨⟨[], .nsl, .nil⟩, by simp⟩

def three : Nat → List UInt8
  | 0 => nInt
  | 1 => nString
  | _ => nBool

theorem asked_basic (i : Nat) : AskedOf .nsl .nsl (basicT (three i)) [] ⟨1, none, 1, three i⟩ := by
  have h : ∀ w, callPure (D ft) 33 [.nsl, basicT w] = some (basicT w) → callPure (D ft) 39 [.nsl, basicT w] = some (basicT w) → AskedOf .nsl .nsl (basicT w) [] ⟨1, none, 1, w⟩ := fun w h1 h2 =>
    ⟨basicT w, 1, .nsl, basicT w, 1, h1, isTyp_basic w, ⟨w, rfl, rfl⟩, h2, isTyp_basic w, rfl, rfl⟩
  match i with
  | 0 => exact h _ full_int behind_int
  | 1 => exact h _ full_string behind_string
  | _ + 2 => exact h _ full_bool behind_bool

/-- A basic type that a union lets in is one of the names that all its terms have. -/
theorem lets_basic {s : SetL} {w : List UInt8} {names : List (List UInt8)} (h : letsB ⟨1, none, 1, w⟩ s = true) (ht : 0 < s.terms.length) (hn : (s.terms.all fun t => names.contains t.name) = true) : names.contains w = true := by
  obtain ⟨hr, hg⟩ := lets_guard h
  obtain ⟨h1, h2, _⟩ := right_terms hr ht
  rw [lets_of hr hg, h1, h2] at h
  simp only [Bool.false_eq_true, if_false, decide_eq_true_eq, show ¬ ((1 : Int) = 4) by omega, Bool.and_eq_true] at h
  have h3 := h.2
  unfold withinB at h3
  rw [List.any_eq_true] at h3
  obtain ⟨x, hx, h4⟩ := h3
  simp only [Bool.and_eq_true, beq_iff_eq] at h4
  rw [← h4.1]
  exact List.all_eq_true.1 hn x hx

theorem law5 {a b c d e f g : V} {s : SetL} {n : Nat} {names : List (List UInt8)} {more : List UInt8} (hs : IsSet (.agg [a, b, c]) s) (ht : IsTyp n (.agg [d, e, f])) (hn : IsNames g names) :
    ∃ σ', D ft 5 [.agg [a, b, c, d, e, f, g], .str more] .empty = some (.ret (.bool true), σ') := by
  have hz3' : [V.bool false, .bool false, .nsl].length = 3 := rfl
  obtain ⟨⟨tv, he, htv⟩, hl⟩ := hs
  cases he
  obtain ⟨k, nm, sv, es, hk, _⟩ := ht.names
  cases hk
  have hsv := ht.one3
  generalize hc2 : [V.bool s.all, .bool s.cmp, c, .int .i64 k, .str nm, f, g] = c2
  have hone : c2.all V.one = true := by subst hc2; simp [htv.one, hsv, hn.ex.one]
  have hp2 : part c2 0 (some 3) = some (.agg [.bool s.all, .bool s.cmp, c]) := by subst hc2; rfl
  have hp6 : part c2 6 none = some g := by subst hc2; rfl
  have hq2 : part c2 2 none = some c := by subst hc2; rfl
  obtain ⟨r, hr1, hr2⟩ := pure14 (v := .agg [.bool s.all, .bool s.cmp, c]) ⟨⟨c, rfl, htv⟩, hl⟩
  obtain ⟨cr, rfl, hcr, hor⟩ := hr2.cells
  have hpcr : part cr 0 (some 3) = some (.agg cr) := part_all hcr
  obtain ⟨rv, hcr', hrv⟩ : ∃ rv, cr = [.bool s.all, .bool s.cmp, rv] ∧ IsSl rv (s.terms.map Trm.v) := by
    obtain ⟨⟨rv, h, h2⟩, _⟩ := hr2
    cases h
    exact ⟨rv, rfl, h2⟩
  have hcr0 : part cr 0 none = some (.bool s.all) := by rw [hcr']; rfl
  have hcr1 : part cr 1 none = some (.bool s.cmp) := by rw [hcr']; rfl
  have hcr2 : part cr 2 none = some rv := by rw [hcr']; rfl
  have hlets : ∀ i : Nat, callPure (D ft) 15 [.nsl, .nsl, .agg cr, basicT (three i)] = some (.bool (letsB ⟨1, none, 1, three i⟩ s)) := fun i => pure15 isDefs_nil isScope_nil (isTyp_basic _) hr2 (asked_basic i)
  have heach := pure18 (names := names) hr2 hn.ex hn.len
  rw [D5_eq]
  iterate 3 (try simp only [boxC_all hone, Option.bind_some, hq2, htv.len, binV_int, intBin_gtr, chkB_b])
  cases decide ((20 : Int) < (s.terms.map Trm.v).length) with
  | true => exact ⟨.empty, by iterate 5 (try simp only [gd_tf, gd_u, Option.bind_some, pickS_t, chkB_b, condV_t])⟩
  | false =>
    iterate 4 (try simp only [gd_ff, Option.bind_some, hp6, hn.ex.len, binV_int, intBin_gtr, pickS_f])
    cases hshort : decide ((20 : Int) < (names.map V.str).length) with
    | true => exact ⟨.empty, rfl⟩
    | false =>
      have hshort : names.length ≤ 20 := by simp at hshort; omega
      iterate 4 (try simp only [condV_f, Option.bind_some, hp2, hr1, stC_all hcr hz3' hor, hpcr, hp6, heach, notV_bool])
      cases hE : eachB s.terms names with
      | false => exact ⟨.empty, by iterate 3 (try simp only [Bool.not_false, condV_t, awake16, Option.bind_some])⟩
      | true =>
        have hE' : 0 < s.terms.length ∧ (s.terms.all fun t => names.contains t.name) = true := by
          unfold eachB at hE
          simp only [Bool.and_eq_true, decide_eq_true_eq] at hE
          exact hE
        have hfill : fillC [V.str [], .str [], .str []] [(0, 1, .str [105, 110, 116]), (1, 1, .str [115, 116, 114, 105, 110, 103]), (2, 1, .str [98, 111, 111, 108])] = some [.str nInt, .str nString, .str nBool] := rfl
        have hblk0 : (Sto.empty.alloc (.cells [V.str [], .str [], .str []])).blk Sto.empty.next = some (.cells [V.str [], .str [], .str []]) := Sto.blk_next _ _
        have hst : stV (Sto.empty.alloc (.cells [V.str [], .str [], .str []])) 3 (.ptr Sto.empty.next 0) (.agg [.str nInt, .str nString, .str nBool]) = some ((Sto.empty.alloc (.cells [V.str [], .str [], .str []])).upd Sto.empty.next (.cells [.str nInt, .str nString, .str nBool])) := by
          simp [stV, hblk0, over]
        have hblk : ((Sto.empty.alloc (.cells [V.str [], .str [], .str []])).upd Sto.empty.next (.cells [.str nInt, .str nString, .str nBool])).blk Sto.empty.next = some (.cells [.str nInt, .str nString, .str nBool]) := by
          rw [Sto.blk_upd, if_pos ⟨rfl, Sto.blk_lt hblk0⟩]
        iterate 4 (try simp only [Bool.not_true, condV_f, hfill, Option.bind_some, alS_eq, hst])
        generalize (Sto.empty.alloc (.cells [V.str [], .str [], .str []])).upd Sto.empty.next (.cells [.str nInt, .str nString, .str nBool]) = σ at hblk ⊢
        generalize Sto.empty.next = bb at hblk ⊢
        -- a name of the three
        have harr : ∀ i : Nat, i < 3 → indexArrV 1 3 (.ptr bb 0) (.int .i64 i) = some (.ptr bb i) := fun i hi => by
          show (if (0 : Int) ≤ (i : Int) ∧ (i : Int) < ((3 : Nat) : Int) then some (V.ptr bb (0 + (i : Int).toNat * 1)) else none) = _
          rw [if_pos (by omega)]
          simp
        have hget : ∀ i : Nat, i < 3 → ldV σ none (.ptr bb i) = some (.str (three i)) := fun i hi => by
          rw [ldV_ptr hblk]
          match i, hi with
          | 0, _ => rfl
          | 1, _ => rfl
          | 2, _ => rfl
        -- one round of the names
        have inner : ∀ (i : Nat), i < 3 → ∀ (rest pre : List (List UInt8)) (inb : Bool), names = pre ++ rest →
            L5_1 (.str more) c2 cr (.ptr bb 0) (.int .i64 i) (.bool inb) (.int .i64 pre.length) σ = L5_1 (.str more) c2 cr (.ptr bb 0) (.int .i64 i) (.bool (inb || rest.contains (three i))) (.int .i64 names.length) σ := by
          intro i hi rest
          induction rest with
          | nil =>
            intro pre inb hpre
            rw [hpre, List.append_nil]
            simp
          | cons x rest ih =>
            intro pre inb hpre
            have hlt : decide ((pre.length : Int) < (names.map V.str).length) = true := by rw [hpre]; simp; omega
            have hlen2 : names.length = pre.length + (rest.length + 1) := by rw [hpre]; simp
            have hw : wrapI .i64 ((pre.length : Int) + 1) = ((pre ++ [x]).length : Int) := by
              rw [wrap64 (by omega)]; simp
            have hidx : indexAddrV 1 g (.int .i64 pre.length) = some (.vp [.str x]) := by
              have h : IsSl g (pre.map V.str ++ .str x :: rest.map V.str) := by have := hn.ex; rw [hpre] at this; simpa using this
              have := h.idx (K := 1) (k := .i64) rfl
              rw [List.length_map] at this
              exact this
            have hld : ldV σ none (.vp [.str x]) = some (.str x) := rfl
            have hc : (x :: rest).contains (three i) = ((x == three i) || rest.contains (three i)) := by
              have hsym : (three i == x) = (x == three i) := by
                rw [Bool.eq_iff_iff]
                simp only [beq_iff_eq]
                exact ⟨fun h => h.symm, fun h => h.symm⟩
              rw [List.contains_cons, hsym]
            have hih := fun b => ih (pre ++ [x]) b (by rw [hpre]; simp)
            rw [L5_1_eq]
            cases inb with
            | true =>
              iterate 4 (try simp only [hp6, Option.bind_some, hn.ex.len, binV_int, intBin_lss, hlt, condV_t, chkB_b, gd_tf, gd_u, pickS_t, intBin_add, hw])
              rw [hih true]
              simp
            | false =>
              iterate 6 (try simp only [hp6, Option.bind_some, hn.ex.len, binV_int, intBin_lss, hlt, condV_t, chkB_b, gd_ff, hidx, hld, harr i hi, hget i hi, binV_str, strBin_eql, pickS_f, intBin_add, hw])
              rw [hih (x == three i), hc]
              simp only [Bool.false_or]
        -- one round of the three
        have round : ∀ i : Nat, i < 3 → L5_0 (.str more) c2 cr (.ptr bb 0) (.int .i64 i) σ = L5_0 (.str more) c2 cr (.ptr bb 0) (.int .i64 (i + 1 : Nat)) σ := by
          intro i hi
          have hi3 : decide ((i : Int) < 3) = true := by simp; omega
          have hw : wrapI .i64 ((i : Int) + 1) = ((i + 1 : Nat) : Int) := by
            rw [wrap64 (by omega)]; simp
          rw [L5_0_eq]
          simp only [binV_int, intBin_lss, Option.bind_some, hi3, condV_t]
          rw [show (V.int .i64 0) = V.int .i64 ((0 : Nat) : Int) from rfl]
          rw [show L5_1 (.str more) c2 cr (.ptr bb 0) (.int .i64 i) (.bool false) (.int .i64 ((0 : Nat) : Int)) σ = _ from inner i hi names [] false rfl, Bool.false_or]
          have hnl : decide ((names.length : Int) < (names.map V.str).length) = false := by simp
          have hpos : decide ((0 : Int) < (s.terms.map Trm.v).length) = true := by simp; exact hE'.1
          have hfb : (fillC [V.int .i64 0, .str [], .nsl] [(0, 1, .int .i64 1), (1, 1, .str (three i))]).map V.agg = some (basicT (three i)) := rfl
          rw [L5_1_eq]
          iterate 4 (try simp only [hp6, Option.bind_some, hn.ex.len, binV_int, intBin_lss, hnl, condV_f, hcr2, hrv.len, intBin_gtr, hpos, chkB_b, gd_tt, hcr0, notV_bool, pickS_t])
          cases hsa : s.all with
          | true => iterate 6 (try simp only [Bool.not_true, chkB_b, gd_ft, gd_u, pickS_f, Option.bind_some, condV_f, binV_int, intBin_add, hw])
          | false =>
            iterate 4 (try simp only [Bool.not_false, chkB_b, gd_tt, hcr1, Option.bind_some, notV_bool, pickS_t])
            cases hsc : s.cmp with
            | true => iterate 6 (try simp only [Bool.not_true, chkB_b, gd_ft, gd_u, pickS_f, Option.bind_some, condV_f, binV_int, intBin_add, hw])
            | false =>
              iterate 5 (try simp only [Bool.not_false, gd_tt, hpcr, Option.bind_some, harr i hi, hget i hi, hfb, hlets i, pickS_t])
              cases hL : letsB ⟨1, none, 1, three i⟩ s with
              | false => iterate 6 (try simp only [gd_ft, gd_u, pickS_f, Option.bind_some, condV_f, binV_int, intBin_add, hw])
              | true =>
                rw [lets_basic hL hE'.1 hE'.2]
                iterate 6 (try simp only [gd_tt, notV_bool, Bool.not_true, pickS_t, Option.bind_some, condV_f, binV_int, intBin_add, hw])
        have r0 : L5_0 (.str more) c2 cr (.ptr bb 0) (.int .i64 0) σ = L5_0 (.str more) c2 cr (.ptr bb 0) (.int .i64 1) σ := round 0 (by omega)
        have r1 : L5_0 (.str more) c2 cr (.ptr bb 0) (.int .i64 1) σ = L5_0 (.str more) c2 cr (.ptr bb 0) (.int .i64 2) σ := round 1 (by omega)
        have r2 : L5_0 (.str more) c2 cr (.ptr bb 0) (.int .i64 2) σ = L5_0 (.str more) c2 cr (.ptr bb 0) (.int .i64 3) σ := round 2 (by omega)
        rw [r0, r1, r2, L5_0_eq]
        -- with one name more
        have hem : fillD 1 (List.replicate 0 (.str [])) [] = some [] := rfl
        have hm1 : fillD 1 (List.replicate 1 (.str [])) [(0, .str more)] = some [.str more] := rfl
        obtain ⟨v1, σ1, g1, g2, _⟩ := Grow.append (n0 := 0) (σ := σ) (size := 1) (bytes := 16) (.full []) (Nat.zero_le _) hn.ex (by simp; omega) (by omega) (fun x hx => by cases hx) (fun x hx => by obtain ⟨y, _, rfl⟩ := List.mem_map.1 hx; rfl)
        rw [List.nil_append] at g2
        obtain ⟨v2, σ2, q1, q2, _⟩ := g2.append (y := .sl .full [.str more]) (new := [.str more]) (size := 1) (bytes := 16) (Nat.zero_le _) (.sl _ _) (by simp; omega) (by omega)
          (fun x hx => by obtain ⟨y, _, rfl⟩ := List.mem_map.1 hx; rfl) (fun x hx => by rw [List.mem_singleton] at hx; rw [hx]; rfl)
        have hE2 : eachB s.terms (names ++ [more]) = true := by
          unfold eachB
          simp only [Bool.and_eq_true, decide_eq_true_eq, List.all_eq_true]
          refine ⟨hE'.1, fun t ht => ?_⟩
          have := List.all_eq_true.1 hE'.2 t ht
          simp only [List.contains_iff_mem, List.mem_append] at this ⊢
          exact Or.inl this
        have heach2 := pure18 (names := names ++ [more]) (nv := v2) hr2 (by have := q2.isSl; simpa using this) (by simp; omega)
        rw [hE2] at heach2
        exact ⟨σ2, by iterate 5 (try simp only [binV_int, intBin_lss, Option.bind_some, Int.reduceLT, decide_false, condV_f, hpcr, hem, hp6, hm1, g1, bind2_some, q1, heach2, gd_tt, awake16, pickS_t])⟩

end Go.Eng
