/- Are two types? That it says so or not. -/
import Derived.Test.YtjldgekmjnkofaaU1
set_option linter.unusedVariables false
set_option linter.unusedSimpArgs false
namespace Go.Eng
open Go

theorem loop68 {fv s s2 : V} {es es2 : List V} {σ : Sto} (hs : IsSl s es) (hs2 : IsSl s2 es2) (hes : ∀ e ∈ es, ∃ cs, e = .agg cs ∧ cs.length = 3 ∧ cs.all V.one = true) (hes2 : ∀ e ∈ es2, ∃ cs, e = .agg cs ∧ cs.length = 3 ∧ cs.all V.one = true) (hlen : es.length ≤ 9223372036854775807)
    (hl2 : es.length = es2.length) (hq : ∀ e ∈ es, ∀ e2 ∈ es2, ∃ b, appV (D ft) fv [e, e2] σ = some (.ret (.bool b), σ)) :
    ∀ rest pre rest2 pre2 : List V, es = pre ++ rest → es2 = pre2 ++ rest2 → pre2.length = pre.length → ∃ b, L68_0 s2 fv s (.int .i64 es.length) (.int .i64 pre.length) σ = some (.ret (.bool b), σ) := by
  intro rest
  induction rest with
  | nil =>
    intro pre rest2 pre2 hpre hpre2 hpl
    have hlt : decide ((pre.length : Int) < es.length) = false := by rw [hpre]; simp
    exact ⟨true, by rw [L68_0_eq]; simp only [binV_int, intBin_lss, Option.bind_some, hlt, condV_f]⟩
  | cons e rest ih =>
    intro pre rest2 pre2 hpre hpre2 hpl
    cases rest2 with
    | nil => rw [hpre, hpre2] at hl2; simp at hl2; omega
    | cons e2 rest2 =>
    have hlt : decide ((pre.length : Int) < es.length) = true := by rw [hpre]; simp; omega
    have he : e ∈ es := by rw [hpre]; simp
    have he2 : e2 ∈ es2 := by rw [hpre2]; simp
    obtain ⟨b, hb⟩ := hq e he e2 he2
    obtain ⟨cs, rfl, hcs, hone⟩ := hes e he
    obtain ⟨cs2, rfl, hcs2, hone2⟩ := hes2 e2 he2
    have hidx : indexAddrV 3 s (.int .i64 pre.length) = some (.vp cs) := IsSl.idx (e := .agg cs) (hpre ▸ hs) hcs
    have hidx2 : indexAddrV 3 s2 (.int .i64 pre.length) = some (.vp cs2) := by rw [← hpl]; exact IsSl.idx (e := .agg cs2) (hpre2 ▸ hs2) hcs2
    have hlen2 : es.length = pre.length + (rest.length + 1) := by rw [hpre]; simp
    have hw : wrapI .i64 ((pre.length : Int) + 1) = ((pre ++ [V.agg cs]).length : Int) := by
      rw [wrap64 (by omega)]; simp
    have hz : [V.int .i64 0, .str [], .nsl].length = 3 := rfl
    obtain ⟨b2, hb2⟩ := ih (pre ++ [V.agg cs]) rest2 (pre2 ++ [V.agg cs2]) (by rw [hpre]; simp) (by rw [hpre2]; simp) (by simp [hpl])
    cases b with
    | false =>
      refine ⟨false, ?_⟩
      rw [L68_0_eq]
      iterate 4 (try simp only [binV_int, intBin_lss, Option.bind_some, hlt, condV_t, hidx, hidx2, ldV_vp, part_all hcs, part_all hcs2, stC_all hcs hz hone, stC_all hcs2 hz hone2, hb, bindR_ret, notV_bool, Bool.not_false])
    | true =>
      refine ⟨b2, ?_⟩
      rw [L68_0_eq]
      iterate 4 (try simp only [binV_int, intBin_lss, Option.bind_some, hlt, condV_t, condV_f, hidx, hidx2, ldV_vp, part_all hcs, part_all hcs2, stC_all hcs hz hone, stC_all hcs2 hz hone2, hb, bindR_ret, notV_bool, Bool.not_true, intBin_add, hw])
      exact hb2

theorem big68 {fv s s2 : V} {es es2 : List V} {σ : Sto} (hs : IsSl s es) (hs2 : IsSl s2 es2) (hes : ∀ e ∈ es, ∃ cs, e = .agg cs ∧ cs.length = 3 ∧ cs.all V.one = true) (hes2 : ∀ e ∈ es2, ∃ cs, e = .agg cs ∧ cs.length = 3 ∧ cs.all V.one = true) (hlen : es.length ≤ 9223372036854775807)
    (hq : ∀ e ∈ es, ∀ e2 ∈ es2, ∃ b, appV (D ft) fv [e, e2] σ = some (.ret (.bool b), σ)) : ∃ b, D ft 68 [s, s2, fv] σ = some (.ret (.bool b), σ) := by
  rw [D68_eq]
  by_cases h : (es.length : Int) = es2.length
  · obtain ⟨b, hb⟩ := loop68 hs hs2 hes hes2 hlen (by omega) hq es [] es2 [] rfl rfl rfl
    refine ⟨b, ?_⟩
    have hd : (decide ((es.length : Int) = es2.length)) = true := by simpa using h
    iterate 4 (try simp only [hs.len, hs2.len, Option.bind_some, binV_int, intBin_neq, hd, Bool.not_true, condV_f])
    exact hb
  · refine ⟨false, ?_⟩
    have hd : (decide ((es.length : Int) = es2.length)) = false := by simpa using h
    iterate 4 (try simp only [hs.len, hs2.len, Option.bind_some, binV_int, intBin_neq, hd, Bool.not_false, condV_t])

theorem IsTyp.flat {n : Nat} {v : V} (h : IsTyp n v) : ∃ cs, v = .agg cs ∧ cs.length = 3 ∧ cs.all V.one = true := by
  obtain ⟨cs, rfl, hc⟩ := h.agg
  exact ⟨cs, rfl, hc, h.ones⟩

theorem pure54 : ∀ (n m : Nat) (a b : V) (left : Int), IsTyp n a → IsTyp m b → 0 ≤ left → left ≤ 100 → ∃ r, callPure (D ft) 54 [a, b, .int .i64 left] = some (.bool r) := by
  intro n
  induction n with
  | zero => intro m a b left h; exact h.elim
  | succ n ih =>
    intro m a b left ha hb h0 h100
    obtain ⟨a', ha1, ha2, _⟩ := ha.pure
    obtain ⟨b', hb1, hb2, _⟩ := hb.pure
    suffices H : ∃ r σ', D ft 54 [a', b', .int .i64 left] .empty = some (.ret (.bool r), σ') by
      obtain ⟨r, σ', h⟩ := H
      exact ⟨r, callPure_of (vs' := [a', b', .int .i64 left]) (by simp only [V.pures, ha1, hb1]; rfl) h rfl⟩
    clear ha1 hb1 ha hb
    obtain ⟨k, nm, s, es, rfl, hs, hlen, hall⟩ := ha2
    cases m with
    | zero => exact hb2.elim
    | succ m =>
    obtain ⟨k2, nm2, s2, es2, rfl, hs2, hlen2, hall2⟩ := hb2
    have onesA : [V.int .i64 k, .str nm, s].all V.one = true := by simp [hs.one]
    have onesB : [V.int .i64 k2, .str nm2, s2].all V.one = true := by simp [hs2.one]
    have hblk : (Sto.empty.alloc (.cells [.int .i64 left])).blk Sto.empty.next = some (.cells [.int .i64 left]) := Sto.blk_next _ _
    have bi : boxN 1 (.int .i64 left) = some [.int .i64 left] := rfl
    rw [D54_eq]
    iterate 3 (try simp only [boxC_all onesA, boxC_all onesB, bi, Option.bind_some, alS_eq])
    generalize hg : Sto.empty.alloc (.cells [.int .i64 left]) = σ1 at hblk ⊢
    have hld : ldV σ1 none (.ptr Sto.empty.next 0) = some (.int .i64 left) := (ldV_ptr hblk).trans rfl
    by_cases hp : 0 < left
    · have hpd : decide (0 < left) = true := by simpa using hp
      obtain ⟨r, hr⟩ := big68 (fv := .func 69 [.ptr Sto.empty.next 0]) (σ := σ1) hs hs2 (fun e he => (hall e he).flat) (fun e he => (hall2 e he).flat) (by omega) (fun e he e2 he2 => by
        obtain ⟨r, hr⟩ := ih m e e2 (left - 1) (hall e he) (hall2 e2 he2) (by omega) (by omega)
        obtain ⟨cs, rfl, hcs, hone⟩ := (hall e he).flat
        obtain ⟨cs2, rfl, hcs2, hone2⟩ := (hall2 e2 he2).flat
        refine ⟨r, ?_⟩
        rw [appV_ptr]
        simp only [List.cons_append, List.nil_append]
        rw [D69_eq]
        have hw : wrapI .i64 (left - 1) = left - 1 := wrap64 (by omega)
        iterate 3 (try simp only [boxC_all hone, boxC_all hone2, Option.bind_some, part_all hcs, part_all hcs2, hld, binV_int, intBin_sub, hw, hr]))
      have hpw : decide (left > 0) = true := by simpa using hp
      iterate 3 (try simp only [hld, Option.bind_some, binV_int, intBin_gtr, hpd, chkB_b, gd_tt, part_none, List.getElem?_cons_zero, List.getElem?_cons_succ, intBin_eql, pickS_t])
      cases decide (k = k2) with
      | false => exact ⟨false, σ1, by iterate 4 (try simp only [chkB_b, gd_ft, gd_tt, Option.bind_some, gdR_ft, bindR_ret, pickS_f, pickS_t])⟩
      | true =>
        iterate 3 (try simp only [chkB_b, gd_tt, Option.bind_some, pickS_t, part_none, List.getElem?_cons_zero, List.getElem?_cons_succ, binV_str, strBin_eql])
        cases nm == nm2 with
        | false => exact ⟨false, σ1, by iterate 4 (try simp only [chkB_b, gd_ft, gd_tt, Option.bind_some, gdR_ft, bindR_ret, pickS_f, pickS_t])⟩
        | true => exact ⟨r, σ1, by iterate 4 (try simp only [chkB_b, gd_tt, Option.bind_some, part_none, List.getElem?_cons_zero, List.getElem?_cons_succ, gdR_tt, hr, bindR_ret, pickS_t])⟩
    · have hpd : decide (0 < left) = false := by simpa using hp
      exact ⟨false, σ1, by iterate 6 (try simp only [hld, Option.bind_some, binV_int, intBin_gtr, hpd, chkB_b, gd_ft, gd_u, pickS_f, gdR_ft, bindR_ret])⟩

theorem pure32 {n m : Nat} {a b : V} (ha : IsTyp n a) (hb : IsTyp m b) : ∃ r, callPure (D ft) 32 [a, b] = some (.bool r) := by
  obtain ⟨a', ha1, ha2, _⟩ := ha.pure
  obtain ⟨b', hb1, hb2, _⟩ := hb.pure
  obtain ⟨r, hr⟩ := pure54 n m a' b' 100 ha2 hb2 (by omega) (by omega)
  obtain ⟨cs, rfl, hcs, hone⟩ := ha2.flat
  obtain ⟨cs2, rfl, hcs2, hone2⟩ := hb2.flat
  refine ⟨r, callPure_of (vs' := [.agg cs, .agg cs2]) (by simp only [V.pures, ha1, hb1]) (v := .bool r) (σ := .empty) ?_ rfl⟩
  rw [D32_eq]
  iterate 3 (try simp only [boxC_all hone, boxC_all hone2, Option.bind_some, part_all hcs, part_all hcs2, hr])

end Go.Eng
