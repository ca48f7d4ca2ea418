/- Whose parameter a pattern is; whether a pattern fits a type: that it says so or not. -/
import Derived.Test.YtjldgekmjnkofaaU3
set_option linter.unusedVariables false
set_option linter.unusedSimpArgs false
namespace Go.Eng
open Go

def ownI (row : List (List UInt8)) (t : V) : Int := if kindOf t = 4 then idxS (nmOf t) row 0 else -1

theorem own_cases (row : List (List UInt8)) (t : V) : ownI row t = -1 ∨ ∃ j : Nat, ownI row t = j ∧ j < row.length := by
  unfold ownI
  by_cases h : kindOf t = 4
  · rw [if_pos h]
    rcases idxS_cases (nmOf t) row 0 with ⟨h1, _⟩ | ⟨pre, rest, h1, _, h2⟩
    · exact Or.inl h1
    · exact Or.inr ⟨pre.length, by rw [h2]; omega, by rw [h1]; simp⟩
  · rw [if_neg h]; exact Or.inl rfl

/-- The state of a search: definitions, the row, what stands for each of it. -/
structure Look (σ : Sto) (b : Nat) (dv rv : V) (bys : List V) : Prop where
  ex : ∃ bv, σ.blk b = some (.cells [dv, rv, bv]) ∧ ((bys = [] ∧ bv = .nsl) ∨ ∃ bb, bb ≠ b ∧ Row σ 3 bb bv bys)
  all : ∀ e ∈ bys, ∃ m, IsTyp m e

theorem big65 {σ : Sto} {b n : Nat} {dv rv bv t : V} {row : List (List UInt8)} (hb : σ.blk b = some (.cells [dv, rv, bv])) (hr : IsNames rv row) (ht : IsTyp n t) : D ft 65 [.ptr b 0, t] σ = some (.ret (.int .i64 (ownI row t)), σ) := by
  have hones := ht
  obtain ⟨k, nm, s, es, rfl, hs⟩ := ht.names
  have ho : [V.int .i64 k, .str nm, s].all V.one = true := hones.ones
  have hi := index63 (x := nm) (σ := σ) hr.ex (by have := hr.len; omega)
  have hn : nilCheckV (.ptr b 0) = some (.ptr b 0) := rfl
  have hl : ldV σ none (.ptr b (0 + 1)) = some rv := (ldV_ptr hb).trans rfl
  rw [D65_eq]
  iterate 4 (try simp only [boxC_all ho, Option.bind_some, part_none, List.getElem?_cons_zero, List.getElem?_cons_succ, binV_int, intBin_neq, hn, fieldAddrV_ptr, hl, hi, bindR_ret])
  have hown : ownI row (.agg [.int .i64 k, .str nm, s]) = if k = 4 then idxS nm row 0 else -1 := rfl
  rw [hown]
  by_cases h4 : k = 4
  · rw [if_pos h4]; simp [h4]
  · rw [if_neg h4]; simp [h4]

section
variable {dv rv : V} {ds : List DefL} {row : List (List UInt8)} {b : Nat}

/-- What a call says, and what stands for each then. -/
def Says (σ : Sto) (b : Nat) (dv rv : V) (bys : List V) (r : R) : Prop := ∃ x σ' bys', r = some (.ret (.bool x), σ') ∧ Look σ' b dv rv bys' ∧ bys'.length = bys.length

theorem loop66 {left : Nat} (hl : left < 100) (h50 : ∀ n m p t σ bys, IsTyp n p → IsTyp m t → Look σ b dv rv bys → bys.length = row.length → Says σ b dv rv bys (D ft 50 [.ptr b 0, p, t, .int .i64 left] σ)) {n m : Nat} {sp st x9 : V} {ps ts : List V} {c6 : List V}
    (hp : IsTyps n sp ps) (ht : IsTyps m st ts) (hlen : ps.length = ts.length) (hc : c6[2]? = some st) (hx : ∃ y, x9 = .bool y) : ∀ (rest pre rest2 pre2 : List V) (σ : Sto) (bys : List V), ps = pre ++ rest → ts = pre2 ++ rest2 → pre2.length = pre.length → Look σ b dv rv bys → bys.length = row.length →
      Says σ b dv rv bys (L66_0 (.ptr b 0) (.int .i64 ((left + 1 : Nat) : Int)) c6 x9 sp (.int .i64 ps.length) (.int .i64 pre.length) σ) := by
  obtain ⟨y, rfl⟩ := hx
  intro rest
  induction rest with
  | nil =>
    intro pre rest2 pre2 σ bys hpre hpre2 hpl hst hby
    have hlt : decide ((pre.length : Int) < ps.length) = false := by rw [hpre]; simp
    refine ⟨y, σ, bys, ?_, hst, rfl⟩
    rw [L66_0_eq]
    iterate 4 (try simp only [binV_int, intBin_lss, Option.bind_some, hlt, condV_f, J66_1, J66_0])
  | cons e rest ih =>
    intro pre rest2 pre2 σ bys hpre hpre2 hpl hst hby
    cases rest2 with
    | nil => rw [hpre, hpre2] at hlen; simp at hlen; omega
    | cons e2 rest2 =>
    have hlt : decide ((pre.length : Int) < ps.length) = true := by rw [hpre]; simp; omega
    have he := hp.all e (by rw [hpre]; simp)
    have he2 := ht.all e2 (by rw [hpre2]; simp)
    obtain ⟨x, σ', bys', h1, h2, h3⟩ := h50 _ _ e e2 σ bys he he2 hst hby
    obtain ⟨cs, rfl, hcs, hone⟩ := he.flat
    obtain ⟨cs2, rfl, hcs2, hone2⟩ := he2.flat
    have hidx : indexAddrV 3 sp (.int .i64 pre.length) = some (.vp cs) := IsSl.idx (e := .agg cs) (hpre ▸ hp.ex) hcs
    have hidx2 : indexAddrV 3 st (.int .i64 pre.length) = some (.vp cs2) := by rw [← hpl]; exact IsSl.idx (e := .agg cs2) (hpre2 ▸ ht.ex) hcs2
    have hlen2 : ps.length = pre.length + (rest.length + 1) := by rw [hpre]; simp
    have hpslen := hp.len
    have hw : wrapI .i64 ((pre.length : Int) + 1) = ((pre ++ [V.agg cs]).length : Int) := by
      rw [wrap64 (by omega)]; simp
    have hw2 : wrapI .i64 (((left + 1 : Nat) : Int) - 1) = (left : Int) := by
      rw [wrap64 (by omega)]; omega
    have hz : [V.int .i64 0, .str [], .nsl].length = 3 := rfl
    cases x with
    | false =>
      refine ⟨false, σ', bys', ?_, h2, h3⟩
      rw [L66_0_eq]
      iterate 5 (try simp only [binV_int, intBin_lss, Option.bind_some, hlt, condV_t, condV_f, hidx, hidx2, ldV_vp, part_all hcs, part_all hcs2, stC_all hcs hz hone, part_none, hc, intBin_sub, hw2, h1, bindR_ret, J66_1, J66_0])
    | true =>
      obtain ⟨x2, σ2, bys2, g1, g2, g3⟩ := ih (pre ++ [V.agg cs]) rest2 (pre2 ++ [V.agg cs2]) σ' bys' (by rw [hpre]; simp) (by rw [hpre2]; simp) (by simp [hpl]) h2 (h3.trans hby)
      refine ⟨x2, σ2, bys2, ?_, g2, g3.trans h3⟩
      rw [L66_0_eq]
      iterate 5 (try simp only [binV_int, intBin_lss, Option.bind_some, hlt, condV_t, condV_f, hidx, hidx2, ldV_vp, part_all hcs, part_all hcs2, stC_all hcs hz hone, part_none, hc, intBin_sub, hw2, h1, bindR_ret, intBin_add, hw])
      exact g1

theorem big66 {left : Nat} (hl : left < 100) (h50 : ∀ n m p t σ bys, IsTyp n p → IsTyp m t → Look σ b dv rv bys → bys.length = row.length → Says σ b dv rv bys (D ft 50 [.ptr b 0, p, t, .int .i64 left] σ)) {n m : Nat} {p t : V} {σ : Sto} {bys : List V}
    (hp : IsTyp n p) (ht : IsTyp m t) (hst : Look σ b dv rv bys) (hby : bys.length = row.length) : Says σ b dv rv bys (D ft 66 [.ptr b 0, p, t, .int .i64 ((left + 1 : Nat) : Int)] σ) := by
  have op := hp
  have ot := ht
  obtain ⟨k, nm, s, es, rfl, hs⟩ := hp.names
  obtain ⟨k2, nm2, s2, es2, rfl, hs2⟩ := ht.names
  have onesA : [V.int .i64 k, .str nm, s].all V.one = true := op.ones
  have onesB : [V.int .i64 k2, .str nm2, s2].all V.one = true := ot.ones
  rw [D66_eq]
  by_cases h : (es.length : Int) = es2.length
  · have hd : (decide ((es.length : Int) = es2.length)) = true := by simpa using h
    obtain ⟨x, σ', bys', h1, h2, h3⟩ := loop66 (c6 := [V.int .i64 k2, .str nm2, s2]) (x9 := .bool true) hl h50 hs hs2 (by omega) rfl ⟨true, rfl⟩ es [] es2 [] σ bys rfl rfl rfl hst hby
    refine ⟨x, σ', bys', ?_, h2, h3⟩
    iterate 4 (try simp only [boxC_all onesA, boxC_all onesB, Option.bind_some, part_none, List.getElem?_cons_zero, List.getElem?_cons_succ, hs.ex.len, hs2.ex.len, binV_int, intBin_neq, hd, Bool.not_true, condV_f])
    exact h1
  · have hd : (decide ((es.length : Int) = es2.length)) = false := by simpa using h
    refine ⟨false, σ, bys, ?_, hst, rfl⟩
    iterate 4 (try simp only [boxC_all onesA, boxC_all onesB, Option.bind_some, part_none, List.getElem?_cons_zero, List.getElem?_cons_succ, hs.ex.len, hs2.ex.len, binV_int, intBin_neq, hd, Bool.not_false, condV_t])

theorem join50 {left : Nat} (hl : left < 100) (h50 : ∀ n m p t σ bys, IsTyp n p → IsTyp m t → Look σ b dv rv bys → bys.length = row.length → Says σ b dv rv bys (D ft 50 [.ptr b 0, p, t, .int .i64 left] σ)) {n m : Nat} {c5 c6 : List V} {x8 : V} {σ : Sto} {bys : List V}
    (hp : IsTyp n (.agg c5)) (ht : IsTyp m (.agg c6)) (hst : Look σ b dv rv bys) (hby : bys.length = row.length) : Says σ b dv rv bys (J50_0 (.ptr b 0) (.int .i64 ((left + 1 : Nat) : Int)) c5 c6 x8 σ) := by
  obtain ⟨x, σ', bys', h1, h2, h3⟩ := big66 hl h50 hp ht hst hby
  obtain ⟨k, nm, s, es, e1, hs⟩ := hp.names
  obtain ⟨k2, nm2, s2, es2, e2, hs2⟩ := ht.names
  cases e1
  cases e2
  unfold J50_0
  have p5 : part [V.int .i64 k, .str nm, s] 0 (some 3) = some (.agg [V.int .i64 k, .str nm, s]) := part_all rfl
  have p6 : part [V.int .i64 k2, .str nm2, s2] 0 (some 3) = some (.agg [V.int .i64 k2, .str nm2, s2]) := part_all rfl
  iterate 3 (try simp only [part_none, List.getElem?_cons_zero, Option.bind_some, binV_int, intBin_eql])
  cases decide (k2 = k) with
  | false => exact ⟨false, σ, bys, by iterate 4 (try simp only [gd_ft, Option.bind_some, gdR_ft, bindR_ret, pickS_f]), hst, rfl⟩
  | true => exact ⟨x, σ', bys', by iterate 4 (try simp only [gd_tt, Option.bind_some, p5, p6, gdR_tt, h1, bindR_ret, pickS_t]), h2, h3⟩

theorem big50 (hd : IsDefs dv ds) (hr : IsNames rv row) : ∀ (left : Nat), left ≤ 100 → ∀ n m p t σ bys, IsTyp n p → IsTyp m t → Look σ b dv rv bys → bys.length = row.length → Says σ b dv rv bys (D ft 50 [.ptr b 0, p, t, .int .i64 left] σ) := by
  intro left
  induction left with
  | zero =>
    intro _ n m p t σ bys hp ht hst hby
    obtain ⟨bv, hb, _⟩ := hst.ex
    have h65 := big65 hb hr hp
    obtain ⟨cs, rfl, hcs, hone⟩ := hp.flat
    obtain ⟨cs2, rfl, hcs2, hone2⟩ := ht.flat
    refine ⟨false, σ, bys, ?_, hst, rfl⟩
    have h0 : decide (((0 : Nat) : Int) = 0) = true := rfl
    rw [D50_eq]
    iterate 4 (try simp only [boxC_all hone, boxC_all hone2, Option.bind_some, part_all hcs, h65, bindR_ret, binV_int, intBin_eql, h0, condV_t])
  | succ left ih =>
    intro hleft n m p t σ bys hp ht hst hby
    have h50 := ih (by omega)
    have hlt : left < 100 := by omega
    obtain ⟨bv, hb, hbv⟩ := hst.ex
    have h65 := big65 hb hr hp
    have hp0 := hp
    have ht0 := ht
    obtain ⟨k, nm, s, es, rfl, hs⟩ := hp.names
    obtain ⟨k2, nm2, s2, es2, rfl, hs2⟩ := ht.names
    have onesA : [V.int .i64 k, .str nm, s].all V.one = true := hp0.ones
    have onesB : [V.int .i64 k2, .str nm2, s2].all V.one = true := ht0.ones
    have p5 : part [V.int .i64 k, .str nm, s] 0 (some 3) = some (.agg [V.int .i64 k, .str nm, s]) := part_all rfl
    have p6 : part [V.int .i64 k2, .str nm2, s2] 0 (some 3) = some (.agg [V.int .i64 k2, .str nm2, s2]) := part_all rfl
    have h0 : decide (((left + 1 : Nat) : Int) = 0) = false := by simp; omega
    have hn : nilCheckV (.ptr b 0) = some (.ptr b 0) := rfl
    have hl0 : ldV σ none (.ptr b (0 + 0)) = some dv := (ldV_ptr hb).trans rfl
    have hl2 : ldV σ none (.ptr b (0 + 2)) = some bv := (ldV_ptr hb).trans rfl
    rw [D50_eq]
    iterate 4 (try simp only [boxC_all onesA, boxC_all onesB, Option.bind_some, p5, h65, bindR_ret, binV_int, intBin_eql, h0, condV_f, intBin_geq])
    rcases own_cases row (.agg [.int .i64 k, .str nm, s]) with ho | ⟨j, ho, hjl⟩
    · rw [ho]
      have hneg : decide ((0 : Int) ≤ -1) = false := rfl
      iterate 4 (try simp only [hneg, gd_ft, Option.bind_some, pickS_f, condV_f, part_none, List.getElem?_cons_zero, binV_int, intBin_eql, chkB_b])
      have hk56 : ∃ y : Bool, (∀ F : V → R, ((gd (.bool (decide (k = 5))) false (some (.int .i64 k))).bind fun x55 => (gd (.bool (decide (k = 5))) false (binV .eql .other x55 (.int .i64 6))).bind fun x56 => (pickS (.bool (decide (k = 5))) (some (.bool true)) (some x56)).bind F) = F (.bool y)) := by
        cases decide (k = 5) with
        | true => exact ⟨true, fun F => by simp⟩
        | false => exact ⟨decide (k = 6), fun F => by simp⟩
      obtain ⟨y, hy⟩ := hk56
      rw [hy]
      cases y with
      | true =>
        simp only [condV_t]
        cases decide (k2 = 3) with
        | true =>
          obtain ⟨r39, m39, q1, q2, _⟩ := pure39 hd ht0
          obtain ⟨r33, m33, q3, q4, _⟩ := pure33 hd q2
          obtain ⟨c33, rfl, hc33, hone33⟩ := q4.flat
          have hst3 : stC [V.int .i64 k2, .str nm2, s2] 0 3 (.agg c33) = some c33 := stC_all hc33 rfl hone33
          iterate 4 (try simp only [condV_t, hn, Option.bind_some, fieldAddrV_ptr, hl0, p6, q1, q3, hst3])
          exact join50 hlt h50 hp0 q4 hst hby
        | false =>
          simp only [condV_f]
          exact join50 hlt h50 hp0 ht0 hst hby
      | false =>
        simp only [condV_f]
        cases decide (k = 3) with
        | true =>
          simp only [condV_t]
          cases decide (k2 = 3) with
          | false => exact ⟨false, σ, bys, by iterate 6 (try simp only [chkB_b, gd_ft, gd_u, Option.bind_some, pickS_f, gdR_ft, bindR_ret]), hst, rfl⟩
          | true =>
            iterate 3 (try simp only [chkB_b, gd_tt, Option.bind_some, pickS_t, List.getElem?_cons_succ, List.getElem?_cons_zero, binV_str, strBin_eql])
            cases nm2 == nm with
            | false => exact ⟨false, σ, bys, by iterate 6 (try simp only [chkB_b, gd_ft, gd_tt, gd_u, Option.bind_some, pickS_f, pickS_t, gdR_ft, bindR_ret]), hst, rfl⟩
            | true =>
              obtain ⟨x, σ', bys', h1, h2, h3⟩ := big66 hlt h50 hp0 ht0 hst hby
              exact ⟨x, σ', bys', by iterate 6 (try simp only [chkB_b, gd_tt, Option.bind_some, pickS_t, p5, p6, gdR_tt, h1, bindR_ret]), h2, h3⟩
        | false =>
          obtain ⟨r, hr32⟩ := pure32 hp0 ht0
          exact ⟨r, σ, bys, by iterate 4 (try simp only [condV_f, p5, p6, Option.bind_some, hr32]), hst, rfl⟩
    · rw [ho]
      have hpos : decide ((0 : Int) ≤ (j : Int)) = true := by simp
      have hjb : j < bys.length := by omega
      have hget : bys[j]? = some bys[j] := List.getElem?_eq_getElem hjb
      have hmem : bys[j] ∈ bys := List.getElem_mem hjb
      generalize bys[j] = e at hget hmem
      obtain ⟨me, hte⟩ := hst.all e hmem
      rcases hbv with ⟨rfl, _⟩ | ⟨bb, hne, hrow⟩
      · simp at hjb
      · have hte0 := hte
        obtain ⟨ke, ne, se, ese, rfl, hse⟩ := hte.names
        have hidx := hrow.idx hjb
        have hld := hrow.ld hget
        have hld0 := hrow.ld0 hget (c := .int .i64 ke) (cs := [.str ne, se]) rfl
        iterate 4 (try simp only [hpos, gd_tt, Option.bind_some, hn, fieldAddrV_ptr, hl2, hidx, hld0, binV_int, intBin_eql, pickS_t])
        cases decide (ke = 0) with
        | true =>
          obtain ⟨hs1, hs2'⟩ := hrow.st (t := .agg [.int .i64 k2, .str nm2, s2]) hjb rfl onesB (by omega)
          refine ⟨true, _, bys.set j (.agg [.int .i64 k2, .str nm2, s2]), by iterate 4 (try simp only [condV_t, hn, Option.bind_some, fieldAddrV_ptr, hl2, p6, hidx, hs1]), ⟨⟨bv, ?_, Or.inr ⟨bb, hne, hs2'⟩⟩, fun x hx => ?_⟩, by simp⟩
          · rw [Sto.blk_upd, if_neg (fun e => hne e.1.symm)]
            exact hb
          · rcases List.mem_or_eq_of_mem_set hx with hx | rfl
            · exact hst.all x hx
            · exact ⟨_, ht0⟩
        | false =>
          obtain ⟨r, hr32⟩ := pure32 hte0 ht0
          exact ⟨r, σ, bys, by iterate 4 (try simp only [condV_f, condV_t, hn, Option.bind_some, fieldAddrV_ptr, hl2, hidx, hld, V.cells_agg, p6, hr32]), hst, rfl⟩

end

end Go.Eng
