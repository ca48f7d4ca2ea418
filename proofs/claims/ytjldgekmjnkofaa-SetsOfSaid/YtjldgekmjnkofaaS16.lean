/- Trees: their constraints, by the document; the law SetsOf. -/
import Derived.Test.YtjldgekmjnkofaaS15
set_option linter.unusedVariables false
set_option linter.unusedSimpArgs false
namespace Go.Eng
open Go Go.Proofs

theorem loop21 {v : V} {es : List V} {n : Nat} {K : Int} {T : List UInt8} {A : Int} (hs : IsSl v es) (hlen : es.length * 56 ≤ 140737488355328) :
    ∀ (rest : List V) (ks : List Node) (pre : List V) (done : List Trm) (ov : V) (σ : Sto), es = pre ++ rest → All2 (IsNode n) rest ks → done.length = pre.length → Grow 0 σ ov (done.map Trm.v) →
      ∃ r σ', L21_0 [.int .i64 K, .str T, v, .int .i64 A] [.bool false, .bool false, .nsl] [.bool false, .bool false, ov] (.int .i64 pre.length) σ = some (.ret (.tup [r, .bool (match termsOf ks with | some ts => decide (0 < (done ++ ts).length) | none => false)]), σ') ∧
        IsSet r (match termsOf ks with | some ts => ⟨false, false, done ++ ts⟩ | none => noSet) := by
  intro rest
  induction rest with
  | nil =>
    intro ks pre done ov σ hpre hall hd hg
    cases hall
    have hlt : decide ((pre.length : Int) < es.length) = false := by rw [hpre]; simp
    have hov : [V.bool false, .bool false, ov].all V.one = true := by simp [hg.isSl.one]
    have hset : IsSet (.agg [.bool false, .bool false, ov]) ⟨false, false, done⟩ := ⟨⟨ov, rfl, hg.isSl⟩, by
      have : es.length = pre.length := by rw [hpre]; simp
      show done.length * 24 ≤ _
      omega⟩
    refine ⟨.agg [.bool false, .bool false, ov], σ, ?_, by simpa [termsOf] using hset⟩
    rw [L21_0_eq]
    have hd2 : decide ((0 : Int) < ((done.map Trm.v).length : Int)) = decide (0 < done.length) := by simp
    iterate 4 (try simp only [part_none, List.getElem?_cons_succ, List.getElem?_cons_zero, hs.len, binV_int, intBin_lss, Option.bind_some, hlt, condV_f, part_all (cs := [V.bool false, .bool false, ov]) (n := 3) rfl, part_none, List.getElem?_cons_succ, List.getElem?_cons_zero, hg.isSl.len, intBin_gtr, hd2, stC_all (cs := [V.bool false, .bool false, ov]) (n := 3) rfl (show [V.bool false, .bool false, .nsl].length = 3 from rfl) hov])
    simp [termsOf]
  | cons e rest ih =>
    intro ks pre done ov σ hpre hall hd hg
    cases hall with
    | @cons _ t _ ks he hall =>
    have hlen2 : es.length = pre.length + (rest.length + 1) := by rw [hpre]; simp
    have hlt : decide ((pre.length : Int) < es.length) = true := by simp; omega
    have hidx : indexAddrV 4 v (.int .i64 pre.length) = some (.vp e.cells) := by
      obtain ⟨cs, rfl, hcs, _⟩ := he.agg
      exact IsSl.idx (e := .agg cs) (hpre ▸ hs) hcs
    obtain ⟨s1, es1, rfl, hs1, hl1, hall1⟩ := he.open
    have hone : [V.int .i64 t.kind, .str t.text, s1, .int .i64 t.pos].all V.one = true := by simp [hs1.one]
    have hz4 : [V.int .i64 0, .str [], .nsl, .int .i64 0].length = 4 := rfl
    -- where it is none
    have hno : ∀ σ', termOf t = none → ∃ r σ'', ((fillC [V.bool false, .bool false, .nsl] []).bind fun c50 => (stC [V.bool false, .bool false, .nsl] 0 3 (.agg c50)).bind fun c2_1 => (part c2_1 0 (some 3)).bind fun r2 => (some (Res.ret (.tup [r2, .bool false]), σ') : R)) = some (.ret (.tup [r, .bool (match termsOf (t :: ks) with | some ts => decide (0 < (done ++ ts).length) | none => false)]), σ'') ∧
        IsSet r (match termsOf (t :: ks) with | some ts => ⟨false, false, done ++ ts⟩ | none => noSet) := fun σ' h => by
      have : termsOf (t :: ks) = none := by simp [termsOf, h]
      rw [this]
      exact ⟨_, σ', rfl, noSet_is⟩
    rw [L21_0_eq]
    iterate 4 (try simp only [part_none, List.getElem?_cons_succ, hs.len, binV_int, intBin_lss, Option.bind_some, hlt, condV_t, hidx, V.cells_agg, ldV_vp, part_all (cs := [V.int .i64 t.kind, .str t.text, s1, .int .i64 t.pos]) (n := 4) rfl, stC_all (cs := [V.int .i64 t.kind, .str t.text, s1, .int .i64 t.pos]) (n := 4) rfl hz4 hone, part_none, List.getElem?_cons_zero, intBin_neq, chkB_b])
    by_cases h15 : t.kind = 15
    case neg =>
      obtain ⟨r, σ', h1, h2⟩ := hno σ (termOf_none_kind h15)
      refine ⟨r, σ', ?_, h2⟩
      rw [← h1]
      iterate 6 (try simp only [h15, decide_false, Bool.not_false, gd_tf, gd_u, Option.bind_some, pickS_t, chkB_b, noteG_u, gdR_tf, bindR_ret, passG_nil, condV_t])
    case pos =>
    have h15' : decide (t.kind = 15) = true := by simpa using h15
    iterate 5 (try simp only [h15', Bool.not_true, gd_ff, Option.bind_some, List.getElem?_cons_succ, List.getElem?_cons_zero, hs1.len, binV_int, intBin_neq, pickS_f, chkB_b])
    by_cases hl : es1.length = 1
    case neg =>
      obtain ⟨r, σ', h1, h2⟩ := hno σ (termOf_none_len (by rw [← hall1.len]; exact hl))
      have hl' : decide ((es1.length : Int) = 1) = false := by simp; omega
      refine ⟨r, σ', ?_, h2⟩
      rw [← h1]
      iterate 6 (try simp only [hl', Bool.not_false, gd_tf, gd_u, Option.bind_some, pickS_t, chkB_b, noteG_u, gdR_tf, bindR_ret, passG_nil, condV_t])
    case pos =>
    obtain ⟨e1, k1, rfl, hk1, he1⟩ := all2_one hall1 hl
    have hl' : decide ((([e1].length : Nat) : Int) = 1) = true := by simp
    obtain ⟨s2, es2, rfl, hs2, hl2, hall2⟩ := he1.open
    have hidx1 : indexAddrV 4 s1 (.int .i64 0) = some (.vp [.int .i64 k1.kind, .str k1.text, s2, .int .i64 k1.pos]) := IsSl.idx (pre := []) (rest := []) (e := .agg [.int .i64 k1.kind, .str k1.text, s2, .int .i64 k1.pos]) hs1 rfl
    have hT := termOf_one hk1
    have hf0 : fieldAddrV 0 (.vp [V.int .i64 k1.kind, .str k1.text, s2, .int .i64 k1.pos]) = some (.vp [V.int .i64 k1.kind, .str k1.text, s2, .int .i64 k1.pos]) := rfl
    have hf1 : fieldAddrV 1 (.vp [V.int .i64 k1.kind, .str k1.text, s2, .int .i64 k1.pos]) = some (.vp [.str k1.text, s2, .int .i64 k1.pos]) := rfl
    have hf2 : fieldAddrV 2 (.vp [V.int .i64 k1.kind, .str k1.text, s2, .int .i64 k1.pos]) = some (.vp [s2, .int .i64 k1.pos]) := rfl
    iterate 5 (try simp only [hl', Bool.not_true, gd_ff, Option.bind_some, hidx1, hf0, ldV_vp, part_none, List.getElem?_cons_zero, binV_int, intBin_neq, pickS_f, chkB_b])
    by_cases h10 : k1.kind = 10
    case neg =>
      obtain ⟨r, σ', h1, h2⟩ := hno σ (by rw [hT, if_neg (fun e => h10 e.2.1)])
      refine ⟨r, σ', ?_, h2⟩
      rw [← h1]
      iterate 6 (try simp only [h10, decide_false, Bool.not_false, gd_tf, gd_u, Option.bind_some, pickS_t, chkB_b, noteG_u, gdR_tf, bindR_ret, passG_nil, condV_t])
    case pos =>
    have h10' : decide (k1.kind = 10) = true := by simpa using h10
    iterate 5 (try simp only [h10', Bool.not_true, gd_ff, Option.bind_some, hidx1, hf2, ldV_vp, part_none, List.getElem?_cons_zero, List.getElem?_cons_succ, hs2.len, binV_int, intBin_gtr, pickS_f, chkB_b])
    by_cases h0 : es2.length = 0
    case neg =>
      obtain ⟨r, σ', h1, h2⟩ := hno σ (by rw [hT, if_neg (fun e => h0 (by rw [hall2.len]; exact e.2.2.1))])
      have h0' : decide ((0 : Int) < (es2.length : Int)) = true := by simp; omega
      refine ⟨r, σ', ?_, h2⟩
      rw [← h1]
      iterate 6 (try simp only [h0', gd_tf, gd_u, Option.bind_some, pickS_t, chkB_b, noteG_u, gdR_tf, bindR_ret, passG_nil, condV_t])
    case pos =>
    have h0' : decide ((0 : Int) < (es2.length : Int)) = false := by rw [h0]; rfl
    iterate 7 (try simp only [h0', gd_ff, Option.bind_some, hidx1, hf1, ldV_vp, part_none, List.getElem?_cons_zero, List.getElem?_cons_succ, pure43, notV_bool, pickS_f, chkB_b])
    cases hB : basicB k1.text with
    | false =>
      obtain ⟨r, σ', h1, h2⟩ := hno σ (by rw [hT, if_neg (fun e => by rw [hB] at e; exact absurd e.2.2.2 (by simp))])
      refine ⟨r, σ', ?_, h2⟩
      rw [← h1]
      iterate 2 (try simp only [Bool.not_false, condV_t])
    | true =>
      have hT2 : termOf t = some ⟨t.text == [126], k1.text⟩ := by rw [hT, if_pos ⟨h15, h10, by rw [← hall2.len]; exact h0, hB⟩]
      have hts : termsOf (t :: ks) = (termsOf ks).map fun l => ⟨t.text == [126], k1.text⟩ :: l := by
        simp only [termsOf, hT2]
        cases termsOf ks <;> rfl
      have hfill : fillC [V.bool false, .str []] [(0, 1, .bool (t.text == [126])), (1, 1, .str k1.text)] = some [.bool (t.text == [126]), .str k1.text] := rfl
      have hfd : fillD 2 (List.replicate 1 (.agg [V.bool false, .str []])) [(0, .agg [.bool (t.text == [126]), .str k1.text])] = some [(⟨t.text == [126], k1.text⟩ : Trm).v] := rfl
      obtain ⟨ov', σ6, g1, g2, _⟩ := hg.append (y := .sl .full [(⟨t.text == [126], k1.text⟩ : Trm).v]) (new := [(⟨t.text == [126], k1.text⟩ : Trm).v]) (size := 2) (bytes := 24) (Nat.zero_le _) (.sl _ _) (by simp; omega) (by omega)
        (fun x hx => by obtain ⟨c, rfl, hc⟩ := terms_agg x hx; exact hc) (fun x hx => by rw [List.mem_singleton] at hx; rw [hx]; rfl)
      have hst : stC [V.bool false, .bool false, ov] 2 1 ov' = some [.bool false, .bool false, ov'] := by simp [g2.isSl.one, g2.isSl.cells]
      have hw : wrapI .i64 ((pre.length : Int) + 1) = ((pre ++ [V.agg [.int .i64 t.kind, .str t.text, s1, .int .i64 t.pos]]).length : Int) := by
        rw [wrap64 (by omega)]; simp
      obtain ⟨r, σ', q1, q2⟩ := ih ks (pre ++ [V.agg [.int .i64 t.kind, .str t.text, s1, .int .i64 t.pos]]) (done ++ [⟨t.text == [126], k1.text⟩]) ov' σ6 (by rw [hpre]; simp) hall (by simp [hd]) (by simpa using g2)
      refine ⟨r, σ', ?_, ?_⟩
      · iterate 7 (try simp only [Bool.not_true, condV_f, part_none, List.getElem?_cons_zero, List.getElem?_cons_succ, Option.bind_some, binV_str, strBin_eql, hidx1, hf1, ldV_vp, hfill, hfd, g1, bind2_some, hst, binV_int, intBin_add, hw])
        rw [q1, hts]
        cases termsOf ks with
        | none => rfl
        | some l => simp
      · rw [hts]
        cases hk : termsOf ks with
        | none => rw [hk] at q2; exact q2
        | some l => rw [hk] at q2; simpa using q2


theorem any_ne : ∀ n : List UInt8, n = nAny → n ≠ nComparable := fun n h => by rw [h]; decide

theorem pure20 {n : Nat} {v bv : V} {t : Node} {bs : List Bnd} (h : IsNode n v t) (hb : IsScope bv bs) : ∃ r, callPure (D ft) 20 [v, bv] = some (.tup [r, .bool (ofB t bs).2]) ∧ IsSet r (ofB t bs).1 := by
  obtain ⟨v', h1, h2⟩ := h.pure
  obtain ⟨bv', b1, b2⟩ := hb.pure
  suffices H : ∃ r, D ft 20 [v', bv'] .empty = some (.ret (.tup [r, .bool (ofB t bs).2]), .empty) ∧ IsSet r (ofB t bs).1 by
    obtain ⟨r, q1, q2⟩ := H
    obtain ⟨r', p1, p2⟩ := q2.pure
    exact ⟨r', callPure_of (vs' := [v', bv']) (by simp only [V.pures, h1, b1]) q1 (by simp only [V.pure, V.pures, p1, Option.map_some]), p2⟩
  have hu := pure42 h2
  obtain ⟨s, es, rfl, hs, hl, hall⟩ := h2.open
  have hone : [V.int .i64 t.kind, .str t.text, s, .int .i64 t.pos].all V.one = true := by simp [hs.one]
  have hz3 : [V.bool false, .bool false, .nsl].length = 3 := rfl
  have hx0 : ∀ a b : V, extractV 0 (.tup [a, b]) = some a := fun _ _ => rfl
  have hx1 : ∀ a b : V, extractV 1 (.tup [a, b]) = some b := fun _ _ => rfl
  have hno1 : fillC [V.bool false, .bool false, .nsl] [] = some [.bool false, .bool false, .nsl] := rfl
  have hno2 : stC [V.bool false, .bool false, .nsl] 0 3 (.agg [.bool false, .bool false, .nsl]) = some [.bool false, .bool false, .nsl] := rfl
  have hno3 : part [V.bool false, .bool false, .nsl] 0 (some 3) = some (.agg [.bool false, .bool false, .nsl]) := rfl
  rw [D20_eq]
  unfold ofB
  iterate 3 (try simp only [boxC_all hone, Option.bind_some, part_none, List.getElem?_cons_zero, binV_int, intBin_eql, part_all (cs := [V.int .i64 t.kind, .str t.text, s, .int .i64 t.pos]) (n := 4) rfl])
  by_cases h14 : t.kind = 14
  · obtain ⟨r, q1, q2⟩ := hu
    obtain ⟨cr, rfl, hcr, hor⟩ := q2.cells
    have h14' : decide (t.kind = 14) = true := by simpa using h14
    rw [if_pos h14]
    refine ⟨.agg cr, ?_, q2⟩
    iterate 5 (try simp only [h14', condV_t, q1, Option.bind_some, hx0, hx1, stC_all hcr hz3 hor, part_all hcr])
  · have h14' : decide (t.kind = 14) = false := by simpa using h14
    rw [if_neg h14]
    iterate 3 (try simp only [h14', condV_f, part_none, List.getElem?_cons_zero, Option.bind_some, binV_int, intBin_neq, chkB_b])
    by_cases h10 : t.kind = 10
    case neg =>
      have h10' : decide (t.kind = 10) = false := by simpa using h10
      rw [if_pos (Or.inl h10)]
      refine ⟨.agg [.bool false, .bool false, .nsl], ?_, noSet_is⟩
      iterate 5 (try simp only [h10', Bool.not_false, gd_tf, gd_u, Option.bind_some, pickS_t, condV_t, hno1, hno2, hno3])
    case pos =>
    have h10' : decide (t.kind = 10) = true := by simpa using h10
    iterate 4 (try simp only [h10', Bool.not_true, gd_ff, Option.bind_some, List.getElem?_cons_succ, List.getElem?_cons_zero, hs.len, binV_int, intBin_gtr, pickS_f])
    by_cases hk : 0 < t.kids.length
    case pos =>
      have hk' : decide ((0 : Int) < (es.length : Int)) = true := decide_eq_true (by rw [hall.len]; omega)
      rw [if_pos (Or.inr hk)]
      refine ⟨.agg [.bool false, .bool false, .nsl], ?_, noSet_is⟩
      iterate 5 (try simp only [hk', condV_t, Option.bind_some, hno1, hno2, hno3])
    case neg =>
    have hk' : decide ((0 : Int) < (es.length : Int)) = false := decide_eq_false (by rw [hall.len]; omega)
    rw [if_neg (fun e => e.elim (fun e => e h10) hk)]
    obtain ⟨r, q1, q2⟩ := pure22 (n := t.text) b2
    obtain ⟨cr, rfl, hcr, hor⟩ := q2.cells
    iterate 4 (try simp only [hk', condV_f, Option.bind_some, List.getElem?_cons_succ, List.getElem?_cons_zero, q1, hx0, hx1, stC_all hcr hz3 hor])
    cases hf : findB bs t.text with
    | some st =>
      rw [hf] at q2
      refine ⟨.agg cr, ?_, q2⟩
      iterate 5 (try simp only [Option.isSome_some, condV_t, part_all hcr, stC_all hcr hz3 hor, Option.bind_some])
    | none =>
      have hfill : ∀ a b : Bool, fillC [V.bool false, .bool false, .nsl] [(0, 1, .bool a), (1, 1, .bool b)] = some [.bool a, .bool b, .nsl] := fun _ _ => rfl
      have hst : ∀ a b : Bool, stC [V.bool false, .bool false, .nsl] 0 3 (.agg [.bool a, .bool b, .nsl]) = some [.bool a, .bool b, .nsl] := fun _ _ => rfl
      have hpt : ∀ a b : Bool, part [V.bool a, .bool b, .nsl] 0 (some 3) = some (.agg [.bool a, .bool b, .nsl]) := fun _ _ => rfl
      iterate 5 (try simp only [Option.isSome_none, condV_f, List.getElem?_cons_succ, List.getElem?_cons_zero, Option.bind_some, binV_str, strBin_eql, hfill, hst, hpt, chkB_b])
      by_cases ha : t.text = nAny
      · have hc : t.text ≠ nComparable := any_ne _ ha
        have e1 : (t.text == [97, 110, 121]) = true := by rw [ha]; rfl
        have e2 : (t.text == [99, 111, 109, 112, 97, 114, 97, 98, 108, 101]) = false := by simpa [nComparable] using hc
        rw [if_pos ha]
        refine ⟨.agg [.bool true, .bool false, .nsl], ?_, ⟨.nsl, rfl, .nsl⟩, by simp⟩
        iterate 5 (try simp only [e1, e2, gd_tf, pickS_t, Option.bind_some, hst, hpt])
      · have e1 : (t.text == [97, 110, 121]) = false := by simpa [nAny] using ha
        rw [if_neg ha]
        by_cases hc : t.text = nComparable
        · have e2 : (t.text == [99, 111, 109, 112, 97, 114, 97, 98, 108, 101]) = true := by rw [hc]; rfl
          rw [if_pos hc]
          refine ⟨.agg [.bool false, .bool true, .nsl], ?_, ⟨.nsl, rfl, .nsl⟩, by simp⟩
          iterate 5 (try simp only [e1, e2, gd_ff, pickS_f, Option.bind_some, hst, hpt, List.getElem?_cons_succ, List.getElem?_cons_zero])
        · have e2 : (t.text == [99, 111, 109, 112, 97, 114, 97, 98, 108, 101]) = false := by simpa [nComparable] using hc
          rw [if_neg hc]
          refine ⟨.agg [.bool false, .bool false, .nsl], ?_, noSet_is⟩
          iterate 5 (try simp only [e1, e2, gd_ff, pickS_f, Option.bind_some, hst, hpt, List.getElem?_cons_succ, List.getElem?_cons_zero])

theorem pure23 {v : V} {bs : List Bnd} {n : List UInt8} (h : IsScope v bs) : ∃ r, callPure (D ft) 23 [v, .str n] = some (.tup [r, .bool (findB bs n).isSome]) ∧ IsSet r ((findB bs n).getD noSet) := by
  obtain ⟨v', hv1, ⟨es, hs, hall⟩, hl⟩ := h.pure
  have hesl := hall.len
  have hz3 : [V.bool false, .bool false, .nsl].length = 3 := rfl
  have loop : ∀ (rest : List V) (drest : List Bnd) (pre : List V), es = pre ++ rest → All2 IsBnd rest drest → ∃ r, L23_0 v' (.str n) [.bool false, .bool false, .nsl] (.int .i64 pre.length) .empty = some (.ret (.tup [r, .bool (findB drest n).isSome]), .empty) ∧ IsSet r ((findB drest n).getD noSet) := by
    intro rest
    induction rest with
    | nil =>
      intro drest pre hpre h2
      cases h2
      have hlt : decide ((pre.length : Int) < es.length) = false := by rw [hpre]; simp
      have hno1 : fillC [V.bool false, .bool false, .nsl] [] = some [.bool false, .bool false, .nsl] := rfl
      have hno2 : stC [V.bool false, .bool false, .nsl] 0 3 (.agg [.bool false, .bool false, .nsl]) = some [.bool false, .bool false, .nsl] := rfl
      have hno3 : part [V.bool false, .bool false, .nsl] 0 (some 3) = some (.agg [.bool false, .bool false, .nsl]) := rfl
      refine ⟨.agg [.bool false, .bool false, .nsl], ?_, noSet_is⟩
      rw [L23_0_eq]
      iterate 4 (try simp only [hs.len, binV_int, intBin_lss, Option.bind_some, hlt, condV_f, hno1, hno2, hno3])
      rfl
    | cons e rest ih2 =>
      intro drest pre hpre h2
      cases h2 with
      | @cons _ b _ drest hd h2 =>
      have hlen2 : es.length = pre.length + (rest.length + 1) := by rw [hpre]; simp
      have hlt : decide ((pre.length : Int) < es.length) = true := by rw [hpre]; simp; omega
      have hidx : indexAddrV 4 v' (.int .i64 pre.length) = some (.vp e.cells) := by
        obtain ⟨cs, rfl, hcs⟩ := hd.agg
        exact IsSl.idx (e := .agg cs) (hpre ▸ hs) hcs
      obtain ⟨⟨tv, rfl, ht⟩, hel⟩ := hd
      have hw : wrapI .i64 ((pre.length : Int) + 1) = ((pre ++ [V.agg [.str b.name, .bool b.set.all, .bool b.set.cmp, tv]]).length : Int) := by
        rw [wrap64 (by omega)]; simp
      have hih := ih2 drest (pre ++ [V.agg [.str b.name, .bool b.set.all, .bool b.set.cmp, tv]]) (by rw [hpre]; simp) h2
      have hf0 : fieldAddrV 0 (.vp [V.str b.name, .bool b.set.all, .bool b.set.cmp, tv]) = some (.vp [V.str b.name, .bool b.set.all, .bool b.set.cmp, tv]) := rfl
      have hf1 : fieldAddrV 1 (.vp [V.str b.name, .bool b.set.all, .bool b.set.cmp, tv]) = some (.vp [.bool b.set.all, .bool b.set.cmp, tv]) := rfl
      have hone : [V.bool b.set.all, .bool b.set.cmp, tv].all V.one = true := by simp [ht.one]
      rw [L23_0_eq]
      iterate 4 (try simp only [hs.len, binV_int, intBin_lss, Option.bind_some, hlt, condV_t, hidx, V.cells_agg, hf0, ldV_vp, part_none, List.getElem?_cons_zero, binV_str, strBin_eql, intBin_add, hw])
      cases hn : b.name == n with
      | true =>
        have hf : findB (b :: drest) n = some b.set := by
          unfold findB
          rw [List.find?_cons_of_pos (p := fun d : Bnd => d.name == n) hn]
          rfl
        rw [hf]
        refine ⟨.agg [.bool b.set.all, .bool b.set.cmp, tv], ?_, ⟨⟨tv, rfl, ht⟩, hel⟩⟩
        iterate 4 (try simp only [condV_t, hidx, V.cells_agg, hf1, ldV_vp, part_all (cs := [V.bool b.set.all, .bool b.set.cmp, tv]) (n := 3) rfl, Option.bind_some, stC_all (cs := [V.bool b.set.all, .bool b.set.cmp, tv]) (n := 3) rfl hz3 hone])
        rfl
      | false =>
        have hf : findB (b :: drest) n = findB drest n := by
          unfold findB
          rw [List.find?_cons_of_neg (p := fun d : Bnd => d.name == n) (by simp [hn])]
        simp only [condV_f]
        rw [hf]
        exact hih
  obtain ⟨r, q1, q2⟩ := loop es bs [] rfl hall
  obtain ⟨r', p1, p2⟩ := q2.pure
  refine ⟨r', callPure_of (vs' := [v', .str n]) (by simp only [V.pures, V.pure, hv1]) (v := .tup [r, .bool (findB bs n).isSome]) (σ := .empty) ?_ (by simp only [V.pure, V.pures, p1, Option.map_some]), p2⟩
  rw [D23_eq]
  exact q1

theorem pure21 {n : Nat} {v bv : V} {t : Node} {bs : List Bnd} (h : IsNode n v t) (hb : IsScope bv bs) : ∃ r, callPure (D ft) 21 [v, bv] = some (.tup [r, .bool (ofB t bs).2]) ∧ IsSet r (ofB t bs).1 := by
  obtain ⟨v', h1, h2⟩ := h.pure
  obtain ⟨bv', b1, b2⟩ := hb.pure
  suffices H : ∃ r σ', D ft 21 [v', bv'] .empty = some (.ret (.tup [r, .bool (ofB t bs).2]), σ') ∧ IsSet r (ofB t bs).1 by
    obtain ⟨r, σ', q1, q2⟩ := H
    obtain ⟨r', p1, p2⟩ := q2.pure
    exact ⟨r', callPure_of (vs' := [v', bv']) (by simp only [V.pures, h1, b1]) q1 (by simp only [V.pure, V.pures, p1, Option.map_some]), p2⟩
  obtain ⟨s, es, rfl, hs, hl, hall⟩ := h2.open
  have hone : [V.int .i64 t.kind, .str t.text, s, .int .i64 t.pos].all V.one = true := by simp [hs.one]
  have hz3 : [V.bool false, .bool false, .nsl].length = 3 := rfl
  have hx0 : ∀ a b : V, extractV 0 (.tup [a, b]) = some a := fun _ _ => rfl
  have hx1 : ∀ a b : V, extractV 1 (.tup [a, b]) = some b := fun _ _ => rfl
  have hno1 : fillC [V.bool false, .bool false, .nsl] [] = some [.bool false, .bool false, .nsl] := rfl
  have hno2 : stC [V.bool false, .bool false, .nsl] 0 3 (.agg [.bool false, .bool false, .nsl]) = some [.bool false, .bool false, .nsl] := rfl
  have hno3 : part [V.bool false, .bool false, .nsl] 0 (some 3) = some (.agg [.bool false, .bool false, .nsl]) := rfl
  rw [D21_eq]
  unfold ofB
  iterate 3 (try simp only [boxC_all hone, Option.bind_some, part_none, List.getElem?_cons_zero, binV_int, intBin_eql])
  by_cases h14 : t.kind = 14
  · obtain ⟨r, σ', q1, q2⟩ := loop21 (K := t.kind) (T := t.text) (A := t.pos) hs hl es t.kids [] [] .nsl .empty rfl hall rfl .nsl
    have h14' : decide (t.kind = 14) = true := by simpa using h14
    have e1 : (match termsOf t.kids with | some ts => decide (0 < ([] ++ ts).length) | none => false) = (unionB t).2 := by
      unfold unionB
      cases termsOf t.kids <;> rfl
    have e2 : (match termsOf t.kids with | some ts => (⟨false, false, [] ++ ts⟩ : SetL) | none => noSet) = (unionB t).1 := by
      unfold unionB
      cases termsOf t.kids <;> rfl
    rw [e1] at q1
    rw [e2] at q2
    rw [if_pos h14]
    refine ⟨r, σ', ?_, q2⟩
    simp only [h14', condV_t]
    exact q1
  · have h14' : decide (t.kind = 14) = false := by simpa using h14
    rw [if_neg h14]
    iterate 3 (try simp only [h14', condV_f, part_none, List.getElem?_cons_zero, Option.bind_some, binV_int, intBin_neq, chkB_b])
    by_cases h10 : t.kind = 10
    case neg =>
      have h10' : decide (t.kind = 10) = false := by simpa using h10
      rw [if_pos (Or.inl h10)]
      refine ⟨.agg [.bool false, .bool false, .nsl], .empty, ?_, noSet_is⟩
      iterate 5 (try simp only [h10', Bool.not_false, gd_tf, gd_u, Option.bind_some, pickS_t, condV_t, hno1, hno2, hno3])
    case pos =>
    have h10' : decide (t.kind = 10) = true := by simpa using h10
    iterate 4 (try simp only [h10', Bool.not_true, gd_ff, Option.bind_some, List.getElem?_cons_succ, List.getElem?_cons_zero, hs.len, binV_int, intBin_gtr, pickS_f])
    by_cases hk : 0 < t.kids.length
    case pos =>
      have hk' : decide ((0 : Int) < (es.length : Int)) = true := decide_eq_true (by rw [hall.len]; omega)
      rw [if_pos (Or.inr hk)]
      refine ⟨.agg [.bool false, .bool false, .nsl], .empty, ?_, noSet_is⟩
      iterate 5 (try simp only [hk', condV_t, Option.bind_some, hno1, hno2, hno3])
    case neg =>
    have hk' : decide ((0 : Int) < (es.length : Int)) = false := decide_eq_false (by rw [hall.len]; omega)
    rw [if_neg (fun e => e.elim (fun e => e h10) hk)]
    obtain ⟨r, q1, q2⟩ := pure23 (n := t.text) b2
    obtain ⟨cr, rfl, hcr, hor⟩ := q2.cells
    iterate 4 (try simp only [hk', condV_f, Option.bind_some, List.getElem?_cons_succ, List.getElem?_cons_zero, q1, hx0, hx1, stC_all hcr hz3 hor])
    cases hf : findB bs t.text with
    | some st =>
      rw [hf] at q2
      refine ⟨.agg cr, .empty, ?_, q2⟩
      iterate 5 (try simp only [Option.isSome_some, condV_t, part_all hcr, stC_all hcr hz3 hor, Option.bind_some])
    | none =>
      have hfill1 : fillC [V.bool false, .bool false, .nsl] [(0, 1, .bool true)] = some [.bool true, .bool false, .nsl] := rfl
      have hfill2 : fillC [V.bool false, .bool false, .nsl] [(1, 1, .bool true)] = some [.bool false, .bool true, .nsl] := rfl
      have hst : ∀ a b : Bool, stC [V.bool false, .bool false, .nsl] 0 3 (.agg [.bool a, .bool b, .nsl]) = some [.bool a, .bool b, .nsl] := fun _ _ => rfl
      have hpt : ∀ a b : Bool, part [V.bool a, .bool b, .nsl] 0 (some 3) = some (.agg [.bool a, .bool b, .nsl]) := fun _ _ => rfl
      iterate 5 (try simp only [Option.isSome_none, condV_f, List.getElem?_cons_succ, List.getElem?_cons_zero, Option.bind_some, binV_str, strBin_eql])
      by_cases ha : t.text = nAny
      · have e1 : (t.text == [97, 110, 121]) = true := by rw [ha]; rfl
        rw [if_pos ha]
        refine ⟨.agg [.bool true, .bool false, .nsl], .empty, ?_, ⟨.nsl, rfl, .nsl⟩, by simp⟩
        iterate 5 (try simp only [e1, condV_t, hfill1, Option.bind_some, hst, hpt])
      · have e1 : (t.text == [97, 110, 121]) = false := by simpa [nAny] using ha
        rw [if_neg ha]
        by_cases hc : t.text = nComparable
        · have e2 : (t.text == [99, 111, 109, 112, 97, 114, 97, 98, 108, 101]) = true := by rw [hc]; rfl
          rw [if_pos hc]
          refine ⟨.agg [.bool false, .bool true, .nsl], .empty, ?_, ⟨.nsl, rfl, .nsl⟩, by simp⟩
          iterate 5 (try simp only [e1, e2, condV_f, condV_t, hfill2, Option.bind_some, hst, hpt])
        · have e2 : (t.text == [99, 111, 109, 112, 97, 114, 97, 98, 108, 101]) = false := by simpa [nComparable] using hc
          rw [if_neg hc]
          refine ⟨.agg [.bool false, .bool false, .nsl], .empty, ?_, noSet_is⟩
          iterate 5 (try simp only [e1, e2, condV_f, hno1, hno2, hno3, Option.bind_some])

/-- Two of the same are told to be. -/
theorem pure24 {a b : V} {s : SetL} (ha : IsSet a s) (hb : IsSet b s) : callPure (D ft) 24 [a, b] = some (.bool true) := by
  obtain ⟨a', a1, a2⟩ := ha.pure
  obtain ⟨b', b1, b2⟩ := hb.pure
  have hoa := a2.cells
  have hob := b2.cells
  obtain ⟨⟨tv, rfl, ht⟩, hl⟩ := a2
  obtain ⟨⟨uv, rfl, hu⟩, _⟩ := b2
  have hone : [V.bool s.all, .bool s.cmp, tv].all V.one = true := by simp [ht.one]
  have hone2 : [V.bool s.all, .bool s.cmp, uv].all V.one = true := by simp [hu.one]
  have loop : ∀ (rest pre : List Trm), s.terms = pre ++ rest → L24_0 [.bool s.all, .bool s.cmp, tv] [.bool s.all, .bool s.cmp, uv] (.int .i64 pre.length) .empty = some (.ret (.bool true), .empty) := by
    intro rest
    induction rest with
    | nil =>
      intro pre hpre
      have hlt : decide ((pre.length : Int) < (s.terms.map Trm.v).length) = false := by rw [hpre]; simp
      rw [L24_0_eq]
      iterate 3 (try simp only [part_none, List.getElem?_cons_succ, List.getElem?_cons_zero, ht.len, binV_int, intBin_lss, Option.bind_some, hlt, condV_f])
    | cons e rest ih =>
      intro pre hpre
      have hlen2 : s.terms.length = pre.length + (rest.length + 1) := by rw [hpre]; simp
      have hlt : decide ((pre.length : Int) < (s.terms.map Trm.v).length) = true := by simp; omega
      have hidx : ∀ v, IsSl v (s.terms.map Trm.v) → indexAddrV 2 v (.int .i64 pre.length) = some (.vp [.bool e.tilde, .str e.name]) := fun v hv => by
        have := IsSl.idx (s := v) (pre := pre.map Trm.v) (rest := rest.map Trm.v) (e := e.v) (K := 2) (k := .i64) (by rw [hpre] at hv; simpa using hv) rfl
        rw [List.length_map] at this
        exact this
      have hw : wrapI .i64 ((pre.length : Int) + 1) = ((pre ++ [e]).length : Int) := by
        rw [wrap64 (by omega)]; simp
      have hf0 : fieldAddrV 0 (.vp [V.bool e.tilde, .str e.name]) = some (.vp [V.bool e.tilde, .str e.name]) := rfl
      have hf1 : fieldAddrV 1 (.vp [V.bool e.tilde, .str e.name]) = some (.vp [.str e.name]) := rfl
      have hbb : ∀ b : Bool, (!(b == b)) = false := fun b => by cases b <;> rfl
      have hnn : (!(e.name == e.name)) = false := by simp
      have hih := ih (pre ++ [e]) (by rw [hpre]; simp)
      rw [L24_0_eq]
      iterate 7 (try simp only [part_none, List.getElem?_cons_succ, List.getElem?_cons_zero, ht.len, binV_int, intBin_lss, Option.bind_some, hlt, condV_t, condV_f, hidx tv ht, hidx uv hu, hf0, hf1, ldV_vp, binV_bne, hbb, chkB_b, gd_ff, binV_str, strBin_neq, hnn, pickS_f, intBin_add, hw])
      exact hih
  have hbb : ∀ b : Bool, (!(b == b)) = false := fun b => by cases b <;> rfl
  refine callPure_of (vs' := [.agg [.bool s.all, .bool s.cmp, tv], .agg [.bool s.all, .bool s.cmp, uv]]) (by simp only [V.pures, a1, b1]) (v := .bool true) (σ := .empty) ?_ rfl
  rw [D24_eq]
  iterate 7 (try simp only [boxC_all hone, boxC_all hone2, part_none, List.getElem?_cons_succ, List.getElem?_cons_zero, Option.bind_some, binV_bne, hbb, chkB_b, gd_ff, pickS_f, ht.len, hu.len, binV_int, intBin_neq, decide_true, Bool.not_true, condV_f])
  exact loop s.terms [] rfl

theorem pure19 : ∀ (n : Nat) (v : V) (t : Node), IsNode n v t → ∀ (left : Int), ∃ k, callPure (D ft) 19 [v, .int .i64 left] = some (.int .i64 k) := by
  intro n
  induction n with
  | zero => intro v t h; exact h.elim
  | succ n ih =>
    intro v t h left
    obtain ⟨v', hv1, ⟨s, es, rfl, hs, hlen, hall⟩⟩ := h.pure
    have hone : [V.int .i64 t.kind, .str t.text, s, .int .i64 t.pos].all V.one = true := by simp [hs.one]
    have loop : ∀ (rest pre : List V) (a : Int), es = pre ++ rest → ∃ x, L19_0 (.int .i64 left) [.int .i64 t.kind, .str t.text, s, .int .i64 t.pos] (.int .i64 a) (.int .i64 pre.length) .empty = some (.ret (.int .i64 x), .empty) := by
      intro rest
      induction rest with
      | nil =>
        intro pre a hpre
        have hlt : decide ((pre.length : Int) < es.length) = false := by rw [hpre]; simp
        exact ⟨a, by rw [L19_0_eq]; iterate 3 (try simp only [part_none, List.getElem?_cons_succ, List.getElem?_cons_zero, hs.len, binV_int, intBin_lss, Option.bind_some, hlt, condV_f])⟩
      | cons e rest ih2 =>
        intro pre a hpre
        have hlt : decide ((pre.length : Int) < es.length) = true := by rw [hpre]; simp; omega
        have he : e ∈ es := by rw [hpre]; simp
        obtain ⟨ke, _, hke⟩ := hall.mem_left e he
        obtain ⟨x, hx⟩ := ih e ke hke (wrapI .i64 (left - 1))
        obtain ⟨cs, rfl, hcs, _⟩ := hke.agg
        have hidx : indexAddrV 4 s (.int .i64 pre.length) = some (.vp cs) := IsSl.idx (e := .agg cs) (hpre ▸ hs) hcs
        have hlen2 : es.length = pre.length + (rest.length + 1) := by rw [hpre]; simp
        have hw : wrapI .i64 ((pre.length : Int) + 1) = ((pre ++ [V.agg cs]).length : Int) := by
          rw [wrap64 (by omega)]; simp
        obtain ⟨y, hy⟩ := ih2 (pre ++ [V.agg cs]) (wrapI .i64 (a + x)) (by rw [hpre]; simp)
        refine ⟨y, ?_⟩
        rw [L19_0_eq]
        iterate 3 (try simp only [part_none, List.getElem?_cons_succ, List.getElem?_cons_zero, hs.len, binV_int, intBin_lss, Option.bind_some, hlt, condV_t, hidx, ldV_vp, part_all hcs, intBin_sub, hx, intBin_add, hw])
        exact hy
    obtain ⟨x, hx⟩ := loop es [] 1 rfl
    by_cases h0 : left = 0
    · refine ⟨0, callPure_of (vs' := [.agg [.int .i64 t.kind, .str t.text, s, .int .i64 t.pos], .int .i64 left]) (by simp only [V.pures, V.pure, hv1]) (v := .int .i64 0) (σ := .empty) ?_ rfl⟩
      rw [D19_eq]
      iterate 3 (try simp only [boxC_all hone, Option.bind_some, binV_int, intBin_eql, h0, decide_true, condV_t])
    · refine ⟨x, callPure_of (vs' := [.agg [.int .i64 t.kind, .str t.text, s, .int .i64 t.pos], .int .i64 left]) (by simp only [V.pures, V.pure, hv1]) (v := .int .i64 x) (σ := .empty) ?_ rfl⟩
      rw [D19_eq]
      iterate 3 (try simp only [boxC_all hone, Option.bind_some, binV_int, intBin_eql, h0, decide_false, condV_f])
      exact hx

theorem law6 {x0 x1 : V} {t : Node} {bs : List Bnd} {n : Nat} {name : List UInt8} (h0 : IsNode n x0 t) (h1 : IsScope x1 bs) : ∃ σ', D ft 6 [x0, x1, .str name] .empty = some (.ret (.bool true), σ') := by
  have hz3 : [V.bool false, .bool false, .nsl].length = 3 := rfl
  have hx0 : ∀ a b : V, extractV 0 (.tup [a, b]) = some a := fun _ _ => rfl
  have hx1 : ∀ a b : V, extractV 1 (.tup [a, b]) = some b := fun _ _ => rfl
  obtain ⟨sz, hsz⟩ := pure19 n _ _ h0 1000
  obtain ⟨es1, hs1, hall1⟩ := h1.ex
  obtain ⟨bv, hb1, hb2⟩ := pure12 h1
  obtain ⟨r1, p1, p2⟩ := pure20 h0 hb2
  obtain ⟨r2, p3, p4⟩ := pure21 h0 h1
  obtain ⟨r3, p5, p6⟩ := pure22 (n := name) hb2
  obtain ⟨r4, p7, p8⟩ := pure23 (n := name) h1
  have t1 := pure24 p2 p4
  have t2 := pure24 p6 p8
  obtain ⟨c1, rfl, hc1, ho1⟩ := p2.cells
  obtain ⟨c2, rfl, hc2, ho2⟩ := p4.cells
  obtain ⟨c3, rfl, hc3, ho3⟩ := p6.cells
  obtain ⟨c4, rfl, hc4, ho4⟩ := p8.cells
  obtain ⟨cs, rfl, hcs, hone⟩ := h0.agg
  refine ⟨.empty, ?_⟩
  rw [D6_eq]
  iterate 4 (try simp only [boxC_all hone, Option.bind_some, part_all hcs, hsz, binV_int, intBin_gtr])
  cases decide ((200 : Int) < sz) with
  | true => iterate 4 (try simp only [gd_tf, gd_u, Option.bind_some, pickS_t, condV_t])
  | false =>
    iterate 4 (try simp only [gd_ff, Option.bind_some, hs1.len, binV_int, intBin_gtr, pickS_f])
    cases decide ((20 : Int) < es1.length) with
    | true => rfl
    | false =>
      have hbb : ∀ b : Bool, (b == b) = true := fun b => by cases b <;> rfl
      iterate 7 (try simp only [condV_f, part_all hcs, Option.bind_some, hb1, p1, p3, p5, p7, hx0, hx1, stC_all hc1 hz3 ho1, stC_all hc2 hz3 ho2, stC_all hc3 hz3 ho3, stC_all hc4 hz3 ho4, part_all hc1, part_all hc2, part_all hc3, part_all hc4, t1, t2, gd_tt, binV_beq, hbb, pickS_t, awake16])

/-! ## Trees out of the world -/

theorem fits_node : ∀ (n : Nat) (cs : List V), Fits ty n 59 cs → ∃ t, IsNode n (.agg cs) t
  | 0, _, h => h.elim
  | n + 1, cs, h => by
    obtain ⟨hl, hf⟩ := fits_struct (i := ⟨Try.t58.desc, 4, 56, (some (.agg [(.int .i64 (0)), (.str []), .nsl, (.int .i64 (0))]))⟩) h rfl (by kernel_rfl)
    have hfs : fieldsOf Try.t58.desc = [(3, 0), (9, 1), (57, 2), (3, 3)] := by kernel_rfl
    simp only [hfs] at hf
    obtain ⟨j0, e0, f0⟩ := hf (3, 0) (by simp)
    obtain ⟨j1, e1, f1⟩ := hf (9, 1) (by simp)
    obtain ⟨j2, e2, f2⟩ := hf (57, 2) (by simp)
    obtain ⟨j3, e3, f3⟩ := hf (3, 3) (by simp)
    cases e0; cases e1; cases e2; cases e3
    match cs, hl with
    | [a, b, c, d], _ =>
    obtain ⟨k, h0, _⟩ := fits_int (k := .i64) f0 rfl (by kernel_rfl)
    obtain ⟨s, h1, _⟩ := fits_str f1 rfl (by kernel_rfl)
    obtain ⟨p, h3, _⟩ := fits_int (k := .i64) f3 rfl (by kernel_rfl)
    cases h0; cases h1; cases h3
    cases n with
    | zero => exact f2.elim
    | succ n =>
      obtain ⟨sv, es, h2, h3, h4, h5⟩ := fits_slice (e := 59) (j := ⟨Try.t58.desc, 4, 56, (some (.agg [(.int .i64 (0)), (.str []), .nsl, (.int .i64 (0))]))⟩) f2 rfl (by kernel_rfl) rfl
      cases h2
      obtain ⟨l, hl⟩ := all2_of (P := IsNode (n + 1)) fun e he => by
        obtain ⟨_, h6, _, h7⟩ := h5 e he
        have hag : (⟨Try.t58.desc, 4, 56, (some (.agg [(.int .i64 (0)), (.str []), .nsl, (.int .i64 (0))]))⟩ : TI).agg = true := by kernel_rfl
        rw [h6 hag]
        obtain ⟨t, ht⟩ := fits_node n _ h7
        exact ⟨t, ht.succ⟩
      exact ⟨.mk k s l p, _, es, rfl, h3, reach_le h4, hl⟩

end Go.Eng
