/- What a constraint lets in. -/
import Derived.Test.YtjldgekmjnkofaaS7
set_option linter.unusedVariables false
set_option linter.unusedSimpArgs false
namespace Go.Eng
open Go

mutual
theorem pure_idem : ∀ (v v' : V), v.pure = some v' → v'.pure = some v'
  | .undef, _, h => by cases h; rfl
  | .bool _, _, h => by cases h; rfl
  | .int _ _, _, h => by cases h; rfl
  | .str _, _, h => by cases h; rfl
  | .nptr, _, h => by cases h; rfl
  | .ptr _ _, _, h => by cases h
  | .vp cs, v', h => by
    simp only [V.pure] at h
    obtain ⟨cs', h1, rfl⟩ := Option.map_eq_some_iff.1 h
    simp only [V.pure, pures_idem cs cs' h1, Option.map_some]
  | .nsl, _, h => by cases h; rfl
  | .sl o es, v', h => by
    simp only [V.pure] at h
    obtain ⟨cs', h1, rfl⟩ := Option.map_eq_some_iff.1 h
    simp only [V.pure, pures_idem es cs' h1, Option.map_some]
    cases o <;> rfl
  | .msl _ _ _ _, _, h => by cases h
  | .nmap, _, h => by cases h; rfl
  | .map _, _, h => by cases h
  | .nfunc, _, h => by cases h; rfl
  | .func f cs, v', h => by
    simp only [V.pure] at h
    obtain ⟨cs', h1, rfl⟩ := Option.map_eq_some_iff.1 h
    simp only [V.pure, pures_idem cs cs' h1, Option.map_some]
  | .niface, _, h => by cases h; rfl
  | .iface t v, v', h => by
    simp only [V.pure] at h
    obtain ⟨x, h1, rfl⟩ := Option.map_eq_some_iff.1 h
    simp only [V.pure, pure_idem v x h1, Option.map_some]
  | .agg cs, v', h => by
    simp only [V.pure] at h
    obtain ⟨cs', h1, rfl⟩ := Option.map_eq_some_iff.1 h
    simp only [V.pure, pures_idem cs cs' h1, Option.map_some]
  | .tup cs, v', h => by
    simp only [V.pure] at h
    obtain ⟨cs', h1, rfl⟩ := Option.map_eq_some_iff.1 h
    simp only [V.pure, pures_idem cs cs' h1, Option.map_some]
theorem pures_idem : ∀ (l l' : List V), V.pures l = some l' → V.pures l' = some l'
  | [], _, h => by cases h; rfl
  | v :: l, l', h => by
    simp only [V.pures] at h
    cases h1 : v.pure with
    | none => rw [h1] at h; cases h
    | some x =>
      rw [h1] at h
      cases h2 : V.pures l with
      | none => rw [h2] at h; cases h
      | some xs =>
        rw [h2] at h
        cases h
        simp only [V.pures, pure_idem v x h1, pures_idem l xs h2]
end

mutual
theorem snap_idem (σ : Sto) : ∀ (v v' : V), v.snap σ = some v' → v'.pure = some v'
  | .undef, v', h => pure_idem .undef v' (by simpa only [V.snap] using h)
  | .bool b, v', h => pure_idem (.bool b) v' (by simpa only [V.snap] using h)
  | .int k n, v', h => pure_idem (.int k n) v' (by simpa only [V.snap] using h)
  | .str s, v', h => pure_idem (.str s) v' (by simpa only [V.snap] using h)
  | .nptr, v', h => pure_idem .nptr v' (by simpa only [V.snap] using h)
  | .ptr a b, v', h => pure_idem (.ptr a b) v' (by simpa only [V.snap] using h)
  | .vp cs, v', h => pure_idem (.vp cs) v' (by simpa only [V.snap] using h)
  | .nsl, v', h => pure_idem .nsl v' (by simpa only [V.snap] using h)
  | .sl o es, v', h => pure_idem (.sl o es) v' (by simpa only [V.snap] using h)
  | .msl b off len size, v', h => by
    simp only [V.snap] at h
    split at h
    · rename_i es he
      split at h
      · obtain ⟨x, h1, rfl⟩ := Option.map_eq_some_iff.1 h
        simp only [V.pure, pures_idem es x h1, Option.map_some]
        rfl
      · cases h
    · cases h
  | .nmap, v', h => pure_idem .nmap v' (by simpa only [V.snap] using h)
  | .map b, v', h => pure_idem (.map b) v' (by simpa only [V.snap] using h)
  | .nfunc, v', h => pure_idem .nfunc v' (by simpa only [V.snap] using h)
  | .func f cs, v', h => pure_idem (.func f cs) v' (by simpa only [V.snap] using h)
  | .niface, v', h => pure_idem .niface v' (by simpa only [V.snap] using h)
  | .iface t v, v', h => by
    simp only [V.snap] at h
    obtain ⟨x, h1, rfl⟩ := Option.map_eq_some_iff.1 h
    simp only [V.pure, snap_idem σ v x h1, Option.map_some]
  | .agg cs, v', h => by
    simp only [V.snap] at h
    obtain ⟨x, h1, rfl⟩ := Option.map_eq_some_iff.1 h
    simp only [V.pure, snaps_idem σ cs x h1, Option.map_some]
  | .tup cs, v', h => by
    simp only [V.snap] at h
    obtain ⟨x, h1, rfl⟩ := Option.map_eq_some_iff.1 h
    simp only [V.pure, snaps_idem σ cs x h1, Option.map_some]
theorem snaps_idem (σ : Sto) : ∀ (l l' : List V), V.snaps σ l = some l' → V.pures l' = some l'
  | [], _, h => by simp only [V.snaps] at h; cases h; rfl
  | v :: l, l', h => by
    simp only [V.snaps] at h
    cases h1 : v.snap σ with
    | none => rw [h1] at h; cases h
    | some x =>
      rw [h1] at h
      cases h2 : V.snaps σ l with
      | none => rw [h2] at h; cases h
      | some xs =>
        rw [h2] at h
        cases h
        simp only [V.pures, snap_idem σ v x h1, snaps_idem σ l xs h2]
end

theorem callPure_self {cl : Cl} {f : FuncId} {vs vs' : List V} (h : V.pures vs = some vs') : callPure cl f vs' = callPure cl f vs := by
  unfold callPure
  rw [h, pures_idem _ _ h]

theorem pure33 {v t : V} {ds : List DefL} {n : Nat} (h : IsDefs v ds) (ht : IsTyp n t) : ∃ r m, callPure (D ft) 33 [v, t] = some r ∧ IsTyp m r ∧ HeadOk ds t r := by
  obtain ⟨v', h1, h2⟩ := h.pure
  obtain ⟨t', h3, h4, h5⟩ := ht.pure
  obtain ⟨cs, rfl, hcs⟩ := h4.agg
  have hvo : V.one v' = true ∧ V.cells v' = [v'] := by
    obtain ⟨es, he, _⟩ := h2.ex
    exact ⟨he.one, he.cells⟩
  have hb : (Sto.empty.alloc (.cells [v', .int .i64 20000])).blk Sto.empty.next = some (.cells [v', .int .i64 20000]) := Sto.blk_next _ _
  obtain ⟨r, σ', m, st, q1, q2, q3, q4, q5⟩ := big55 h2 100 n (Nat.le_refl _) _ h4 _ _ _ hb
  have hz3 : [V.int .i64 0, .str [], .nsl].length = 3 := rfl
  have hhead : HeadOk ds t r := by
    unfold HeadOk at q5 ⊢
    rw [h5.1, h5.2] at q5
    exact q5
  suffices H : ∃ r m, D ft 33 [v', .agg cs] .empty = some (.ret r, σ') ∧ IsTyp m r ∧ HeadOk ds t r by
    obtain ⟨r, m, g1, g2, g3⟩ := H
    obtain ⟨r', g4, g5, g6⟩ := g2.pure
    refine ⟨r', m, callPure_of (vs' := [v', .agg cs]) (by simp only [V.pures, h1, h3]) g1 g4, g5, ?_⟩
    unfold HeadOk at g3 ⊢
    rw [g6.1]; exact g3
  have hfill : fillC [V.nsl, .int .i64 0] [(0, 1, v'), (1, 1, .int .i64 20000)] = some [v', .int .i64 20000] := by
    simp [hvo.1, hvo.2]
  have hbox : boxN 2 (.agg [v', .int .i64 20000]) = some [v', .int .i64 20000] := boxN_all rfl (by simp [hvo.1])
  have hn : ∀ b o, nilCheckV (.ptr b o) = some (.ptr b o) := fun _ _ => rfl
  obtain ⟨cr, rfl, hcr⟩ := q2.agg
  rw [D33_eq]
  have q1' : D ft 55 [.ptr Sto.empty.next 0, .agg cs, .int .i64 100] (Sto.empty.alloc (.cells [v', .int .i64 20000])) = some (.ret (.agg cr), σ') := q1
  iterate 3 (try simp only [boxC_all h4.ones, Option.bind_some, hfill, hbox, alS_eq, part_all hcs, q1'])
  have hno : fillC [V.int .i64 0, .str [], .nsl] [] = some [V.int .i64 0, .str [], .nsl] := rfl
  have hno2 : stC [V.int .i64 0, .str [], .nsl] 0 3 (.agg [V.int .i64 0, .str [], .nsl]) = some [V.int .i64 0, .str [], .nsl] := rfl
  have hno3 : part [V.int .i64 0, .str [], .nsl] 0 (some 3) = some noTyp := rfl
  iterate 3 (try simp only [bindR_ret, stC_all hcr hz3 q2.ones, Option.bind_some, hn, fieldAddrV_ptr, Nat.zero_add, ldV_ptr q3, part_none, List.getElem?_cons_succ, List.getElem?_cons_zero, binV_int, intBin_gtr])
  cases decide (0 < st) with
  | true =>
    refine ⟨.agg cr, m, ?_, q2, hhead⟩
    iterate 3 (try simp only [condV_t, part_all hcr, stC_all hcr hz3 q2.ones, Option.bind_some])
  | false =>
    refine ⟨noTyp, 1, ?_, isTyp_no, Or.inl rfl⟩
    iterate 3 (try simp only [condV_f, hno, hno2, hno3, Option.bind_some])

/-- Comparable is what has a basic type behind it. -/
theorem pure35' {v t r : V} {ds : List DefL} {n : Nat} (h : IsDefs v ds) (ht : IsTyp n t) (hr : callPure (D ft) 39 [v, t] = some r) : callPure (D ft) 35 [v, t] = some (.bool (decide (kindOf r = 1))) := by
  obtain ⟨v', h1, h2⟩ := h.pure
  obtain ⟨t', h3, h4, _⟩ := ht.pure
  have hp : V.pures [v, t] = some [v', t'] := by simp only [V.pures, h1, h3]
  have h5 : callPure (D ft) 39 [v', t'] = some r := (callPure_self hp).trans hr
  obtain ⟨r', m, h6, h7, _⟩ := pure39 h ht
  rw [hr] at h6
  cases h6
  obtain ⟨cs, rfl, hcs⟩ := h4.agg
  obtain ⟨k, nm, s, es, rfl, _⟩ := h7.names
  refine callPure_of hp (v := .bool (decide (k = 1))) (σ := .empty) ?_ rfl
  rw [D35_eq]
  simp only [boxC_all h4.ones, Option.bind_some, part_all hcs, h5]
  simp [fieldV]

/-- What is asked of a type, once its aliases are written out. -/
structure Asked where
  kind : Int
  own : Option SetL
  bk : Int
  bn : List UInt8

def noSet : SetL := ⟨false, false, []⟩

def letsB (a : Asked) (s : SetL) : Bool :=
  if !rightB s || (decide (a.kind = 0) || (decide (a.kind = 4) && (!a.own.isSome || !rightB (a.own.getD noSet)))) then false
  else if s.all then true
  else if s.cmp then decide (a.bk = 1) || (decide (a.kind = 4) && !(a.own.getD noSet).all)
  else if decide (a.kind = 4) then decide (0 < (a.own.getD noSet).terms.length) && (a.own.getD noSet).terms.all fun x => withinB s.terms x
  else decide (a.bk = 1) && withinB s.terms ⟨!decide (a.kind = 1), a.bn⟩

theorem pure34 {v : V} {s : SetL} (h : IsSet v s) : callPure (D ft) 34 [v] = some (.bool (rightB s)) := by
  obtain ⟨v', h1, h2⟩ := h.pure
  exact callPure_of (vs' := [v']) (by simp only [V.pures, h1]) (big34 h2 .empty) rfl

theorem IsSet.cells {v : V} {s : SetL} (h : IsSet v s) : ∃ cs, v = .agg cs ∧ cs.length = 3 ∧ cs.all V.one = true := by
  obtain ⟨⟨tv, rfl, ht⟩, hl⟩ := h
  exact ⟨_, rfl, rfl, by simp [ht.one]⟩

theorem clo37 {x : Trm} {b : Nat} {σ : Sto} {cs : List V} {s : SetL} (hs : IsSet (.agg cs) s) (hb : σ.blk b = some (.cells cs)) (hl : cs.length = 3) : D ft 37 [x.v, .ptr b 0] σ = some (.ret (.bool (!withinB s.terms x)), σ) := by
  rw [D37_eq]
  have h1 : boxC x.v = some [.bool x.tilde, .str x.name] := rfl
  have h2 : part [V.bool x.tilde, .str x.name] 0 (some 2) = some x.v := rfl
  iterate 3 (try simp only [h1, Option.bind_some, ldV_ptr hb, part_all hl, h2, pure38 hs x, notV_bool])

/-- What is asked of a type by a row of definitions and a scope. -/
def AskedOf (dv bv t : V) (bs : List Bnd) (a : Asked) : Prop :=
  ∃ t' m s b mb, callPure (D ft) 33 [dv, t] = some t' ∧ IsTyp m t' ∧ (∃ nm, t' = .agg [.int .i64 a.kind, .str nm, s] ∧ a.own = findB bs nm) ∧ callPure (D ft) 39 [dv, t'] = some b ∧ IsTyp mb b ∧ kindOf b = a.bk ∧ nmOf b = a.bn

theorem asked_of {dv bv t : V} {ds : List DefL} {bs : List Bnd} {n : Nat} (hd : IsDefs dv ds) (ht : IsTyp n t) : ∃ a, AskedOf dv bv t bs a ∧ HeadOk ds t (.agg [.int .i64 a.kind]) ∧ (a.kind ≠ 3 → a.bk = a.kind) := by
  obtain ⟨t', m, h1, h2, h3⟩ := pure33 hd ht
  obtain ⟨b, mb, h4, h5, h6⟩ := pure39 hd h2
  obtain ⟨k, nm, s, es, rfl, _⟩ := h2.names
  refine ⟨⟨k, findB bs nm, kindOf b, nmOf b⟩, ⟨_, m, s, b, mb, h1, h2, ⟨nm, rfl, rfl⟩, h4, h5, rfl, rfl⟩, h3, fun hk => ?_⟩
  exact (h6 hk).1

theorem big15 {dv bv t sv : V} {ds : List DefL} {bs : List Bnd} {n : Nat} {a : Asked} {s : SetL} (hd : IsDefs dv ds) (hb : IsScope bv bs) (ht : IsTyp n t) (hs : IsSet sv s) (ha : AskedOf dv bv t bs a) (σ : Sto) :
    ∃ σ', D ft 15 [dv, bv, sv, t] σ = some (.ret (.bool (letsB a s)), σ') := by
  obtain ⟨t', m, ts, b, mb, f1, f2, ⟨nm, rfl, ho⟩, f3, f4, f5, f6⟩ := ha
  obtain ⟨cs, rfl, hcl, hco⟩ := hs.cells
  obtain ⟨ct, rfl, hct⟩ := ht.agg
  obtain ⟨ov, g1, g2⟩ := pure22 (n := nm) hb
  rw [← ho] at g1 g2
  obtain ⟨co, rfl, hol, hoo⟩ := g2.cells
  obtain ⟨cb, rfl, hcb⟩ := f4.agg
  have hz3 : [V.bool false, .bool false, .nsl].length = 3 := rfl
  have hz3' : [V.int .i64 0, .str [], .nsl].length = 3 := rfl
  have hblk : (σ.alloc (.cells cs)).blk σ.next = some (.cells cs) := Sto.blk_next _ _
  have hcmp := pure35' hd f2 f3
  have hright := pure34 hs
  have hro := pure34 g2
  have hsub : ∀ (b : Nat) (x : Blk), (σ.alloc (.cells cs)).blk b = some x → (σ.alloc (.cells cs)).blk b = some x := fun _ _ h => h
  -- the heads
  obtain ⟨bk, bn, bsl, bes, hbe, _⟩ := f4.names
  cases hbe
  have hcs : ∃ tv, cs = [.bool s.all, .bool s.cmp, tv] := by
    obtain ⟨tv, h, _⟩ := hs.ex
    cases h
    exact ⟨tv, rfl⟩
  obtain ⟨tv, rfl⟩ := hcs
  have hco' : ∃ tv, co = [.bool (a.own.getD noSet).all, .bool (a.own.getD noSet).cmp, tv] ∧ IsSl tv ((a.own.getD noSet).terms.map Trm.v) := by
    obtain ⟨tv, h, h2⟩ := g2.ex
    cases h
    exact ⟨tv, rfl, h2⟩
  obtain ⟨otv, rfl, hotv⟩ := hco'
  have holen := g2.len
  obtain ⟨k, own, ak, an⟩ := a
  simp only at *
  subst ak an
  generalize hOwn : own.getD ⟨false, false, []⟩ = O at *
  have hOwn' : own.getD noSet = O := hOwn
  unfold letsB
  simp only [hOwn'] at *
  generalize rightB s = R at *
  generalize rightB O = RO at *
  generalize own.isSome = I at *
  rw [D15_eq]
  have hx1 : extractV 0 (.tup [.agg [.bool O.all, .bool O.cmp, otv], .bool I]) = some (.agg [.bool O.all, .bool O.cmp, otv]) := rfl
  have hx2 : extractV 1 (.tup [.agg [.bool O.all, .bool O.cmp, otv], .bool I]) = some (.bool I) := rfl
  have hany : ((O.terms.map Trm.v).any fun e => !withinB s.terms (trmOf e)) = !(O.terms.all fun t => withinB s.terms t) := by
    rw [List.any_map]
    show (O.terms.any fun t => !withinB s.terms t) = _
    rw [List.not_all_eq_any_not]
  have hc := contains36 (fv := .func 37 [.ptr σ.next 0]) (σ := σ.alloc (.cells [.bool s.all, .bool s.cmp, tv])) (fun e => !withinB s.terms (trmOf e)) hotv terms_agg (fun e he => by
    obtain ⟨x, _, rfl⟩ := List.mem_map.1 he
    rw [appV_ptr]
    exact clo37 hs hblk hcl) (by simp; omega)
  rw [hany] at hc
  have hd2 : decide ((0 : Int) < (O.terms.length : Int)) = decide (0 < O.terms.length) := by simp
  have h38 : callPure (D ft) 38 [.agg [.bool s.all, .bool s.cmp, tv], .agg [.bool (!decide (k = 1)), .str bn]] = _ := pure38 hs ⟨!decide (k = 1), bn⟩
  have hft : ∀ c : Bool, fillC [V.bool false, .str []] [(0, 1, .bool c), (1, 1, .str bn)] = some [.bool c, .str bn] := fun _ => rfl
  have hkb : kindOf (.agg [.int .i64 bk, .str bn, bsl]) = bk := rfl
  have hnb : nmOf (.agg [.int .i64 bk, .str bn, bsl]) = bn := rfl
  have hfa0 : ∀ b : Nat, fieldAddrV 0 (.ptr b 0) = some (.ptr b 0) := fun _ => rfl
  have hfa1 : ∀ b : Nat, fieldAddrV 1 (.ptr b 0) = some (.ptr b 1) := fun _ => rfl
  have hst0 : stC [V.int .i64 0, .str [], .nsl] 0 3 (.agg [.int .i64 bk, .str bn, bsl]) = some [.int .i64 bk, .str bn, bsl] := stC_all rfl hz3' f4.ones
  rw [hkb] at hcmp
  rw [hkb, hnb]
  generalize (O.terms.all fun t => withinB s.terms t) = OA at *
  generalize withinB s.terms ⟨!decide (k = 1), bn⟩ = WB at *
  refine ⟨σ.alloc (.cells [.bool s.all, .bool s.cmp, tv]), ?_⟩
  iterate 3 (try simp only [boxN_all hcl hco, Option.bind_some, alS_eq, boxC_all ht.ones, part_all hct, f1, stC_all (n := 3) (zero := ct) rfl hct f2.ones, part_none, List.getElem?_cons_succ, List.getElem?_cons_zero, g1, hx1, hx2, stC_all hol hz3 hoo, binV_int, intBin_eql, ldV_ptr hblk, part_all hcl, hright, notV_bool, chkB_b])
  generalize hK0 : decide (k = 0) = K0 at *
  generalize hK4 : decide (k = 4) = K4 at *
  generalize hK1 : decide (k = 1) = K1 at *
  generalize hB1 : decide (bk = 1) = B1 at *
  cases R with
  | false => iterate 4 (try simp only [Bool.not_not, Bool.not_false, Bool.not_true, Bool.true_or, Bool.or_true, Bool.false_or, Bool.or_false, Bool.and_true, Bool.true_and, Bool.and_false, Bool.false_and, Bool.false_eq_true, if_true, if_false, gd_tt, gd_ff, gd_tf, gd_u, gd_ft, chkB_b, chkB_u, pickS_t, pickS_f, Option.bind_some, condV_t, condV_f, part_none, List.getElem?_cons_zero, List.getElem?_cons_succ, binV_int, intBin_eql, intBin_neq, intBin_gtr, notV_bool, hK0, hK4, hK1, hB1, part_all hol, hro, hfa0, hfa1, ldV_ptr hblk, part_all (cs := [V.int .i64 k, .str nm, ts]) (n := 3) rfl, hcmp, f3, hst0, hotv.len, List.length_map, hd2, hc, bindR_ret, gdR_tt, gdR_ft, part_all hcl, hft, Option.map_some, h38])
  | true =>
    cases K0 with
    | true => iterate 4 (try simp only [Bool.not_not, Bool.not_false, Bool.not_true, Bool.true_or, Bool.or_true, Bool.false_or, Bool.or_false, Bool.and_true, Bool.true_and, Bool.and_false, Bool.false_and, Bool.false_eq_true, if_true, if_false, gd_tt, gd_ff, gd_tf, gd_u, gd_ft, chkB_b, chkB_u, pickS_t, pickS_f, Option.bind_some, condV_t, condV_f, part_none, List.getElem?_cons_zero, List.getElem?_cons_succ, binV_int, intBin_eql, intBin_neq, intBin_gtr, notV_bool, hK0, hK4, hK1, hB1, part_all hol, hro, hfa0, hfa1, ldV_ptr hblk, part_all (cs := [V.int .i64 k, .str nm, ts]) (n := 3) rfl, hcmp, f3, hst0, hotv.len, List.length_map, hd2, hc, bindR_ret, gdR_tt, gdR_ft, part_all hcl, hft, Option.map_some, h38])
    | false =>
      cases K4 with
      | false =>
        iterate 5 (try simp only [Bool.not_not, Bool.not_false, Bool.not_true, Bool.true_or, Bool.or_true, Bool.false_or, Bool.or_false, Bool.and_true, Bool.true_and, Bool.and_false, Bool.false_and, Bool.false_eq_true, if_true, if_false, gd_tt, gd_ff, gd_tf, gd_u, gd_ft, chkB_b, chkB_u, pickS_t, pickS_f, Option.bind_some, condV_t, condV_f, part_none, List.getElem?_cons_zero, List.getElem?_cons_succ, binV_int, intBin_eql, intBin_neq, intBin_gtr, notV_bool, hK0, hK4, hK1, hB1, part_all hol, hro, hfa0, hfa1, ldV_ptr hblk, part_all (cs := [V.int .i64 k, .str nm, ts]) (n := 3) rfl, hcmp, f3, hst0, hotv.len, List.length_map, hd2, hc, bindR_ret, gdR_tt, gdR_ft, part_all hcl, hft, Option.map_some, h38])
        cases hsa : s.all with
        | true => iterate 4 (try simp only [Bool.not_not, Bool.not_false, Bool.not_true, Bool.true_or, Bool.or_true, Bool.false_or, Bool.or_false, Bool.and_true, Bool.true_and, Bool.and_false, Bool.false_and, Bool.false_eq_true, if_true, if_false, gd_tt, gd_ff, gd_tf, gd_u, gd_ft, chkB_b, chkB_u, pickS_t, pickS_f, Option.bind_some, condV_t, condV_f, part_none, List.getElem?_cons_zero, List.getElem?_cons_succ, binV_int, intBin_eql, intBin_neq, intBin_gtr, notV_bool, hK0, hK4, hK1, hB1, part_all hol, hro, hfa0, hfa1, ldV_ptr hblk, part_all (cs := [V.int .i64 k, .str nm, ts]) (n := 3) rfl, hcmp, f3, hst0, hotv.len, List.length_map, hd2, hc, bindR_ret, gdR_tt, gdR_ft, part_all hcl, hft, Option.map_some, h38])
        | false =>
          cases hsc : s.cmp with
          | true =>
            iterate 4 (try simp only [Bool.not_not, Bool.not_false, Bool.not_true, Bool.true_or, Bool.or_true, Bool.false_or, Bool.or_false, Bool.and_true, Bool.true_and, Bool.and_false, Bool.false_and, Bool.false_eq_true, if_true, if_false, gd_tt, gd_ff, gd_tf, gd_u, gd_ft, chkB_b, chkB_u, pickS_t, pickS_f, Option.bind_some, condV_t, condV_f, part_none, List.getElem?_cons_zero, List.getElem?_cons_succ, binV_int, intBin_eql, intBin_neq, intBin_gtr, notV_bool, hK0, hK4, hK1, hB1, part_all hol, hro, hfa0, hfa1, ldV_ptr hblk, part_all (cs := [V.int .i64 k, .str nm, ts]) (n := 3) rfl, hcmp, f3, hst0, hotv.len, List.length_map, hd2, hc, bindR_ret, gdR_tt, gdR_ft, part_all hcl, hft, Option.map_some, h38])
            cases B1 <;> iterate 4 (try simp only [Bool.not_not, Bool.not_false, Bool.not_true, Bool.true_or, Bool.or_true, Bool.false_or, Bool.or_false, Bool.and_true, Bool.true_and, Bool.and_false, Bool.false_and, Bool.false_eq_true, if_true, if_false, gd_tt, gd_ff, gd_tf, gd_u, gd_ft, chkB_b, chkB_u, pickS_t, pickS_f, Option.bind_some, condV_t, condV_f, part_none, List.getElem?_cons_zero, List.getElem?_cons_succ, binV_int, intBin_eql, intBin_neq, intBin_gtr, notV_bool, hK0, hK4, hK1, hB1, part_all hol, hro, hfa0, hfa1, ldV_ptr hblk, part_all (cs := [V.int .i64 k, .str nm, ts]) (n := 3) rfl, hcmp, f3, hst0, hotv.len, List.length_map, hd2, hc, bindR_ret, gdR_tt, gdR_ft, part_all hcl, hft, Option.map_some, h38])
          | false =>
            iterate 4 (try simp only [Bool.not_not, Bool.not_false, Bool.not_true, Bool.true_or, Bool.or_true, Bool.false_or, Bool.or_false, Bool.and_true, Bool.true_and, Bool.and_false, Bool.false_and, Bool.false_eq_true, if_true, if_false, gd_tt, gd_ff, gd_tf, gd_u, gd_ft, chkB_b, chkB_u, pickS_t, pickS_f, Option.bind_some, condV_t, condV_f, part_none, List.getElem?_cons_zero, List.getElem?_cons_succ, binV_int, intBin_eql, intBin_neq, intBin_gtr, notV_bool, hK0, hK4, hK1, hB1, part_all hol, hro, hfa0, hfa1, ldV_ptr hblk, part_all (cs := [V.int .i64 k, .str nm, ts]) (n := 3) rfl, hcmp, f3, hst0, hotv.len, List.length_map, hd2, hc, bindR_ret, gdR_tt, gdR_ft, part_all hcl, hft, Option.map_some, h38])
            rw [hsa, hsc] at h38
            cases B1 <;> iterate 4 (try simp only [Bool.not_not, Bool.not_false, Bool.not_true, Bool.true_or, Bool.or_true, Bool.false_or, Bool.or_false, Bool.and_true, Bool.true_and, Bool.and_false, Bool.false_and, Bool.false_eq_true, if_true, if_false, gd_tt, gd_ff, gd_tf, gd_u, gd_ft, chkB_b, chkB_u, pickS_t, pickS_f, Option.bind_some, condV_t, condV_f, part_none, List.getElem?_cons_zero, List.getElem?_cons_succ, binV_int, intBin_eql, intBin_neq, intBin_gtr, notV_bool, hK0, hK4, hK1, hB1, part_all hol, hro, hfa0, hfa1, ldV_ptr hblk, part_all (cs := [V.int .i64 k, .str nm, ts]) (n := 3) rfl, hcmp, f3, hst0, hotv.len, List.length_map, hd2, hc, bindR_ret, gdR_tt, gdR_ft, part_all hcl, hft, Option.map_some, h38])
      | true =>
        cases I with
        | false => iterate 5 (try simp only [Bool.not_not, Bool.not_false, Bool.not_true, Bool.true_or, Bool.or_true, Bool.false_or, Bool.or_false, Bool.and_true, Bool.true_and, Bool.and_false, Bool.false_and, Bool.false_eq_true, if_true, if_false, gd_tt, gd_ff, gd_tf, gd_u, gd_ft, chkB_b, chkB_u, pickS_t, pickS_f, Option.bind_some, condV_t, condV_f, part_none, List.getElem?_cons_zero, List.getElem?_cons_succ, binV_int, intBin_eql, intBin_neq, intBin_gtr, notV_bool, hK0, hK4, hK1, hB1, part_all hol, hro, hfa0, hfa1, ldV_ptr hblk, part_all (cs := [V.int .i64 k, .str nm, ts]) (n := 3) rfl, hcmp, f3, hst0, hotv.len, List.length_map, hd2, hc, bindR_ret, gdR_tt, gdR_ft, part_all hcl, hft, Option.map_some, h38])
        | true =>
          cases RO with
          | false => iterate 5 (try simp only [Bool.not_not, Bool.not_false, Bool.not_true, Bool.true_or, Bool.or_true, Bool.false_or, Bool.or_false, Bool.and_true, Bool.true_and, Bool.and_false, Bool.false_and, Bool.false_eq_true, if_true, if_false, gd_tt, gd_ff, gd_tf, gd_u, gd_ft, chkB_b, chkB_u, pickS_t, pickS_f, Option.bind_some, condV_t, condV_f, part_none, List.getElem?_cons_zero, List.getElem?_cons_succ, binV_int, intBin_eql, intBin_neq, intBin_gtr, notV_bool, hK0, hK4, hK1, hB1, part_all hol, hro, hfa0, hfa1, ldV_ptr hblk, part_all (cs := [V.int .i64 k, .str nm, ts]) (n := 3) rfl, hcmp, f3, hst0, hotv.len, List.length_map, hd2, hc, bindR_ret, gdR_tt, gdR_ft, part_all hcl, hft, Option.map_some, h38])
          | true =>
            iterate 5 (try simp only [Bool.not_not, Bool.not_false, Bool.not_true, Bool.true_or, Bool.or_true, Bool.false_or, Bool.or_false, Bool.and_true, Bool.true_and, Bool.and_false, Bool.false_and, Bool.false_eq_true, if_true, if_false, gd_tt, gd_ff, gd_tf, gd_u, gd_ft, chkB_b, chkB_u, pickS_t, pickS_f, Option.bind_some, condV_t, condV_f, part_none, List.getElem?_cons_zero, List.getElem?_cons_succ, binV_int, intBin_eql, intBin_neq, intBin_gtr, notV_bool, hK0, hK4, hK1, hB1, part_all hol, hro, hfa0, hfa1, ldV_ptr hblk, part_all (cs := [V.int .i64 k, .str nm, ts]) (n := 3) rfl, hcmp, f3, hst0, hotv.len, List.length_map, hd2, hc, bindR_ret, gdR_tt, gdR_ft, part_all hcl, hft, Option.map_some, h38])
            cases hsa : s.all with
            | true => iterate 4 (try simp only [Bool.not_not, Bool.not_false, Bool.not_true, Bool.true_or, Bool.or_true, Bool.false_or, Bool.or_false, Bool.and_true, Bool.true_and, Bool.and_false, Bool.false_and, Bool.false_eq_true, if_true, if_false, gd_tt, gd_ff, gd_tf, gd_u, gd_ft, chkB_b, chkB_u, pickS_t, pickS_f, Option.bind_some, condV_t, condV_f, part_none, List.getElem?_cons_zero, List.getElem?_cons_succ, binV_int, intBin_eql, intBin_neq, intBin_gtr, notV_bool, hK0, hK4, hK1, hB1, part_all hol, hro, hfa0, hfa1, ldV_ptr hblk, part_all (cs := [V.int .i64 k, .str nm, ts]) (n := 3) rfl, hcmp, f3, hst0, hotv.len, List.length_map, hd2, hc, bindR_ret, gdR_tt, gdR_ft, part_all hcl, hft, Option.map_some, h38])
            | false =>
              cases hsc : s.cmp with
              | true =>
                iterate 4 (try simp only [Bool.not_not, Bool.not_false, Bool.not_true, Bool.true_or, Bool.or_true, Bool.false_or, Bool.or_false, Bool.and_true, Bool.true_and, Bool.and_false, Bool.false_and, Bool.false_eq_true, if_true, if_false, gd_tt, gd_ff, gd_tf, gd_u, gd_ft, chkB_b, chkB_u, pickS_t, pickS_f, Option.bind_some, condV_t, condV_f, part_none, List.getElem?_cons_zero, List.getElem?_cons_succ, binV_int, intBin_eql, intBin_neq, intBin_gtr, notV_bool, hK0, hK4, hK1, hB1, part_all hol, hro, hfa0, hfa1, ldV_ptr hblk, part_all (cs := [V.int .i64 k, .str nm, ts]) (n := 3) rfl, hcmp, f3, hst0, hotv.len, List.length_map, hd2, hc, bindR_ret, gdR_tt, gdR_ft, part_all hcl, hft, Option.map_some, h38])
                cases B1 <;> iterate 4 (try simp only [Bool.not_not, Bool.not_false, Bool.not_true, Bool.true_or, Bool.or_true, Bool.false_or, Bool.or_false, Bool.and_true, Bool.true_and, Bool.and_false, Bool.false_and, Bool.false_eq_true, if_true, if_false, gd_tt, gd_ff, gd_tf, gd_u, gd_ft, chkB_b, chkB_u, pickS_t, pickS_f, Option.bind_some, condV_t, condV_f, part_none, List.getElem?_cons_zero, List.getElem?_cons_succ, binV_int, intBin_eql, intBin_neq, intBin_gtr, notV_bool, hK0, hK4, hK1, hB1, part_all hol, hro, hfa0, hfa1, ldV_ptr hblk, part_all (cs := [V.int .i64 k, .str nm, ts]) (n := 3) rfl, hcmp, f3, hst0, hotv.len, List.length_map, hd2, hc, bindR_ret, gdR_tt, gdR_ft, part_all hcl, hft, Option.map_some, h38])
              | false =>
                iterate 4 (try simp only [Bool.not_not, Bool.not_false, Bool.not_true, Bool.true_or, Bool.or_true, Bool.false_or, Bool.or_false, Bool.and_true, Bool.true_and, Bool.and_false, Bool.false_and, Bool.false_eq_true, if_true, if_false, gd_tt, gd_ff, gd_tf, gd_u, gd_ft, chkB_b, chkB_u, pickS_t, pickS_f, Option.bind_some, condV_t, condV_f, part_none, List.getElem?_cons_zero, List.getElem?_cons_succ, binV_int, intBin_eql, intBin_neq, intBin_gtr, notV_bool, hK0, hK4, hK1, hB1, part_all hol, hro, hfa0, hfa1, ldV_ptr hblk, part_all (cs := [V.int .i64 k, .str nm, ts]) (n := 3) rfl, hcmp, f3, hst0, hotv.len, List.length_map, hd2, hc, bindR_ret, gdR_tt, gdR_ft, part_all hcl, hft, Option.map_some, h38])
                rw [hsa, hsc] at hc
                cases decide (0 < O.terms.length) <;> iterate 4 (try simp only [Bool.not_not, Bool.not_false, Bool.not_true, Bool.true_or, Bool.or_true, Bool.false_or, Bool.or_false, Bool.and_true, Bool.true_and, Bool.and_false, Bool.false_and, Bool.false_eq_true, if_true, if_false, gd_tt, gd_ff, gd_tf, gd_u, gd_ft, chkB_b, chkB_u, pickS_t, pickS_f, Option.bind_some, condV_t, condV_f, part_none, List.getElem?_cons_zero, List.getElem?_cons_succ, binV_int, intBin_eql, intBin_neq, intBin_gtr, notV_bool, hK0, hK4, hK1, hB1, part_all hol, hro, hfa0, hfa1, ldV_ptr hblk, part_all (cs := [V.int .i64 k, .str nm, ts]) (n := 3) rfl, hcmp, f3, hst0, hotv.len, List.length_map, hd2, hc, bindR_ret, gdR_tt, gdR_ft, part_all hcl, hft, Option.map_some, h38])

theorem callPure_res {cl : Cl} {f : FuncId} {vs : List V} {v : V} (h : callPure cl f vs = some v) : v.pure = some v := by
  unfold callPure at h
  split at h
  · cases h
  · split at h
    · exact snap_idem _ _ _ h
    · cases h

theorem AskedOf.pure {dv bv t dv' bv' t' : V} {bs : List Bnd} {a : Asked} (h : AskedOf dv bv t bs a) (hd : dv.pure = some dv') (ht : t.pure = some t') : AskedOf dv' bv' t' bs a := by
  obtain ⟨tf, m, s, b, mb, h1, h2, h3, h4, h5, h6, h7⟩ := h
  refine ⟨tf, m, s, b, mb, (callPure_self (by simp only [V.pures, hd, ht])).trans h1, h2, h3, (callPure_self ?_).trans h4, h5, h6, h7⟩
  simp only [V.pures, hd, callPure_res h1]

theorem pure15 {dv bv t sv : V} {ds : List DefL} {bs : List Bnd} {n : Nat} {a : Asked} {s : SetL} (hd : IsDefs dv ds) (hb : IsScope bv bs) (ht : IsTyp n t) (hs : IsSet sv s) (ha : AskedOf dv bv t bs a) :
    callPure (D ft) 15 [dv, bv, sv, t] = some (.bool (letsB a s)) := by
  obtain ⟨dv', d1, d2⟩ := hd.pure
  obtain ⟨bv', b1, b2⟩ := hb.pure
  obtain ⟨t', t1, t2, _⟩ := ht.pure
  obtain ⟨sv', s1, s2⟩ := hs.pure
  obtain ⟨σ', h⟩ := big15 d2 b2 t2 s2 (ha.pure d1 t1) .empty
  exact callPure_of (vs' := [dv', bv', sv', t']) (by simp only [V.pures, d1, b1, s1, t1]) h rfl

end Go.Eng
