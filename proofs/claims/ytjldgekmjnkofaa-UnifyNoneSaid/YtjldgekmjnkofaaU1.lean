/- PRINTED BY A PROGRAM of this repo (wip/twin.py), the last part by hand: a document's data as the program's, once more. -/
import Derived.Test.YtjldgekmjnkofaaS10
set_option linter.unusedVariables false
set_option linter.unusedSimpArgs false
namespace Go.Eng
open Go

theorem pure47 : ∀ (n : Nat) (t : V), IsTyp n t → ∃ r, callPure (D ft) 47 [t] = some r ∧ IsTyp n r ∧ SameHead t r := by
  intro n
  induction n with
  | zero => intro t h; exact h.elim
  | succ n ih =>
    intro t h
    obtain ⟨t', ht1, ht2, hth⟩ := h.pure
    obtain ⟨k, nm, s, es, rfl, hs, hlen, hall⟩ := ht2
    have hones : [V.int .i64 k, .str nm, s].all V.one = true := by simp [hs.one]
    have hz3 : [V.int .i64 0, .str [], .nsl].length = 3 := rfl
    have loop : ∀ (rest pre : List V) (ov : V) (os : List V) (σ : Sto), es = pre ++ rest → Grow 0 σ ov os → os.length = pre.length → (∀ o ∈ os, IsTyp n o) →
        ∃ v' es' σ', L47_0 [.int .i64 k, .str nm, s] [.int .i64 0, .str [], .nsl] [.int .i64 k, .str nm, ov] (.int .i64 pre.length) σ = some (.ret (.agg [.int .i64 k, .str nm, v']), σ') ∧ IsSl v' es' ∧ es'.length = es.length ∧ ∀ o ∈ es', IsTyp n o := by
      intro rest
      induction rest with
      | nil =>
        intro pre ov os σ hpre hg hl ho
        have hlt : decide ((pre.length : Int) < es.length) = false := by rw [hpre]; simp
        refine ⟨ov, os, σ, ?_, hg.isSl, by rw [hl, hpre, List.append_nil], ho⟩
        have hov : [V.int .i64 k, .str nm, ov].all V.one = true := by simp [hg.isSl.one]
        rw [L47_0_eq]
        iterate 3 (try simp only [part_none, List.getElem?_cons_succ, List.getElem?_cons_zero, hs.len, binV_int, intBin_lss, Option.bind_some, hlt, condV_f, part_all (cs := [V.int .i64 k, .str nm, ov]) (n := 3) rfl, stC_all (cs := [V.int .i64 k, .str nm, ov]) (n := 3) rfl hz3 hov])
      | cons e rest ih2 =>
        intro pre ov os σ hpre hg hl ho
        have hlt : decide ((pre.length : Int) < es.length) = true := by rw [hpre]; simp; omega
        have he : e ∈ es := by rw [hpre]; simp
        obtain ⟨r, hr1, hr2, _⟩ := ih e (hall e he)
        obtain ⟨cs, rfl, hcs⟩ := (hall e he).agg
        obtain ⟨cr, rfl, hcr⟩ := hr2.agg
        have hidx : indexAddrV 3 s (.int .i64 pre.length) = some (.vp cs) := IsSl.idx (e := .agg cs) (hpre ▸ hs) hcs
        have hlen2 : es.length = pre.length + (rest.length + 1) := by rw [hpre]; simp
        have hw : wrapI .i64 ((pre.length : Int) + 1) = ((pre ++ [V.agg cs]).length : Int) := by
          rw [wrap64 (by omega)]; simp
        obtain ⟨ov', σ', g1, g2, _⟩ := hg.append (y := .sl .full [.agg cr]) (new := [.agg cr]) (size := 3) (bytes := 48) (Nat.zero_le _) (.sl _ _) (by simp; omega) (by omega)
          (fun x hx => by obtain ⟨c, rfl, hc⟩ := (ho x hx).agg; exact hc) (fun x hx => by rw [List.mem_singleton] at hx; rw [hx]; exact hcr)
        have hst : stC [V.int .i64 k, .str nm, ov] 2 1 ov' = some [.int .i64 k, .str nm, ov'] := by
          simp [g2.isSl.one, g2.isSl.cells]
        obtain ⟨v', es', σ2, q1, q2, q3, q4⟩ := ih2 (pre ++ [V.agg cs]) ov' (os ++ [.agg cr]) σ' (by rw [hpre]; simp) g2 (by simp [hl]) (fun o hm => by
          rcases List.mem_append.1 hm with hm | hm
          · exact ho o hm
          · rw [List.mem_singleton] at hm; rw [hm]; exact hr2)
        refine ⟨v', es', σ2, ?_, q2, q3, q4⟩
        rw [L47_0_eq]
        iterate 3 (try simp only [part_none, List.getElem?_cons_succ, List.getElem?_cons_zero, hs.len, binV_int, intBin_lss, Option.bind_some, hlt, condV_t, hidx, ldV_vp, part_all hcs, hr1, fillD_one hcr hr2.ones, g1, bind2_some, hst, intBin_add, hw])
        exact q1
    obtain ⟨v', es', σ', q1, q2, q3, q4⟩ := loop es [] .nsl [] .empty rfl .nsl rfl (fun o h => by cases h)
    have hr : IsTyp (n + 1) (.agg [.int .i64 k, .str nm, v']) := ⟨k, nm, v', es', rfl, q2, by rw [q3]; exact hlen, q4⟩
    obtain ⟨r', p1, p2, p3⟩ := hr.pure
    refine ⟨r', callPure_of (vs' := [.agg [.int .i64 k, .str nm, s]]) (by simp only [V.pures, ht1]) (v := .agg [.int .i64 k, .str nm, v']) (σ := σ') ?_ p1, p2, p3.1.trans hth.1, p3.2.trans hth.2⟩
    have hfill : fillC [V.int .i64 0, .str [], .nsl] [(0, 1, .int .i64 k), (1, 1, .str nm)] = some [.int .i64 k, .str nm, .nsl] := rfl
    have hst : stC [V.int .i64 0, .str [], .nsl] 0 3 (.agg [.int .i64 k, .str nm, .nsl]) = some [.int .i64 k, .str nm, .nsl] := rfl
    rw [D47_eq]
    iterate 3 (try simp only [boxC_all hones, V.cells_agg, Option.bind_some, part_none, List.getElem?_cons_succ, List.getElem?_cons_zero, hfill, hst])
    exact q1

theorem pure27 {v : V} {ds : List DefL} (h : IsDefs v ds) : ∃ r, callPure (D ft) 27 [v] = some r ∧ IsDefs r ds := by
  obtain ⟨v', hv1, ⟨es, hs, hall⟩, hl⟩ := h.pure
  have loop : ∀ (rest : List V) (brest : List DefL) (pre : List V) (bpre : List DefL) (ov : V) (os : List V) (σ : Sto), es = pre ++ rest → ds = bpre ++ brest → All2 IsDef pre bpre → All2 IsDef rest brest → Grow 0 σ ov os → All2 IsDef os bpre →
      ∃ r es' σ', L27_0 v' ov (.int .i64 pre.length) σ = some (.ret r, σ') ∧ IsSl r es' ∧ All2 IsDef es' ds := by
    intro rest
    induction rest with
    | nil =>
      intro brest pre bpre ov os σ hpre hb h1 h2 hg ho
      cases h2
      have hlt : decide ((pre.length : Int) < es.length) = false := by rw [hpre]; simp
      refine ⟨ov, os, σ, ?_, hg.isSl, by rw [hb, List.append_nil]; exact ho⟩
      rw [L27_0_eq]
      iterate 3 (try simp only [hs.len, binV_int, intBin_lss, Option.bind_some, hlt, condV_f])
    | cons e rest ih2 =>
      intro brest pre bpre ov os σ hpre hb h1 h2 hg ho
      cases h2 with
      | @cons _ d _ brest he h2 =>
      have hlen2 : es.length = pre.length + (rest.length + 1) := by rw [hpre]; simp
      have hesl := hall.len
      have hlt : decide ((pre.length : Int) < es.length) = true := by rw [hpre]; simp; omega
      have hidx : indexAddrV 6 v' (.int .i64 pre.length) = some (.vp e.cells) := by
        obtain ⟨cs, rfl, hcs⟩ := he.agg
        exact IsSl.idx (e := .agg cs) (hpre ▸ hs) hcs
      have heD := he
      obtain ⟨pv, ps, tk, tn, ta, n, rfl, hp, ht⟩ := he.ex
      obtain ⟨r, hr1, hr2, hr3⟩ := pure47 n _ ht
      obtain ⟨rk, rn, rv, res, rfl, _⟩ := hr2.names
      have hrv : V.one rv = true := hr2.one3
      cases (show rk = tk from hr3.1)
      cases (show rn = tn from hr3.2)
      -- the parameters, once more
      obtain ⟨pv', σ1, p1, p2, p3⟩ := Grow.append (n0 := σ.next) (σ := σ) (size := 1) (bytes := 16) (.full []) (Nat.le_refl _) hp.ex (by simpa using hp.len) (by omega) (fun x hx => by cases hx) (fun x hx => by obtain ⟨y, _, rfl⟩ := List.mem_map.1 hx; rfl)
      rw [List.nil_append] at p2
      have hnew : IsDef (.agg [.str d.name, pv', .int .i64 tk, .str tn, rv, .bool d.alias]) d := ⟨pv', ps, tk, tn, rv, n, rfl, ⟨p2.isSl, hp.len⟩, hr2⟩
      have hw : wrapI .i64 ((pre.length : Int) + 1) = ((pre ++ [V.agg [.str d.name, pv, .int .i64 tk, .str tn, ta, .bool d.alias]]).length : Int) := by
        rw [wrap64 (by omega)]; simp
      have hol : os.length = pre.length := by rw [ho.len, h1.len]
      obtain ⟨ov', σ', g1, g2, _⟩ := (hg.fresh p3).append (y := .sl .full [.agg [.str d.name, pv', .int .i64 tk, .str tn, rv, .bool d.alias]]) (new := [.agg [.str d.name, pv', .int .i64 tk, .str tn, rv, .bool d.alias]]) (size := 6) (bytes := 96) (Nat.zero_le _) (.sl _ _) (by simp; omega) (by omega)
        (fun x hx => by
          obtain ⟨y, _, hxy⟩ := ho.mem_left x hx
          obtain ⟨c, rfl, hc⟩ := hxy.agg; exact hc) (fun x hx => by rw [List.mem_singleton] at hx; rw [hx]; rfl)
      generalize hcs : [V.str d.name, pv, .int .i64 tk, .str tn, ta, .bool d.alias] = cs at *
      have hf0 : fieldAddrV 0 (.vp cs) = some (.vp cs) := by subst hcs; rfl
      have hf1 : fieldAddrV 1 (.vp cs) = some (.vp [pv, .int .i64 tk, .str tn, ta, .bool d.alias]) := by subst hcs; rfl
      have hf2 : fieldAddrV 2 (.vp cs) = some (.vp [.int .i64 tk, .str tn, ta, .bool d.alias]) := by subst hcs; rfl
      have hf5 : fieldAddrV 5 (.vp cs) = some (.vp [.bool d.alias]) := by subst hcs; rfl
      have hl0 : ldV σ none (.vp cs) = some (.str d.name) := by subst hcs; rfl
      have hl1 : ldV σ none (.vp [pv, .int .i64 tk, .str tn, ta, .bool d.alias]) = some pv := rfl
      have hl2 : ldV σ (some 3) (.vp [.int .i64 tk, .str tn, ta, .bool d.alias]) = some (.agg [.int .i64 tk, .str tn, ta]) := rfl
      have hl5 : ldV σ none (.vp [.bool d.alias]) = some (.bool d.alias) := rfl
      have hem : fillD 1 (List.replicate 0 (.str [])) [] = some [] := rfl
      have hfill : fillC [V.str [], .nsl, .int .i64 0, .str [], .nsl, .bool false] [(0, 1, .str d.name), (1, 1, pv'), (2, 3, .agg [.int .i64 tk, .str tn, rv]), (5, 1, .bool d.alias)] = some [.str d.name, pv', .int .i64 tk, .str tn, rv, .bool d.alias] := by
        simp [hrv, p2.isSl.one, p2.isSl.cells]
      have hone : [V.str d.name, pv', .int .i64 tk, .str tn, rv, .bool d.alias].all V.one = true := by simp [hrv, p2.isSl.one]
      obtain ⟨r, es', σ2, q1, q2, q3⟩ := ih2 brest (pre ++ [V.agg cs]) (bpre ++ [d]) ov' _ σ' (by rw [hpre]; simp) (by rw [hb]; simp) (h1.append (.cons heD .nil)) h2 g2 (ho.append (.cons hnew .nil))
      refine ⟨r, es', σ2, ?_, q2, q3⟩
      rw [L27_0_eq]
      iterate 4 (try simp only [hs.len, binV_int, intBin_lss, Option.bind_some, hlt, condV_t, hidx, V.cells_agg, hf0, hf1, hf2, hf5, hl0, hl1, hl2, hl5, noteV_vp, hem, p1, bind2_some, passK_nil, hr1, hfill, fillD_one (n := 6) (cs := [V.str d.name, pv', .int .i64 tk, .str tn, rv, .bool d.alias]) rfl hone, g1, intBin_add, hw])
      exact q1
  obtain ⟨r, es', σ', q1, q2, q3⟩ := loop es ds [] [] .nsl [] .empty rfl rfl .nil hall .nsl .nil
  have hr : IsDefs r ds := ⟨⟨es', q2, q3⟩, hl⟩
  obtain ⟨r', p1, p2⟩ := hr.pure
  refine ⟨r', callPure_of (vs' := [v']) (by simp only [V.pures, hv1]) (v := r) (σ := σ') ?_ p1, p2⟩
  rw [D27_eq]
  exact q1

theorem pure25 {v : V} {ds : List DefL} (h : IsDefs v ds) : ∃ b, callPure (D ft) 25 [v] = some (.bool b) := by
  obtain ⟨v', hv1, ⟨es, hs, hall⟩, hl⟩ := h.pure
  have hesl := hall.len
  have loop : ∀ (rest pre : List V), es = pre ++ rest → ∃ b, L25_0 v' (.int .i64 pre.length) .empty = some (.ret (.bool b), .empty) := by
    intro rest
    induction rest with
    | nil =>
      intro pre hpre
      have hlt : decide ((pre.length : Int) < es.length) = false := by rw [hpre]; simp
      exact ⟨true, by rw [L25_0_eq]; iterate 3 (try simp only [hs.len, binV_int, intBin_lss, Option.bind_some, hlt, condV_f])⟩
    | cons e rest ih2 =>
      intro pre hpre
      have hlen2 : es.length = pre.length + (rest.length + 1) := by rw [hpre]; simp
      have hlt : decide ((pre.length : Int) < es.length) = true := by rw [hpre]; simp; omega
      have he : e ∈ es := by rw [hpre]; simp
      obtain ⟨d, _, hd⟩ := hall.mem_left e he
      have hidx : indexAddrV 6 v' (.int .i64 pre.length) = some (.vp e.cells) := by
        obtain ⟨cs, rfl, hcs⟩ := hd.agg
        exact IsSl.idx (e := .agg cs) (hpre ▸ hs) hcs
      obtain ⟨pv, ps, tk, tn, ta, n, rfl, hp, ht⟩ := hd.ex
      obtain ⟨x, hx⟩ := pure10 n _ ht
      have hw : wrapI .i64 ((pre.length : Int) + 1) = ((pre ++ [V.agg [.str d.name, pv, .int .i64 tk, .str tn, ta, .bool d.alias]]).length : Int) := by
        rw [wrap64 (by omega)]; simp
      have hih := ih2 (pre ++ [V.agg [.str d.name, pv, .int .i64 tk, .str tn, ta, .bool d.alias]]) (by rw [hpre]; simp)
      generalize hcs : [V.str d.name, pv, .int .i64 tk, .str tn, ta, .bool d.alias] = cs at *
      have hf1 : fieldAddrV 1 (.vp cs) = some (.vp [pv, .int .i64 tk, .str tn, ta, .bool d.alias]) := by subst hcs; rfl
      have hf2 : fieldAddrV 2 (.vp cs) = some (.vp [.int .i64 tk, .str tn, ta, .bool d.alias]) := by subst hcs; rfl
      have hl1 : ldV .empty none (.vp [pv, .int .i64 tk, .str tn, ta, .bool d.alias]) = some pv := rfl
      have hl2 : ldV .empty (some 3) (.vp [.int .i64 tk, .str tn, ta, .bool d.alias]) = some (.agg [.int .i64 tk, .str tn, ta]) := rfl
      rw [L25_0_eq]
      iterate 4 (try simp only [hs.len, binV_int, intBin_lss, intBin_gtr, Option.bind_some, hlt, condV_t, hidx, V.cells_agg, hf2, hl2, hx, intBin_add, hw])
      cases decide (20 < x) with
      | true => exact ⟨false, by iterate 4 (try simp only [gd_tf, Option.bind_some, gd_u, pickS_t, condV_t])⟩
      | false =>
        iterate 4 (try simp only [gd_ff, Option.bind_some, hidx, V.cells_agg, hf1, hl1, hp.ex.len, binV_int, intBin_gtr, pickS_f])
        cases decide ((10 : Int) < (List.map V.str ps).length) with
        | true => exact ⟨false, rfl⟩
        | false => exact hih
  obtain ⟨b, hb⟩ := loop es [] rfl
  by_cases hlong : (20 : Int) < es.length
  · refine ⟨false, callPure_of (vs' := [v']) (by simp only [V.pures, hv1]) (v := .bool false) (σ := .empty) ?_ rfl⟩
    rw [D25_eq]
    iterate 3 (try simp only [hs.len, Option.bind_some, binV_int, intBin_gtr, hlong, decide_true, condV_t])
  · refine ⟨b, callPure_of (vs' := [v']) (by simp only [V.pures, hv1]) (v := .bool b) (σ := .empty) ?_ rfl⟩
    rw [D25_eq]
    iterate 3 (try simp only [hs.len, Option.bind_some, binV_int, intBin_gtr, hlong, decide_false, condV_f])
    exact hb


theorem pure26 {v : V} {es : List V} {m : Nat} (h : IsTyps m v es) : ∃ b, callPure (D ft) 26 [v] = some (.bool b) ∧ (b = true → es.length ≤ 10) := by
  obtain ⟨v', es', hv1, hv, hee⟩ := h.pure
  have hs := hv.ex
  have hl := hv.len
  have loop : ∀ (rest pre : List V), es' = pre ++ rest → ∃ b, L26_0 v' (.int .i64 pre.length) .empty = some (.ret (.bool b), .empty) := by
    intro rest
    induction rest with
    | nil =>
      intro pre hpre
      have hlt : decide ((pre.length : Int) < es'.length) = false := by rw [hpre]; simp
      exact ⟨true, by rw [L26_0_eq]; iterate 3 (try simp only [hs.len, binV_int, intBin_lss, Option.bind_some, hlt, condV_f])⟩
    | cons e rest ih2 =>
      intro pre hpre
      have hlen2 : es'.length = pre.length + (rest.length + 1) := by rw [hpre]; simp
      have hlt : decide ((pre.length : Int) < es'.length) = true := by rw [hpre]; simp; omega
      have he : e ∈ es' := by rw [hpre]; simp
      obtain ⟨x, hx⟩ := pure10 m e (hv.all e he)
      obtain ⟨cs, rfl, hcs⟩ := (hv.all e he).agg
      have hidx : indexAddrV 3 v' (.int .i64 pre.length) = some (.vp cs) := IsSl.idx (e := .agg cs) (hpre ▸ hs) hcs
      have hw : wrapI .i64 ((pre.length : Int) + 1) = ((pre ++ [V.agg cs]).length : Int) := by
        rw [wrap64 (by omega)]; simp
      have hih := ih2 (pre ++ [V.agg cs]) (by rw [hpre]; simp)
      rw [L26_0_eq]
      iterate 4 (try simp only [hs.len, binV_int, intBin_lss, intBin_gtr, Option.bind_some, hlt, condV_t, hidx, ldV_vp, part_all hcs, hx, intBin_add, hw])
      cases decide (40 < x) with
      | true => exact ⟨false, rfl⟩
      | false => exact hih
  obtain ⟨b, hb⟩ := loop es' [] rfl
  by_cases hlong : (10 : Int) < es'.length
  · refine ⟨false, callPure_of (vs' := [v']) (by simp only [V.pures, hv1]) (v := .bool false) (σ := .empty) ?_ rfl, fun h => by cases h⟩
    rw [D26_eq]
    iterate 3 (try simp only [hs.len, Option.bind_some, binV_int, intBin_gtr, hlong, decide_true, condV_t])
  · refine ⟨b, callPure_of (vs' := [v']) (by simp only [V.pures, hv1]) (v := .bool b) (σ := .empty) ?_ rfl, fun _ => by omega⟩
    rw [D26_eq]
    iterate 3 (try simp only [hs.len, Option.bind_some, binV_int, intBin_gtr, hlong, decide_false, condV_f])
    exact hb

/-- A row of types of the document as the program's: always the same ones. -/
theorem big29 {v : V} {es : List V} {m : Nat} (h : IsTyps m v es) : ∃ rs, rs.length = es.length ∧ (∀ r ∈ rs, IsTyp m r) ∧ ∀ σ, ∃ v' σ', D ft 29 [v] σ = some (.ret v', σ') ∧ Grow σ.next σ' v' rs ∧ Keep (fun b => σ.next ≤ b) σ σ' := by
  obtain ⟨rs, hrs⟩ := all2_of (P := fun e r => callPure (D ft) 47 [e] = some r ∧ IsTyp m r) (es := es) fun e he => by
    obtain ⟨r, h1, h2, _⟩ := pure47 m e (h.all e he)
    exact ⟨r, h1, h2⟩
  have hs := h.ex
  have hl := h.len
  have loop : ∀ (n0 : Nat) (rest rrest pre rpre : List V) (ov : V) (σ : Sto), es = pre ++ rest → All2 (fun e r => callPure (D ft) 47 [e] = some r ∧ IsTyp m r) rest rrest → rpre.length = pre.length → (∀ r ∈ rpre, IsTyp m r) → Grow n0 σ ov rpre → n0 ≤ σ.next →
      ∃ v' σ', L29_0 v ov (.int .i64 pre.length) σ = some (.ret v', σ') ∧ Grow n0 σ' v' (rpre ++ rrest) ∧ Keep (fun b => n0 ≤ b) σ σ' := by
    intro n0 rest
    induction rest with
    | nil =>
      intro rrest pre rpre ov σ hpre h2 hrl hra hg h0
      cases h2
      have hlt : decide ((pre.length : Int) < es.length) = false := by rw [hpre]; simp
      refine ⟨ov, σ, ?_, by rw [List.append_nil]; exact hg, Keep.refl _⟩
      rw [L29_0_eq]
      iterate 3 (try simp only [hs.len, binV_int, intBin_lss, Option.bind_some, hlt, condV_f])
    | cons e rest ih2 =>
      intro rrest pre rpre ov σ hpre h2 hrl hra hg h0
      cases h2 with
      | @cons _ r _ rrest he h2 =>
      obtain ⟨hr1, hr2⟩ := he
      have hlen2 : es.length = pre.length + (rest.length + 1) := by rw [hpre]; simp
      have hlt : decide ((pre.length : Int) < es.length) = true := by rw [hpre]; simp; omega
      have hem : e ∈ es := by rw [hpre]; simp
      obtain ⟨cs, rfl, hcs⟩ := (h.all e hem).agg
      obtain ⟨cr, rfl, hcr⟩ := hr2.agg
      have hidx : indexAddrV 3 v (.int .i64 pre.length) = some (.vp cs) := IsSl.idx (e := .agg cs) (hpre ▸ hs) hcs
      have hw : wrapI .i64 ((pre.length : Int) + 1) = ((pre ++ [V.agg cs]).length : Int) := by
        rw [wrap64 (by omega)]; simp
      obtain ⟨ov', σ1, g1, g2, g3⟩ := hg.append (y := .sl .full [.agg cr]) (new := [.agg cr]) (size := 3) (bytes := 48) h0 (.sl _ _) (by simp; omega) (by omega)
        (fun x hx => by obtain ⟨c, rfl, hc⟩ := (hra x hx).agg; exact hc) (fun x hx => by rw [List.mem_singleton] at hx; rw [hx]; exact hcr)
      obtain ⟨v', σ2, q1, q2, q3⟩ := ih2 rrest (pre ++ [V.agg cs]) (rpre ++ [.agg cr]) ov' σ1 (by rw [hpre]; simp) h2 (by simp [hrl]) (fun o hm => by
        rcases List.mem_append.1 hm with hm | hm
        · exact hra o hm
        · rw [List.mem_singleton] at hm; rw [hm]; exact hr2) g2 (Nat.le_trans h0 g3.next)
      refine ⟨v', σ2, ?_, by simpa using q2, g3.trans q3⟩
      rw [L29_0_eq]
      iterate 3 (try simp only [hs.len, binV_int, intBin_lss, Option.bind_some, hlt, condV_t, hidx, ldV_vp, part_all hcs, hr1, fillD_one hcr hr2.ones, g1, bind2_some, intBin_add, hw])
      exact q1
  refine ⟨rs, hrs.len.symm, fun r hr => ?_, fun σ => ?_⟩
  · obtain ⟨e, _, h⟩ := hrs.mem_right r hr
    exact h.2
  · obtain ⟨v', σ', q1, q2, q3⟩ := loop σ.next es rs [] [] .nsl σ rfl hrs rfl (fun r h => by cases h) .nsl (Nat.le_refl _)
    refine ⟨v', σ', ?_, by simpa using q2, q3⟩
    rw [D29_eq]
    exact q1

end Go.Eng
