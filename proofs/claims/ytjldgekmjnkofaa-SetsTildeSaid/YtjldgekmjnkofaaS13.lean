/- The laws of what constraints let in: SetsTilde. -/
import Derived.Test.YtjldgekmjnkofaaS11
set_option linter.unusedVariables false
set_option linter.unusedSimpArgs false
namespace Go.Eng
open Go

theorem right_one {b : Bool} {n : List UInt8} : rightB ⟨false, false, [⟨b, n⟩]⟩ = basicB n := by
  unfold rightB
  show ((b2i false + b2i false + b2i (decide (0 < 1)) == 1) && (basicB n && true)) = _
  rw [Bool.and_true]
  rfl

theorem within_one {b : Bool} {n : List UInt8} {t : Trm} : withinB [⟨b, n⟩] t = (n == t.name && (b || !t.tilde)) := by
  simp [withinB]

/-- What a union of one term lets in, where no parameter is known. -/
theorem lets_one {a : Asked} {b : Bool} {n : List UInt8} (ho : a.own = none) (h : letsB a ⟨false, false, [⟨b, n⟩]⟩ = true) : a.kind ≠ 0 ∧ a.kind ≠ 4 ∧ a.bk = 1 ∧ basicB n = true ∧ n = a.bn ∧ (b = true ∨ a.kind = 1) := by
  obtain ⟨hr, hg⟩ := lets_guard h
  rw [lets_of hr hg] at h
  rw [right_one] at hr
  unfold guardB at hg
  rw [ho] at hg
  have hk0 : a.kind ≠ 0 := fun e => by rw [e] at hg; simp at hg
  have hk4 : a.kind ≠ 4 := fun e => by rw [e] at hg; simp at hg
  simp only [Bool.false_eq_true, if_false, decide_eq_true_eq, hk4, within_one, Bool.and_eq_true, beq_iff_eq, Bool.or_eq_true, Bool.not_not] at h
  exact ⟨hk0, hk4, h.1, hr, h.2.1, h.2.2⟩

theorem lets_one_of {a : Asked} {b : Bool} {n : List UInt8} (ho : a.own = none) (h0 : a.kind ≠ 0) (h4 : a.kind ≠ 4) (h1 : a.bk = 1) (hn : basicB n = true) (he : n = a.bn) (hb : b = true ∨ a.kind = 1) : letsB a ⟨false, false, [⟨b, n⟩]⟩ = true := by
  have hg : guardB a = false := by
    unfold guardB
    simp [h0, h4]
  rw [lets_of (by rw [right_one]; exact hn) hg]
  simp only [Bool.false_eq_true, if_false, decide_eq_true_eq, h4, within_one, Bool.and_eq_true, beq_iff_eq, Bool.or_eq_true, Bool.not_not]
  exact ⟨h1, he, hb⟩

theorem isSet_one (b : Bool) (n : List UInt8) : IsSet (.agg [.bool false, .bool false, .sl .full [.agg [.bool b, .str n]]]) ⟨false, false, [⟨b, n⟩]⟩ := ⟨⟨_, rfl, .sl _ _⟩, by simp⟩

theorem isScope_nil : IsScope .nsl [] := ⟨⟨[], .nsl, .nil⟩, by simp⟩

theorem law4 {x0 : V} {ds : List DefL} {k : Int} {nm : List UInt8} {sv : V} {n : Nat} {name : List UInt8} (h0 : IsDefs x0 ds) (ht : IsTyp n (.agg [.int .i64 k, .str nm, sv])) :
    ∃ σ', D ft 4 [x0, .agg [.int .i64 k, .str nm, sv], .str name] .empty = some (.ret (.bool true), σ') := by
  have hz3 : [V.int .i64 0, .str [], .nsl].length = 3 := rfl
  obtain ⟨lb, hlb⟩ := pure9 h0
  obtain ⟨sz, hsz⟩ := pure10 n _ ht
  have hone := ht.ones
  have hp1 : part [V.int .i64 k, .str nm, sv] 0 (some 3) = some (.agg [.int .i64 k, .str nm, sv]) := rfl
  obtain ⟨dv, hd1, hd2⟩ := pure11 h0
  obtain ⟨t, ht1, ht2, hh⟩ := pure13 n _ ht
  obtain ⟨ct, rfl, hct⟩ := ht2.agg
  have hot := ht2.ones
  have hpct : part ct 0 (some 3) = some (.agg ct) := part_all hct
  obtain ⟨A, hA, hhead, hbk⟩ := asked_of (bv := .nsl) (bs := []) hd2 ht2
  have hown : A.own = none := by
    obtain ⟨_, _, _, _, _, _, _, ⟨nm', _, h⟩, _⟩ := hA
    rw [h]; rfl
  have hlets : ∀ b : Bool, callPure (D ft) 15 [dv, .nsl, .agg [.bool false, .bool false, .sl .full [.agg [.bool b, .str name]]], .agg ct] = some (.bool (letsB A ⟨false, false, [⟨b, name⟩]⟩)) := fun b => pure15 hd2 isScope_nil ht2 (isSet_one b name) hA
  have hal := pure17 h0 nm
  -- the head of the type
  have hkk : kindOf (.agg ct) = k := hh.1
  have hnn : nmOf (.agg ct) = nm := hh.2
  have hd : A.kind = 0 ∨ A.kind = k ∨ (k = 3 ∧ aliasB ds nm = true) := by
    unfold HeadOk at hhead
    rw [hkk, hnn] at hhead
    exact hhead
  -- the plain laws
  have p1 : letsB A ⟨false, false, [⟨false, name⟩]⟩ = true → letsB A ⟨false, false, [⟨true, name⟩]⟩ = true := fun h => by
    obtain ⟨q1, q2, q3, q4, q5, _⟩ := lets_one hown h
    exact lets_one_of hown q1 q2 q3 q4 q5 (Or.inl rfl)
  have p2 : letsB A ⟨false, false, [⟨false, name⟩]⟩ = true → k = 3 → aliasB ds nm = true := fun h hk => by
    obtain ⟨q1, q2, q3, q4, q5, q6⟩ := lets_one hown h
    have q7 : A.kind = 1 := q6.resolve_left (by simp)
    rcases hd with h | h | h
    · omega
    · omega
    · exact h.2
  have p3 : letsB A ⟨false, false, [⟨true, name⟩]⟩ = true → k ≠ 5 ∧ k ≠ 6 ∧ k ≠ 2 := fun h => by
    obtain ⟨q1, q2, q3, q4, q5, q6⟩ := lets_one hown h
    rcases hd with h | h | h
    · exact absurd h q1
    · refine ⟨fun e => ?_, fun e => ?_, fun e => ?_⟩ <;> (have := hbk (by omega); omega)
    · omega
  have e1 : fillC [V.bool false, .str []] [(1, 1, .str name)] = some [.bool false, .str name] := rfl
  have e2 : fillC [V.bool false, .str []] [(0, 1, .bool true), (1, 1, .str name)] = some [.bool true, .str name] := rfl
  have e3 : ∀ b : Bool, fillD 2 (List.replicate 1 (.agg [V.bool false, .str []])) [(0, .agg [.bool b, .str name])] = some [.agg [.bool b, .str name]] := fun _ => rfl
  have e4 : ∀ b : Bool, fillC [V.bool false, .bool false, .nsl] [(2, 1, .sl .full [.agg [.bool b, .str name]])] = some [.bool false, .bool false, .sl .full [.agg [.bool b, .str name]]] := fun _ => rfl
  rw [D4_eq]
  refine ⟨.empty, ?_⟩
  iterate 4 (try simp only [boxC_all hone, Option.bind_some, hlb, notV_bool])
  cases lb with
  | false => iterate 5 (try simp only [Bool.not_false, gd_tf, gd_u, Option.bind_some, pickS_t, chkB_b, condV_t])
  | true =>
    iterate 4 (try simp only [Bool.not_true, gd_ff, Option.bind_some, hp1, hsz, binV_int, intBin_gtr, pickS_f, chkB_b])
    cases decide ((60 : Int) < sz) with
    | true => iterate 5 (try simp only [gd_tf, gd_u, Option.bind_some, pickS_t, chkB_b, condV_t])
    | false =>
      iterate 4 (try simp only [gd_ff, Option.bind_some, lenV_str, binV_int, intBin_gtr, pickS_f, chkB_b])
      cases decide ((20 : Int) < name.length) with
      | true => rfl
      | false =>
        iterate 4 (try simp only [condV_f, hd1, Option.bind_some, hp1, ht1, stC_all hct hz3 hot, e1, e2, e3, e4, hpct, hlets])
        generalize hb : letsB A ⟨false, false, [⟨true, name⟩]⟩ = b at *
        generalize ha : letsB A ⟨false, false, [⟨false, name⟩]⟩ = a at *
        have hk2 : decide (k = 3) = true → a = true → aliasB ds nm = true := fun h ha => p2 ha (by simpa using h)
        have hk5 : b = true → decide (k = 5) = false ∧ decide (k = 6) = false ∧ decide (k = 2) = false := fun h => by
          obtain ⟨q1, q2, q3⟩ := p3 h
          simp [q1, q2, q3]
        generalize hK3 : decide (k = 3) = K3 at *
        generalize hK5 : decide (k = 5) = K5 at *
        generalize hK6 : decide (k = 6) = K6 at *
        generalize hK2 : decide (k = 2) = K2 at *
        generalize aliasB ds nm = AL at *
        cases a with
        | true =>
          cases b with
          | false => cases p1 rfl
          | true =>
            obtain ⟨q1, q2, q3⟩ := hk5 rfl
            subst q1 q2 q3
            cases K3 with
            | true =>
              have q := hk2 rfl rfl
              subst q
              iterate 6 (try simp only [gd_tt, gd_ff, gd_tf, gd_ft, gd_u, Option.bind_some, notV_bool, Bool.not_true, Bool.not_false, chkB_b, chkB_u, part_none, List.getElem?_cons_zero, List.getElem?_cons_succ, binV_int, intBin_eql, intBin_neq, hK3, hK5, hK6, hK2, hal, pickS_t, pickS_f, condV_t, condV_f, awake16])
            | false =>
              iterate 6 (try simp only [gd_tt, gd_ff, gd_tf, gd_ft, gd_u, Option.bind_some, notV_bool, Bool.not_true, Bool.not_false, chkB_b, chkB_u, part_none, List.getElem?_cons_zero, List.getElem?_cons_succ, binV_int, intBin_eql, intBin_neq, hK3, hK5, hK6, hK2, hal, pickS_t, pickS_f, condV_t, condV_f, awake16])
        | false =>
          cases b with
          | true =>
            obtain ⟨q1, q2, q3⟩ := hk5 rfl
            subst q1 q2 q3
            iterate 6 (try simp only [gd_tt, gd_ff, gd_tf, gd_ft, gd_u, Option.bind_some, notV_bool, Bool.not_true, Bool.not_false, chkB_b, chkB_u, part_none, List.getElem?_cons_zero, List.getElem?_cons_succ, binV_int, intBin_eql, intBin_neq, hK3, hK5, hK6, hK2, hal, pickS_t, pickS_f, condV_t, condV_f, awake16])
          | false =>
            iterate 6 (try simp only [gd_tt, gd_ff, gd_tf, gd_ft, gd_u, Option.bind_some, notV_bool, Bool.not_true, Bool.not_false, chkB_b, chkB_u, part_none, List.getElem?_cons_zero, List.getElem?_cons_succ, binV_int, intBin_eql, intBin_neq, hK3, hK5, hK6, hK2, hal, pickS_t, pickS_f, condV_t, condV_f, awake16])

end Go.Eng
