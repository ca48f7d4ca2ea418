/- A search: what it comes to, and that one pair of a basic type and itself more changes nothing. -/
import Derived.Test.YtjldgekmjnkofaaU9
set_option linter.unusedVariables false
set_option linter.unusedSimpArgs false
namespace Go.Eng
open Go

section
variable {dv rv : V} {ds : List DefL} {row : List (List UInt8)}

theorem IsDefs.one (h : IsDefs dv ds) : V.one dv = true ∧ V.cells dv = [dv] := by
  obtain ⟨es, he, _⟩ := h.ex
  exact ⟨he.one, he.cells⟩

/-- The start: there is a name twice, or a state in which none has a type. -/
theorem start48 (hd : IsDefs dv ds) (hr : IsNames rv row) (h10 : row.length ≤ 10) :
    (∃ σ', D ft 48 [dv, rv, .sl .full (List.replicate row.length zeroT)] .empty = some (.ret (.tup [.nptr, .bool false]), σ') ∧ 2 ≤ row.length) ∨
    ∃ b σ' bys, D ft 48 [dv, rv, .sl .full (List.replicate row.length zeroT)] .empty = some (.ret (.tup [.ptr b 0, .bool true]), σ') ∧ Look σ' b dv rv bys ∧ bys.length = row.length ∧ ∀ e ∈ bys, kindOf e = 0 := by
  obtain ⟨tw, h64, h64'⟩ := pure64 hr h10
  have hlr : lenV .sl .empty rv = some (.int .i64 row.length) := by rw [hr.ex.len]; simp
  have hlz : lenV .sl .empty (.sl .full (List.replicate row.length zeroT)) = some (.int .i64 row.length) := by simp
  have heq : decide ((row.length : Int) = row.length) = true := by simp
  cases tw with
  | true =>
    refine Or.inl ⟨.empty, ?_, ?_⟩
    · rw [D48_eq]
      iterate 5 (try simp only [hlr, hlz, Option.bind_some, binV_int, intBin_neq, decide_true, Bool.not_true, gd_ff, h64, pickS_f, condV_t])
    · rcases Nat.lt_or_ge row.length 2 with h | h
      · have := h64' (by omega); cases this
      · exact h
  | false =>
    have hfill : fillC [V.nsl, .nsl, .nsl] [(0, 1, dv), (1, 1, rv), (2, 1, .nsl)] = some [dv, rv, .nsl] := by
      simp [hd.one.1, hd.one.2, hr.ex.one, hr.ex.cells]
    have hbox : boxN 3 (.agg [dv, rv, .nsl]) = some [dv, rv, .nsl] := boxN_all rfl (by simp [hd.one.1, hr.ex.one])
    have hlook : Look (Sto.empty.alloc (.cells [dv, rv, .nsl])) Sto.empty.next dv rv [] := ⟨⟨.nsl, Sto.blk_next _ _, Or.inl ⟨rfl, rfl⟩⟩, fun e he => by cases he⟩
    obtain ⟨σ', bys', g1, g2, g3, g4⟩ := loop48 (zv := .sl .full (List.replicate row.length zeroT)) (b := Sto.empty.next) hd (.sl _ _) (fun z hz => by
      rw [List.mem_replicate] at hz
      rw [hz.2]
      exact ⟨⟨1, isTyp_no⟩, rfl⟩) (by simpa using h10) hr.ex.one (List.replicate row.length zeroT) [] _ [] rfl hlook rfl (fun e he => by cases he)
    refine Or.inr ⟨Sto.empty.next, σ', bys', ?_, g2, by simpa using g3, g4⟩
    rw [List.length_replicate] at g1
    have hlz2 : lenV .sl (Sto.empty.alloc (.cells [dv, rv, .nsl])) (.sl .full (List.replicate row.length zeroT)) = some (.int .i64 row.length) := by simp
    rw [D48_eq]
    iterate 6 (try simp only [hlr, hlz, hlz2, Option.bind_some, binV_int, intBin_neq, decide_true, Bool.not_true, gd_ff, h64, pickS_f, condV_f, hfill, hbox, alS_eq])
    exact g1

theorem mk28 (n : Nat) (h : n ≤ 10) : (mkSlV 3 48 (V.agg [.int .i64 0, .str [], .nsl]) false .empty (.int .i64 n)).map (·.1) = some (.sl .full (List.replicate n zeroT)) := by
  unfold mkSlV
  simp only
  rw [if_pos ⟨by omega, by simp; omega, by omega, rfl⟩]
  simp [zeroT]

/-- What a search comes to; one pair of a basic type and itself more changes nothing, and with another one nothing is found. -/
theorem find28 (hd : IsDefs dv ds) (hr : IsNames rv row) (h10 : row.length ≤ 10) {P T : List V} (hP : ∀ e ∈ P, ∃ n, IsTyp n e) (hT : ∀ e ∈ T, ∃ n, IsTyp n e) (hl : T.length + 1 ≤ 140737488355328) (hl2 : P.length + 1 ≤ 140737488355328) :
    (P.length ≠ T.length → ∀ pv tv, IsSl pv P → IsSl tv T → ∃ σ', D ft 28 [dv, rv, pv, tv] .empty = some (.ret lost, σ')) ∧
    (P.length = T.length → ∃ v σ', Found row v σ' ∧ (∀ pv tv, IsSl pv P → IsSl tv T → D ft 28 [dv, rv, pv, tv] .empty = some (.ret v, σ')) ∧
      ∀ (x y : List UInt8) (r : Bool), callPure (D ft) 32 [basicT' x, basicT' y] = some (.bool r) → ∀ pv tv, IsSl pv (P ++ [basicT' x]) → IsSl tv (T ++ [basicT' y]) → ∃ σ2, D ft 28 [dv, rv, pv, tv] .empty = some (.ret (if r = true then v else lost), σ2) ∧ (r = true → σ2 = σ')) := by
  have hlr : lenV .sl .empty rv = some (.int .i64 row.length) := by rw [hr.ex.len]; simp
  have hmk := mk28 row.length h10
  rcases start48 hd hr h10 with ⟨σ1, h48, _⟩ | ⟨b, σ1, bys, h48, hst, hby, hk⟩
  · have none28 : ∀ pv tv, D ft 28 [dv, rv, pv, tv] .empty = some (.ret lost, σ1) := fun pv tv => by
      rw [D28_eq]
      iterate 6 (try simp only [hlr, hmk, Option.bind_some, h48, bindR_ret, extractV_tup, List.getElem?_cons_zero, List.getElem?_cons_succ, notV_bool, Bool.not_false, gd_tf, pickS_t, condV_t, lost])
    exact ⟨fun _ pv tv _ _ => ⟨σ1, none28 pv tv⟩, fun _ => ⟨lost, σ1, Or.inl rfl, fun pv tv _ _ => none28 pv tv, fun x y r _ pv tv _ _ => ⟨σ1, by rw [none28]; split <;> rfl, fun _ => rfl⟩⟩⟩
  · have to28 : ∀ (pv tv : V) (PE TF : List V), IsSl pv PE → IsSl tv TF → D ft 28 [dv, rv, pv, tv] .empty = if PE.length = TF.length then L28_0 pv tv (.ptr b 0) tv (.int .i64 TF.length) (.int .i64 ((0 : Nat) : Int)) σ1 else some (.ret lost, σ1) := fun pv tv PE TF hp ht => by
      rw [D28_eq]
      iterate 6 (try simp only [hlr, hmk, Option.bind_some, h48, bindR_ret, extractV_tup, List.getElem?_cons_zero, List.getElem?_cons_succ, notV_bool, Bool.not_true, gd_ff, hp.len, ht.len, binV_int, intBin_neq, pickS_f])
      by_cases h : PE.length = TF.length
      · have hd : decide ((PE.length : Int) = TF.length) = true := by simp; omega
        rw [if_pos h, hd]
        rfl
      · have hd : decide ((PE.length : Int) = TF.length) = false := by simp; omega
        rw [if_neg h, hd]
        rfl
    refine ⟨fun hne pv tv hp ht => ⟨σ1, by rw [to28 pv tv P T hp ht, if_neg hne]⟩, fun hlen => ?_⟩
    obtain ⟨stop, σ2, bys2, g1, g2, g3⟩ := loop28 hd hr hlen hP hT T.length 0 (by omega) σ1 bys hst hby
    cases stop with
    | true =>
      refine ⟨lost, σ2, Or.inl rfl, fun pv tv hp ht => ?_, fun x y r h32 pv tv hp ht => ⟨σ2, ?_, fun _ => rfl⟩⟩
      · have := g3 [] [] pv tv (by simpa using hp) (by simpa using ht) (by simp; omega)
        rw [List.append_nil] at this
        rw [to28 pv tv P T hp ht, if_pos hlen, this]; rfl
      · have := g3 _ _ pv tv hp ht (by simp; omega)
        rw [to28 pv tv _ _ hp ht, if_pos (by simp [hlen]), this, if_pos rfl]
        cases r <;> rfl
    | false =>
      obtain ⟨v, σ3, w1, w2⟩ := end28 hr hlen hP hT hl g1 (g2.trans hby) h10
      refine ⟨v, σ3, w1, fun pv tv hp ht => ?_, fun x y r h32 pv tv hp ht => ?_⟩
      · have h1 := g3 [] [] pv tv (by simpa using hp) (by simpa using ht) (by simp; omega)
        have h2 := w2 [] [] pv tv (Or.inl ⟨rfl, rfl⟩) (by simpa using hp) (by simpa using ht) T.length (by simp)
        rw [List.append_nil] at h1 h2
        rw [to28 pv tv P T hp ht, if_pos hlen, h1, if_neg (by simp)]
        exact h2
      · have h1 := g3 _ _ pv tv hp ht (by simp; omega)
        have hm := more28 hd hr h32 hlen hl hp ht g1
        rw [to28 pv tv _ _ hp ht, if_pos (by simp [hlen]), h1, if_neg (by simp), hm]
        cases r with
        | true =>
          have h2 := w2 _ _ pv tv (Or.inr ⟨x, y, rfl, rfl⟩) hp ht (T.length + 1) (by simp)
          exact ⟨σ3, by rw [if_pos rfl, if_pos rfl]; exact h2, fun _ => rfl⟩
        | false => exact ⟨σ2, by rw [if_neg (by simp), if_neg (by simp)], fun h => by cases h⟩

end

/-! ## By itself -/

theorem IsSl.pureOf {v : V} {es es' : List V} (h : IsSl v es) (hp : V.pures es = some es') : ∃ v', v.pure = some v' ∧ IsSl v' es' := by
  cases h with
  | nsl => cases hp; exact ⟨.nsl, rfl, .nsl⟩
  | sl o es => exact ⟨.sl o.pure es', by simp only [V.pure, hp, Option.map_some], .sl _ _⟩

theorem pures_typ {es : List V} (h : ∀ e ∈ es, ∃ n, IsTyp n e) : ∃ es', V.pures es = some es' ∧ es'.length = es.length ∧ ∀ e ∈ es', ∃ n, IsTyp n e := by
  obtain ⟨es', h1, h2⟩ := pures_of (P := fun _ b => ∃ n, IsTyp n b) (es := es) fun e he => by
    obtain ⟨n, hn⟩ := h e he
    obtain ⟨e', h1, h2, _⟩ := hn.pure
    exact ⟨e', h1, n, h2⟩
  refine ⟨es', h1, h2.len.symm, fun e he => ?_⟩
  obtain ⟨_, _, h⟩ := h2.mem_right e he
  exact h

/-- What a search tells. -/
def Told (row : List (List UInt8)) (v : V) : Prop := v = lost ∨ ∃ bv bys, v = .tup [bv, .bool true] ∧ IsSl bv bys ∧ (∀ e ∈ bys, ∃ m, IsTyp m e) ∧ bys.length = row.length

theorem snap_found {row : List (List UInt8)} {v : V} {σ : Sto} (h : Found row v σ) : ∃ v', v.snap σ = some v' ∧ Told row v' := by
  rcases h with rfl | ⟨bv, bys, rfl, h1, h2, h3, _⟩
  · exact ⟨lost, rfl, Or.inl rfl⟩
  · obtain ⟨es', q1, q2, q3⟩ := pures_typ h2
    rcases h1 with ⟨rfl, rfl⟩ | ⟨bb, hrow⟩
    · exact ⟨.tup [.nsl, .bool true], rfl, Or.inr ⟨.nsl, [], rfl, .nsl, h2, h3⟩⟩
    · have hel := hrow.elems3 fun x hx => by
        obtain ⟨m, hm⟩ := h2 x hx
        obtain ⟨cs, rfl, _⟩ := hm.agg
        exact ⟨cs, rfl⟩
      have hs : bv.snap σ = some (.sl .none es') := by
        rw [hrow.v] at hel ⊢
        simp only [V.snap, hel]
        rw [if_pos ⟨by omega, headOk_of hrow.each⟩, q1]; rfl
      refine ⟨.tup [.sl .none es', .bool true], ?_, Or.inr ⟨_, es', rfl, .sl _ _, q3, q2.trans h3⟩⟩
      simp only [V.snap, V.snaps, hs, V.pure, Option.map_some]

theorem pure28 {dv rv : V} {ds : List DefL} {row : List (List UInt8)} (hd : IsDefs dv ds) (hr : IsNames rv row) (h10 : row.length ≤ 10) {P T : List V} (hP : ∀ e ∈ P, ∃ n, IsTyp n e) (hT : ∀ e ∈ T, ∃ n, IsTyp n e) (hl : T.length + 1 ≤ 140737488355328) (hl2 : P.length + 1 ≤ 140737488355328) :
    (P.length ≠ T.length → ∀ pv tv, IsSl pv P → IsSl tv T → callPure (D ft) 28 [dv, rv, pv, tv] = some lost) ∧
    (P.length = T.length → ∃ v, Told row v ∧ (∀ pv tv, IsSl pv P → IsSl tv T → callPure (D ft) 28 [dv, rv, pv, tv] = some v) ∧
      ∀ (x y : List UInt8) (r : Bool), callPure (D ft) 32 [basicT' x, basicT' y] = some (.bool r) → ∀ pv tv, IsSl pv (P ++ [basicT' x]) → IsSl tv (T ++ [basicT' y]) → callPure (D ft) 28 [dv, rv, pv, tv] = some (if r = true then v else lost)) := by
  obtain ⟨dv', d1, d2⟩ := hd.pure
  obtain ⟨rv', r1, r2⟩ := hr.pure
  obtain ⟨P', p1, p2, p3⟩ := pures_typ hP
  obtain ⟨T', t1, t2, t3⟩ := pures_typ hT
  have hone : ∀ x, V.pures [basicT' x] = some [basicT' x] := fun x => rfl
  obtain ⟨f1, f2⟩ := find28 d2 r2 h10 p3 t3 (by omega) (by omega)
  refine ⟨fun hne pv tv hp ht => ?_, fun hlen => ?_⟩
  · obtain ⟨pv', e1, e2⟩ := hp.pureOf p1
    obtain ⟨tv', e3, e4⟩ := ht.pureOf t1
    obtain ⟨σ', h⟩ := f1 (by omega) pv' tv' e2 e4
    exact callPure_of (vs' := [dv', rv', pv', tv']) (by simp only [V.pures, d1, r1, e1, e3]) h rfl
  · obtain ⟨v, σ', g1, g2, g3⟩ := f2 (by omega)
    obtain ⟨v', s1, s2⟩ := snap_found g1
    refine ⟨v', s2, fun pv tv hp ht => ?_, fun x y r h32 pv tv hp ht => ?_⟩
    · obtain ⟨pv', e1, e2⟩ := hp.pureOf p1
      obtain ⟨tv', e3, e4⟩ := ht.pureOf t1
      exact callPure_snap (vs' := [dv', rv', pv', tv']) (by simp only [V.pures, d1, r1, e1, e3]) (g2 pv' tv' e2 e4) s1
    · obtain ⟨pv', e1, e2⟩ := hp.pureOf (pures_append p1 (hone x))
      obtain ⟨tv', e3, e4⟩ := ht.pureOf (pures_append t1 (hone y))
      obtain ⟨σ2, h, hσ⟩ := g3 x y r h32 pv' tv' e2 e4
      refine callPure_snap (vs' := [dv', rv', pv', tv']) (by simp only [V.pures, d1, r1, e1, e3]) h ?_
      cases r with
      | true => rw [hσ rfl]; exact s1
      | false => rfl

end Go.Eng
