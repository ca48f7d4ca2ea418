/- Types: how many are in one, definitions, what stands behind a type. -/
import Derived.Test.YtjldgekmjnkofaaS5
set_option linter.unusedVariables false
set_option linter.unusedSimpArgs false
namespace Go.Eng
open Go

/-! ## How many -/

theorem pure61 : ∀ (n : Nat) (t : V), IsTyp n t → ∃ k, callPure (D ft) 61 [t] = some (.int .i64 k) := by
  intro n
  induction n with
  | zero => intro t h; exact h.elim
  | succ n ih =>
    intro t h
    obtain ⟨t', ht1, ⟨k, nm, s, es, rfl, hs, hlen, hall⟩, _⟩ := h.pure
    have loop : ∀ (rest pre : List V) (a : Int), es = pre ++ rest → ∃ k, L61_0 (.int .i64 a) s (.int .i64 es.length) (.int .i64 pre.length) .empty = some (.ret (.int .i64 k), .empty) := by
      intro rest
      induction rest with
      | nil =>
        intro pre a hpre
        have hlt : decide ((pre.length : Int) < es.length) = false := by rw [hpre]; simp
        exact ⟨a, by rw [L61_0_eq]; simp only [binV_int, intBin_lss, Option.bind_some, hlt, condV_f]⟩
      | cons e rest ih2 =>
        intro pre a hpre
        have hlt : decide ((pre.length : Int) < es.length) = true := by rw [hpre]; simp; omega
        have he : e ∈ es := by rw [hpre]; simp
        obtain ⟨x, hx⟩ := ih e (hall e he)
        obtain ⟨cs, rfl, hcs⟩ := (hall e he).agg
        have hones := (hall _ he).ones
        have hidx : indexAddrV 3 s (.int .i64 pre.length) = some (.vp cs) := IsSl.idx (e := .agg cs) (hpre ▸ hs) hcs
        have hlen2 : es.length = pre.length + (rest.length + 1) := by rw [hpre]; simp
        have hw : wrapI .i64 ((pre.length : Int) + 1) = ((pre ++ [V.agg cs]).length : Int) := by
          rw [wrap64 (by omega)]; simp
        rw [L61_0_eq]
        simp only [binV_int, intBin_lss, Option.bind_some, hlt, condV_t, hidx, ldV_vp, part_all hcs, stC_all hcs (show [V.int .i64 0, .str [], .nsl].length = 3 from rfl) hones, intBin_leq, hx, intBin_add, J61_1, J61_0, hw]
        cases decide (a ≤ 1000) with
        | true => exact ih2 _ _ (by rw [hpre]; simp)
        | false => exact ih2 _ _ (by rw [hpre]; simp)
    obtain ⟨x, hx⟩ := loop es [] 1 rfl
    refine ⟨x, callPure_of (vs' := [.agg [.int .i64 k, .str nm, s]]) (by simp only [V.pures, ht1]) (v := .int .i64 x) (σ := .empty) ?_ rfl⟩
    rw [D61_eq]
    simp only [boxC_agg, List.all_cons, V.one_int, V.one_str, hs.one, List.all_nil, Bool.and_self, if_true, Option.bind_some, part_none, List.getElem?_cons_succ, List.getElem?_cons_zero, hs.len]
    exact hx

/-! ## Definitions -/

structure DefL where
  name : List UInt8
  alias : Bool

structure IsDef (e : V) (d : DefL) : Prop where
  ex : ∃ pv ps tk tn ta n, e = .agg [.str d.name, pv, .int .i64 tk, .str tn, ta, .bool d.alias] ∧ IsNames pv ps ∧ IsTyp n (.agg [.int .i64 tk, .str tn, ta])

structure IsDefs (v : V) (ds : List DefL) : Prop where
  ex : ∃ es, IsSl v es ∧ All2 IsDef es ds
  len : ds.length * 96 ≤ 140737488355328

theorem IsDef.agg {e : V} {d : DefL} (h : IsDef e d) : ∃ cs, e = .agg cs ∧ cs.length = 6 := by
  obtain ⟨pv, ps, tk, tn, ta, n, rfl, _⟩ := h.ex
  exact ⟨_, rfl, rfl⟩

theorem IsDef.name {e : V} {d : DefL} (h : IsDef e d) : nameOf0 e = d.name := by
  obtain ⟨pv, ps, tk, tn, ta, n, rfl, _⟩ := h.ex
  rfl

theorem IsTyp.one3 {n : Nat} {a b c : V} (h : IsTyp n (.agg [a, b, c])) : V.one c = true := by
  have := h.ones
  simp at this
  exact this.2.2

theorem IsDef.pure {e : V} {d : DefL} (h : IsDef e d) : ∃ e', e.pure = some e' ∧ IsDef e' d := by
  obtain ⟨pv, ps, tk, tn, ta, n, rfl, h1, h2⟩ := h.ex
  obtain ⟨pv', h3, h4⟩ := h1.pure
  obtain ⟨t', h5, h6, h7⟩ := h2.pure
  have h8 : ∃ ta', ta.pure = some ta' ∧ t' = .agg [.int .i64 tk, .str tn, ta'] := by
    simp only [V.pure, V.pures] at h5
    cases h9 : ta.pure with
    | none => rw [h9] at h5; cases h5
    | some ta' => rw [h9] at h5; exact ⟨ta', rfl, by simpa using h5.symm⟩
  obtain ⟨ta', h8, rfl⟩ := h8
  exact ⟨_, by simp only [V.pure, V.pures, h3, h8, Option.map_some], ⟨pv', ps, tk, tn, ta', n, rfl, h4, h6⟩⟩

theorem IsDefs.pure {v : V} {ds : List DefL} (h : IsDefs v ds) : ∃ v', v.pure = some v' ∧ IsDefs v' ds := by
  obtain ⟨⟨es, h1, h2⟩, hl⟩ := h
  obtain ⟨v', es', h3, h4, h5⟩ := h1.pure2 (P := IsDef) (fun e b h => IsDef.pure h) h2
  exact ⟨v', h3, ⟨es', h4, h5⟩, hl⟩

/-- Has a name a definition that is an alias? -/
def aliasB (ds : List DefL) (n : List UInt8) : Bool := ((ds.find? fun d => d.name == n).map (·.alias)).getD false

theorem clo73 {e : V} {d : DefL} {k : V} {n : List UInt8} {s : V} {b : Nat} {σ : Sto} (h : IsDef e d) (hb : σ.blk b = some (.cells [k, .str n, s])) : D ft 73 [e, .ptr b 0] σ = some (.ret (.bool (d.name == n)), σ) := by
  obtain ⟨pv, ps, tk, tn, ta, m, rfl, h1, h2⟩ := h.ex
  rw [D73_eq]
  simp [ldV_ptr hb, h1.ex.one, h2.one3]

theorem clo74 {e : V} {d : DefL} {k : V} {n : List UInt8} {s : V} {b : Nat} {σ : Sto} (h : IsDef e d) (hb : σ.blk b = some (.cells [k, .str n, s])) : D ft 74 [e, .ptr b 0] σ = some (.ret (.bool (d.name == n)), σ) := by
  obtain ⟨pv, ps, tk, tn, ta, m, rfl, h1, h2⟩ := h.ex
  rw [D74_eq]
  simp [ldV_ptr hb, h1.ex.one, h2.one3]

/-- Where a name's definition is. -/
theorem index72' {v : V} {ds : List DefL} {f : FuncId} {b : Nat} {n : List UInt8} {σ : Sto} (h : IsDefs v ds) (hf : ∀ e d, IsDef e d → D ft f [e, .ptr b 0] σ = some (.ret (.bool (d.name == n)), σ)) :
    ∃ i, D ft 72 [v, .func f [.ptr b 0]] σ = some (.ret (.int .i64 i), σ) ∧ ((i = -1 ∧ ds.find? (fun d => d.name == n) = none) ∨ ∃ e d, 0 ≤ i ∧ IsDef e d ∧ ds.find? (fun d => d.name == n) = some d ∧ d ∈ ds ∧ indexAddrV 6 v (.int .i64 i) = some (.vp e.cells)) := by
  obtain ⟨⟨es, h1, h2⟩, hl⟩ := h
  have hq : ∀ e ∈ es, appV (D ft) (.func f [.ptr b 0]) [e] σ = some (.ret (.bool (nameOf0 e == n)), σ) := fun e he => by
    obtain ⟨d, _, hd⟩ := h2.mem_left e he
    rw [appV_ptr, hd.name]
    exact hf e d hd
  have hi := index72 (fv := .func f [.ptr b 0]) (σ := σ) (fun e => nameOf0 e == n) h1 (fun e he => by
    obtain ⟨d, _, hd⟩ := h2.mem_left e he
    exact hd.agg) hq (by rw [h2.len]; omega)
  refine ⟨_, hi, ?_⟩
  rcases idx_cases (fun e => nameOf0 e == n) es 0 with ⟨hn1, hn2⟩ | ⟨pre, e, rest, hes, he, hpre, hix⟩
  · refine Or.inl ⟨hn1, List.find?_eq_none.2 fun d hd => ?_⟩
    obtain ⟨e, he, hed⟩ := h2.mem_right d hd
    have := hn2 e he
    rw [hed.name] at this
    simp [this]
  · rw [hes] at h2
    obtain ⟨pre', d, rest', rfl, h3, h4, h5⟩ := h2.split
    refine Or.inr ⟨e, d, by rw [hix]; omega, h4, ?_, by simp, ?_⟩
    · rw [List.find?_append, List.find?_eq_none.2, Option.none_or, List.find?_cons_of_pos]
      · rw [← h4.name]; exact he
      · intro x hx
        obtain ⟨y, hy, hxy⟩ := h3.mem_right x hx
        have := hpre y hy
        rw [hxy.name] at this
        simp [this]
    · rw [hix, Int.zero_add]
      obtain ⟨cs, rfl, hcs⟩ := h4.agg
      exact IsSl.idx (hes ▸ h1) hcs

/-! ## What stands behind -/

theorem big60 {v : V} {ds : List DefL} {n : Nat} {k : Int} {nm : List UInt8} {s : V} (h : IsDefs v ds) (ht : IsTyp n (.agg [.int .i64 k, .str nm, s])) (σ : Sto) :
    ∃ r σ', D ft 60 [v, .agg [.int .i64 k, .str nm, s]] σ = some (.ret r, σ') ∧ (r = .nptr ∨ ∃ e d, IsDef e d ∧ r = .vp e.cells) := by
  have hb : (σ.alloc (.cells [.int .i64 k, .str nm, s])).blk σ.next = some (.cells [.int .i64 k, .str nm, s]) := Sto.blk_next _ _
  obtain ⟨i, hi, hcase⟩ := index72' (f := 74) (b := σ.next) (n := nm) (σ := σ.alloc (.cells [.int .i64 k, .str nm, s])) h fun e d hd => clo74 hd hb
  obtain ⟨es, hs, _⟩ : ∃ es, IsSl s es ∧ True := by
    cases n with
    | zero => exact ht.elim
    | succ n =>
      obtain ⟨_, _, _, es, he, hs, _⟩ := ht
      cases he
      exact ⟨es, hs, trivial⟩
  rw [D60_eq]
  simp only [boxN_all (n := 3) rfl ht.ones, Option.bind_some, alS_eq, hi, bindR_ret, binV_int, intBin_lss]
  rcases hcase with ⟨rfl, _⟩ | ⟨e, d, h0, hd, _, _, hat⟩
  · exact ⟨.nptr, _, by simp; rfl, Or.inl rfl⟩
  · have hneg : decide (i < 0) = false := by simpa using h0
    obtain ⟨pv, ps, tk, tn, ta, m, rfl, h1, h2⟩ := hd.ex
    simp only [hneg, gd_ff, Option.bind_some, hat, V.cells_agg, fieldAddrV_vp, ldV_vp, fieldAddrV_ptr, ldV_ptr hb]
    simp only [List.length_cons, List.length_nil, Nat.reduceAdd, Nat.reduceLeDiff, if_true, Option.bind_some, List.drop_succ_cons, List.drop_zero, part_none, List.getElem?_cons_zero, h1.ex.len, List.getElem?_cons_succ, Nat.zero_add, hs.len, binV_int, intBin_neq, pickS_f]
    simp only [Option.bind_some, ldV_vp, part_none, List.getElem?_cons_zero, h1.ex.len, binV_int, intBin_neq]
    cases !decide (((List.map V.str ps).length : Int) = (es.length : Int)) with
    | true => exact ⟨.nptr, _, by simp; rfl, Or.inl rfl⟩
    | false => exact ⟨_, _, by simp; rfl, Or.inr ⟨_, d, hd, rfl⟩⟩

theorem IsTyp.names {n : Nat} {v : V} (h : IsTyp n v) : ∃ k nm s es, v = .agg [.int .i64 k, .str nm, s] ∧ IsTyps n s es := by
  cases n with
  | zero => exact h.elim
  | succ n =>
    obtain ⟨k, nm, s, es, h1, h2, h3, h4⟩ := h
    exact ⟨k, nm, s, es, h1, h2, h3, fun e he => (h4 e he).succ⟩

theorem loop39 {v : V} {ds : List DefL} (h : IsDefs v ds) : ∀ (j : Nat) (i : Int) (n : Nat) (c : List V) (σ : Sto), 0 ≤ i → i + j = 100 → IsTyp n (.agg c) →
    ∃ r σ' m, L39_0 v c [.int .i64 0, .str [], .nsl] (.int .i64 i) σ = some (.ret r, σ') ∧ IsTyp m r ∧ (0 < j → kindOf (.agg c) ≠ 3 → SameHead (.agg c) r) := by
  intro j
  induction j with
  | zero =>
    intro i n c σ hi0 hi ht
    have hlt : decide (i < 100) = false := by simp; omega
    refine ⟨noTyp, σ, 1, ?_, isTyp_no, fun h => by omega⟩
    rw [L39_0_eq]
    simp [hlt, noTyp]
  | succ j ih =>
    intro i n c σ hi0 hi ht
    have hlt : decide (i < 100) = true := by simp; omega
    have hones := ht.ones
    obtain ⟨k, nm, s, es, hc, hs⟩ := ht.names
    cases hc
    rw [L39_0_eq]
    by_cases hk : k = 3
    · subst hk
      obtain ⟨r, σ1, h1, h2⟩ := big60 h ht σ
      obtain ⟨sz, hsz⟩ := pure61 n _ ht
      simp only [binV_int, intBin_lss, Option.bind_some, hlt, condV_t, part_none, List.getElem?_cons_zero, intBin_neq, decide_true, Bool.not_true, condV_f, part_all (cs := [V.int .i64 3, .str nm, s]) (n := 3) rfl, h1, bindR_ret]
      rcases h2 with rfl | ⟨e, d, hd, rfl⟩
      · refine ⟨noTyp, σ1, 1, ?_, isTyp_no, fun _ hne => absurd rfl hne⟩
        have hb : binV .eql .ptr .nptr .nptr = some (.bool true) := rfl
        simp [hb, noTyp]
      · obtain ⟨pv, ps, tk, tn, ta, m, rfl, h3, h4⟩ := hd.ex
        obtain ⟨r, hr1, hr2⟩ := pure62 m n _ pv s ps es h4 h3 hs
        have hb : ∀ cs : List V, binV .eql .ptr (.vp cs) .nptr = some (.bool false) := fun _ => rfl
        simp only [hb, Option.bind_some, gd_ff, hsz, binV_int, intBin_gtr, pickS_f]
        cases decide (1000 < sz) with
        | true =>
          refine ⟨noTyp, σ1, 1, ?_, isTyp_no, fun _ hne => absurd rfl hne⟩
          simp [noTyp]
        | false =>
          obtain ⟨cr, rfl, hcr⟩ := hr2.agg
          have hw : wrapI .i64 (i + 1) = i + 1 := wrap64 (by omega)
          obtain ⟨r', σ', m', g1, g2, g3⟩ := ih (i + 1) _ cr σ1 (by omega) (by omega) hr2
          refine ⟨r', σ', m', ?_, g2, fun _ hne => absurd rfl hne⟩
          have hn : ∀ cs : List V, nilCheckV (.vp cs) = some (.vp cs) := fun _ => rfl
          simp only [condV_f, hn, Option.bind_some, V.cells_agg, fieldAddrV_vp, List.length_cons, List.length_nil, Nat.reduceAdd, Nat.reduceLeDiff, if_true, List.drop_succ_cons, List.drop_zero, ldV_vp, part_none, List.getElem?_cons_zero, part_some, Nat.zero_add, List.take_succ_cons, List.take_zero, List.getElem?_cons_succ, hr1, stC_all hcr (show [V.int .i64 3, .str nm, s].length = 3 from rfl) hr2.ones, intBin_add, hw]
          exact g1
    · refine ⟨.agg [.int .i64 k, .str nm, s], σ, n, ?_, ht, fun _ _ => ⟨rfl, rfl⟩⟩
      simp only [binV_int, intBin_lss, Option.bind_some, hlt, condV_t, part_none, List.getElem?_cons_zero, intBin_neq, hk, decide_false, Bool.not_false, part_all (cs := [V.int .i64 k, .str nm, s]) (n := 3) rfl, stC_all (cs := [V.int .i64 k, .str nm, s]) (n := 3) rfl (show [V.int .i64 0, .str [], .nsl].length = 3 from rfl) hones]

theorem pure39 {v t : V} {ds : List DefL} {n : Nat} (h : IsDefs v ds) (ht : IsTyp n t) : ∃ r m, callPure (D ft) 39 [v, t] = some r ∧ IsTyp m r ∧ (kindOf t ≠ 3 → SameHead t r) := by
  obtain ⟨v', h1, h2⟩ := h.pure
  obtain ⟨t', h3, h4, h5⟩ := ht.pure
  obtain ⟨cs, rfl, hcs⟩ := h4.agg
  obtain ⟨r, σ', m, h6, h7, h8⟩ := loop39 h2 100 0 n cs .empty (by omega) rfl h4
  obtain ⟨r', h9, h10, h11⟩ := h7.pure
  refine ⟨r', m, callPure_of (vs' := [v', .agg cs]) (by simp only [V.pures, h1, h3]) (v := r) (σ := σ') ?_ h9, h10, fun hk => ?_⟩
  · rw [D39_eq]
    simp only [boxC_all h4.ones, Option.bind_some]
    exact h6
  · have h12 := h8 (by omega) (by rw [h5.1]; exact hk)
    exact ⟨h11.1.trans (h12.1.trans h5.1), h11.2.trans (h12.2.trans h5.2)⟩

theorem pure35 {v t : V} {ds : List DefL} {n : Nat} (h : IsDefs v ds) (ht : IsTyp n t) : ∃ b, callPure (D ft) 35 [v, t] = some (.bool b) := by
  obtain ⟨v', h1, h2⟩ := h.pure
  obtain ⟨t', h3, h4, _⟩ := ht.pure
  obtain ⟨r, m, h5, h6, _⟩ := pure39 h2 h4
  obtain ⟨cs, rfl, hcs⟩ := h4.agg
  obtain ⟨k, nm, s, es, rfl, _⟩ := h6.names
  refine ⟨decide (k = 1), callPure_of (vs' := [v', .agg cs]) (by simp only [V.pures, h1, h3]) (v := .bool (decide (k = 1))) (σ := .empty) ?_ rfl⟩
  rw [D35_eq]
  simp only [boxC_all h4.ones, Option.bind_some, part_all hcs, h5]
  simp [fieldV]

end Go.Eng
