/- Is a name twice in a row? That it says so or not. -/
import Derived.Test.YtjldgekmjnkofaaU7
set_option linter.unusedVariables false
set_option linter.unusedSimpArgs false
namespace Go.Eng
open Go

theorem flat_str (l : List (List UInt8)) : (l.map V.str).flatMap V.cells = l.map V.str := by
  induction l with
  | nil => rfl
  | cons x l ih =>
    rw [List.map_cons, List.flatMap_cons, ih]; rfl

theorem cell_str {l : List (List UInt8)} : ∀ x ∈ l.map V.str, x.cells.length = 1 := fun x hx => by
  obtain ⟨y, _, rfl⟩ := List.mem_map.1 hx
  rfl

theorem loop81 {bb : Nat} {v : V} : ∀ (k i j : Nat) (σ : Sto) (l : List (List UInt8)), j - i ≤ k → j < l.length → i < l.length → l.length ≤ 10 → Row σ 1 bb v (l.map V.str) →
    ∃ σ' l', L81_0 v (.int .i64 i) (.int .i64 j) σ = some (.ret (.tup []), σ') ∧ Row σ' 1 bb v (l'.map V.str) ∧ l'.length = l.length ∧ (l.length = 1 → l' = l) := by
  intro k
  induction k with
  | zero =>
    intro i j σ l hk hj hi h10 hrow
    have hlt : decide ((i : Int) < j) = false := by simp; omega
    refine ⟨σ, l, ?_, hrow, rfl, fun _ => rfl⟩
    rw [L81_0_eq]
    iterate 3 (try simp only [binV_int, intBin_lss, hlt, Option.bind_some, condV_f])
  | succ k ih =>
    intro i j σ l hk hj hi h10 hrow
    by_cases hij : i < j
    · have hlt : decide ((i : Int) < j) = true := by simp; omega
      have hli : l[i]? = some l[i] := List.getElem?_eq_getElem hi
      have hlj : l[j]? = some l[j] := List.getElem?_eq_getElem hj
      generalize l[i] = a at hli
      generalize l[j] = c at hlj
      have gi : (l.map V.str)[i]? = some (.str a) := by rw [List.getElem?_map, hli]; rfl
      have gj : (l.map V.str)[j]? = some (.str c) := by rw [List.getElem?_map, hlj]; rfl
      have xi := hrow.idx (i := i) (by simpa using hi)
      have xj := hrow.idx (i := j) (by simpa using hj)
      have di : ldV σ none (.ptr bb (i * 1)) = some (.str a) := hrow.ld0 gi (c := .str a) (cs := []) rfl
      have dj : ldV σ none (.ptr bb (j * 1)) = some (.str c) := hrow.ld0 gj (c := .str c) (cs := []) rfl
      obtain ⟨s1, r1⟩ := hrow.st (i := i) (t := .str c) (by simpa using hi) rfl rfl (by omega)
      obtain ⟨s2, r2⟩ := r1.st (i := j) (t := .str a) (by simpa using hj) rfl rfl (by omega)
      have e2 : ((l.map V.str).set i (.str c)).set j (.str a) = ((l.set i c).set j a).map V.str := by rw [List.map_set, List.map_set]
      rw [e2] at r2
      have hw : wrapI .i64 ((i : Int) + 1) = ((i + 1 : Nat) : Int) := by rw [wrap64 (by omega)]; simp
      have hw2 : wrapI .i64 ((j : Int) - 1) = ((j - 1 : Nat) : Int) := by rw [wrap64 (by omega)]; omega
      obtain ⟨σ', l', q1, q2, q3, _⟩ := ih (i + 1) (j - 1) _ ((l.set i c).set j a) (by omega) (by simp; omega) (by simp; omega) (by simpa using h10) r2
      refine ⟨σ', l', ?_, q2, by simpa using q3, fun h1 => by omega⟩
      rw [L81_0_eq]
      iterate 4 (try simp only [binV_int, intBin_lss, hlt, Option.bind_some, condV_t, xi, xj, di, dj, s1, s2, e2, intBin_add, intBin_sub, hw, hw2])
      exact q1
    · have hlt : decide ((i : Int) < j) = false := by simp; omega
      refine ⟨σ, l, ?_, hrow, rfl, fun _ => rfl⟩
      rw [L81_0_eq]
      iterate 3 (try simp only [binV_int, intBin_lss, hlt, Option.bind_some, condV_f])

theorem Row.elems1 {σ : Sto} {bb : Nat} {v : V} {l : List (List UInt8)} (h : Row σ 1 bb v (l.map V.str)) : elems σ 1 (.msl bb 0 l.length 1) = some (l.map V.str) := by
  have hb := h.blk
  rw [flat_str] at hb
  simp only [elems, hb]
  rw [if_pos ⟨by simp, trivial⟩]
  congr 1
  apply List.ext_getElem?
  intro i
  by_cases hi : i < l.length
  · simp [hi]
  · simp [hi]

theorem pure78 {nv : V} {l : List (List UInt8)} (h : IsNames nv l) (h10 : l.length ≤ 10) : ∃ r l', callPure (D ft) 78 [nv] = some r ∧ IsNames r l' ∧ l'.length = l.length ∧ (l.length = 1 → l' = l) := by
  obtain ⟨nv', h1, h2⟩ := h.pure
  have hm1 : wrapI .i64 ((0 : Int) - 1) = -1 := rfl
  have h0 : decide ((0 : Int) < -1) = false := rfl
  have empty81 : ∀ (x : V) (σ : Sto), IsSl x [] → D ft 81 [x] σ = some (.ret (.tup []), σ) := fun x σ hx => by
    have hl : ((([] : List V).length : Nat) : Int) = 0 := rfl
    rw [D81_eq]
    simp only [hx.len, Option.bind_some, binV_int, hl, intBin_sub, hm1]
    rw [L81_0_eq]
    iterate 3 (try simp only [binV_int, intBin_lss, h0, Option.bind_some, condV_f])
  have hfill : fillD 1 (List.replicate 0 (V.str [])) [] = some [] := rfl
  rcases eq_nsl h2.ex with ⟨rfl, e1⟩ | ⟨⟨o, rfl⟩, e1⟩
  · have hl : l = [] := by
      have := h2.ex
      generalize hg : l.map V.str = es at this
      cases this
      simpa using hg
    subst hl
    refine ⟨.nsl, [], callPure_of (vs' := [.nsl]) (by simp only [V.pures, h1]) (v := .nsl) (σ := .empty) ?_ rfl, h2, rfl, fun _ => rfl⟩
    rw [D78_eq, D80_eq]
    iterate 4 (try simp only [e1, Option.bind_some, condV_t, bindR_ret, empty81 .nsl .empty .nsl])
  · cases l with
    | nil =>
      refine ⟨.sl .full [], [], callPure_of (vs' := [.sl o []]) (by simp only [V.pures, h1]; rfl) (v := .sl .full []) (σ := .empty) ?_ rfl, ⟨.sl _ _, h.len⟩, rfl, fun _ => rfl⟩
      have happ : appendV 1 16 true .empty (.sl .full []) (.sl o []) = some (.sl .full [], .empty) := rfl
      have e1' : binV .eql .sl (.sl o []) .nsl = some (.bool false) := rfl
      rw [D78_eq, D80_eq]
      iterate 4 (try simp only [e1', hfill, Option.bind_some, condV_f, List.map_nil, happ, bind2_some, bindR_ret, empty81 _ .empty (.sl .full [])])
    | cons x l =>
      have hrow : Row (Sto.empty.alloc (.cells ((x :: l).map V.str))) 1 Sto.empty.next (.msl Sto.empty.next 0 (x :: l).length 1) ((x :: l).map V.str) := ⟨by simp, by rw [flat_str]; exact Sto.blk_next _ _, cell_str⟩
      have happ : appendV 1 16 true .empty (.sl .full []) (.sl o ((x :: l).map V.str)) = some (.msl Sto.empty.next 0 (x :: l).length 1, Sto.empty.alloc (.cells ((x :: l).map V.str))) := by
        unfold appendV
        simp only [elems, List.map_cons]
        rw [if_pos ⟨by simp at h10 ⊢; omega, by simp at h10 ⊢; omega, rfl, rfl⟩]
        have := flat_str (x :: l)
        rw [List.map_cons] at this
        simp only [List.nil_append, this, if_true]
        simp
      obtain ⟨σ', l', q1, q2, q3, q4⟩ := loop81 (x :: l).length 0 ((x :: l).length - 1) _ (x :: l) (by omega) (by simp) (by simp) h10 hrow
      have hlen : lenV .sl (Sto.empty.alloc (.cells ((x :: l).map V.str))) (.msl Sto.empty.next 0 (x :: l).length 1) = some (.int .i64 (x :: l).length) := rfl
      have hw : wrapI .i64 (((x :: l).length : Int) - 1) = (((x :: l).length - 1 : Nat) : Int) := by
        rw [wrap64 (by simp at h10 ⊢; omega)]; simp
      have h81 : D ft 81 [.msl Sto.empty.next 0 (x :: l).length 1] (Sto.empty.alloc (.cells ((x :: l).map V.str))) = some (.ret (.tup []), σ') := by
        rw [D81_eq]
        simp only [hlen, Option.bind_some, binV_int, intBin_sub, hw]
        exact q1
      have hpu : V.pures (l'.map V.str) = some (l'.map V.str) := by
        clear q1 q2 q3 q4
        induction l' with
        | nil => rfl
        | cons y l' ih => rw [List.map_cons]; simp only [V.pures, ih]; rfl
      refine ⟨.sl .none (l'.map V.str), l', callPure_snap (vs' := [.sl o ((x :: l).map V.str)]) (by simp only [V.pures, h1]) (v := .msl Sto.empty.next 0 (x :: l).length 1) (σ := σ') ?_ ?_, ⟨.sl _ _, by rw [q3]; exact h.len⟩, q3, q4⟩
      · rw [D78_eq, D80_eq]
        iterate 4 (try simp only [e1, hfill, Option.bind_some, condV_f, happ, bind2_some, bindR_ret, h81])
      · have he := q2.elems1
        rw [q3] at he
        simp only [V.snap, he]
        rw [if_pos ⟨by omega, headOk_of cell_str⟩, hpu]
        rfl

theorem big77 {b : Nat} {nv : V} {l : List (List UInt8)} {σ : Sto} (h : IsNames nv l) (h10 : l.length ≤ 10) (hb : σ.blk b = some (.cells [nv])) (x : List UInt8) (hx : x ∈ l) : ∃ y, D ft 77 [.str x, .ptr b 0] σ = some (.ret (.bool y), σ) ∧ (l.length = 1 → y = false) := by
  obtain ⟨r, l', p1, p2, p3, p4⟩ := pure78 h h10
  have i1 := index63 (x := x) (σ := σ) h.ex (by omega)
  have i2 := index63 (x := x) (σ := σ) p2.ex (by omega)
  have hl : ldV σ none (.ptr b 0) = some nv := (ldV_ptr hb).trans rfl
  obtain ⟨ver, hv⟩ := Sto.get_of_blk hb
  have hver := Sto.ver_of_get hv
  have n1 : noteV 2 σ (.ptr b 0) [] = some [(2, b, ver)] := by simp [noteV, hver]
  have n2 : noteV 1 σ (.ptr b 0) [(2, b, ver)] = some [(1, b, ver), (2, b, ver)] := by simp [noteV, hver]
  have k1 : ∀ kk : Pend → R, passK [(1, b, ver), (2, b, ver)] σ kk = kk [(0, b, ver), (1, b, ver)] := fun kk => by simp [passK, Pend.pass, hver]
  have k2 : ∀ kk : Pend → R, passK [(0, b, ver), (1, b, ver)] σ kk = kk [(0, b, ver)] := fun kk => by simp [passK, Pend.pass, hver]
  have hlen : lenV .sl σ nv = some (.int .i64 l.length) := by rw [h.ex.len]; simp
  refine ⟨!decide (idxS x l 0 = wrapI .i64 (wrapI .i64 ((l.length : Int) - 1) - idxS x l' 0)), ?_, fun h1 => ?_⟩
  · rw [D77_eq]
    iterate 5 (try simp only [hl, Option.bind_some, n1, n2, hlen, binV_int, intBin_sub, i1, bindR_ret, k1, p1, i2, k2, intBin_neq])
  · rw [p4 h1]
    match l, h1 with
    | [y], _ =>
      have : x = y := by simpa using hx
      subst this
      have : idxS x [x] 0 = 0 := by simp [idxS]
      rw [this]
      rfl

theorem loop79 {b : Nat} {nv : V} {l : List (List UInt8)} {σ : Sto} (h : IsNames nv l) (h10 : l.length ≤ 10) (hb : σ.blk b = some (.cells [nv])) : ∀ rest pre : List (List UInt8), l = pre ++ rest →
    ∃ i, L79_0 nv (.func 77 [.ptr b 0]) (.int .i64 l.length) (.int .i64 pre.length) σ = some (.ret (.int .i64 i), σ) ∧ (l.length ≤ 1 → i = -1) := by
  intro rest
  induction rest with
  | nil =>
    intro pre hpre
    have hlt : decide ((pre.length : Int) < l.length) = false := by rw [hpre]; simp
    refine ⟨-1, ?_, fun _ => rfl⟩
    rw [L79_0_eq]
    iterate 3 (try simp only [binV_int, intBin_lss, Option.bind_some, hlt, condV_f])
  | cons e rest ih =>
    intro pre hpre
    have hlt : decide ((pre.length : Int) < l.length) = true := by rw [hpre]; simp; omega
    have he : e ∈ l := by rw [hpre]; simp
    obtain ⟨y, h1, h2⟩ := big77 h h10 hb e he
    have happ : appV (D ft) (.func 77 [.ptr b 0]) [.str e] σ = some (.ret (.bool y), σ) := by
      rw [appV_ptr]; exact h1
    have hidx : indexAddrV 1 nv (.int .i64 pre.length) = some (.vp [.str e]) := by
      have hs := h.ex
      have h : IsSl nv (pre.map V.str ++ .str e :: rest.map V.str) := by rw [hpre] at hs; simpa using hs
      have := h.idx (K := 1) (k := .i64) rfl
      simpa using this
    have hlen2 : l.length = pre.length + (rest.length + 1) := by rw [hpre]; simp
    have hw : wrapI .i64 ((pre.length : Int) + 1) = ((pre ++ [e]).length : Int) := by
      rw [wrap64 (by omega)]; simp
    cases y with
    | true =>
      refine ⟨pre.length, ?_, fun h1 => ?_⟩
      · rw [L79_0_eq]
        iterate 3 (try simp only [binV_int, intBin_lss, Option.bind_some, hlt, condV_t, hidx, ldV_vp, part_none, List.getElem?_cons_zero, happ, bindR_ret])
      · have : l.length = 1 := by omega
        have := h2 this
        cases this
    | false =>
      obtain ⟨i, g1, g2⟩ := ih (pre ++ [e]) (by rw [hpre]; simp)
      refine ⟨i, ?_, g2⟩
      rw [L79_0_eq]
      iterate 3 (try simp only [binV_int, intBin_lss, Option.bind_some, hlt, condV_t, condV_f, hidx, ldV_vp, part_none, List.getElem?_cons_zero, happ, bindR_ret, intBin_add, hw])
      exact g1

theorem pure64 {nv : V} {l : List (List UInt8)} (h : IsNames nv l) (h10 : l.length ≤ 10) : ∃ y, callPure (D ft) 64 [nv] = some (.bool y) ∧ (l.length ≤ 1 → y = false) := by
  obtain ⟨nv', h1, h2⟩ := h.pure
  have hb : (Sto.empty.alloc (.cells [nv'])).blk Sto.empty.next = some (.cells [nv']) := Sto.blk_next _ _
  obtain ⟨i, g1, g2⟩ := loop79 h2 h10 hb l [] rfl
  have g1' : L79_0 nv' (.func 77 [.ptr Sto.empty.next 0]) (.int .i64 l.length) (.int .i64 0) (Sto.empty.alloc (.cells [nv'])) = some (.ret (.int .i64 i), Sto.empty.alloc (.cells [nv'])) := g1
  have hlen : lenV .sl (Sto.empty.alloc (.cells [nv'])) nv' = some (.int .i64 l.length) := by rw [h2.ex.len]; simp
  have hbox : boxN 1 nv' = some [nv'] := by simp [h2.ex.cells, h2.ex.one]
  have hld : ldV (Sto.empty.alloc (.cells [nv'])) none (.ptr Sto.empty.next 0) = some nv' := (ldV_ptr hb).trans rfl
  refine ⟨decide (0 ≤ i), callPure_of (vs' := [nv']) (by simp only [V.pures, h1]) (v := .bool (decide (0 ≤ i))) (σ := Sto.empty.alloc (.cells [nv'])) ?_ rfl, fun hl => by rw [g2 hl]; rfl⟩
  rw [D64_eq]
  iterate 3 (try simp only [hbox, Option.bind_some, alS_eq, hld])
  rw [D76_eq, D79_eq]
  iterate 4 (try simp only [hlen, Option.bind_some, g1', bindR_ret, binV_int, intBin_geq])

end Go.Eng
