/- Both in full; those that are untyped: that it says so or not, and that one more pair changes nothing. -/
import Derived.Test.YtjldgekmjnkofaaU4
set_option linter.unusedVariables false
set_option linter.unusedSimpArgs false
namespace Go.Eng
open Go

def basicT' (w : List UInt8) : V := .agg [.int .i64 1, .str w, .nsl]

theorem isTyp_basic' (w : List UInt8) : IsTyp 1 (basicT' w) := ⟨1, w, .nsl, [], rfl, .nsl, by simp, fun e he => by cases he⟩

def sOf' (f : FuncId) (vs : List V) : Sto := match evalS ft 60 f vs .empty with
  | some (_, σ) => σ
  | none => .empty

/-- A basic type in full is itself. -/
theorem full_basic {dv : V} {ds : List DefL} (h : IsDefs dv ds) (w : List UInt8) : callPure (D ft) 33 [dv, basicT' w] = some (basicT' w) := by
  obtain ⟨v', h1, h2⟩ := h.pure
  refine callPure_of (vs' := [v', basicT' w]) (by simp only [V.pures, h1]; rfl) (v := basicT' w) (σ := sOf' 33 [v', basicT' w]) ?_ rfl
  obtain ⟨es, hs, _⟩ := h2.ex
  cases hs with
  | nsl => exact D_known 60 (by kernel_rfl)
  | sl o es => exact D_known 60 (by kernel_rfl)

section
variable {dv rv : V} {ds : List DefL} {row : List (List UInt8)} {b : Nat}

theorem big49 {dv : V} {ds : List DefL} (hd : IsDefs dv ds) {p t : V} {n m : Nat} (hp : IsTyp n p) (ht : IsTyp m t) : ∃ p' t' n' m' x, IsTyp n' p' ∧ IsTyp m' t' ∧ ∀ (σ : Sto) (b : Nat) (rv bv : V), σ.blk b = some (.cells [dv, rv, bv]) → D ft 49 [.ptr b 0, p, t] σ = some (.ret (.tup [p', t', .bool x]), σ) := by
  obtain ⟨p', n', q1, q2, _⟩ := pure33 hd hp
  obtain ⟨t', m', q3, q4, _⟩ := pure33 hd ht
  have q2' := q2
  have q4' := q4
  obtain ⟨k, nm, s, es, rfl, hs⟩ := q2.names
  obtain ⟨k2, nm2, s2, es2, rfl, hs2⟩ := q4.names
  obtain ⟨cs, rfl, hcs, hone⟩ := hp.flat
  obtain ⟨cs2, rfl, hcs2, hone2⟩ := ht.flat
  refine ⟨.agg [.int .i64 k, .str nm, s], .agg [.int .i64 k2, .str nm2, s2], n', m', (!decide (k = 0)) && !decide (k2 = 0), q2', q4', fun σ b rv bv hb => ?_⟩
  have hn : nilCheckV (.ptr b 0) = some (.ptr b 0) := rfl
  have hl0 : ldV σ none (.ptr b (0 + 0)) = some dv := (ldV_ptr hb).trans rfl
  have s1 : stC cs 0 3 (.agg [.int .i64 k, .str nm, s]) = some [.int .i64 k, .str nm, s] := stC_all rfl hcs q2'.ones
  have s2' : stC cs2 0 3 (.agg [.int .i64 k2, .str nm2, s2]) = some [.int .i64 k2, .str nm2, s2] := stC_all rfl hcs2 q4'.ones
  have p1 : part [V.int .i64 k, .str nm, s] 0 (some 3) = some (.agg [.int .i64 k, .str nm, s]) := part_all rfl
  have p2 : part [V.int .i64 k2, .str nm2, s2] 0 (some 3) = some (.agg [.int .i64 k2, .str nm2, s2]) := part_all rfl
  have z1 : stC [V.int .i64 0, .str [], .nsl] 0 3 (.agg [.int .i64 k, .str nm, s]) = some [.int .i64 k, .str nm, s] := stC_all rfl rfl q2'.ones
  have z2 : stC [V.int .i64 0, .str [], .nsl] 0 3 (.agg [.int .i64 k2, .str nm2, s2]) = some [.int .i64 k2, .str nm2, s2] := stC_all rfl rfl q4'.ones
  rw [D49_eq]
  iterate 5 (try simp only [boxC_all hone, boxC_all hone2, Option.bind_some, hn, fieldAddrV_ptr, hl0, part_all hcs, part_all hcs2, q1, q3, s1, s2', p1, p2, part_none, List.getElem?_cons_zero, binV_int, intBin_neq, chkB_b])
  cases decide (k = 0) with
  | true => iterate 4 (try simp only [Bool.not_true, gd_ft, Option.bind_some, pickS_f, z1, z2, p1, p2, Bool.false_and])
  | false => iterate 4 (try simp only [Bool.not_false, gd_tt, Option.bind_some, binV_int, intBin_neq, pickS_t, z1, z2, p1, p2, Bool.true_and])

/-- Both in full, where they are basic. -/
theorem full49 {dv : V} {ds : List DefL} (hd : IsDefs dv ds) (v w : List UInt8) (σ : Sto) (b : Nat) (rv bv : V) (hb : σ.blk b = some (.cells [dv, rv, bv])) : D ft 49 [.ptr b 0, basicT' v, basicT' w] σ = some (.ret (.tup [basicT' v, basicT' w, .bool true]), σ) := by
  have q1 : callPure (D ft) 33 [dv, .agg [.int .i64 1, .str v, .nsl]] = some (.agg [.int .i64 1, .str v, .nsl]) := full_basic hd v
  have q3 : callPure (D ft) 33 [dv, .agg [.int .i64 1, .str w, .nsl]] = some (.agg [.int .i64 1, .str w, .nsl]) := full_basic hd w
  have hn : nilCheckV (.ptr b 0) = some (.ptr b 0) := rfl
  have hl0 : ldV σ none (.ptr b (0 + 0)) = some dv := (ldV_ptr hb).trans rfl
  have bx : ∀ u : List UInt8, boxC (.agg [.int .i64 1, .str u, .nsl]) = some [.int .i64 1, .str u, .nsl] := fun u => rfl
  have s1 : ∀ u u' : List UInt8, stC [V.int .i64 1, .str u, .nsl] 0 3 (.agg [.int .i64 1, .str u', .nsl]) = some [.int .i64 1, .str u', .nsl] := fun u u' => rfl
  have p1 : ∀ u : List UInt8, part [V.int .i64 1, .str u, .nsl] 0 (some 3) = some (.agg [.int .i64 1, .str u, .nsl]) := fun u => rfl
  have z1 : ∀ u : List UInt8, stC [V.int .i64 0, .str [], .nsl] 0 3 (.agg [.int .i64 1, .str u, .nsl]) = some [.int .i64 1, .str u, .nsl] := fun u => rfl
  have h10 : decide ((1 : Int) = 0) = false := rfl
  unfold basicT'
  rw [D49_eq]
  iterate 6 (try simp only [bx, Option.bind_some, hn, fieldAddrV_ptr, hl0, q1, q3, s1, p1, part_none, List.getElem?_cons_zero, binV_int, intBin_neq, chkB_b, h10, Bool.not_false, gd_tt, pickS_t, z1])

/-! ## Those that are untyped -/

/-- The map of those that were told late. -/
structure Late (σ : Sto) (mb : Nat) : Prop where
  ex : ∃ es clock, σ.blk mb = some (.map es clock) ∧ ∀ x ∈ es, (∃ k, x.1 = .int .i64 k) ∧ x.2.1 = .bool true

theorem findK_ok {k : Int} : ∀ {es : List (V × V × Nat)}, (∀ x ∈ es, (∃ k, x.1 = .int .i64 k) ∧ x.2.1 = .bool true) → findK (.int .i64 k) es = some none ∨ findK (.int .i64 k) es = some (some (.bool true))
  | [], _ => Or.inl rfl
  | (k', v', n) :: l, h => by
    obtain ⟨⟨j, hj⟩, hv⟩ := h _ List.mem_cons_self
    simp only at hj hv
    subst hj hv
    simp only [findK, keyEq, if_true]
    cases decide (k = j) with
    | true => exact Or.inr rfl
    | false => exact findK_ok fun x hx => h x (List.mem_cons_of_mem _ hx)

theorem setK_ok {k : Int} {c : Nat} : ∀ {es : List (V × V × Nat)}, (∀ x ∈ es, (∃ k, x.1 = .int .i64 k) ∧ x.2.1 = .bool true) → ∀ x ∈ setK (.int .i64 k) (.bool true) c es, (∃ k, x.1 = .int .i64 k) ∧ x.2.1 = .bool true
  | [], _, x, hx => by
    simp only [setK, List.mem_singleton] at hx
    rw [hx]; exact ⟨⟨k, rfl⟩, rfl⟩
  | (k', v', n) :: l, h, x, hx => by
    obtain ⟨⟨j, hj⟩, hv⟩ := h _ List.mem_cons_self
    simp only at hj hv
    subst hj hv
    simp only [setK, keyEq, if_true] at hx
    cases hd : decide (k = j) with
    | true =>
      rw [hd] at hx
      simp only [List.mem_cons] at hx
      rcases hx with rfl | hx
      · exact ⟨⟨k, rfl⟩, rfl⟩
      · exact h x (List.mem_cons_of_mem _ hx)
    | false =>
      rw [hd] at hx
      simp only [List.mem_cons] at hx
      rcases hx with rfl | hx
      · exact ⟨⟨j, rfl⟩, rfl⟩
      · exact setK_ok (fun x hx => h x (List.mem_cons_of_mem _ hx)) x hx

theorem Late.look {σ : Sto} {mb : Nat} (h : Late σ mb) (k : Int) : ∃ y, lookupV .other σ (.bool false) (.map mb) (.int .i64 k) false = some (.bool y) := by
  obtain ⟨es, clock, hb, he⟩ := h.ex
  rcases findK_ok (k := k) he with h1 | h1
  · exact ⟨false, by simp [lookupV, hb, isKey, h1]⟩
  · exact ⟨true, by simp [lookupV, hb, isKey, h1]⟩

theorem Late.put {σ : Sto} {mb : Nat} (h : Late σ mb) (k : Int) : ∃ x, mapUpdV .other σ (.map mb) (.int .i64 k) (.bool true) = some (σ.upd mb x) ∧ Late (σ.upd mb x) mb := by
  obtain ⟨es, clock, hb, he⟩ := h.ex
  have hlt := Sto.blk_lt hb
  rcases findK_ok (k := k) he with h1 | h1
  · exact ⟨.map (setK (.int .i64 k) (.bool true) clock es) (clock + 1), by simp [mapUpdV, hb, isKey, h1], ⟨_, _, by rw [Sto.blk_upd, if_pos ⟨rfl, hlt⟩], setK_ok he⟩⟩
  · exact ⟨.map (setK (.int .i64 k) (.bool true) clock es) clock, by simp [mapUpdV, hb, isKey, h1], ⟨_, _, by rw [Sto.blk_upd, if_pos ⟨rfl, hlt⟩], setK_ok he⟩⟩

theorem Late.other {σ : Sto} {mb c : Nat} (h : Late σ mb) (hc : c ≠ mb) (x : Blk) : Late (σ.upd c x) mb := by
  obtain ⟨es, clock, hb, he⟩ := h.ex
  exact ⟨es, clock, by rw [Sto.blk_upd, if_neg (fun e => hc e.1.symm)]; exact hb, he⟩

theorem Look.map {σ : Sto} {bys : List V} (h : Look σ b dv rv bys) {mb : Nat} (hm : Late σ mb) (x : Blk) : Look (σ.upd mb x) b dv rv bys := by
  obtain ⟨es, clock, hb, _⟩ := hm.ex
  obtain ⟨bv, h1, h2⟩ := h.ex
  have hne : mb ≠ b := fun e => by subst e; rw [hb] at h1; cases h1
  refine ⟨⟨bv, by rw [Sto.blk_upd, if_neg (fun e => hne e.1.symm)]; exact h1, ?_⟩, h.all⟩
  rcases h2 with h2 | ⟨bb, h3, h4⟩
  · exact Or.inl h2
  · exact Or.inr ⟨bb, h3, h4.other (fun e => by subst e; have := h4.blk; rw [hb] at this; cases this) x⟩

theorem Look.alloc {σ : Sto} {bys : List V} (h : Look σ b dv rv bys) (x : Blk) : Look (σ.alloc x) b dv rv bys := by
  obtain ⟨bv, h1, h2⟩ := h.ex
  refine ⟨⟨bv, Sto.sub_alloc _ _ _ _ h1, ?_⟩, h.all⟩
  rcases h2 with h2 | ⟨bb, h3, h4⟩
  · exact Or.inl h2
  · exact Or.inr ⟨bb, h3, h4.alloc x⟩

theorem loop51 (hr : IsNames rv row) {P T : List V} (hlen : P.length = T.length) (hP : ∀ e ∈ P, ∃ n, IsTyp n e) (hT : ∀ e ∈ T, ∃ n, IsTyp n e) {mb : Nat} : ∀ (k i : Nat), i + k = T.length → ∀ (σ : Sto) (bys : List V), Look σ b dv rv bys → Late σ mb → bys.length = row.length →
    ∃ (stop : Bool) (σ' : Sto) (bys' : List V), Look σ' b dv rv bys' ∧ Late σ' mb ∧ bys'.length = bys.length ∧ ∀ (E F : List V) (pv tv : V), IsSl pv (P ++ E) → IsSl tv (T ++ F) → (T ++ F).length ≤ 140737488355328 →
      L51_0 (.ptr b 0) pv (.map mb) tv (.int .i64 (T ++ F).length) (.int .i64 i) σ = if stop = true then some (.ret (.bool false), σ') else L51_0 (.ptr b 0) pv (.map mb) tv (.int .i64 (T ++ F).length) (.int .i64 T.length) σ' := by
  intro k
  induction k with
  | zero =>
    intro i hi σ bys hst hm hby
    refine ⟨false, σ, bys, hst, hm, rfl, fun E F pv tv _ _ _ => ?_⟩
    have : i = T.length := by omega
    subst this
    rfl
  | succ k ih =>
    intro i hi σ bys hst hm hby
    have hiT : i < T.length := by omega
    have hiP : i < P.length := by omega
    have hTi : T[i]? = some T[i] := List.getElem?_eq_getElem hiT
    have hPi : P[i]? = some P[i] := List.getElem?_eq_getElem hiP
    obtain ⟨nt, ht⟩ := hT _ (List.getElem_mem hiT)
    obtain ⟨np, hp⟩ := hP _ (List.getElem_mem hiP)
    generalize T[i] = t at hTi ht
    generalize P[i] = p at hPi hp
    obtain ⟨bv, hb, hbv⟩ := hst.ex
    have h65 := big65 hb hr hp
    have cont : ∀ (σ1 : Sto) (bys1 : List V), Look σ1 b dv rv bys1 → Late σ1 mb → bys1.length = bys.length → (∀ (E F : List V) (pv tv : V), IsSl pv (P ++ E) → IsSl tv (T ++ F) → L51_0 (.ptr b 0) pv (.map mb) tv (.int .i64 (T ++ F).length) (.int .i64 i) σ = J51_0 (.ptr b 0) pv (.map mb) tv (.int .i64 (T ++ F).length) (.int .i64 i) σ1) →
        ∃ (stop : Bool) (σ' : Sto) (bys' : List V), Look σ' b dv rv bys' ∧ Late σ' mb ∧ bys'.length = bys.length ∧ ∀ (E F : List V) (pv tv : V), IsSl pv (P ++ E) → IsSl tv (T ++ F) → (T ++ F).length ≤ 140737488355328 →
      L51_0 (.ptr b 0) pv (.map mb) tv (.int .i64 (T ++ F).length) (.int .i64 i) σ = if stop = true then some (.ret (.bool false), σ') else L51_0 (.ptr b 0) pv (.map mb) tv (.int .i64 (T ++ F).length) (.int .i64 T.length) σ' := by
      intro σ1 bys1 l1 l2 l3 l4
      obtain ⟨stop, σ', bys', g1, g2, g3, g4⟩ := ih (i + 1) (by omega) σ1 bys1 l1 l2 (l3.trans hby)
      refine ⟨stop, σ', bys', g1, g2, g3.trans l3, fun E F pv tv he hf hl => ?_⟩
      rw [l4 E F pv tv he hf, ← g4 E F pv tv he hf hl]
      have hw : wrapI .i64 ((i : Int) + 1) = ((i + 1 : Nat) : Int) := by
        rw [wrap64 (by rw [List.length_append] at hl; omega)]; simp
      unfold J51_0
      simp only [binV_int, intBin_add, Option.bind_some, hw]
    obtain ⟨cs, rfl, hcs, hone⟩ := hp.flat
    have ht0 := ht
    obtain ⟨k2, nm2, s2, es2, rfl, hs2⟩ := ht.names
    have honet := ht0.ones
    have hz : [V.int .i64 0, .str [], .nsl].length = 3 := rfl
    have pt : part [V.int .i64 k2, .str nm2, s2] 0 (some 3) = some (.agg [.int .i64 k2, .str nm2, s2]) := part_all rfl
    have hst3 : stC [V.int .i64 0, .str [], .nsl] 0 3 (.agg [.int .i64 k2, .str nm2, s2]) = some [.int .i64 k2, .str nm2, s2] := stC_all rfl hz honet
    have start : ∀ (E F : List V) (pv tv : V), IsSl pv (P ++ E) → IsSl tv (T ++ F) → decide ((i : Int) < (T ++ F).length) = true ∧ indexAddrV 3 tv (.int .i64 i) = some (.vp [.int .i64 k2, .str nm2, s2]) ∧ indexAddrV 3 pv (.int .i64 i) = some (.vp cs) := fun E F pv tv he hf => by
      refine ⟨by simp; omega, ?_, ?_⟩
      · exact hf.get (e := .agg [.int .i64 k2, .str nm2, s2]) (by omega) (by rw [Int.toNat_natCast, List.getElem?_append_left hiT]; exact hTi) rfl
      · exact he.get (e := .agg cs) (by omega) (by rw [Int.toNat_natCast, List.getElem?_append_left hiP]; exact hPi) hcs
    by_cases hk2 : k2 = 2
    · rcases own_cases row (.agg cs) with ho | ⟨j, ho, hjl⟩
      · refine cont σ bys hst hm rfl fun E F pv tv he hf => ?_
        obtain ⟨a1, a2, a3⟩ := start E F pv tv he hf
        have hneg : decide ((-1 : Int) < 0) = true := rfl
        have hk : decide (k2 = 2) = true := by simpa using hk2
        rw [L51_0_eq]
        iterate 6 (try simp only [binV_int, intBin_lss, a1, a2, a3, Option.bind_some, condV_t, ldV_vp, pt, hst3, part_all hcs, h65, bindR_ret, part_none, List.getElem?_cons_zero, intBin_neq, hk, Bool.not_true, gd_ff, ho, hneg, pickS_f, J51_1])
      · have hpos : decide ((j : Int) < 0) = false := by simp
        have hjb : j < bys.length := by omega
        have hget : bys[j]? = some bys[j] := List.getElem?_eq_getElem hjb
        have hmem : bys[j] ∈ bys := List.getElem_mem hjb
        generalize bys[j] = e at hget hmem
        obtain ⟨me, hte⟩ := hst.all e hmem
        have hk : decide (k2 = 2) = true := by simpa using hk2
        have hn : nilCheckV (.ptr b 0) = some (.ptr b 0) := rfl
        have hl2 : ldV σ none (.ptr b (0 + 2)) = some bv := (ldV_ptr hb).trans rfl
        rcases hbv with ⟨rfl, _⟩ | ⟨bb, hne, hrow⟩
        · simp at hjb
        · have hte0 := hte
          obtain ⟨ke, ne, se, ese, rfl, hse⟩ := hte.names
          have hidx := hrow.idx hjb
          have hld := hrow.ld hget
          have hld0 := hrow.ld0 hget (c := .int .i64 ke) (cs := [.str ne, se]) rfl
          have hfill : fillC [V.int .i64 0, .str [], .nsl] [(0, 1, .int .i64 1), (1, 1, .str nm2)] = some [.int .i64 1, .str nm2, .nsl] := rfl
          have hstb : stC [V.int .i64 0, .str [], .nsl] 0 3 (.agg [.int .i64 1, .str nm2, .nsl]) = some [.int .i64 1, .str nm2, .nsl] := rfl
          have hpb : part [V.int .i64 1, .str nm2, .nsl] 0 (some 3) = some (.agg [.int .i64 1, .str nm2, .nsl]) := rfl
          have hmb : bb ≠ mb := fun e => by
            subst e
            obtain ⟨_, _, h1, _⟩ := hm.ex
            have := hrow.blk
            rw [h1] at this
            cases this
          by_cases hke : ke = 0
          · have hke' : decide (ke = 0) = true := by simpa using hke
            obtain ⟨hs1, hs2'⟩ := hrow.st (t := .agg [.int .i64 1, .str nm2, .nsl]) hjb rfl rfl (by omega)
            have hlook : Look (σ.upd bb (.cells ((bys.set j (.agg [.int .i64 1, .str nm2, .nsl])).flatMap V.cells))) b dv rv (bys.set j (.agg [.int .i64 1, .str nm2, .nsl])) := ⟨⟨bv, by
              rw [Sto.blk_upd, if_neg (fun e => hne e.1.symm)]
              exact hb, Or.inr ⟨bb, hne, hs2'⟩⟩, fun x hx => by
              rcases List.mem_or_eq_of_mem_set hx with hx | rfl
              · exact hst.all x hx
              · exact ⟨1, isTyp_basic' nm2⟩⟩
            have hlate := hm.other hmb (.cells ((bys.set j (.agg [.int .i64 1, .str nm2, .nsl])).flatMap V.cells))
            obtain ⟨x, hx1, hx2⟩ := hlate.put j
            refine cont _ _ (hlook.map hlate x) hx2 (by simp) fun E F pv tv he hf => ?_
            obtain ⟨a1, a2, a3⟩ := start E F pv tv he hf
            rw [L51_0_eq]
            iterate 7 (try simp only [binV_int, intBin_lss, a1, a2, a3, Option.bind_some, condV_t, condV_f, ldV_vp, pt, hst3, part_all hcs, h65, bindR_ret, part_none, List.getElem?_cons_zero, List.getElem?_cons_succ, intBin_neq, intBin_eql, hk, Bool.not_true, gd_ff, ho, hpos, pickS_f, hfill, hstb, hn, fieldAddrV_ptr, hl2, hidx, hld0, hke', hpb, hs1, hx1, J51_2, J51_1])
          · have hke' : decide (ke = 0) = false := by simpa using hke
            obtain ⟨y, hy⟩ := hm.look j
            obtain ⟨r, hr32⟩ := pure32 hte0 (isTyp_basic' nm2)
            have hr32' : callPure (D ft) 32 [.agg [.int .i64 ke, .str ne, se], .agg [.int .i64 1, .str nm2, .nsl]] = some (.bool r) := hr32
            cases y with
            | false =>
              refine cont σ bys hst hm rfl fun E F pv tv he hf => ?_
              obtain ⟨a1, a2, a3⟩ := start E F pv tv he hf
              rw [L51_0_eq]
              iterate 7 (try simp only [binV_int, intBin_lss, a1, a2, a3, Option.bind_some, condV_t, condV_f, ldV_vp, pt, hst3, part_all hcs, h65, bindR_ret, part_none, List.getElem?_cons_zero, List.getElem?_cons_succ, intBin_neq, intBin_eql, hk, Bool.not_true, gd_ff, gd_ft, ho, hpos, pickS_f, hfill, hstb, hn, fieldAddrV_ptr, hl2, hidx, hld0, hke', hy, J51_2, J51_1])
            | true =>
              cases r with
              | true =>
                refine cont σ bys hst hm rfl fun E F pv tv he hf => ?_
                obtain ⟨a1, a2, a3⟩ := start E F pv tv he hf
                rw [L51_0_eq]
                iterate 7 (try simp only [binV_int, intBin_lss, a1, a2, a3, Option.bind_some, condV_t, condV_f, ldV_vp, pt, hst3, part_all hcs, h65, bindR_ret, part_none, List.getElem?_cons_zero, List.getElem?_cons_succ, intBin_neq, intBin_eql, hk, Bool.not_true, gd_ff, gd_tt, ho, hpos, pickS_f, pickS_t, hfill, hstb, hn, fieldAddrV_ptr, hl2, hidx, hld, V.cells_agg, hld0, hke', hy, hpb, hr32', notV_bool, J51_2, J51_1])
              | false =>
                refine ⟨true, σ, bys, hst, hm, rfl, fun E F pv tv he hf _ => ?_⟩
                obtain ⟨a1, a2, a3⟩ := start E F pv tv he hf
                rw [L51_0_eq]
                iterate 7 (try simp only [binV_int, intBin_lss, a1, a2, a3, Option.bind_some, condV_t, condV_f, ldV_vp, pt, hst3, part_all hcs, h65, bindR_ret, part_none, List.getElem?_cons_zero, List.getElem?_cons_succ, intBin_neq, intBin_eql, hk, Bool.not_true, Bool.not_false, gd_ff, gd_tt, ho, hpos, pickS_f, pickS_t, hfill, hstb, hn, fieldAddrV_ptr, hl2, hidx, hld, V.cells_agg, hld0, hke', hy, hpb, hr32', notV_bool, if_true])
    · refine cont σ bys hst hm rfl fun E F pv tv he hf => ?_
      obtain ⟨a1, a2, a3⟩ := start E F pv tv he hf
      have hk : decide (k2 = 2) = false := by simpa using hk2
      rw [L51_0_eq]
      iterate 6 (try simp only [binV_int, intBin_lss, a1, a2, a3, Option.bind_some, condV_t, ldV_vp, pt, hst3, part_all hcs, h65, bindR_ret, part_none, List.getElem?_cons_zero, intBin_neq, hk, Bool.not_false, gd_tf, pickS_t, J51_1])

end

end Go.Eng
