/- The end of a search: those that are untyped, and whether each of the row has a type. -/
import Derived.Test.YtjldgekmjnkofaaU5
set_option linter.unusedVariables false
set_option linter.unusedSimpArgs false
namespace Go.Eng
open Go

/-- Nothing more, or one pair of basic types. -/
def OneMore (E F : List V) : Prop := (E = [] ∧ F = []) ∨ ∃ v w, E = [basicT' v] ∧ F = [basicT' w]

section
variable {dv rv : V} {ds : List DefL} {row : List (List UInt8)} {b : Nat}

theorem end51 (hr : IsNames rv row) {P T E F : List V} {pv tv : V} {mb : Nat} {σ : Sto} {bys : List V} (hlen : P.length = T.length) (hl : (T ++ F).length ≤ 140737488355328) (hef : OneMore E F) (hp : IsSl pv (P ++ E)) (ht : IsSl tv (T ++ F)) (hst : Look σ b dv rv bys) :
    L51_0 (.ptr b 0) pv (.map mb) tv (.int .i64 (T ++ F).length) (.int .i64 T.length) σ = some (.ret (.bool true), σ) := by
  have fin : ∀ i : Nat, i = (T ++ F).length → L51_0 (.ptr b 0) pv (.map mb) tv (.int .i64 (T ++ F).length) (.int .i64 i) σ = some (.ret (.bool true), σ) := fun i hi => by
    have hlt : decide ((i : Int) < (T ++ F).length) = false := by rw [hi]; simp
    rw [L51_0_eq]
    iterate 3 (try simp only [binV_int, intBin_lss, hlt, Option.bind_some, condV_f])
  rcases hef with ⟨rfl, rfl⟩ | ⟨v, w, rfl, rfl⟩
  · exact fin _ (by simp)
  · obtain ⟨bv, hb, _⟩ := hst.ex
    have h65 := big65 hb hr (isTyp_basic' v)
    have hlt : decide ((T.length : Int) < (T ++ [basicT' w]).length) = true := by simp; omega
    have hidx : indexAddrV 3 tv (.int .i64 T.length) = some (.vp [.int .i64 1, .str w, .nsl]) := ht.get (e := basicT' w) (by omega) (by rw [Int.toNat_natCast, List.getElem?_append_right (Nat.le_refl _), Nat.sub_self]; rfl) rfl
    have hidx2 : indexAddrV 3 pv (.int .i64 T.length) = some (.vp [.int .i64 1, .str v, .nsl]) := hp.get (e := basicT' v) (by omega) (by rw [Int.toNat_natCast, ← hlen, List.getElem?_append_right (Nat.le_refl _), Nat.sub_self]; rfl) rfl
    have pw : ∀ u : List UInt8, part [V.int .i64 1, .str u, .nsl] 0 (some 3) = some (basicT' u) := fun u => rfl
    have sw : stC [V.int .i64 0, .str [], .nsl] 0 3 (basicT' w) = some [.int .i64 1, .str w, .nsl] := rfl
    have hown : ownI row (basicT' v) = -1 := rfl
    have hneg : decide ((-1 : Int) < 0) = true := rfl
    have h12 : decide ((1 : Int) = 2) = false := rfl
    have hw : wrapI .i64 ((T.length : Int) + 1) = ((T.length + 1 : Nat) : Int) := by
      rw [wrap64 (by rw [List.length_append] at hl; omega)]; simp
    have hfin := fin (T.length + 1) (by simp)
    rw [L51_0_eq]
    iterate 7 (try simp only [binV_int, intBin_lss, hlt, hidx, hidx2, Option.bind_some, condV_t, ldV_vp, pw, sw, h65, bindR_ret, part_none, List.getElem?_cons_zero, intBin_neq, h12, Bool.not_false, gd_tf, pickS_t, J51_1, J51_0, intBin_add, hw])
    exact hfin

theorem big51 (hr : IsNames rv row) {P T : List V} (hlen : P.length = T.length) (hP : ∀ e ∈ P, ∃ n, IsTyp n e) (hT : ∀ e ∈ T, ∃ n, IsTyp n e) (hl : T.length + 1 ≤ 140737488355328) {σ : Sto} {bys : List V} (hst : Look σ b dv rv bys) (hby : bys.length = row.length) :
    ∃ (x : Bool) (σ' : Sto) (bys' : List V), Look σ' b dv rv bys' ∧ bys'.length = bys.length ∧ ∀ (E F : List V) (pv tv : V), OneMore E F → IsSl pv (P ++ E) → IsSl tv (T ++ F) → D ft 51 [.ptr b 0, pv, tv] σ = some (.ret (.bool x), σ') := by
  have hlate : Late (σ.alloc (.map [] 0)) σ.next := ⟨[], 0, Sto.blk_next _ _, fun x hx => by cases hx⟩
  obtain ⟨stop, σ', bys', g1, _, g3, g4⟩ := loop51 hr hlen hP hT T.length 0 (by omega) _ bys (hst.alloc (.map [] 0)) hlate hby
  refine ⟨!stop, σ', bys', g1, g3, fun E F pv tv hef hp ht => ?_⟩
  have hle : (T ++ F).length ≤ 140737488355328 := by
    rcases hef with ⟨_, rfl⟩ | ⟨v, w, _, rfl⟩ <;> simp <;> omega
  rw [D51_eq]
  simp only [alS_eq, ht.len, Option.bind_some]
  have := g4 E F pv tv hp ht hle
  rw [show (((0 : Nat) : Int)) = (0 : Int) from rfl] at this
  rw [this]
  cases stop with
  | true => rfl
  | false =>
    rw [if_neg (by simp)]
    exact end51 hr hlen hle hef hp ht g1

/-! ## Has each a type? -/

def noneB (e : V) : Bool := decide (kindOf e = 0)

theorem pure53 {n : Nat} {e : V} (h : IsTyp n e) : callPure (D ft) 53 [e] = some (.bool (noneB e)) := by
  obtain ⟨e', h1, h2, h3⟩ := h.pure
  have h2' := h2
  obtain ⟨k, nm, s, es, rfl, hs⟩ := h2.names
  refine callPure_of (vs' := [.agg [.int .i64 k, .str nm, s]]) (by simp only [V.pures, h1]) (v := .bool (noneB e)) (σ := .empty) ?_ rfl
  rw [D53_eq]
  have hk : kindOf e = k := h3.1.symm
  unfold noneB
  rw [hk]
  iterate 3 (try simp only [boxC_all h2'.ones, Option.bind_some, part_none, List.getElem?_cons_zero, binV_int, intBin_eql])

theorem app53 {n : Nat} {e : V} (h : IsTyp n e) (σ : Sto) : appV (D ft) (.func 53 []) [e] σ = some (.ret (.bool (noneB e)), σ) := by
  obtain ⟨e', h1, _⟩ := h.pure
  exact appV_pure (ps := [e']) (by simp only [List.append_nil, V.pures, h1]) (by rw [List.append_nil]; exact pure53 h)

theorem loop67r {σ : Sto} {bb : Nat} {bv : V} {bys : List V} (hrow : Row σ 3 bb bv bys) (hall : ∀ e ∈ bys, ∃ m, IsTyp m e) (hlen : bys.length ≤ 9223372036854775807) :
    ∀ rest pre : List V, bys = pre ++ rest → L67_0 bv (.func 53 []) (.int .i64 bys.length) (.int .i64 pre.length) σ = some (.ret (.int .i64 (idx noneB rest pre.length)), σ) := by
  intro rest
  induction rest with
  | nil =>
    intro pre hpre
    rw [L67_0_eq]
    have hlt : decide ((pre.length : Int) < bys.length) = false := by rw [hpre]; simp
    simp only [binV_int, intBin_lss, Option.bind_some, hlt, condV_f]
    rfl
  | cons e rest ih =>
    intro pre hpre
    rw [L67_0_eq]
    have hlt : decide ((pre.length : Int) < bys.length) = true := by rw [hpre]; simp; omega
    have hpl : pre.length < bys.length := by rw [hpre]; simp
    have he : e ∈ bys := by rw [hpre]; simp
    have hget : bys[pre.length]? = some e := by rw [hpre]; simp
    obtain ⟨m, hm⟩ := hall e he
    have happ := app53 hm σ
    obtain ⟨cs, rfl, hcs⟩ := hm.agg
    have hidx := hrow.idx hpl
    have hld := hrow.ld hget
    have hw : wrapI .i64 ((pre.length : Int) + 1) = ((pre ++ [V.agg cs]).length : Int) := by
      rw [wrap64 (by have := hlt; simp at this; omega)]; simp
    simp only [V.cells_agg] at hld
    iterate 3 (try simp only [binV_int, intBin_lss, Option.bind_some, hlt, condV_t, hidx, hld, happ, bindR_ret, intBin_add, hw])
    cases hqe : noneB (.agg cs) with
    | true => simp [idx, hqe]
    | false =>
      simp only [condV_f]
      have hih := ih (pre ++ [V.agg cs]) (by rw [hpre]; simp)
      rw [hih]
      simp [idx, hqe]

theorem big52r {σ : Sto} {bv : V} {bys : List V} (h : (bys = [] ∧ bv = .nsl) ∨ ∃ bb, Row σ 3 bb bv bys) (hall : ∀ e ∈ bys, ∃ m, IsTyp m e) (hlen : bys.length ≤ 9223372036854775807) : D ft 52 [bv, .func 53 []] σ = some (.ret (.bool (bys.any noneB)), σ) := by
  rcases h with ⟨rfl, rfl⟩ | ⟨bb, hrow⟩
  · exact contains52 noneB .nsl (fun e he => by cases he) (fun e he => by cases he) (by simp)
  · have hl : lenV .sl σ bv = some (.int .i64 bys.length) := by rw [hrow.v]; rfl
    have h0 := loop67r hrow hall hlen bys [] rfl
    rw [D52_eq, D67_eq]
    simp only [hl, Option.bind_some]
    rw [show ((0 : Int)) = (([] : List V).length : Int) from rfl, h0]
    simp only [bindR_ret, binV_int, intBin_geq, Option.bind_some]
    rw [show (([] : List V).length : Int) = 0 from rfl, idx_any]

/-- What a search comes to. -/
def Found (row : List (List UInt8)) (v : V) (σ : Sto) : Prop := v = .tup [.nsl, .bool false] ∨ ∃ bv bys, v = .tup [bv, .bool true] ∧ ((bys = [] ∧ bv = .nsl) ∨ ∃ bb, Row σ 3 bb bv bys) ∧ (∀ e ∈ bys, ∃ m, IsTyp m e) ∧ bys.length = row.length ∧ bys.any noneB = false

theorem end28 (hr : IsNames rv row) {P T : List V} (hlen : P.length = T.length) (hP : ∀ e ∈ P, ∃ n, IsTyp n e) (hT : ∀ e ∈ T, ∃ n, IsTyp n e) (hl : T.length + 1 ≤ 140737488355328) {σ : Sto} {bys : List V} (hst : Look σ b dv rv bys) (hby : bys.length = row.length) (hrl : row.length ≤ 10) :
    ∃ (v : V) (σ' : Sto), Found row v σ' ∧ ∀ (E F : List V) (pv tv : V), OneMore E F → IsSl pv (P ++ E) → IsSl tv (T ++ F) → ∀ i : Nat, i = (T ++ F).length → L28_0 pv tv (.ptr b 0) tv (.int .i64 (T ++ F).length) (.int .i64 i) σ = some (.ret v, σ') := by
  obtain ⟨x, σ1, bys1, g1, g2, g3⟩ := big51 hr hlen hP hT hl hst hby
  have hn : nilCheckV (.ptr b 0) = some (.ptr b 0) := rfl
  cases x with
  | false =>
    refine ⟨.tup [.nsl, .bool false], σ1, Or.inl rfl, fun E F pv tv hef hp ht i hi => ?_⟩
    have hlt : decide ((i : Int) < (T ++ F).length) = false := by rw [hi]; simp
    rw [L28_0_eq]
    iterate 6 (try simp only [binV_int, intBin_lss, hlt, Option.bind_some, condV_f, condV_t, g3 E F pv tv hef hp ht, bindR_ret, notV_bool, Bool.not_false, gd_tf, gdR_tf, pickS_t])
  | true =>
    obtain ⟨bv, hb, hbv⟩ := g1.ex
    have hl2 : ldV σ1 none (.ptr b (0 + 2)) = some bv := (ldV_ptr hb).trans rfl
    have hbv' : (bys1 = [] ∧ bv = .nsl) ∨ ∃ bb, Row σ1 3 bb bv bys1 := by
      rcases hbv with h | ⟨bb, _, h⟩
      · exact Or.inl h
      · exact Or.inr ⟨bb, h⟩
    have h52 := big52r hbv' g1.all (by omega)
    cases hany : bys1.any noneB with
    | true =>
      rw [hany] at h52
      refine ⟨.tup [.nsl, .bool false], σ1, Or.inl rfl, fun E F pv tv hef hp ht i hi => ?_⟩
      have hlt : decide ((i : Int) < (T ++ F).length) = false := by rw [hi]; simp
      rw [L28_0_eq]
      iterate 7 (try simp only [binV_int, intBin_lss, hlt, Option.bind_some, condV_f, condV_t, g3 E F pv tv hef hp ht, bindR_ret, notV_bool, Bool.not_true, gd_ff, hn, fieldAddrV_ptr, hl2, gdR_ff, h52, pickS_f])
    | false =>
      rw [hany] at h52
      refine ⟨.tup [bv, .bool true], σ1, Or.inr ⟨bv, bys1, rfl, hbv', g1.all, g2.trans hby, hany⟩, fun E F pv tv hef hp ht i hi => ?_⟩
      have hlt : decide ((i : Int) < (T ++ F).length) = false := by rw [hi]; simp
      rw [L28_0_eq]
      iterate 7 (try simp only [binV_int, intBin_lss, hlt, Option.bind_some, condV_f, condV_t, g3 E F pv tv hef hp ht, bindR_ret, notV_bool, Bool.not_true, gd_ff, hn, fieldAddrV_ptr, hl2, gdR_ff, h52, pickS_f])

end

end Go.Eng
