/- The rounds of a search. -/
import Derived.Test.YtjldgekmjnkofaaU6
set_option linter.unusedVariables false
set_option linter.unusedSimpArgs false
namespace Go.Eng
open Go

def lost : V := .tup [.nsl, .bool false]

section
variable {dv rv : V} {ds : List DefL} {row : List (List UInt8)} {b : Nat}

theorem loop28 (hd : IsDefs dv ds) (hr : IsNames rv row) {P T : List V} (hlen : P.length = T.length) (hP : ∀ e ∈ P, ∃ n, IsTyp n e) (hT : ∀ e ∈ T, ∃ n, IsTyp n e) : ∀ (k i : Nat), i + k = T.length → ∀ (σ : Sto) (bys : List V), Look σ b dv rv bys → bys.length = row.length →
    ∃ (stop : Bool) (σ' : Sto) (bys' : List V), Look σ' b dv rv bys' ∧ bys'.length = bys.length ∧ ∀ (E F : List V) (pv tv : V), IsSl pv (P ++ E) → IsSl tv (T ++ F) → (T ++ F).length ≤ 140737488355328 →
      L28_0 pv tv (.ptr b 0) tv (.int .i64 (T ++ F).length) (.int .i64 i) σ = if stop = true then some (.ret lost, σ') else L28_0 pv tv (.ptr b 0) tv (.int .i64 (T ++ F).length) (.int .i64 T.length) σ' := by
  intro k
  induction k with
  | zero =>
    intro i hi σ bys hst hby
    refine ⟨false, σ, bys, hst, rfl, fun E F pv tv _ _ _ => ?_⟩
    have : i = T.length := by omega
    subst this
    rfl
  | succ k ih =>
    intro i hi σ bys hst hby
    have hiT : i < T.length := by omega
    have hiP : i < P.length := by omega
    have hTi : T[i]? = some T[i] := List.getElem?_eq_getElem hiT
    have hPi : P[i]? = some P[i] := List.getElem?_eq_getElem hiP
    obtain ⟨nt, ht⟩ := hT _ (List.getElem_mem hiT)
    obtain ⟨np, hp⟩ := hP _ (List.getElem_mem hiP)
    generalize T[i] = t at hTi ht
    generalize P[i] = p at hPi hp
    obtain ⟨bv, hb, hbv⟩ := hst.ex
    have cont : ∀ (σ1 : Sto) (bys1 : List V), Look σ1 b dv rv bys1 → bys1.length = bys.length → (∀ (E F : List V) (pv tv : V), IsSl pv (P ++ E) → IsSl tv (T ++ F) → L28_0 pv tv (.ptr b 0) tv (.int .i64 (T ++ F).length) (.int .i64 i) σ = J28_0 pv tv (.ptr b 0) tv (.int .i64 (T ++ F).length) (.int .i64 i) σ1) →
        ∃ (stop : Bool) (σ' : Sto) (bys' : List V), Look σ' b dv rv bys' ∧ bys'.length = bys.length ∧ ∀ (E F : List V) (pv tv : V), IsSl pv (P ++ E) → IsSl tv (T ++ F) → (T ++ F).length ≤ 140737488355328 →
      L28_0 pv tv (.ptr b 0) tv (.int .i64 (T ++ F).length) (.int .i64 i) σ = if stop = true then some (.ret lost, σ') else L28_0 pv tv (.ptr b 0) tv (.int .i64 (T ++ F).length) (.int .i64 T.length) σ' := by
      intro σ1 bys1 l1 l3 l4
      obtain ⟨stop, σ', bys', g1, g3, g4⟩ := ih (i + 1) (by omega) σ1 bys1 l1 (l3.trans hby)
      refine ⟨stop, σ', bys', g1, g3.trans l3, fun E F pv tv he hf hl => ?_⟩
      rw [l4 E F pv tv he hf, ← g4 E F pv tv he hf hl]
      have hw : wrapI .i64 ((i : Int) + 1) = ((i + 1 : Nat) : Int) := by
        rw [wrap64 (by rw [List.length_append] at hl; omega)]; simp
      unfold J28_0
      simp only [binV_int, intBin_add, Option.bind_some, hw]
    have ht0 := ht
    have hp0 := hp
    obtain ⟨cs, rfl, hcs, hone⟩ := hp.flat
    obtain ⟨k2, nm2, s2, es2, rfl, hs2⟩ := ht.names
    have honet := ht0.ones
    have hz : [V.int .i64 0, .str [], .nsl].length = 3 := rfl
    have pt : part [V.int .i64 k2, .str nm2, s2] 0 (some 3) = some (.agg [.int .i64 k2, .str nm2, s2]) := part_all rfl
    have hst3 : stC [V.int .i64 0, .str [], .nsl] 0 3 (.agg [.int .i64 k2, .str nm2, s2]) = some [.int .i64 k2, .str nm2, s2] := stC_all rfl hz honet
    have start : ∀ (E F : List V) (pv tv : V), IsSl pv (P ++ E) → IsSl tv (T ++ F) → decide ((i : Int) < (T ++ F).length) = true ∧ indexAddrV 3 tv (.int .i64 i) = some (.vp [.int .i64 k2, .str nm2, s2]) ∧ indexAddrV 3 pv (.int .i64 i) = some (.vp cs) := fun E F pv tv he hf => by
      refine ⟨by simp; omega, ?_, ?_⟩
      · exact hf.get (e := .agg [.int .i64 k2, .str nm2, s2]) (by omega) (by rw [Int.toNat_natCast, List.getElem?_append_left hiT]; exact hTi) rfl
      · exact he.get (e := .agg cs) (by omega) (by rw [Int.toNat_natCast, List.getElem?_append_left hiP]; exact hPi) hcs
    by_cases hk2 : k2 = 2
    · refine cont σ bys hst rfl fun E F pv tv he hf => ?_
      obtain ⟨a1, a2, a3⟩ := start E F pv tv he hf
      have hk : decide (k2 = 2) = true := by simpa using hk2
      rw [L28_0_eq]
      iterate 6 (try simp only [binV_int, intBin_lss, a1, a2, Option.bind_some, condV_t, ldV_vp, pt, hst3, part_none, List.getElem?_cons_zero, intBin_eql, hk, J28_1])
    · have hk : decide (k2 = 2) = false := by simpa using hk2
      obtain ⟨p', t', n', m', x, q1, q2, q3⟩ := big49 hd hp0 ht0
      have h49 := q3 σ b rv bv hb
      have h50 := big50 hd hr 100 (Nat.le_refl _) n' m' p' t' σ bys q1 q2 hst hby
      obtain ⟨cp, rfl, hcp, honep⟩ := q1.flat
      obtain ⟨ct, rfl, hct, honec⟩ := q2.flat
      have sp : stC [V.int .i64 0, .str [], .nsl] 0 3 (.agg cp) = some cp := stC_all hcp hz honep
      have st' : stC [V.int .i64 0, .str [], .nsl] 0 3 (.agg ct) = some ct := stC_all hct hz honec
      cases x with
      | false =>
        refine ⟨true, σ, bys, hst, rfl, fun E F pv tv he hf _ => ?_⟩
        obtain ⟨a1, a2, a3⟩ := start E F pv tv he hf
        rw [L28_0_eq]
        iterate 7 (try simp only [binV_int, intBin_lss, a1, a2, a3, Option.bind_some, condV_t, condV_f, ldV_vp, pt, hst3, part_none, List.getElem?_cons_zero, List.getElem?_cons_succ, intBin_eql, hk, part_all hcs, h49, bindR_ret, extractV_tup, sp, st', notV_bool, Bool.not_false, gd_tf, gdR_tf, pickS_t, if_true, lost])
      | true =>
        obtain ⟨x, σ', bys', g1, g2, g3⟩ := h50
        have g1' : D ft 50 [.ptr b 0, .agg cp, .agg ct, .int .i64 100] σ = some (.ret (.bool x), σ') := g1
        cases x with
        | false =>
          refine ⟨true, σ', bys', g2, g3, fun E F pv tv he hf _ => ?_⟩
          obtain ⟨a1, a2, a3⟩ := start E F pv tv he hf
          rw [L28_0_eq]
          iterate 8 (try simp only [binV_int, intBin_lss, a1, a2, a3, Option.bind_some, condV_t, condV_f, ldV_vp, pt, hst3, part_none, List.getElem?_cons_zero, List.getElem?_cons_succ, intBin_eql, hk, part_all hcs, h49, bindR_ret, extractV_tup, sp, st', part_all hcp, part_all hct, notV_bool, Bool.not_false, Bool.not_true, gd_ff, gdR_ff, g1', pickS_f, if_true, lost])
        | true =>
          refine cont σ' bys' g2 g3 fun E F pv tv he hf => ?_
          obtain ⟨a1, a2, a3⟩ := start E F pv tv he hf
          rw [L28_0_eq]
          iterate 8 (try simp only [binV_int, intBin_lss, a1, a2, a3, Option.bind_some, condV_t, condV_f, ldV_vp, pt, hst3, part_none, List.getElem?_cons_zero, List.getElem?_cons_succ, intBin_eql, hk, part_all hcs, h49, bindR_ret, extractV_tup, sp, st', part_all hcp, part_all hct, notV_bool, Bool.not_true, gd_ff, gdR_ff, g1', pickS_f, J28_1])

/-- Basic types fit if they are the same. -/
theorem fits_basic {v w : List UInt8} {r : Bool} (h32 : callPure (D ft) 32 [basicT' v, basicT' w] = some (.bool r)) (hr : IsNames rv row) {σ : Sto} {bv : V} (hb : σ.blk b = some (.cells [dv, rv, bv])) : D ft 50 [.ptr b 0, basicT' v, basicT' w, .int .i64 100] σ = some (.ret (.bool r), σ) := by
  have h65 := big65 hb hr (isTyp_basic' v)
  rw [show ownI row (basicT' v) = -1 from rfl] at h65
  have bx : ∀ u : List UInt8, boxC (basicT' u) = some [.int .i64 1, .str u, .nsl] := fun u => rfl
  have px : ∀ u : List UInt8, part [V.int .i64 1, .str u, .nsl] 0 (some 3) = some (basicT' u) := fun u => rfl
  have h0 : decide ((100 : Int) = 0) = false := rfl
  have h1 : decide ((0 : Int) ≤ -1) = false := rfl
  have h5 : decide ((1 : Int) = 5) = false := rfl
  have h6 : decide ((1 : Int) = 6) = false := rfl
  have h3 : decide ((1 : Int) = 3) = false := rfl
  rw [D50_eq]
  iterate 9 (try simp only [bx, px, Option.bind_some, h65, bindR_ret, binV_int, intBin_eql, intBin_geq, h0, h1, h5, h6, h3, condV_f, condV_t, gd_ft, gd_ff, pickS_f, part_none, List.getElem?_cons_zero, chkB_b, h32])

/-- One pair of basic types more. -/
theorem more28 (hd : IsDefs dv ds) (hr : IsNames rv row) {P T : List V} {pv tv : V} {v w : List UInt8} {r : Bool} (h32 : callPure (D ft) 32 [basicT' v, basicT' w] = some (.bool r)) {σ : Sto} {bys : List V} (hlen : P.length = T.length) (hl : T.length + 1 ≤ 140737488355328) (hp : IsSl pv (P ++ [basicT' v])) (ht : IsSl tv (T ++ [basicT' w])) (hst : Look σ b dv rv bys) :
    L28_0 pv tv (.ptr b 0) tv (.int .i64 (T ++ [basicT' w]).length) (.int .i64 T.length) σ = if r = true then L28_0 pv tv (.ptr b 0) tv (.int .i64 (T ++ [basicT' w]).length) (.int .i64 ((T.length + 1 : Nat) : Int)) σ else some (.ret lost, σ) := by
  obtain ⟨bv, hb, _⟩ := hst.ex
  have hlt : decide ((T.length : Int) < (T ++ [basicT' w]).length) = true := by simp; omega
  have hidx : indexAddrV 3 tv (.int .i64 T.length) = some (.vp [.int .i64 1, .str w, .nsl]) := ht.get (e := basicT' w) (by omega) (by rw [Int.toNat_natCast, List.getElem?_append_right (Nat.le_refl _), Nat.sub_self]; rfl) rfl
  have hidx2 : indexAddrV 3 pv (.int .i64 T.length) = some (.vp [.int .i64 1, .str v, .nsl]) := hp.get (e := basicT' v) (by omega) (by rw [Int.toNat_natCast, ← hlen, List.getElem?_append_right (Nat.le_refl _), Nat.sub_self]; rfl) rfl
  have pw : ∀ u : List UInt8, part [V.int .i64 1, .str u, .nsl] 0 (some 3) = some (basicT' u) := fun u => rfl
  have sw : ∀ u : List UInt8, stC [V.int .i64 0, .str [], .nsl] 0 3 (basicT' u) = some [.int .i64 1, .str u, .nsl] := fun u => rfl
  have h12 : decide ((1 : Int) = 2) = false := rfl
  have hw : wrapI .i64 ((T.length : Int) + 1) = ((T.length + 1 : Nat) : Int) := by
    rw [wrap64 (by omega)]; simp
  have h49 := full49 hd v w σ b rv bv hb
  have h50 := fits_basic (dv := dv) (b := b) h32 hr hb
  rw [L28_0_eq]
  iterate 8 (try simp only [binV_int, intBin_lss, hlt, hidx, hidx2, Option.bind_some, condV_t, condV_f, ldV_vp, pw, sw, part_none, List.getElem?_cons_zero, List.getElem?_cons_succ, intBin_eql, h12, h49, bindR_ret, extractV_tup, notV_bool, Bool.not_true, gd_ff, gdR_ff, h50, pickS_f])
  cases r with
  | true => iterate 3 (try simp only [Bool.not_true, condV_f, J28_1, J28_0, binV_int, intBin_add, Option.bind_some, hw, if_true])
  | false => iterate 3 (try simp only [Bool.not_false, condV_t, Bool.false_eq_true, if_false, lost])

end

end Go.Eng
