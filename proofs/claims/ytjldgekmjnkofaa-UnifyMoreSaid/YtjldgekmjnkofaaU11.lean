/- UnifyMore: whatever the input, it says true. -/
import Derived.Test.YtjldgekmjnkofaaU10
set_option linter.unusedVariables false
set_option linter.unusedSimpArgs false
namespace Go.Eng
open Go

/-! simp is to look at what comes first alone. -/

theorem bind_first {α β : Type} {o o' : Option α} {f : α → Option β} (h : o = o') : o.bind f = o'.bind f := by rw [h]
theorem bindR_first {o o' : R} {f : V → Sto → R} (h : o = o') : bindR o f = bindR o' f := by rw [h]
theorem bind2_first {o o' : Option (V × Sto)} {f : V → Sto → R} (h : o = o') : bind2 o f = bind2 o' f := by rw [h]
theorem condV_first {x x' : V} {a b : R} (h : x = x') : condV x a b = condV x' a b := by rw [h]
theorem chkB_first {x x' : V} {a : R} (h : x = x') : chkB x a = chkB x' a := by rw [h]
theorem alS_first {x x' : Blk} {σ : Sto} {f : Nat → Sto → R} (h : x = x') : alS x σ f = alS x' σ f := by rw [h]
attribute [local congr] bind_first bindR_first bind2_first condV_first chkB_first alS_first

set_option maxRecDepth 100000 in
def sAwake30 : Sto := match evalS ft 60 30 [] .empty with
  | some (_, σ) => σ
  | none => .empty

set_option maxRecDepth 100000 in
theorem awake30 : callPure (D ft) 30 [] = some (.bool true) := callPure_of (vs' := []) rfl (v := .bool true) (σ := sAwake30) (D_known 60 (by kernel_rfl)) rfl

def nI : List UInt8 := [105, 110, 116]
def nS : List UInt8 := [115, 116, 114, 105, 110, 103]

theorem same_int : callPure (D ft) 32 [basicT' nI, basicT' nI] = some (.bool true) := callPure_of (vs' := [basicT' nI, basicT' nI]) rfl (v := .bool true) (σ := sOf' 32 [basicT' nI, basicT' nI]) (D_known 60 (by kernel_rfl)) rfl
theorem same_other : callPure (D ft) 32 [basicT' nI, basicT' nS] = some (.bool false) := callPure_of (vs' := [basicT' nI, basicT' nS]) rfl (v := .bool false) (σ := sOf' 32 [basicT' nI, basicT' nS]) (D_known 60 (by kernel_rfl)) rfl

/-- What stands for each is like itself. -/
theorem loop7 {bv : V} {bys : List V} {σ : Sto} (hs : IsSl bv bys) (hall : ∀ e ∈ bys, ∃ m, IsTyp m e) (hl : bys.length ≤ 10) : ∀ rest pre : List V, bys = pre ++ rest → L7_0 bv bv (.int .i64 pre.length) σ = some (.ret (.bool true), σ) := by
  intro rest
  induction rest with
  | nil =>
    intro pre hpre
    have hlt : decide ((pre.length : Int) < bys.length) = false := by rw [hpre]; simp
    rw [L7_0_eq]
    iterate 30 (try simp -implicitDefEqProofs only [hs.len, binV_int, intBin_lss, Option.bind_some, hlt, condV_f, awake30])
  | cons e rest ih =>
    intro pre hpre
    have hlt : decide ((pre.length : Int) < bys.length) = true := by rw [hpre]; simp; omega
    have hlen2 : bys.length = pre.length + (rest.length + 1) := by rw [hpre]; simp
    obtain ⟨m, hm⟩ := hall e (by rw [hpre]; simp)
    have h31 := pure31 m e hm
    obtain ⟨cs, rfl, hcs⟩ := hm.agg
    have hidx : indexAddrV 3 bv (.int .i64 pre.length) = some (.vp cs) := IsSl.idx (e := .agg cs) (hpre ▸ hs) hcs
    have hw : wrapI .i64 ((pre.length : Int) + 1) = ((pre ++ [V.agg cs]).length : Int) := by
      rw [wrap64 (by omega)]; simp
    have hih := ih (pre ++ [V.agg cs]) (by rw [hpre]; simp)
    rw [L7_0_eq]
    iterate 40 (try simp -implicitDefEqProofs only [hs.len, binV_int, intBin_lss, Option.bind_some, hlt, condV_t, condV_f, hidx, ldV_vp, part_all hcs, h31, notV_bool, Bool.not_true, intBin_add, hw])
    exact hih

/-- Types, and one more. -/
theorem more29 {v : V} {rs : List V} {m : Nat} {σ0 : Sto} (hl : rs.length ≤ 10) (hrs : ∀ r ∈ rs, IsTyp m r) (h29 : ∃ v' σ', D ft 29 [v] σ0 = some (.ret v', σ') ∧ Grow σ0.next σ' v' rs ∧ Keep (fun b => σ0.next ≤ b) σ0 σ') (w : List UInt8) :
    ∃ v' σ1 v2 σ2, D ft 29 [v] σ0 = some (.ret v', σ1) ∧ appendV 3 48 false σ1 v' (.sl .full [basicT' w]) = some (v2, σ2) ∧ IsSl v2 (rs ++ [basicT' w]) := by
  obtain ⟨v', σ1, h1, h2, h3⟩ := h29
  obtain ⟨v2, σ2, g1, g2, _⟩ := h2.append (y := .sl .full [basicT' w]) (new := [basicT' w]) (size := 3) (bytes := 48) h3.next (.sl _ _) (by simp; omega) (by omega)
    (fun x hx => by obtain ⟨c, rfl, hc⟩ := (hrs x hx).agg; exact hc) (fun x hx => by rw [List.mem_singleton] at hx; rw [hx]; rfl)
  exact ⟨v', σ1, v2, σ2, h1, g1, g2.isSl⟩

theorem law7 {x0 rowv pv tv byv : V} {ds : List DefL} {row : List (List UInt8)} {P T : List V} {n m : Nat} (hd : IsDefs x0 ds) (hr : IsNames rowv row) (hp : IsTyps n pv P) (ht : IsTyps m tv T) (hb : V.one byv = true) :
    ∃ σ', D ft 7 [x0, .agg [rowv, pv, tv, byv]] .empty = some (.ret (.bool true), σ') := by
  have hone : [rowv, pv, tv, byv].all V.one = true := by simp [hr.ex.one, hp.ex.one, ht.ex.one, hb]
  obtain ⟨b25, h25⟩ := pure25 hd
  obtain ⟨bp, hbp, hbp2⟩ := pure26 hp
  obtain ⟨bt, hbt, hbt2⟩ := pure26 ht
  have hlr : ∀ σ, lenV .sl σ rowv = some (.int .i64 row.length) := fun σ => by rw [hr.ex.len]; simp
  rw [D7_eq]
  iterate 30 (try simp -implicitDefEqProofs only [boxC_all hone, Option.bind_some, h25, notV_bool, chkB_b])
  cases b25 with
  | false => exact ⟨.empty, by iterate 40 (try simp -implicitDefEqProofs only [Bool.not_false, gd_tf, gd_u, Option.bind_some, pickS_t, chkB_b, condV_t])⟩
  | true =>
    rcases Nat.lt_or_ge 10 row.length with h10 | h10
    · have hd10 : decide ((10 : Int) < row.length) = true := by simp; omega
      exact ⟨.empty, by iterate 40 (try simp -implicitDefEqProofs only [Bool.not_true, gd_ff, part_none, List.getElem?_cons_zero, hlr, binV_int, intBin_gtr, hd10, gd_tf, gd_u, Option.bind_some, pickS_f, pickS_t, chkB_b, condV_t])⟩
    have hd10 : decide ((10 : Int) < row.length) = false := by simp; omega
    cases bp with
    | false => exact ⟨.empty, by iterate 40 (try simp -implicitDefEqProofs only [Bool.not_true, gd_ff, part_none, List.getElem?_cons_zero, List.getElem?_cons_succ, hlr, binV_int, intBin_gtr, hd10, hbp, notV_bool, Bool.not_false, gd_tf, gd_u, Option.bind_some, pickS_f, pickS_t, chkB_b, condV_t])⟩
    | true =>
    cases bt with
    | false => exact ⟨.empty, by iterate 40 (try simp -implicitDefEqProofs only [Bool.not_true, gd_ff, part_none, List.getElem?_cons_zero, List.getElem?_cons_succ, hlr, binV_int, intBin_gtr, hd10, hbp, hbt, notV_bool, Bool.not_false, gd_tf, gd_u, Option.bind_some, pickS_f, pickS_t, chkB_b, condV_t])⟩
    | true =>
    have hP10 := hbp2 rfl
    have hT10 := hbt2 rfl
    obtain ⟨dv, h27, hdv⟩ := pure27 hd
    obtain ⟨rp, rp1, rp2, rp3⟩ := big29 hp
    obtain ⟨rt, rt1, rt2, rt3⟩ := big29 ht
    obtain ⟨f1, f2⟩ := pure28 (P := rp) (T := rt) hdv hr h10 (fun e he => ⟨_, rp2 e he⟩) (fun e he => ⟨_, rt2 e he⟩) (by omega) (by omega)
    obtain ⟨v1, σ1, a1, a2, _⟩ := rp3 .empty
    obtain ⟨v2, σ2, b1, b2, _⟩ := rt3 σ1
    have fi : fillC [V.int .i64 0, .str [], .nsl] [(0, 1, .int .i64 1), (1, 1, .str [105, 110, 116])] = some [.int .i64 1, .str [105, 110, 116], .nsl] := rfl
    have fs : fillC [V.int .i64 0, .str [], .nsl] [(0, 1, .int .i64 1), (1, 1, .str [115, 116, 114, 105, 110, 103])] = some [.int .i64 1, .str [115, 116, 114, 105, 110, 103], .nsl] := rfl
    have sx : ∀ u : List UInt8, stC [V.int .i64 0, .str [], .nsl] 0 3 (.agg [.int .i64 1, .str u, .nsl]) = some [.int .i64 1, .str u, .nsl] := fun u => rfl
    have px : ∀ u : List UInt8, part [V.int .i64 1, .str u, .nsl] 0 (some 3) = some (basicT' u) := fun u => rfl
    have gx : ∀ u : List UInt8, fillD 3 (List.replicate 1 (V.agg [.int .i64 0, .str [], .nsl])) [(0, basicT' u)] = some [basicT' u] := fun u => rfl
    by_cases hlen : rp.length = rt.length
    · obtain ⟨v, w1, w2, w3⟩ := f2 hlen
      have c1 := w2 v1 v2 a2.isSl b2.isSl
      have hd1 : decide ((P.length : Int) = T.length) = true := by simp; omega
      obtain ⟨v3, σ3, v4, σ4, e1, e2, e3⟩ := more29 (by omega) rp2 (rp3 σ2) nI
      obtain ⟨v5, σ5, v6, σ6, e4, e5, e6⟩ := more29 (by omega) rt2 (rt3 σ4) nI
      obtain ⟨v7, σ7, v8, σ8, e7, e8, e9⟩ := more29 (by omega) rp2 (rp3 σ6) nI
      obtain ⟨v9, σ9, v10, σ10, e10, e11, e12⟩ := more29 (by omega) rt2 (rt3 σ8) nS
      have c2 := w3 nI nI true same_int v4 v6 e3 e6
      have c3 := w3 nI nS false same_other v8 v10 e9 e12
      rw [if_pos rfl] at c2
      rw [if_neg (by simp)] at c3
      have e2' : appendV 3 48 false σ3 v3 (.sl .full [basicT' [105, 110, 116]]) = some (v4, σ4) := e2
      have e5' : appendV 3 48 false σ5 v5 (.sl .full [basicT' [105, 110, 116]]) = some (v6, σ6) := e5
      have e8' : appendV 3 48 false σ7 v7 (.sl .full [basicT' [105, 110, 116]]) = some (v8, σ8) := e8
      have e11' : appendV 3 48 false σ9 v9 (.sl .full [basicT' [115, 116, 114, 105, 110, 103]]) = some (v10, σ10) := e11
      iterate 60 (try simp -implicitDefEqProofs only [Bool.not_true, gd_ff, part_none, List.getElem?_cons_zero, List.getElem?_cons_succ, hlr, binV_int, intBin_gtr, hd10, hbp, hbt, notV_bool, Option.bind_some, pickS_f, chkB_b, condV_f, h27, fi, fs, sx, a1, b1, bindR_ret, c1, hp.ex.len, ht.ex.len, intBin_neq, hd1, px, gx, e1, e2', bind2_some, e4, e5', c2, e7, e8', e10, e11', c3])
      rcases w1 with rfl | ⟨bv, bys, rfl, u1, u2, u3⟩
      · have h0 : L7_0 .nsl .nsl (.int .i64 0) σ10 = some (.ret (.bool true), σ10) := loop7 (bys := []) .nsl (fun e he => by cases he) (by simp) [] [] rfl
        refine ⟨σ10, ?_⟩
        iterate 40 (try simp -implicitDefEqProofs only [lost, extractV_tup, List.getElem?_cons_zero, List.getElem?_cons_succ, Option.bind_some, binV_bne, beq_self_eq_true, Bool.not_true, gd_ff, pickS_f, lenV_nsl, binV_int, intBin_neq, decide_true, condV_f])
        exact h0
      · have h0 : L7_0 bv bv (.int .i64 0) σ10 = some (.ret (.bool true), σ10) := loop7 (bys := bys) u1 u2 (by omega) bys [] rfl
        refine ⟨σ10, ?_⟩
        iterate 40 (try simp -implicitDefEqProofs only [lost, extractV_tup, List.getElem?_cons_zero, List.getElem?_cons_succ, Option.bind_some, binV_bne, beq_self_eq_true, Bool.not_true, gd_ff, pickS_f, u1.len, binV_int, intBin_neq, decide_true, condV_f])
        exact h0
    · have c1 := f1 hlen v1 v2 a2.isSl b2.isSl
      have hd1 : decide ((P.length : Int) = T.length) = false := by simp; omega
      refine ⟨σ2, ?_⟩
      iterate 60 (try simp -implicitDefEqProofs only [Bool.not_true, Bool.not_false, gd_ff, gd_tt, part_none, List.getElem?_cons_zero, List.getElem?_cons_succ, hlr, binV_int, intBin_gtr, hd10, hbp, hbt, notV_bool, Option.bind_some, pickS_f, pickS_t, chkB_b, condV_f, condV_t, h27, fi, fs, sx, a1, b1, bindR_ret, c1, lost, extractV_tup, hp.ex.len, ht.ex.len, intBin_neq, hd1, awake30])

end Go.Eng
