/- UnifyNone: whatever the input, it says true. (Its first part stands in U11, too: a claim has at most 60 files.) -/
import Derived.Test.YtjldgekmjnkofaaU10
set_option linter.unusedVariables false
set_option linter.unusedSimpArgs false
namespace Go.Eng
open Go

/-! simp is to look at what comes first alone. -/

theorem bind_first {α β : Type} {o o' : Option α} {f : α → Option β} (h : o = o') : o.bind f = o'.bind f := by rw [h]
theorem bindR_first {o o' : R} {f : V → Sto → R} (h : o = o') : bindR o f = bindR o' f := by rw [h]
theorem bind2_first {o o' : Option (V × Sto)} {f : V → Sto → R} (h : o = o') : bind2 o f = bind2 o' f := by rw [h]
theorem condV_first {x x' : V} {a b : R} (h : x = x') : condV x a b = condV x' a b := by rw [h]
theorem chkB_first {x x' : V} {a : R} (h : x = x') : chkB x a = chkB x' a := by rw [h]
theorem alS_first {x x' : Blk} {σ : Sto} {f : Nat → Sto → R} (h : x = x') : alS x σ f = alS x' σ f := by rw [h]
attribute [local congr] bind_first bindR_first bind2_first condV_first chkB_first alS_first

set_option maxRecDepth 100000 in
def sAwake30 : Sto := match evalS ft 60 30 [] .empty with
  | some (_, σ) => σ
  | none => .empty

set_option maxRecDepth 100000 in
theorem awake30 : callPure (D ft) 30 [] = some (.bool true) := callPure_of (vs' := []) rfl (v := .bool true) (σ := sAwake30) (D_known 60 (by kernel_rfl)) rfl

def nI : List UInt8 := [105, 110, 116]
def nS : List UInt8 := [115, 116, 114, 105, 110, 103]

theorem same_int : callPure (D ft) 32 [basicT' nI, basicT' nI] = some (.bool true) := callPure_of (vs' := [basicT' nI, basicT' nI]) rfl (v := .bool true) (σ := sOf' 32 [basicT' nI, basicT' nI]) (D_known 60 (by kernel_rfl)) rfl
theorem same_other : callPure (D ft) 32 [basicT' nI, basicT' nS] = some (.bool false) := callPure_of (vs' := [basicT' nI, basicT' nS]) rfl (v := .bool false) (σ := sOf' 32 [basicT' nI, basicT' nS]) (D_known 60 (by kernel_rfl)) rfl

def paramT (u : List UInt8) : V := .agg [.int .i64 4, .str u, .nsl]

theorem isTyp_param (w : List UInt8) : IsTyp 1 (paramT w) := ⟨4, w, .nsl, [], rfl, .nsl, by simp, fun e he => by cases he⟩
theorem isDefs_nil' : IsDefs .nsl [] := ⟨⟨[], .nsl, .nil⟩, by simp⟩

theorem full_param (w : List UInt8) : callPure (D ft) 33 [.nsl, paramT w] = some (paramT w) :=
  callPure_of (vs' := [.nsl, paramT w]) rfl (v := paramT w) (σ := sOf' 33 [.nsl, paramT w]) (D_known 60 (by kernel_rfl)) rfl

section
variable {rv : V} {row : List (List UInt8)}

/-- The end of a search, where all that are untyped are right. -/
theorem exit28 {dv : V} {pv tv : V} {b : Nat} {σ σ1 : Sto} {bys : List V} {n i : Nat} (hi : n ≤ i) (h51 : D ft 51 [.ptr b 0, pv, tv] σ = some (.ret (.bool true), σ1)) (hst : Look σ1 b dv rv bys) (hl : bys.length ≤ 10) :
    ∃ bv, ((bys = [] ∧ bv = .nsl) ∨ ∃ bb, Row σ1 3 bb bv bys) ∧ L28_0 pv tv (.ptr b 0) tv (.int .i64 n) (.int .i64 i) σ = if bys.any noneB = true then some (.ret lost, σ1) else some (.ret (.tup [bv, .bool true]), σ1) := by
  obtain ⟨bv, hb, hbv⟩ := hst.ex
  have hbv' : (bys = [] ∧ bv = .nsl) ∨ ∃ bb, Row σ1 3 bb bv bys := by
    rcases hbv with h | ⟨bb, _, h⟩
    · exact Or.inl h
    · exact Or.inr ⟨bb, h⟩
  have h52 := big52r hbv' hst.all (by omega)
  have hn : nilCheckV (.ptr b 0) = some (.ptr b 0) := rfl
  have hl2 : ldV σ1 none (.ptr b (0 + 2)) = some bv := (ldV_ptr hb).trans rfl
  have hlt : decide ((i : Int) < n) = false := by simp; omega
  refine ⟨bv, hbv', ?_⟩
  rw [L28_0_eq]
  cases hany : bys.any noneB with
  | true =>
    rw [hany] at h52
    rw [if_pos rfl]
    iterate 20 (try simp -implicitDefEqProofs only [binV_int, intBin_lss, hlt, Option.bind_some, condV_f, condV_t, h51, bindR_ret, notV_bool, Bool.not_true, gd_ff, hn, fieldAddrV_ptr, hl2, gdR_ff, h52, pickS_f, lost])
  | false =>
    rw [hany] at h52
    rw [if_neg (by simp)]
    iterate 20 (try simp -implicitDefEqProofs only [binV_int, intBin_lss, hlt, Option.bind_some, condV_f, condV_t, h51, bindR_ret, notV_bool, Bool.not_true, gd_ff, hn, fieldAddrV_ptr, hl2, gdR_ff, h52, pickS_f])

/-- How a search goes on. -/
theorem go28 {dv pv tv : V} {PE TF : List V} {b : Nat} {σ1 : Sto} (hr : IsNames rv row) (h10 : row.length ≤ 10) (h48 : D ft 48 [dv, rv, .sl .full (List.replicate row.length zeroT)] .empty = some (.ret (.tup [.ptr b 0, .bool true]), σ1)) (hp : IsSl pv PE) (ht : IsSl tv TF) (hlen : PE.length = TF.length) :
    D ft 28 [dv, rv, pv, tv] .empty = L28_0 pv tv (.ptr b 0) tv (.int .i64 TF.length) (.int .i64 ((0 : Nat) : Int)) σ1 := by
  have hlr : lenV .sl .empty rv = some (.int .i64 row.length) := by rw [hr.ex.len]; simp
  have hmk := mk28 row.length h10
  have hd : decide ((PE.length : Int) = TF.length) = true := by simp; omega
  rw [D28_eq]
  iterate 20 (try simp -implicitDefEqProofs only [hlr, hmk, Option.bind_some, h48, bindR_ret, extractV_tup, List.getElem?_cons_zero, List.getElem?_cons_succ, notV_bool, Bool.not_true, gd_ff, hp.len, ht.len, binV_int, intBin_neq, pickS_f, hd, condV_f])
  rfl

theorem lost48 {dv pv tv : V} {σ1 : Sto} (hr : IsNames rv row) (h10 : row.length ≤ 10) (h48 : D ft 48 [dv, rv, .sl .full (List.replicate row.length zeroT)] .empty = some (.ret (.tup [.nptr, .bool false]), σ1)) : D ft 28 [dv, rv, pv, tv] .empty = some (.ret lost, σ1) := by
  have hlr : lenV .sl .empty rv = some (.int .i64 row.length) := by rw [hr.ex.len]; simp
  have hmk := mk28 row.length h10
  rw [D28_eq]
  iterate 20 (try simp -implicitDefEqProofs only [hlr, hmk, Option.bind_some, h48, bindR_ret, extractV_tup, List.getElem?_cons_zero, List.getElem?_cons_succ, notV_bool, Bool.not_false, gd_tf, pickS_t, condV_t, lost])

/-- Of no patterns nothing has a type. -/
theorem none28 {rv0 : V} (hr : IsNames rv0 row) (h10 : row.length ≤ 10) : (row = [] → ∃ bv, IsSl bv [] ∧ callPure (D ft) 28 [.nsl, rv0, .nsl, .nsl] = some (.tup [bv, .bool true])) ∧ (row ≠ [] → callPure (D ft) 28 [.nsl, rv0, .nsl, .nsl] = some lost) := by
  obtain ⟨rv, r1, r2⟩ := hr.pure
  have hpu : V.pures [.nsl, rv0, .nsl, .nsl] = some [.nsl, rv, .nsl, .nsl] := by simp only [V.pures, V.pure, r1]
  rcases start48 isDefs_nil' r2 h10 with ⟨σ1, h48, h2⟩ | ⟨b, σ1, bys, h48, hst, hby, hk⟩
  · refine ⟨fun h => ?_, fun _ => callPure_of hpu (lost48 r2 h10 h48) rfl⟩
    rw [h] at h2; simp at h2
  · have h28 := go28 (pv := .nsl) (tv := .nsl) (PE := []) (TF := []) r2 h10 h48 .nsl .nsl rfl
    have hst1 : Look (σ1.alloc (.map [] 0)) b .nsl rv bys := hst.alloc _
    have h51 : D ft 51 [.ptr b 0, .nsl, .nsl] σ1 = some (.ret (.bool true), σ1.alloc (.map [] 0)) := by
      rw [D51_eq]
      simp only [alS_eq, lenV_nsl, Option.bind_some]
      exact end51 (P := []) (T := []) (E := []) (F := []) r2 rfl (by simp) (Or.inl ⟨rfl, rfl⟩) .nsl .nsl hst1
    obtain ⟨bv, e1, e2⟩ := exit28 (n := 0) (i := 0) (Nat.le_refl _) h51 hst1 (by omega)
    rw [show ((([] : List V).length : Nat) : Int) = ((0 : Nat) : Int) from rfl, e2] at h28
    refine ⟨fun h => ?_, fun h => ?_⟩
    · have hb0 : bys = [] := by
        rw [h] at hby; simpa using hby
      subst hb0
      rw [if_neg (by simp)] at h28
      rcases e1 with ⟨_, rfl⟩ | ⟨bb, hrow⟩
      · exact ⟨.nsl, .nsl, callPure_of hpu h28 rfl⟩
      · refine ⟨.sl .none [], .sl _ _, callPure_snap hpu h28 ?_⟩
        have hel := hrow.elems3 fun x hx => by cases hx
        have hs : bv.snap (σ1.alloc (.map [] 0)) = some (.sl .none []) := by
          rw [hrow.v] at hel ⊢
          simp only [V.snap, hel]
          rfl
        simp only [V.snap, V.snaps, hs, V.pure, Option.map_some]
    · have hb1 : bys.any noneB = true := by
        cases bys with
        | nil => simp at hby; exact absurd (by simpa using hby.symm) h
        | cons e l => simp [noneB, hk e List.mem_cons_self]
      rw [if_pos hb1] at h28
      exact callPure_of hpu h28 rfl

/-- A parameter and a type, in full. -/
theorem full49p (u w : List UInt8) (σ : Sto) (b : Nat) (rv bv : V) (hb : σ.blk b = some (.cells [.nsl, rv, bv])) : D ft 49 [.ptr b 0, paramT u, basicT' w] σ = some (.ret (.tup [paramT u, basicT' w, .bool true]), σ) := by
  have q1 : callPure (D ft) 33 [.nsl, .agg [.int .i64 4, .str u, .nsl]] = some (.agg [.int .i64 4, .str u, .nsl]) := full_param u
  have q3 : callPure (D ft) 33 [.nsl, .agg [.int .i64 1, .str w, .nsl]] = some (.agg [.int .i64 1, .str w, .nsl]) := full_basic isDefs_nil' w
  have hn : nilCheckV (.ptr b 0) = some (.ptr b 0) := rfl
  have hl0 : ldV σ none (.ptr b (0 + 0)) = some .nsl := (ldV_ptr hb).trans rfl
  have bx : ∀ (k : Int) (u : List UInt8), boxC (.agg [.int .i64 k, .str u, .nsl]) = some [.int .i64 k, .str u, .nsl] := fun k u => rfl
  have s1 : ∀ (k k' : Int) (u u' : List UInt8), stC [V.int .i64 k, .str u, .nsl] 0 3 (.agg [.int .i64 k', .str u', .nsl]) = some [.int .i64 k', .str u', .nsl] := fun k k' u u' => rfl
  have p1 : ∀ (k : Int) (u : List UInt8), part [V.int .i64 k, .str u, .nsl] 0 (some 3) = some (.agg [.int .i64 k, .str u, .nsl]) := fun k u => rfl
  have h40 : decide ((4 : Int) = 0) = false := rfl
  have h10 : decide ((1 : Int) = 0) = false := rfl
  unfold basicT' paramT
  rw [D49_eq]
  iterate 30 (try simp -implicitDefEqProofs only [bx, Option.bind_some, hn, fieldAddrV_ptr, hl0, q1, q3, s1, p1, part_none, List.getElem?_cons_zero, binV_int, intBin_neq, chkB_b, h40, h10, Bool.not_false, gd_tt, pickS_t])

/-- The first of the row has no type so far: it has this one then. -/
theorem fits_param {u w : List UInt8} {more : List (List UInt8)} (hr : IsNames rv (u :: more)) {b : Nat} {σ : Sto} {bys : List V} (hst : Look σ b .nsl rv bys) (hby : bys.length = (u :: more).length) (hk : ∀ e ∈ bys, kindOf e = 0) :
    ∃ σ', D ft 50 [.ptr b 0, paramT u, basicT' w, .int .i64 100] σ = some (.ret (.bool true), σ') ∧ Look σ' b .nsl rv (bys.set 0 (basicT' w)) := by
  obtain ⟨bv, hb, hbv⟩ := hst.ex
  have h65 := big65 hb hr (isTyp_param u)
  have hown : ownI (u :: more) (paramT u) = ((0 : Nat) : Int) := by
    have h1 : ownI (u :: more) (paramT u) = idxS u (u :: more) 0 := rfl
    rw [h1]
    simp [idxS]
  rw [hown] at h65
  have hjb : 0 < bys.length := by rw [hby]; simp
  have hget : bys[0]? = some bys[0] := List.getElem?_eq_getElem hjb
  have hmem : bys[0] ∈ bys := List.getElem_mem hjb
  generalize bys[0] = e at hget hmem
  obtain ⟨me, hte⟩ := hst.all e hmem
  have hke := hk e hmem
  rcases hbv with ⟨rfl, _⟩ | ⟨bb, hne, hrow⟩
  · simp at hjb
  · obtain ⟨ke, ne, se, ese, rfl, hse⟩ := hte.names
    have hke' : ke = 0 := hke
    subst hke'
    have hidx := hrow.idx hjb
    have hld0 := hrow.ld0 hget (c := .int .i64 0) (cs := [.str ne, se]) rfl
    obtain ⟨hs1, hs2⟩ := hrow.st (t := .agg [.int .i64 1, .str w, .nsl]) hjb rfl rfl (by omega)
    have hn : nilCheckV (.ptr b 0) = some (.ptr b 0) := rfl
    have hl2 : ldV σ none (.ptr b (0 + 2)) = some bv := (ldV_ptr hb).trans rfl
    have bx : boxC (paramT u) = some [.int .i64 4, .str u, .nsl] := rfl
    have bw : boxC (basicT' w) = some [.int .i64 1, .str w, .nsl] := rfl
    have px : part [V.int .i64 4, .str u, .nsl] 0 (some 3) = some (paramT u) := rfl
    have pw : part [V.int .i64 1, .str w, .nsl] 0 (some 3) = some (.agg [.int .i64 1, .str w, .nsl]) := rfl
    have h0 : decide ((100 : Int) = 0) = false := rfl
    have h1 : decide ((0 : Int) ≤ ((0 : Nat) : Int)) = true := rfl
    have h2 : decide ((0 : Int) = 0) = true := rfl
    refine ⟨_, ?_, ⟨⟨bv, ?_, Or.inr ⟨bb, hne, hs2⟩⟩, fun x hx => ?_⟩⟩
    · rw [D50_eq]
      iterate 30 (try simp -implicitDefEqProofs only [bx, bw, px, pw, Option.bind_some, h65, bindR_ret, binV_int, intBin_eql, intBin_geq, h0, h1, condV_f, condV_t, gd_tt, hn, fieldAddrV_ptr, hl2, hidx, hld0, decide_true, pickS_t, hs1])
    · rw [Sto.blk_upd, if_neg (fun e => hne e.1.symm)]
      exact hb
    · rcases List.mem_or_eq_of_mem_set hx with hx | rfl
      · exact hst.all x hx
      · exact ⟨1, isTyp_basic' w⟩

/-- One pair of a parameter and a type. -/
theorem param28 {u w : List UInt8} {more : List (List UInt8)} (hr : IsNames rv (u :: more)) (h10 : (u :: more).length ≤ 10) :
    (more = [] → ∃ v σ', D ft 28 [.nsl, rv, .sl .full [paramT u], .sl .full [basicT' w]] .empty = some (.ret v, σ') ∧ ∃ bv bb, v = .tup [bv, .bool true] ∧ Row σ' 3 bb bv [basicT' w]) ∧
    (more ≠ [] → ∃ σ', D ft 28 [.nsl, rv, .sl .full [paramT u], .sl .full [basicT' w]] .empty = some (.ret lost, σ')) := by
  rcases start48 isDefs_nil' hr h10 with ⟨σ1, h48, h2⟩ | ⟨b, σ1, bys, h48, hst, hby, hk⟩
  · refine ⟨fun h => ?_, fun _ => ⟨σ1, lost48 hr h10 h48⟩⟩
    rw [h] at h2; simp at h2
  · have h28 := go28 (pv := .sl .full [paramT u]) (tv := .sl .full [basicT' w]) hr h10 h48 (.sl _ _) (.sl _ _) rfl
    obtain ⟨bv1, hb1, _⟩ := hst.ex
    obtain ⟨σ2, f1, f2⟩ := fits_param (w := w) hr hst hby hk
    have f49 := full49p u w σ1 b rv bv1 hb1
    have hidx : indexAddrV 3 (.sl .full [basicT' w]) (.int .i64 ((0 : Nat) : Int)) = some (.vp [.int .i64 1, .str w, .nsl]) := rfl
    have hidx2 : indexAddrV 3 (.sl .full [paramT u]) (.int .i64 ((0 : Nat) : Int)) = some (.vp [.int .i64 4, .str u, .nsl]) := rfl
    have px : part [V.int .i64 4, .str u, .nsl] 0 (some 3) = some (paramT u) := rfl
    have pw : part [V.int .i64 1, .str w, .nsl] 0 (some 3) = some (basicT' w) := rfl
    have sx : stC [V.int .i64 0, .str [], .nsl] 0 3 (paramT u) = some [.int .i64 4, .str u, .nsl] := rfl
    have sw : stC [V.int .i64 0, .str [], .nsl] 0 3 (basicT' w) = some [.int .i64 1, .str w, .nsl] := rfl
    have h12 : decide ((1 : Int) = 2) = false := rfl
    have h01 : decide (((0 : Nat) : Int) < (([basicT' w] : List V).length : Int)) = true := rfl
    have hw : wrapI .i64 (((0 : Nat) : Int) + 1) = ((1 : Nat) : Int) := rfl
    have step : L28_0 (.sl .full [paramT u]) (.sl .full [basicT' w]) (.ptr b 0) (.sl .full [basicT' w]) (.int .i64 (([basicT' w] : List V).length : Int)) (.int .i64 ((0 : Nat) : Int)) σ1 = L28_0 (.sl .full [paramT u]) (.sl .full [basicT' w]) (.ptr b 0) (.sl .full [basicT' w]) (.int .i64 (([basicT' w] : List V).length : Int)) (.int .i64 ((1 : Nat) : Int)) σ2 := by
      rw [L28_0_eq]
      iterate 40 (try simp -implicitDefEqProofs only [binV_int, intBin_lss, h01, hidx, hidx2, Option.bind_some, condV_t, condV_f, ldV_vp, px, pw, sx, sw, part_none, List.getElem?_cons_zero, List.getElem?_cons_succ, intBin_eql, h12, f49, bindR_ret, extractV_tup, notV_bool, Bool.not_true, gd_ff, gdR_ff, f1, pickS_f, J28_1, J28_0, intBin_add, hw])
    rw [step] at h28
    have hst2 : Look (σ2.alloc (.map [] 0)) b .nsl rv (bys.set 0 (basicT' w)) := f2.alloc _
    obtain ⟨bv2, hb2, _⟩ := hst2.ex
    have h65 := big65 hb2 hr (isTyp_param u)
    have h51 : D ft 51 [.ptr b 0, .sl .full [paramT u], .sl .full [basicT' w]] σ2 = some (.ret (.bool true), σ2.alloc (.map [] 0)) := by
      have hl1 : ∀ σ, lenV .sl σ (.sl .full [basicT' w]) = some (.int .i64 ((1 : Nat) : Int)) := fun σ => rfl
      have h01' : decide (((0 : Nat) : Int) < ((1 : Nat) : Int)) = true := rfl
      have h11 : decide (((1 : Nat) : Int) < ((1 : Nat) : Int)) = false := rfl
      rw [D51_eq]
      simp only [alS_eq, hl1, Option.bind_some]
      rw [show (V.int .i64 (0 : Int)) = V.int .i64 ((0 : Nat) : Int) from rfl, L51_0_eq]
      iterate 30 (try simp -implicitDefEqProofs only [binV_int, intBin_lss, h01', hidx, hidx2, Option.bind_some, condV_t, ldV_vp, px, pw, sw, h65, bindR_ret, part_none, List.getElem?_cons_zero, intBin_neq, h12, Bool.not_false, gd_tf, pickS_t, J51_1, J51_0, intBin_add, hw])
      rw [L51_0_eq]
      iterate 5 (try simp -implicitDefEqProofs only [binV_int, intBin_lss, h11, Option.bind_some, condV_f])
    obtain ⟨bv, e1, e2⟩ := exit28 (n := 1) (i := 1) (Nat.le_refl _) h51 hst2 (by simp only [List.length_set]; omega)
    rw [show ((([basicT' w] : List V).length : Nat) : Int) = ((1 : Nat) : Int) from rfl, e2] at h28
    refine ⟨fun h => ?_, fun h => ?_⟩
    · subst h
      match bys, hby with
      | [e], _ =>
      have hs : [e].set 0 (basicT' w) = [basicT' w] := rfl
      rw [hs] at h28 e1
      rw [if_neg (by simp [noneB, kindOf, basicT'])] at h28
      rcases e1 with ⟨h, _⟩ | ⟨bb, hrow⟩
      · cases h
      · exact ⟨_, _, h28, bv, bb, rfl, hrow⟩
    · refine ⟨σ2.alloc (.map [] 0), ?_⟩
      rw [if_pos ?_] at h28
      · exact h28
      · have hlen : 2 ≤ bys.length := by
          cases more with
          | nil => exact absurd rfl h
          | cons m more => rw [hby]; simp
        match bys, hlen with
        | e :: e2 :: l, _ => simp [noneB, hk e2 (by simp)]

end

theorem law8 {x0 : V} {row : List (List UInt8)} {name : List UInt8} (hr : IsNames x0 row) (hn : name.length ≤ 140737488355328) : ∃ σ', D ft 8 [x0, .str name] .empty = some (.ret (.bool true), σ') := by
  have hlr : lenV .sl .empty x0 = some (.int .i64 row.length) := by rw [hr.ex.len]; simp
  refine ⟨.empty, ?_⟩
  rcases Nat.lt_or_ge 10 row.length with h10 | h10
  · have hd10 : decide ((10 : Int) < row.length) = true := by simp; omega
    rw [D8_eq]
    iterate 5 (try simp -implicitDefEqProofs only [hlr, Option.bind_some, binV_int, intBin_gtr, hd10, condV_t])
  · have hd10 : decide ((10 : Int) < row.length) = false := by simp; omega
    obtain ⟨n1, n2⟩ := none28 hr h10
    -- what the three searches tell
    have hrow1 : IsNames (.sl .full [.str name]) [name] := ⟨.sl _ _, by simp⟩
    have hrow2 : IsNames (.sl .full [.str name, .str (name ++ [120])]) [name, name ++ [120]] := ⟨.sl _ _, by simp⟩
    obtain ⟨p1, _⟩ := param28 (w := nI) (more := []) hrow1 (by simp)
    obtain ⟨_, p2⟩ := param28 (w := nI) (more := [name ++ [120]]) hrow2 (by simp)
    obtain ⟨v, σ1, q1, bv, bb, rfl, hrow⟩ := p1 rfl
    obtain ⟨σ2, q2⟩ := p2 (by simp)
    have hel := hrow.elems3 fun x hx => by
      rw [List.mem_singleton] at hx
      exact ⟨_, hx⟩
    have hs : bv.snap σ1 = some (.sl .none [basicT' nI]) := by
      rw [hrow.v] at hel ⊢
      simp only [V.snap, hel]
      rfl
    have c2 : callPure (D ft) 28 [.nsl, .sl .full [.str name], .sl .full [paramT name], .sl .full [basicT' nI]] = some (.tup [.sl .none [basicT' nI], .bool true]) := callPure_snap rfl q1 (by simp only [V.snap, V.snaps, hs, V.pure, Option.map_some])
    have c3 : callPure (D ft) 28 [.nsl, .sl .full [.str name, .str (name ++ [120])], .sl .full [paramT name], .sl .full [basicT' nI]] = some lost := callPure_of rfl q2 rfl
    have fi : fillC [V.int .i64 0, .str [], .nsl] [(0, 1, .int .i64 1), (1, 1, .str [105, 110, 116])] = some [.int .i64 1, .str [105, 110, 116], .nsl] := rfl
    have fp : fillC [V.int .i64 0, .str [], .nsl] [(0, 1, .int .i64 4), (1, 1, .str name)] = some [.int .i64 4, .str name, .nsl] := rfl
    have sx : stC [V.int .i64 0, .str [], .nsl] 0 3 (.agg [.int .i64 1, .str [105, 110, 116], .nsl]) = some [.int .i64 1, .str [105, 110, 116], .nsl] := rfl
    have px : part [V.int .i64 1, .str [105, 110, 116], .nsl] 0 (some 3) = some (basicT' nI) := rfl
    have g1 : fillD 1 (List.replicate 1 (V.str [])) [(0, .str name)] = some [.str name] := rfl
    have g2 : fillD 1 (List.replicate 2 (V.str [])) [(0, .str name), (1, .str (name ++ [120]))] = some [.str name, .str (name ++ [120])] := rfl
    have gp : fillD 3 (List.replicate 1 (V.agg [.int .i64 0, .str [], .nsl])) [(0, .agg [.int .i64 4, .str name, .nsl])] = some [paramT name] := rfl
    have gi : fillD 3 (List.replicate 1 (V.agg [.int .i64 0, .str [], .nsl])) [(0, basicT' nI)] = some [basicT' nI] := rfl
    have ha : strBin .add name [120] = some (.str (name ++ [120])) := by
      unfold strBin
      exact if_pos (by simp; omega)
    have hl1 : lenV .sl .empty (.sl .none [basicT' nI]) = some (.int .i64 1) := rfl
    have hix : indexAddrV 3 (.sl .none [basicT' nI]) (.int .i64 0) = some (.vp [.int .i64 1, .str [105, 110, 116], .nsl]) := rfl
    have h11 : decide ((1 : Int) = 1) = true := rfl
    rw [D8_eq]
    rcases List.eq_nil_or_concat row with h | ⟨l, x, h⟩
    · obtain ⟨bv0, u1, u2⟩ := n1 h
      have hl0 : ((row.length : Nat) : Int) = 0 := by rw [h]; rfl
      have hlb : lenV .sl .empty bv0 = some (.int .i64 0) := u1.len _
      have h100 : decide ((10 : Int) < 0) = false := rfl
      iterate 60 (try simp -implicitDefEqProofs only [hlr, Option.bind_some, binV_int, intBin_gtr, hd10, condV_f, u2, extractV_tup, List.getElem?_cons_zero, List.getElem?_cons_succ, hlb, intBin_neq, decide_true, Bool.not_true, gd_ft, gd_ff, pickS_f, hl0, h100, intBin_eql, binV_bne, beq_self_eq_true, fi, fp, sx, px, g1, g2, gp, gi, c2, binV_str, ha, c3, lost, hl1, gd_tt, pickS_t, hix, ldV_vp, same_int, notV_bool, Bool.not_false, awake30])
    · have u2 := n2 (by rw [h]; simp)
      have hl0 : decide (((row.length : Nat) : Int) = 0) = false := by rw [h]; simp; omega
      iterate 60 (try simp -implicitDefEqProofs only [hlr, Option.bind_some, binV_int, intBin_gtr, hd10, condV_f, u2, lost, extractV_tup, List.getElem?_cons_zero, List.getElem?_cons_succ, lenV_nsl, intBin_neq, decide_true, Bool.not_true, gd_ft, gd_ff, pickS_f, hl0, intBin_eql, binV_bne, beq_self_eq_true, fi, fp, sx, px, g1, g2, gp, gi, c2, binV_str, ha, c3, hl1, gd_tt, pickS_t, hix, ldV_vp, same_int, notV_bool, Bool.not_false, awake30])

end Go.Eng
