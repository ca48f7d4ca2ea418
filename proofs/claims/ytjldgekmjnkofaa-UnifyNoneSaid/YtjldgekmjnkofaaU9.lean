/- How a search begins. -/
import Derived.Test.YtjldgekmjnkofaaU8
set_option linter.unusedVariables false
set_option linter.unusedSimpArgs false
namespace Go.Eng
open Go

theorem Row.elems3 {σ : Sto} {bb : Nat} {v : V} {l : List V} (h : Row σ 3 bb v l) (ha : ∀ x ∈ l, ∃ cs, x = .agg cs) : elems σ 3 v = some l := by
  have hlen : (l.flatMap V.cells).length = l.length * 3 := flatMap_len 3 l h.each
  rw [h.v]
  simp only [elems, h.blk]
  rw [if_pos ⟨by omega, trivial⟩]
  congr 1
  apply List.ext_getElem?
  intro i
  by_cases hi : i < l.length
  · have hg : l[i]? = some l[i] := List.getElem?_eq_getElem hi
    obtain ⟨h1, _⟩ := flat_part l i _ h.each hg
    obtain ⟨cs, hc⟩ := ha _ (List.getElem_mem hi)
    rw [List.getElem?_map, List.getElem?_range hi, hg]
    simp only [Option.map_some, Nat.zero_add, Nat.reduceEqDiff, if_false]
    rw [h1, hc]; rfl
  · rw [List.getElem?_eq_none (by simp; omega), List.getElem?_eq_none (by omega)]

def zeroT : V := .agg [.int .i64 0, .str [], .nsl]

/-- A row that grows by one. -/
theorem grow48 {σ : Sto} {b : Nat} {dv rv bv : V} {bys : List V} (hb : σ.blk b = some (.cells [dv, rv, bv])) (hbv : (bys = [] ∧ bv = .nsl) ∨ ∃ bb, bb ≠ b ∧ Row σ 3 bb bv bys) (ha : ∀ e ∈ bys, ∃ m, IsTyp m e) (hl : bys.length ≤ 10) :
    ∃ σ1, appendV 3 48 true σ bv (.sl .full [zeroT]) = some (.msl σ.next 0 (bys.length + 1) 3, σ1) ∧ lenV .sl σ bv = some (.int .i64 bys.length) ∧ Row σ1 3 σ.next (.msl σ.next 0 (bys.length + 1) 3) (bys ++ [zeroT]) ∧ σ1.blk b = some (.cells [dv, rv, bv]) := by
  have hbl := Sto.blk_lt hb
  rcases hbv with ⟨rfl, rfl⟩ | ⟨bb, hne, hrow⟩
  · refine ⟨σ.alloc (.cells ([zeroT].flatMap V.cells)), rfl, rfl, ⟨rfl, Sto.blk_next _ _, fun x hx => by rw [List.nil_append, List.mem_singleton] at hx; rw [hx]; rfl⟩, Sto.sub_alloc _ _ _ _ hb⟩
  · have hel := hrow.elems3 fun x hx => by
      obtain ⟨m, hm⟩ := ha x hx
      obtain ⟨cs, rfl, _⟩ := hm.agg
      exact ⟨cs, rfl⟩
    have hnx : (σ.upd bb .dead).next = σ.next := rfl
    refine ⟨(σ.upd bb .dead).alloc (.cells ((bys ++ [zeroT]).flatMap V.cells)), ?_, by rw [hrow.v]; rfl, ⟨by simp, Sto.blk_next _ _, fun x hx => ?_⟩, Sto.sub_alloc _ _ _ _ ?_⟩
    · unfold appendV
      rw [show elems σ 3 (.sl .full [zeroT]) = some [zeroT] from rfl]
      simp only [hel]
      rw [if_pos ⟨by simp; omega, by simp; omega, headOk_of hrow.each, rfl⟩, if_pos trivial, hrow.v]
      simp
    · rcases List.mem_append.1 hx with hx | hx
      · exact hrow.each x hx
      · rw [List.mem_singleton] at hx; rw [hx]; rfl
    · rw [Sto.blk_upd, if_neg (fun e => hne e.1.symm)]
      exact hb

theorem loop48 {dv rv zv : V} {ds : List DefL} {b : Nat} (hd : IsDefs dv ds) {zs : List V} (hz : IsSl zv zs) (hzs : ∀ z ∈ zs, (∃ n, IsTyp n z) ∧ kindOf z = 0) (hl : zs.length ≤ 10) (hv : V.one rv = true) : ∀ (rest pre : List V) (σ : Sto) (bys : List V), zs = pre ++ rest → Look σ b dv rv bys → bys.length = pre.length → (∀ e ∈ bys, kindOf e = 0) →
    ∃ σ' bys', L48_0 dv (.ptr b 0) zv (.int .i64 zs.length) (.int .i64 pre.length) σ = some (.ret (.tup [.ptr b 0, .bool true]), σ') ∧ Look σ' b dv rv bys' ∧ bys'.length = zs.length ∧ ∀ e ∈ bys', kindOf e = 0 := by
  intro rest
  induction rest with
  | nil =>
    intro pre σ bys hpre hst hby hk
    have hlt : decide ((pre.length : Int) < zs.length) = false := by rw [hpre]; simp
    refine ⟨σ, bys, ?_, hst, by rw [hby, hpre]; simp, hk⟩
    rw [L48_0_eq]
    iterate 3 (try simp only [binV_int, intBin_lss, Option.bind_some, hlt, condV_f])
  | cons e rest ih =>
    intro pre σ bys hpre hst hby hk
    have hlt : decide ((pre.length : Int) < zs.length) = true := by rw [hpre]; simp; omega
    have hlen2 : zs.length = pre.length + (rest.length + 1) := by rw [hpre]; simp
    obtain ⟨⟨n, he⟩, he0⟩ := hzs e (by rw [hpre]; simp)
    obtain ⟨r, m, q1, q2, q3⟩ := pure33 hd he
    have hr0 : kindOf r = 0 := by
      rcases q3 with h | h | ⟨h, _⟩
      · exact h
      · rw [h]; exact he0
      · rw [he0] at h; cases h
    obtain ⟨bv, hb, hbv⟩ := hst.ex
    obtain ⟨σ1, g1, g2, g3, g4⟩ := grow48 hb hbv hst.all (by omega)
    obtain ⟨cs, rfl, hcs, hone⟩ := he.flat
    obtain ⟨cr, rfl, hcr, honer⟩ := q2.flat
    have hz3 : [V.int .i64 0, .str [], .nsl].length = 3 := rfl
    have hidx : indexAddrV 3 zv (.int .i64 pre.length) = some (.vp cs) := IsSl.idx (e := .agg cs) (hpre ▸ hz) hcs
    have hst3 : stC [V.int .i64 0, .str [], .nsl] 0 3 (.agg cs) = some cs := stC_all hcs hz3 hone
    have hn : nilCheckV (.ptr b 0) = some (.ptr b 0) := rfl
    have hl2 : ldV σ none (.ptr b (0 + 2)) = some bv := (ldV_ptr hb).trans rfl
    have hfill : fillD 3 (List.replicate 1 (V.agg [.int .i64 0, .str [], .nsl])) [(0, .agg [.int .i64 0, .str [], .nsl])] = some [zeroT] := rfl
    have hjl : bys.length < (bys ++ [zeroT]).length := by simp
    have hix := g3.idx hjl
    obtain ⟨s1, s2⟩ := g3.st (t := .agg cr) hjl hcr honer (by omega)
    have hset : (bys ++ [zeroT]).set bys.length (.agg cr) = bys ++ [.agg cr] := by simp
    rw [hset] at s1 s2
    have hbn : b ≠ σ.next := by have := Sto.blk_lt hb; omega
    generalize hσ2 : σ1.upd σ.next (.cells ((bys ++ [V.agg cr]).flatMap V.cells)) = σ2 at s1 s2
    have hb2 : σ2.blk b = some (.cells [dv, rv, bv]) := by rw [← hσ2, Sto.blk_upd, if_neg (fun e => hbn e.1)]; exact g4
    obtain ⟨ver, hver⟩ := Sto.get_of_blk s2.blk
    have hlate : lateV 1 σ2 (.ptr σ.next (bys.length * 3)) = some [(1, σ.next, ver)] := by simp [lateV, Sto.ver_of_get hver]
    have hstv : stV σ2 1 (.ptr b (0 + 2)) (.msl σ.next 0 (bys.length + 1) 3) = some (σ2.upd b (.cells [dv, rv, .msl σ.next 0 (bys.length + 1) 3])) := by
      simp [stV, hb2, over, V.cells, V.one]
    have hver3 : (σ2.upd b (.cells [dv, rv, .msl σ.next 0 (bys.length + 1) 3])).ver σ.next = some ver := by
      unfold Sto.ver
      rw [Sto.get_upd, if_neg (fun e => hbn e.1.symm), hver]; rfl
    have hpass : ∀ kk : Pend → R, passK [(1, σ.next, ver)] (σ2.upd b (.cells [dv, rv, .msl σ.next 0 (bys.length + 1) 3])) kk = kk [(0, σ.next, ver)] := fun kk => by simp [passK, Pend.pass, hver3]
    have hw : wrapI .i64 ((pre.length : Int) + 1) = ((pre ++ [V.agg cs]).length : Int) := by
      rw [wrap64 (by omega)]; simp
    have hlook : Look (σ2.upd b (.cells [dv, rv, .msl σ.next 0 (bys.length + 1) 3])) b dv rv (bys ++ [.agg cr]) := by
      refine ⟨⟨.msl σ.next 0 (bys.length + 1) 3, by rw [Sto.blk_upd, if_pos ⟨rfl, Sto.blk_lt hb2⟩], Or.inr ⟨σ.next, fun e => hbn e.symm, s2.other hbn _⟩⟩, fun x hx => ?_⟩
      rcases List.mem_append.1 hx with hx | hx
      · exact hst.all x hx
      · rw [List.mem_singleton] at hx; rw [hx]; exact ⟨_, q2⟩
    obtain ⟨σ', bys', w1, w2, w3, w4⟩ := ih (pre ++ [V.agg cs]) _ _ (by rw [hpre]; simp) hlook (by simp [hby]) (fun x hx => by
      rcases List.mem_append.1 hx with hx | hx
      · exact hk x hx
      · rw [List.mem_singleton] at hx; rw [hx]; exact hr0)
    refine ⟨σ', bys', ?_, w2, w3, w4⟩
    rw [L48_0_eq]
    iterate 6 (try simp only [binV_int, intBin_lss, Option.bind_some, hlt, condV_t, hidx, ldV_vp, part_all hcs, hst3, hn, fieldAddrV_ptr, hl2, q1, g2, hfill, g1, bind2_some, hix, s1, hlate, hstv, hpass, intBin_add, hw])
    exact w1

end Go.Eng
