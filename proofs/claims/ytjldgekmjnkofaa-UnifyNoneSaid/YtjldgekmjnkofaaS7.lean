/- Types with aliases written out. -/
import Derived.Test.YtjldgekmjnkofaaS6
set_option linter.unusedVariables false
set_option linter.unusedSimpArgs false
namespace Go.Eng
open Go

theorem Sto.alloc_next (σ : Sto) (x : Blk) : (σ.alloc x).next = σ.next + 1 := rfl

theorem Sto.get_next (σ : Sto) (x : Blk) : (σ.alloc x).get σ.next = some (0, x) := by rw [Sto.get_alloc, if_pos rfl]

/-- Room for all of them. -/
theorem typs_max : ∀ {es : List V}, (∀ e ∈ es, ∃ m, IsTyp m e) → ∃ M, ∀ e ∈ es, IsTyp M e
  | [], _ => ⟨0, fun e h => by cases h⟩
  | e :: es, h => by
    obtain ⟨m, hm⟩ := h e List.mem_cons_self
    obtain ⟨M, hM⟩ := typs_max (es := es) fun x hx => h x (List.mem_cons_of_mem _ hx)
    refine ⟨max m M, fun x hx => ?_⟩
    cases hx with
    | head => exact hm.mono (by omega)
    | tail _ hx => exact (hM x hx).mono (by omega)

/-- What is told of a type that is written out. -/
def HeadOk (ds : List DefL) (t r : V) : Prop := kindOf r = 0 ∨ kindOf r = kindOf t ∨ (kindOf t = 3 ∧ aliasB ds (nmOf t) = true)

theorem big55 {dv : V} {ds : List DefL} (hd : IsDefs dv ds) : ∀ (left n : Nat), left ≤ 100 → ∀ (t : V), IsTyp n t → ∀ (σ : Sto) (b : Nat) (steps : Int), σ.blk b = some (.cells [dv, .int .i64 steps]) →
    ∃ r σ' m steps', D ft 55 [.ptr b 0, t, .int .i64 left] σ = some (.ret r, σ') ∧ IsTyp m r ∧ σ'.blk b = some (.cells [dv, .int .i64 steps']) ∧ Keep (fun i => i = b) σ σ' ∧ HeadOk ds t r := by
  intro left
  induction left using Nat.strongRecOn with
  | _ left ihL =>
  intro n
  induction n with
  | zero => intro _ t h; exact h.elim
  | succ n ihN =>
    intro hleft t ht σ b steps hb
    have htO := ht
    obtain ⟨k, nm, s, es, rfl, hs, hlen, hall⟩ := ht
    have hones := htO.ones
    have hbl := Sto.blk_lt hb
    rw [D55_eq]
    have bp : boxN 1 (.ptr b 0) = some [.ptr b 0] := rfl
    have bi : boxN 1 (.int .i64 left) = some [.int .i64 left] := rfl
    simp only [bp, bi, Option.bind_some, alS_eq, boxN_all (cs := [V.int .i64 k, .str nm, s]) (n := 3) rfl hones, Sto.alloc_next]
    -- the rooms of the frame
    have g0 : (((σ.alloc (.cells [.ptr b 0])).alloc (.cells [.int .i64 k, .str nm, s])).alloc (.cells [.int .i64 left])).get σ.next = some (0, .cells [.ptr b 0]) := (Keep.alloc (W := fun _ => False) _ _).get _ _ id ((Keep.alloc (W := fun _ => False) _ _).get _ _ id (Sto.get_next _ _))
    have g1 : (((σ.alloc (.cells [.ptr b 0])).alloc (.cells [.int .i64 k, .str nm, s])).alloc (.cells [.int .i64 left])).get (σ.next + 1) = some (0, .cells [.int .i64 k, .str nm, s]) := (Keep.alloc (W := fun _ => False) _ _).get _ _ id (Sto.get_next (σ.alloc (.cells [.ptr b 0])) _)
    have g2 : (((σ.alloc (.cells [.ptr b 0])).alloc (.cells [.int .i64 k, .str nm, s])).alloc (.cells [.int .i64 left])).get (σ.next + 1 + 1) = some (0, .cells [.int .i64 left]) := Sto.get_next ((σ.alloc (.cells [.ptr b 0])).alloc (.cells [.int .i64 k, .str nm, s])) _
    have hk3 : Keep (fun i => i = b) σ (((σ.alloc (.cells [.ptr b 0])).alloc (.cells [.int .i64 k, .str nm, s])).alloc (.cells [.int .i64 left])) := ((Keep.alloc _ _).trans (Keep.alloc _ _)).trans (Keep.alloc _ _)
    have gb : (((σ.alloc (.cells [.ptr b 0])).alloc (.cells [.int .i64 k, .str nm, s])).alloc (.cells [.int .i64 left])).blk b = some (.cells [dv, .int .i64 steps]) := Sto.sub_alloc _ _ _ _ (Sto.sub_alloc _ _ _ _ (Sto.sub_alloc _ _ _ _ hb))
    generalize ((σ.alloc (.cells [.ptr b 0])).alloc (.cells [.int .i64 k, .str nm, s])).alloc (.cells [.int .i64 left]) = σ3 at g0 g1 g2 gb hk3 ⊢
    have hst : stV σ3 1 (.ptr b 1) (.int .i64 (wrapI .i64 (steps - 1))) = some (σ3.upd b (.cells [dv, .int .i64 (wrapI .i64 (steps - 1))])) := by
      simp [stV, gb, over]
    have hn : ∀ b o, nilCheckV (.ptr b o) = some (.ptr b o) := fun _ _ => rfl
    simp only [ldV_ptr (Sto.blk_of_get' g0), part_none, List.getElem?_cons_zero, Option.bind_some, hn, fieldAddrV_ptr, Nat.zero_add, ldV_ptr gb, List.getElem?_cons_succ, binV_int, intBin_sub, hst]
    have hk4 : Keep (fun i => i = b) σ3 (σ3.upd b (.cells [dv, .int .i64 (wrapI .i64 (steps - 1))])) := Keep.upd _ _ _ rfl
    have gb4 : (σ3.upd b (.cells [dv, .int .i64 (wrapI .i64 (steps - 1))])).blk b = some (.cells [dv, .int .i64 (wrapI .i64 (steps - 1))]) := by rw [Sto.blk_upd, if_pos ⟨rfl, Sto.blk_lt gb⟩]
    have ne0 : ¬ σ.next = b := by omega
    have ne1 : ¬ σ.next + 1 = b := by omega
    have ne2 : ¬ σ.next + 1 + 1 = b := by omega
    have g0 := hk4.get _ _ ne0 g0
    have g1 := hk4.get _ _ ne1 g1
    have g2 := hk4.get _ _ ne2 g2
    have hk4 := hk3.trans hk4
    generalize σ3.upd b (.cells [dv, .int .i64 (wrapI .i64 (steps - 1))]) = σ4 at g0 g1 g2 gb4 hk4 ⊢
    clear hst gb hk3
    generalize wrapI .i64 (steps - 1) = st4 at gb4
    simp only [ldV_ptr (Sto.blk_of_get' g0), part_none, List.getElem?_cons_zero, Option.bind_some, hn, fieldAddrV_ptr, Nat.zero_add, ldV_ptr gb4, List.getElem?_cons_succ, binV_int, intBin_lss]
    cases decide (st4 < 0) with
    | true => exact ⟨noTyp, σ4, 1, st4, by simp [noTyp], isTyp_no, gb4, hk4, Or.inl rfl⟩
    | false =>
      have hz3 : [V.int .i64 0, .str [], .nsl].length = 3 := rfl
      -- the arguments, written out
      have h4n : σ.next + 1 + 1 < σ4.next := Sto.get_lt g2
      have hb4 : b < σ4.next := Sto.blk_lt gb4
      obtain ⟨v', es', σ5, h1, h2, h3, ⟨i0, i1, i2, st5, i3⟩, h5⟩ := turned70 (fv := .func 71 [.ptr σ.next 0, .ptr (σ.next + 1 + 1) 0]) (σ := σ4) (W := fun i => i = b)
        (I := fun σ' => σ'.get σ.next = some (0, .cells [.ptr b 0]) ∧ σ'.get (σ.next + 1) = some (0, .cells [.int .i64 k, .str nm, s]) ∧ σ'.get (σ.next + 1 + 1) = some (0, .cells [.int .i64 left]) ∧ ∃ st, σ'.blk b = some (.cells [dv, .int .i64 st]))
        (Q := fun _ r => ∃ m, IsTyp m r) hs hlen
        (fun e he => by
          obtain ⟨cs, rfl, hc⟩ := (hall e he).agg
          exact ⟨cs, rfl, hc, (hall _ he).ones⟩)
        (fun e r hr => by
          obtain ⟨m, hr⟩ := hr
          obtain ⟨cs, rfl, hc⟩ := hr.agg
          exact ⟨cs, rfl, hc, hr.ones⟩)
        (fun i hi => by subst hi; exact hb4)
        (fun σ1 σ2 ⟨j0, j1, j2, st, j3⟩ _ hk => ⟨hk.get _ _ (by omega) j0, hk.get _ _ (by omega) j1, hk.get _ _ (by omega) j2, st, hk.blk _ _ (by omega) j3⟩)
        (fun e he σ1 ⟨j0, j1, j2, st, j3⟩ _ => by
          obtain ⟨r, σ2, m, st2, hr1, hr2, hr3, hr4, _⟩ := ihN hleft e (hall e he) σ1 b st j3
          obtain ⟨cs, rfl, hc⟩ := (hall e he).agg
          obtain ⟨cr, rfl, hcr⟩ := hr2.agg
          refine ⟨.agg cr, σ2, ?_, ⟨m, hr2⟩, ⟨hr4.get _ _ ne0 j0, hr4.get _ _ ne1 j1, hr4.get _ _ ne2 j2, st2, hr3⟩, hr4⟩
          have happ := appV_imp (cl := D ft) (f := 71) (vs := [.agg cs]) (caps := [.ptr σ.next 0]) (b := σ.next + 1 + 1) (o := 0) (σ := σ1)
          simp only [List.cons_append, List.nil_append] at happ
          rw [happ, D71_eq]
          simp only [boxC_all (hall _ he).ones, Option.bind_some, ldV_ptr (Sto.blk_of_get' j0), part_none, List.getElem?_cons_zero, part_all hc, ldV_ptr (Sto.blk_of_get' j2), hr1, bindR_ret, stC_all hcr hz3 hr2.ones, part_all hcr])
        ⟨g0, g1, g2, st4, gb4⟩
      obtain ⟨M, hM⟩ := typs_max (es := es') fun x hx => by
        obtain ⟨a, _, h⟩ := h3.mem_right x hx
        exact h
      have hv1 : IsTyp (M + 1) (.agg [.int .i64 k, .str nm, v']) := ⟨k, nm, v', es', rfl, h2, by rw [← h3.len]; exact hlen, hM⟩
      have hvs : IsTyps M v' es' := ⟨h2, by rw [← h3.len]; exact hlen, hM⟩
      have hnv : noteV 1 σ4 (.ptr (σ.next + 1) 0) [] = some [(1, σ.next + 1, 0)] := by simp [noteV, Sto.ver_of_get g1]
      have hnv2 : noteV 1 σ4 (.ptr (σ.next + 1) 1) [(1, σ.next + 1, 0)] = some [(1, σ.next + 1, 0), (1, σ.next + 1, 0)] := by simp [noteV, Sto.ver_of_get g1]
      have hpass : ∀ kk : Pend → R, passK [(1, σ.next + 1, 0), (1, σ.next + 1, 0)] σ5 kk = kk [(0, σ.next + 1, 0), (0, σ.next + 1, 0)] := fun kk => by simp [passK, Pend.pass, Sto.ver_of_get i1]
      have hfill : fillC [V.int .i64 0, .str [], .nsl] [(0, 1, .int .i64 k), (1, 1, .str nm), (2, 1, v')] = some [.int .i64 k, .str nm, v'] := by
        simp [h2.cells, h2.one]
      have hstc : stC [V.int .i64 0, .str [], .nsl] 0 3 (.agg [.int .i64 k, .str nm, v']) = some [.int .i64 k, .str nm, v'] := stC_all rfl hz3 hv1.ones
      have hpt : part [V.int .i64 k, .str nm, v'] 0 (some 3) = some (.agg [.int .i64 k, .str nm, v']) := part_all rfl
      simp only [condV_f, fieldAddrV_ptr, Nat.zero_add, Option.bind_some, ldV_ptr (Sto.blk_of_get' g1), part_none, List.getElem?_cons_zero, List.getElem?_cons_succ, hnv, hnv2, h1, bindR_ret, hpass, hfill, hstc, ldV_ptr (Sto.blk_of_get' i1), binV_int, intBin_neq]
      have hk5 := hk4.trans h5
      by_cases hk3 : k = 3
      · subst hk3
        obtain ⟨i, hi1, hi2⟩ := index72' (f := 73) (b := σ.next + 1) (n := nm) (σ := σ5) hd fun e d hed => clo73 hed (Sto.blk_of_get' i1)
        simp only [decide_true, Bool.not_true, condV_f, ldV_ptr (Sto.blk_of_get' i0), part_none, List.getElem?_cons_zero, Option.bind_some, hn, fieldAddrV_ptr, Nat.zero_add, ldV_ptr i3, hi1, bindR_ret, binV_int, intBin_lss]
        rcases hi2 with ⟨rfl, _⟩ | ⟨e, d, hi0, hed, hfind, _, hat⟩
        · exact ⟨.agg [.int .i64 3, .str nm, v'], σ5, M + 1, st5, by iterate 4 (try simp only [condV_t, condV_f, Bool.not_true, Bool.not_false, decide_true, Int.reduceNeg, Int.reduceLT, gd_tf, gd_u, gd_ft, pickS_t, pickS_f, hpt, hstc, Option.bind_some]), hv1, i3, hk5, Or.inr (Or.inl rfl)⟩
        · have hneg : decide (i < 0) = false := by simpa using hi0
          obtain ⟨pv, ps, tk, tn, ta, m, rfl, hp1, hp2⟩ := hed.ex
          have hf5 : fieldAddrV 5 (.vp [V.str d.name, pv, .int .i64 tk, .str tn, ta, .bool d.alias]) = some (.vp [.bool d.alias]) := rfl
          have hl5 : ldV σ5 none (.vp [.bool d.alias]) = some (.bool d.alias) := rfl
          simp only [hneg, gd_ff, Option.bind_some, V.cells_agg] at hat ⊢
          iterate 3 (try simp only [hn, ldV_ptr (Sto.blk_of_get' i0), fieldAddrV_ptr, Nat.zero_add, ldV_ptr i3, hat, hf5, hl5, Option.bind_some, part_none, List.getElem?_cons_zero, notV_bool, pickS_f])
          cases hal : d.alias with
          | false => exact ⟨.agg [.int .i64 3, .str nm, v'], σ5, M + 1, st5, by iterate 4 (try simp only [condV_t, condV_f, Bool.not_true, Bool.not_false, decide_true, Int.reduceNeg, Int.reduceLT, gd_tf, gd_u, gd_ft, pickS_t, pickS_f, hpt, hstc, Option.bind_some]), hv1, i3, hk5, Or.inr (Or.inl rfl)⟩
          | true =>
            have hA : aliasB ds nm = true := by unfold aliasB; rw [hfind]; simp [hal]
            have hf1 : fieldAddrV 1 (.vp [V.str d.name, pv, .int .i64 tk, .str tn, ta, .bool true]) = some (.vp [pv, .int .i64 tk, .str tn, ta, .bool true]) := rfl
            have hf2 : fieldAddrV 2 (.vp [V.str d.name, pv, .int .i64 tk, .str tn, ta, .bool true]) = some (.vp [.int .i64 tk, .str tn, ta, .bool true]) := rfl
            have hl1 : ldV σ5 none (.vp [pv, .int .i64 tk, .str tn, ta, .bool true]) = some pv := rfl
            have hl2 : ldV σ5 (some 3) (.vp [.int .i64 tk, .str tn, ta, .bool true]) = some (.agg [.int .i64 tk, .str tn, ta]) := rfl
            rw [hal] at hat
            have hst5 : stV σ5 1 (.ptr b 1) (.int .i64 0) = some (σ5.upd b (.cells [dv, .int .i64 0])) := by
              simp [stV, i3, over]
            have gb7 : (σ5.upd b (.cells [dv, .int .i64 0])).blk b = some (.cells [dv, .int .i64 0]) := by rw [Sto.blk_upd, if_pos ⟨rfl, Sto.blk_lt i3⟩]
            have hk7 : Keep (fun i => i = b) σ5 (σ5.upd b (.cells [dv, .int .i64 0])) := Keep.upd _ _ _ rfl
            have hno : fillC [V.int .i64 0, .str [], .nsl] [] = some [V.int .i64 0, .str [], .nsl] := rfl
            have hno2 : stC [V.int .i64 0, .str [], .nsl] 0 3 (.agg [V.int .i64 0, .str [], .nsl]) = some [V.int .i64 0, .str [], .nsl] := rfl
            have hno3 : part [V.int .i64 0, .str [], .nsl] 0 (some 3) = some noTyp := rfl
            by_cases hl0 : left = 0
            · subst hl0
              refine ⟨noTyp, _, 1, 0, ?_, isTyp_no, gb7, hk5.trans hk7, Or.inl rfl⟩
              iterate 4 (try simp only [Bool.not_true, condV_f, condV_t, ldV_ptr (Sto.blk_of_get' i2), ldV_ptr (Sto.blk_of_get' i0), hn, fieldAddrV_ptr, Nat.zero_add, part_none, List.getElem?_cons_zero, Option.bind_some, binV_int, intBin_eql, Int.ofNat_zero, Int.cast_ofNat_Int, decide_true, gd_tf, chkB_b, pickS_t, hst5, hno, hno2, hno3])
            · have hl0' : decide ((left : Int) = 0) = false := by simp; omega
              iterate 4 (try simp only [Bool.not_true, condV_f, condV_t, ldV_ptr (Sto.blk_of_get' i2), ldV_ptr (Sto.blk_of_get' i0), hn, fieldAddrV_ptr, Nat.zero_add, part_none, List.getElem?_cons_zero, List.getElem?_cons_succ, Option.bind_some, binV_int, intBin_eql, hl0', gd_ff, chkB_b, pickS_f, ldV_ptr i3, hat, V.cells_agg, hf1, hl1, hp1.ex.len, h2.len, intBin_neq])
              cases !decide (((List.map V.str ps).length : Int) = (es'.length : Int)) with
              | true =>
                refine ⟨noTyp, _, 1, 0, ?_, isTyp_no, gb7, hk5.trans hk7, Or.inl rfl⟩
                iterate 4 (try simp only [condV_t, hn, fieldAddrV_ptr, Nat.zero_add, Option.bind_some, hst5, hno, hno2, hno3])
              | false =>
                obtain ⟨r1, hr1, hr2⟩ := pure62 m (M) _ pv v' ps es' hp2 hp1 hvs
                obtain ⟨r, σ7, m7, st7, q1, q2, q3, q4, q5⟩ := ihL (left - 1) (by omega) (m + M) (by omega) r1 hr2 σ5 b st5 i3
                have hw : wrapI .i64 ((left : Int) - 1) = ((left - 1 : Nat) : Int) := by
                  rw [wrap64 (by omega)]; omega
                obtain ⟨cr, rfl, hcr⟩ := q2.agg
                refine ⟨.agg cr, σ7, m7, st7, ?_, q2, q3, hk5.trans q4, Or.inr (Or.inr ⟨rfl, hA⟩)⟩
                iterate 4 (try simp only [condV_f, hn, fieldAddrV_ptr, Nat.zero_add, Option.bind_some, ldV_ptr i3, part_none, List.getElem?_cons_zero, hat, V.cells_agg, hf1, hf2, hl1, hl2, List.getElem?_cons_succ, hr1, binV_int, intBin_sub, hw, q1, bindR_ret, stC_all hcr hz3 q2.ones, part_all hcr])
      · refine ⟨.agg [.int .i64 k, .str nm, v'], σ5, M + 1, st5, ?_, hv1, i3, hk5, Or.inr (Or.inl rfl)⟩
        iterate 3 (try simp only [hk3, decide_false, Bool.not_false, condV_t, hpt, hstc, Option.bind_some])

end Go.Eng
