/- Maps that are made and written, slices that are made, appends. -/
import Derived.Test.YtjldgekmjnkofaaE12
set_option linter.unusedVariables false
set_option linter.unusedSimpArgs false
namespace Go.Eng
open Go

section
variable {P : Program} {ty : Ty} {B0 : Nat} {o : Oper} {a : Act} {σ : Sto} {g : Gh} {w : World} {v : V}

theorem s_mkMap (inv : Inv B0 σ g w) {s : TypeId} (ho : o.op = .makeMap s none) : OpVal P B0 o a σ g w (.map σ.next) (σ.alloc (.map [] 0)) := by
  have hst := step_map inv (WPush.alloc w (.map #[] 0))
  refine ⟨_, .map (some w.heap.size), _, _, ?_, Or.inl rfl, hst.2, hst.1, .map _ _ (by simp [Gh.own])⟩
  unfold execOp
  simp [ho, Instr.makeMap]

theorem s_mkSl (tok : TyOk P ty) (inv : Inv B0 σ g w) {s : TypeId} {l c : Operand} (ho : o.op = .makeSlice s l c) (hlc : a.eval c = a.eval l) {e : TI} (he : elemOf ty s = some e)
    {z : V} (hz : e.zero = some z) (hone : z.cells.all V.one = true) (hzl : z.cells.length = e.size) {u : V} (hl : VR g w u (a.eval l)) (mu : Bool) {σ' : Sto}
    (hv : mkSlV e.size e.bytes z mu σ u = some (v, σ')) : OpVal P B0 o a σ g w v σ' := by
  obtain ⟨j, et, hj, hd, het⟩ := elemOf_inv he
  have hu := tok.under s j hj
  rw [hd] at hu
  obtain ⟨zu, hzu, hzc⟩ := run_zero (P := P) tok het hz w
  have hzr := ofC_rel g w 100 zu z hzc
  obtain ⟨xi, hxi, hxs, hxb, _⟩ := tok.info et e het
  unfold mkSlV at hv
  split at hv
  · rename_i k n
    split at hv
    · rename_i hc
      obtain ⟨c1, c2, c3, c4⟩ := hc
      obtain ⟨N, rfl⟩ := Int.eq_ofNat_of_zero_le c1
      have hl' := hl.int_inv
      simp only [Int.toNat_natCast] at hv c2
      have h0 := zeros_same (g := g) (w := w) hzr hone hzl N
      generalize hus : ((Array.range (N * e.size)).map fun i => zu.cells[i % zu.cells.size]!) = us at h0
      have hsz : us.size = N * e.size := by rw [← hus]; simp
      have hwrap : IntKind.i64.wrap (N : Int) = N := by
        rw [← wrapI_eq]
        unfold wrapI
        dsimp only
        rw [if_pos (by omega)]
      have hrun : (execOp a.eval o).run P w = .ok (.value (.slice (some ⟨w.heap.size, 0, none⟩) N N)) (w.alloc (.cells us et)) := by
        have hti : (typeInfo et).run P w = .ok xi w := by simp [typeInfo, hxi]
        unfold execOp
        simp only [ho, Instr.makeSlice, hlc, hl', Sem.run_bind, run_underlying hu, Result.andThen_ok, asInt, asIntOf, Sem.run_pure, hti, hxb, hwrap]
        have hb : ((e.bytes : Int) * (N : Int)) ≤ 140737488355328 := by
          have : ((N * e.bytes : Nat) : Int) ≤ 140737488355328 := by omega
          rw [Nat.mul_comm, Int.natCast_mul] at this
          exact this
        have hbf : (decide ((N : Int) < 0) || decide ((e.bytes : Int) * (N : Int) > 2 ^ 48)) = false := by
          simp; omega
        have hbf2 : (decide ((N : Int) < 0) || decide ((N : Int) > N)) = false := by simp
        simp only [hbf]
        rw [if_neg (by simp)]
        simp only [Sem.run_bind, run_askRoom, Result.andThen_ok, run_sizeOf tok het, Int.toNat_natCast]
        by_cases hn : N * e.size = 0
        · rw [if_pos hn]
          have hus' : us = #[] := by
            apply Array.eq_empty_of_size_eq_zero
            omega
          subst hus'
          simp only [hn]
          simp [newRow, Array.range_zero']
        · rw [if_neg hn]
          simp only [Sem.run_bind, hzu, Result.andThen_ok, Sem.run_pure, hus]
          simp [newRow]
      have hread : ∀ (j : Nat) v, ((List.replicate N z).flatMap V.cells)[j]? = some v → v.one = true := fun j v hv => by
        obtain ⟨x, hx, hxv⟩ := List.mem_flatMap.1 (List.mem_of_getElem? hv)
        rw [List.eq_of_mem_replicate hx] at hxv
        exact List.all_eq_true.1 hone v hxv
      cases mu with
      | true =>
        simp only [if_true] at hv
        cases hv
        have hr : Reads g w us 0 ((List.replicate N z).flatMap V.cells) := fun j v hv => by
          have hlt := (List.getElem?_eq_some_iff.1 hv).1
          have := h0.2 j v hv
          rw [Array.getD_eq_getD_getElem?] at this
          have hlt' : j < us.size := by rw [h0.1]; exact hlt
          refine ⟨hread j v hv, us[j], by rw [Nat.zero_add]; simp [hlt'], ?_⟩
          simpa [hlt'] using this
        have hst := step_own inv (WPush.alloc w (.cells us et)) hr
        refine ⟨_, _, _, _, hrun, Or.inl rfl, hst.2, hst.1, ?_⟩
        exact .msl _ 0 N e.size _ 0 N (by simp [Gh.own]) (Nat.le_refl _) ⟨us, et, (0, 0), (WPush.alloc w (.cells us et)).new, by omega⟩
      | false =>
        simp only [Bool.false_eq_true, if_false] at hv
        cases hv
        have hst := step_snap inv (WPush.alloc w (.cells us et)) us.size (Nat.le_refl _)
        refine ⟨_, _, _, _, hrun, Or.inl rfl, hst.2, hst.1, ?_⟩
        have hmon := hst.2.toMon
        have hv : VR (g.snap w.heap.size us.size) (w.alloc (.cells us et)) (.sl .full (List.replicate N z)) (.slice (some ⟨w.heap.size, 0, none⟩) (List.replicate N z).length N) := by
          refine .sl .full _ w.heap.size 0 N e.size (fun j => us.getD j undef) (fun v hv => by rw [List.eq_of_mem_replicate hv]; exact hzl) (by simp) (fun j hj => ?_) (fun j v hv => (h0.2 j v hv).mono hmon)
            (fun v hv x hx => by rw [List.eq_of_mem_replicate hv] at hx; exact List.all_eq_true.1 hone x hx) (by simp [OwnOk])
          have hlt : j < us.size := by rw [hsz]; simpa using hj
          rw [Nat.zero_add]
          exact ⟨by rw [World.cell?_alloc_new]; simp [hlt], Or.inr ⟨rfl, hlt⟩⟩
        rw [List.length_replicate] at hv
        exact hv
    · cases hv
  · cases hv

/-! ## Maps -/

theorem setK_found {k v : V} {ck : Nat} : ∀ (es : List (V × V × Nat)) (j : Nat) (k' v' : V) (n : Nat), es[j]? = some (k', v', n) → keyEq k k' = some true → (∀ q k'' v'' n'', q < j → es[q]? = some (k'', v'', n'') → keyEq k k'' = some false) →
    setK k v ck es = es.set j (k, v, n) := by
  intro es
  induction es with
  | nil => intro j k' v' n h; simp at h
  | cons e es ih =>
    intro j k' v' n h hk hq
    obtain ⟨k0, v0, n0⟩ := e
    cases j with
    | zero =>
      simp at h
      obtain ⟨rfl, rfl, rfl⟩ := h
      simp [setK, hk]
    | succ j =>
      have h0 := hq 0 k0 v0 n0 (by omega) rfl
      simp only [setK, h0, List.set_cons_succ]
      rw [ih j k' v' n (by simpa using h) hk (fun q k'' v'' n'' hlt hqe => hq (q + 1) k'' v'' n'' (by omega) (by simpa using hqe))]

theorem setK_none {k v : V} {ck : Nat} : ∀ (es : List (V × V × Nat)), findK k es = some none → setK k v ck es = es ++ [(k, v, ck)] := by
  intro es
  induction es with
  | nil => intro _; rfl
  | cons e es ih =>
    intro h
    obtain ⟨k0, v0, n0⟩ := e
    simp only [findK] at h
    split at h
    · cases h
    · rename_i hb
      simp only [setK, hb, List.cons_append, ih h]
    · cases h

theorem sameBits_key {k k' : V} {u u' : Value} (hu : VR g w k u) (hu' : VR g w k' u') (h : keyEq k k' = some true) (n : Nat) : Instr.sameBits n u' u = true := by
  cases k <;> cases k' <;> simp only [keyEq] at h <;> try (cases h; done)
  · split at h
    · rename_i hk
      simp at h
      rw [hu.int_inv, hu'.int_inv]
      cases n <;> simp [Instr.sameBits, hk, h]
    · cases h
  · simp at h
    obtain ⟨s, e1, e1'⟩ := hu.str_inv
    obtain ⟨s', e2, e2'⟩ := hu'.str_inv
    subst e1 e2
    rw [← e1', ← e2'] at h
    have : s' = s := by
      cases s; cases s'
      simp at h
      simp [h]
    subst this
    cases n <;> simp [Instr.sameBits, beq_toListBytes]

theorem s_mapUpd (tok : TyOk P ty) (inv : Inv B0 σ g w) {s kt et : TypeId} {m k x : Operand} (ho : o.op = .mapUpdate s m k x ∨ o.op = .insert s m k x) {i ki : TI} (hi : ty s = some i) (hd : i.desc = .map kt et) (hki : ty kt = some ki)
    (hkd : (∃ q, ki.desc = .int q) ∨ ki.desc = .string) {um uk ux : V} (hm : VR g w um (a.eval m)) (hkr : VR g w uk (a.eval k)) (hxr : VR g w ux (a.eval x)) {σ' : Sto} (hv : mapUpdV (kdOf ki.desc) σ um uk ux = some σ') :
    OpVal P B0 o a σ g w .undef σ' := by
  have hu := tok.under s i hi
  rw [hd] at hu
  have huk := tok.under kt ki hki
  have hkey : isKey (kdOf ki.desc) uk = true → (∃ i, ki.desc = .int i) ∧ isKey .other uk = true ∨ ki.desc = .string ∧ isKey .str uk = true := fun h => by
    rcases hkd with ⟨q, hq⟩ | hq
    · rw [hq] at h ⊢; exact Or.inl ⟨⟨q, rfl⟩, h⟩
    · rw [hq] at h ⊢; exact Or.inr ⟨rfl, h⟩
  generalize hzm : a.eval m = zm at hm
  have hexec : ∀ w', (Instr.mapUpdate s zm (a.eval k) (a.eval x)).run P w = .ok () w' → (execOp a.eval o).run P w = .ok .skip w' := by
    intro w' h
    unfold execOp
    rcases ho with ho | ho <;> · simp only [ho, hzm, Sem.run_bind, h]; rfl
  unfold mapUpdV at hv
  split at hv
  · rename_i b
    split at hv
    · rename_i es ck hb
      obtain ⟨B, us, hι, hh, hr, hgm⟩ := inv.maps hb
      cases hm with
      | map b B' h =>
        rw [hι] at h
        cases h
        have hg : (getObj B).run P w = .ok (.map us ck) w := by simp [getObj, Sem.run, hh]
        have hset : ∀ us' ck', (setObj B (.map us' ck')).run P w = .ok () (setB w B (.map us' ck')) := fun us' ck' => by simp [setObj, Sem.run, hh, setB]
        split at hv
        · rename_i old hf
          split at hv
          · rename_i hik
            cases hv
            obtain ⟨r', h1, h2⟩ := findNow_of (kd := ki.desc) (hkey hik) hkr es us.toList 0 (by simpa using hr.len) (fun j k v n hj => by simpa using hr.at_ j k v n hj) _ hf
            cases r' with
            | none => exact h2.elim
            | some y' =>
              obtain ⟨j, xx⟩ := y'
              obtain ⟨_, _, k', n', hje, hke, hq⟩ := h2
              rw [Nat.sub_zero] at hje hq
              obtain ⟨me, hme, hmk, hmv, hmb⟩ := hr.at_ j k' old n' hje
              have hjlt := (Array.getElem?_eq_some_iff.1 hme).1
              have hjle := (List.getElem?_eq_some_iff.1 hje).1
              have hmr : MapReads g w (setK uk ux ck es) (us.modify j fun e => { e with key := a.eval k, val := a.eval x }) := by
                rw [setK_found es j k' old n' hje hke hq]
                refine ⟨by simp [hr.len], fun q k1 v1 n1 hq1 => ?_⟩
                rw [List.getElem?_set] at hq1
                rw [Array.getElem?_modify]
                by_cases hjq : j = q
                · subst hjq
                  rw [if_pos rfl, if_pos hjle] at hq1
                  cases hq1
                  rw [if_pos rfl, hme]
                  exact ⟨_, rfl, hkr, hxr, hmb⟩
                · rw [if_neg hjq] at hq1 ⊢
                  exact hr.at_ q k1 v1 n1 hq1
              have hst := step_mapupd (ck' := ck) inv hb hι hh hgm hmr
              refine ⟨_, undef, g, _, hexec _ ?_, Or.inr ⟨rfl, rfl⟩, hst.2, hst.1, .undef⟩
              unfold Instr.mapUpdate
              simp only [Sem.run_bind, run_underlying hu, Result.andThen_ok, hg]
              rw [run_checkKey huk (hkey hik)]
              simp only [Result.andThen_ok, Instr.findKey, Sem.run_bind, run_underlying huk, h1, Sem.run_pure]
              have hsb := sameBits_key hkr hmk hke 10000
              have hkts : (Instr.keyThatStays (((us[j]?).map (·.key)).getD (a.eval k)) (a.eval k)).run P w = .ok (a.eval k) w := by
                unfold Instr.keyThatStays
                rw [hme]
                simp [hsb]
              rw [hkts]
              exact hset _ _
          · cases hv
        · rename_i hf
          split at hv
          · rename_i hik
            cases hv
            obtain ⟨r', h1, h2⟩ := findNow_of (kd := ki.desc) (hkey hik) hkr es us.toList 0 (by simpa using hr.len) (fun j k v n hj => by simpa using hr.at_ j k v n hj) _ hf
            cases r' with
            | some y => exact h2.elim
            | none =>
              have hmr : MapReads g w (setK uk ux ck es) (us.push { key := a.eval k, val := a.eval x, born := ck }) := by
                rw [setK_none es hf]
                refine ⟨by simp [hr.len], fun q k1 v1 n1 hq1 => ?_⟩
                by_cases hq : q < es.length
                · rw [List.getElem?_append_left hq] at hq1
                  obtain ⟨me, hme, rest⟩ := hr.at_ q k1 v1 n1 hq1
                  refine ⟨me, ?_, rest⟩
                  rw [Array.getElem?_push, if_neg (by have := hr.len; omega)]
                  exact hme
                · rw [List.getElem?_append_right (by omega)] at hq1
                  have hq0 : q - es.length = 0 := by
                    rcases Nat.eq_zero_or_pos (q - es.length) with h | h
                    · exact h
                    · rw [List.getElem?_eq_none (by simp; omega)] at hq1; cases hq1
                  rw [hq0] at hq1
                  simp at hq1
                  obtain ⟨rfl, rfl, rfl⟩ := hq1
                  have hqe : q = us.size := by have := hr.len; omega
                  refine ⟨{ key := a.eval k, val := a.eval x, born := ck }, ?_, hkr, hxr, rfl⟩
                  rw [hqe]; simp
              have hst := step_mapupd (ck' := ck + 1) inv hb hι hh hgm hmr
              refine ⟨_, undef, g, _, hexec _ ?_, Or.inr ⟨rfl, rfl⟩, hst.2, hst.1, .undef⟩
              unfold Instr.mapUpdate
              simp only [Sem.run_bind, run_underlying hu, Result.andThen_ok, hg]
              rw [run_checkKey huk (hkey hik)]
              simp only [Result.andThen_ok, Instr.findKey, Sem.run_bind, run_underlying huk, h1, Sem.run_pure]
              exact hset _ _
          · cases hv
        · cases hv
    · cases hv
  · cases hv

end

end Go.Eng
