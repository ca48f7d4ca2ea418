/- Types: what parameters stand for, how many are in one, the definition of a name. -/
import Derived.Test.YtjldgekmjnkofaaS4
set_option linter.unusedVariables false
set_option linter.unusedSimpArgs false
namespace Go.Eng
open Go

/-! ## Types -/

/-- A type, of so much depth. -/
def IsTyp : Nat → V → Prop
  | 0, _ => False
  | n + 1, v => ∃ k nm s es, v = .agg [.int .i64 k, .str nm, s] ∧ IsSl s es ∧ es.length * 48 ≤ 140737488355328 ∧ ∀ e ∈ es, IsTyp n e

def kindOf : V → Int
  | .agg (.int _ k :: _) => k
  | _ => 0

def nmOf : V → List UInt8
  | .agg (_ :: .str n :: _) => n
  | _ => []

theorem IsTyp.succ : ∀ {n : Nat} {v : V}, IsTyp n v → IsTyp (n + 1) v
  | 0, _, h => h.elim
  | n + 1, v, ⟨k, nm, s, es, h1, h2, h3, h4⟩ => ⟨k, nm, s, es, h1, h2, h3, fun e he => (h4 e he).succ⟩

theorem IsTyp.mono {n m : Nat} {v : V} (h : IsTyp n v) (hm : n ≤ m) : IsTyp m v := by
  induction hm with
  | refl => exact h
  | step _ ih => exact ih.succ

theorem IsTyp.agg {n : Nat} {v : V} (h : IsTyp n v) : ∃ cs, v = .agg cs ∧ cs.length = 3 := by
  cases n with
  | zero => exact h.elim
  | succ n =>
    obtain ⟨k, nm, s, es, rfl, _⟩ := h
    exact ⟨_, rfl, rfl⟩

theorem IsTyp.ones {n : Nat} {cs : List V} (h : IsTyp n (.agg cs)) : cs.all V.one = true := by
  cases n with
  | zero => exact h.elim
  | succ n =>
    obtain ⟨k, nm, s, es, h, hs, _⟩ := h
    cases h
    simp [hs.one]

/-- The same head: kind and name. -/
def SameHead (a b : V) : Prop := kindOf b = kindOf a ∧ nmOf b = nmOf a

theorem IsTyp.pure : ∀ {n : Nat} {v : V}, IsTyp n v → ∃ v', v.pure = some v' ∧ IsTyp n v' ∧ SameHead v v'
  | 0, _, h => h.elim
  | n + 1, v, ⟨k, nm, s, es, h1, h2, h3, h4⟩ => by
    subst h1
    obtain ⟨s', es', h5, h6, h7⟩ := h2.pure (P := fun _ b => IsTyp n b) fun e he => by
      obtain ⟨e', h8, h9, _⟩ := (h4 e he).pure
      exact ⟨e', h8, h9⟩
    refine ⟨.agg [.int .i64 k, .str nm, s'], by simp only [V.pure, V.pures, h5, Option.map_some], ⟨k, nm, s', es', rfl, h6, by rw [← h7.len]; exact h3, fun e he => ?_⟩, rfl, rfl⟩
    obtain ⟨a, _, h⟩ := h7.mem_right e he
    exact h

def noTyp : V := .agg [.int .i64 0, .str [], .nsl]

theorem isTyp_no : IsTyp 1 noTyp := ⟨0, [], .nsl, [], rfl, .nsl, by simp, fun e he => by cases he⟩

/-! ## Each of a row, turned -/

theorem loop70 {fv : V} {s : V} {es : List V} {n0 : Nat} {W : Nat → Prop} {I : Sto → Prop} {Q : V → V → Prop} (hs : IsSl s es) (hlen : es.length * 48 ≤ 140737488355328) (hes : ∀ e ∈ es, ∃ cs, e = .agg cs ∧ cs.length = 3 ∧ cs.all V.one = true)
    (hQ : ∀ e r, Q e r → ∃ cs, r = .agg cs ∧ cs.length = 3 ∧ cs.all V.one = true) (hW : ∀ b, W b → b < n0) (hI : ∀ σ σ', I σ → n0 ≤ σ.next → Keep (fun b => n0 ≤ b) σ σ' → I σ')
    (hf : ∀ e ∈ es, ∀ σ, I σ → n0 ≤ σ.next → ∃ r σ', appV (D ft) fv [e] σ = some (.ret r, σ') ∧ Q e r ∧ I σ' ∧ Keep W σ σ') :
    ∀ (rest pre : List V) (ov : V) (os : List V) (σ : Sto), es = pre ++ rest → Grow n0 σ ov os → All2 Q pre os → I σ → n0 ≤ σ.next →
      ∃ v' es' σ', L70_0 fv ov s (.int .i64 es.length) (.int .i64 pre.length) σ = some (.ret v', σ') ∧ IsSl v' es' ∧ All2 Q es es' ∧ I σ' ∧ Keep (fun b => W b ∨ n0 ≤ b) σ σ' := by
  intro rest
  induction rest with
  | nil =>
    intro pre ov os σ hpre hg hq hi h0
    have hlt : decide ((pre.length : Int) < es.length) = false := by rw [hpre]; simp
    refine ⟨ov, os, σ, ?_, hg.isSl, by rw [hpre, List.append_nil]; exact hq, hi, Keep.refl _⟩
    rw [L70_0_eq]
    simp only [binV_int, intBin_lss, Option.bind_some, hlt, condV_f]
  | cons e rest ih =>
    intro pre ov os σ hpre hg hq hi h0
    have hlt : decide ((pre.length : Int) < es.length) = true := by rw [hpre]; simp; omega
    have he : e ∈ es := by rw [hpre]; simp
    obtain ⟨cs, rfl, hcs, hone⟩ := hes e he
    have hidx : indexAddrV 3 s (.int .i64 pre.length) = some (.vp cs) := IsSl.idx (e := .agg cs) (hpre ▸ hs) hcs
    have hlen2 : es.length = pre.length + (rest.length + 1) := by rw [hpre]; simp
    have hw : wrapI .i64 ((pre.length : Int) + 1) = ((pre ++ [V.agg cs]).length : Int) := by
      rw [wrap64 (by omega)]; simp
    have hp : (List.take 3 (List.drop 0 cs)) = cs := by rw [List.drop_zero, List.take_of_length_le (by omega)]
    have hover : over [V.int .i64 0, .str [], .nsl] 0 cs = cs := by
      simp [over, hcs]
    obtain ⟨r, σ1, h1, h2, h3, h4⟩ := hf _ he σ hi h0
    obtain ⟨cr, rfl, hcr, honer⟩ := hQ _ _ h2
    have hos : os.length = pre.length := hq.len.symm
    obtain ⟨ov', σ2, h5, h6, h7⟩ := (hg.keep h4 hW).append (y := .sl .full [.agg cr]) (new := [.agg cr]) (size := 3) (bytes := 48) (Nat.le_trans h0 h4.next) (.sl _ _) (by simp; omega) (by omega)
      (fun x hx => by
        obtain ⟨y, _, hxy⟩ := hq.mem_right x hx
        obtain ⟨c, rfl, hc, _⟩ := hQ _ _ hxy
        exact hc) (fun x hx => by rw [List.mem_singleton] at hx; rw [hx]; exact hcr)
    have hq2 : All2 Q (pre ++ [V.agg cs]) (os ++ [.agg cr]) := hq.append (.cons h2 .nil)
    have hn1 : n0 ≤ σ1.next := Nat.le_trans h0 h4.next
    obtain ⟨v', es', σ', h8, h9, h10, h11, h12⟩ := ih (pre ++ [V.agg cs]) ov' _ σ2 (by rw [hpre]; simp) h6 hq2 (hI _ _ h3 hn1 h7) (Nat.le_trans hn1 h7.next)
    refine ⟨v', es', σ', ?_, h9, h10, h11, ((h4.mono fun i hi => Or.inl hi).trans (h7.mono fun i hi => Or.inr hi)).trans h12⟩
    rw [L70_0_eq]
    simp only [binV_int, intBin_lss, Option.bind_some, hlt, condV_t, hidx, ldV_vp, part_some, hcs, Nat.zero_add, Nat.le_refl, if_true, hp, stC_eq, V.cells_agg, List.length_cons, List.length_nil, hone, and_self, hover, h1, bindR_ret]
    have hfill : fillD 3 (List.replicate 1 (.agg [.int .i64 0, .str [], .nsl])) [(0, .agg cr)] = some [.agg cr] := by
      simp [hcr, honer]
    simp only [hfill, Option.bind_some, h5, bind2_some, intBin_add, hw]
    exact h8

theorem turned70 {fv : V} {s : V} {es : List V} {W : Nat → Prop} {I : Sto → Prop} {Q : V → V → Prop} {σ : Sto} (hs : IsSl s es) (hlen : es.length * 48 ≤ 140737488355328) (hes : ∀ e ∈ es, ∃ cs, e = .agg cs ∧ cs.length = 3 ∧ cs.all V.one = true)
    (hQ : ∀ e r, Q e r → ∃ cs, r = .agg cs ∧ cs.length = 3 ∧ cs.all V.one = true) (hW : ∀ b, W b → b < σ.next) (hI : ∀ σ1 σ2, I σ1 → σ.next ≤ σ1.next → Keep (fun b => σ.next ≤ b) σ1 σ2 → I σ2)
    (hf : ∀ e ∈ es, ∀ σ1, I σ1 → σ.next ≤ σ1.next → ∃ r σ2, appV (D ft) fv [e] σ1 = some (.ret r, σ2) ∧ Q e r ∧ I σ2 ∧ Keep W σ1 σ2) (hi : I σ) :
    ∃ v' es' σ', D ft 70 [s, fv] σ = some (.ret v', σ') ∧ IsSl v' es' ∧ All2 Q es es' ∧ I σ' ∧ Keep W σ σ' := by
  obtain ⟨v', es', σ', h1, h2, h3, h4, h5⟩ := loop70 (n0 := σ.next) hs hlen hes hQ hW hI hf es [] .nsl [] σ rfl .nsl .nil hi (Nat.le_refl _)
  refine ⟨v', es', σ', ?_, h2, h3, h4, h5.next, fun b x hb hx => h5.get b x (fun hn => ?_) hx⟩
  · rw [D70_eq]
    simp only [hs.len, Option.bind_some]
    exact h1
  · rcases hn with hn | hn
    · exact hb hn
    · have := Sto.get_lt hx; omega

/-! ## Types in the place of parameters -/

structure IsNames (v : V) (l : List (List UInt8)) : Prop where
  ex : IsSl v (l.map V.str)
  len : l.length * 16 ≤ 140737488355328

theorem IsNames.pure {v : V} {l : List (List UInt8)} (h : IsNames v l) : ∃ v', v.pure = some v' ∧ IsNames v' l := by
  obtain ⟨v', h1, h2⟩ := h.ex.pure_id fun e he => by
    obtain ⟨x, _, rfl⟩ := List.mem_map.1 he
    rfl
  exact ⟨v', h1, h2, h.len⟩

/-- A row of types. -/
structure IsTyps (m : Nat) (v : V) (es : List V) : Prop where
  ex : IsSl v es
  len : es.length * 48 ≤ 140737488355328
  all : ∀ e ∈ es, IsTyp m e

theorem IsTyps.pure {m : Nat} {v : V} {es : List V} (h : IsTyps m v es) : ∃ v' es', v.pure = some v' ∧ IsTyps m v' es' ∧ es'.length = es.length := by
  obtain ⟨s', es', h5, h6, h7⟩ := h.ex.pure (P := fun _ b => IsTyp m b) fun e he => by
    obtain ⟨e', h8, h9, _⟩ := (h.all e he).pure
    exact ⟨e', h8, h9⟩
  refine ⟨s', es', h5, ⟨h6, by rw [← h7.len]; exact h.len, fun e he => ?_⟩, h7.len.symm⟩
  obtain ⟨a, _, h⟩ := h7.mem_right e he
  exact h

theorem pure62 : ∀ (n m : Nat) (t pv bv : V) (ps : List (List UInt8)) (bs : List V), IsTyp n t → IsNames pv ps → IsTyps m bv bs → ∃ r, callPure (D ft) 62 [t, pv, bv] = some r ∧ IsTyp (n + m) r := by
  intro n
  induction n with
  | zero => intro m t pv bv ps bs h; exact h.elim
  | succ n ih =>
    intro m t pv bv ps bs h hp hb
    obtain ⟨t', ht1, ht2, _⟩ := h.pure
    obtain ⟨pv', hp1, hp2⟩ := hp.pure
    obtain ⟨bv', bs', hb1, hb2, _⟩ := hb.pure
    suffices H : ∃ r σ', D ft 62 [t', pv', bv'] .empty = some (.ret r, σ') ∧ IsTyp (n + 1 + m) r by
      obtain ⟨r, σ', h1, h2⟩ := H
      obtain ⟨r', h3, h4, _⟩ := h2.pure
      exact ⟨r', callPure_of (by simp only [V.pures, ht1, hp1, hb1]) h1 h3, h4⟩
    clear ht1 hp1 hb1 h hp hb
    obtain ⟨k, nm, s, es, rfl, hs, hlen, hall⟩ := ht2
    let σ1 := Sto.empty.alloc (.cells [pv'])
    let σ2 := σ1.alloc (.cells [bv'])
    have hne : σ1.next ≠ Sto.empty.next := by show Sto.empty.next + 1 ≠ Sto.empty.next; omega
    have g1 : σ2.blk Sto.empty.next = some (.cells [pv']) := Sto.sub_alloc _ _ _ _ (Sto.blk_next _ _)
    have g2 : σ2.blk σ1.next = some (.cells [bv']) := Sto.blk_next _ _
    have hi := index63 (x := nm) (σ := σ2) hp2.ex (by have := hp2.len; omega)
    -- the arguments, turned
    have hturn := turned70 (fv := .func 75 [.ptr Sto.empty.next 0, .ptr σ1.next 0]) (σ := σ2) (W := fun _ => False) (I := fun σ => σ.blk Sto.empty.next = some (.cells [pv']) ∧ σ.blk σ1.next = some (.cells [bv'])) (Q := fun _ r => IsTyp (n + m) r) hs hlen
      (fun e he => by
        obtain ⟨cs, rfl, hc⟩ := (hall e he).agg
        exact ⟨cs, rfl, hc, (hall _ he).ones⟩)
      (fun e r hr => by
        obtain ⟨cs, rfl, hc⟩ := hr.agg
        exact ⟨cs, rfl, hc, hr.ones⟩)
      (fun b hb => hb.elim)
      (fun σ3 σ4 h3 _ hk => ⟨hk.blk _ _ (by show ¬ σ2.next ≤ _; have := Sto.blk_lt g1; omega) h3.1, hk.blk _ _ (by show ¬ σ2.next ≤ _; have := Sto.blk_lt g2; omega) h3.2⟩)
      (fun e he σ3 h3 _ => by
        obtain ⟨r, hr1, hr2⟩ := ih m e pv' bv' ps bs' (hall e he) hp2 hb2
        obtain ⟨cs, rfl, hc⟩ := (hall e he).agg
        obtain ⟨cr, rfl, hcr⟩ := hr2.agg
        have hones := (hall _ he).ones
        have honer := hr2.ones
        refine ⟨.agg cr, σ3, ?_, hr2, h3, Keep.refl _⟩
        have happ := appV_imp (cl := D ft) (f := 75) (vs := [.agg cs]) (caps := [.ptr Sto.empty.next 0]) (b := σ1.next) (o := 0) (σ := σ3)
        simp only [List.cons_append, List.nil_append] at happ
        rw [happ, D75_eq]
        simp only [boxC_all hones, Option.bind_some, part_all hc, ldV_ptr h3.1, ldV_ptr h3.2, part_none, List.getElem?_cons_zero, hr1, stC_all hcr (show [V.int .i64 0, .str [], .nsl].length = 3 from rfl) honer, part_all hcr])
      ⟨g1, g2⟩
    obtain ⟨v', es', σ', h1, h2, h3, _, _⟩ := hturn
    -- the two ways
    have base : D ft 62 [.agg [.int .i64 k, .str nm, s], pv', bv'] .empty = (condV (.bool (decide (k = 4) && (decide (0 ≤ idxS nm ps 0) && decide (idxS nm ps 0 < bs'.length)))) (
        (indexAddrV 3 bv' (.int .i64 (idxS nm ps 0))).bind fun x27 =>
        (ldV σ2 (some 3) x27).bind fun x28 =>
        (stC [(.int .i64 (0)), (.str []), .nsl] 0 3 x28).bind fun c6 =>
        (part c6 0 (some 3)).bind fun r6 =>
        some (.ret r6, σ2)) (some (.ret (.agg [.int .i64 k, .str nm, v']), σ'))) := by
      rw [D62_eq]
      have hpo := hp2.ex.one
      have hbo := hb2.ex.one
      have hpc := hp2.ex.cells
      have hbc := hb2.ex.cells
      have hvc := h2.cells
      have hvo := h2.one
      simp only [boxC_agg, List.all_cons, V.one_int, V.one_str, hs.one, List.all_nil, Bool.and_self, if_true, Option.bind_some, boxN_eq, hpc, hpo, List.length_cons, List.length_nil, alS_eq, hbc, hbo, Nat.zero_add, and_self]
      rw [show ldV ((Sto.empty.alloc (.cells [pv'])).alloc (.cells [bv'])) none (.ptr Sto.empty.next 0) = some pv' from (ldV_ptr g1).trans rfl]
      simp only [Option.bind_some, part_none, List.getElem?_cons_succ, List.getElem?_cons_zero]
      rw [show D ft 63 [pv', .str nm] ((Sto.empty.alloc (.cells [pv'])).alloc (.cells [bv'])) = _ from hi]
      simp only [bindR_ret, binV_int, intBin_eql, Option.bind_some]
      rw [show ldV ((Sto.empty.alloc (.cells [pv'])).alloc (.cells [bv'])) none (.ptr (Sto.empty.alloc (.cells [pv'])).next 0) = some bv' from (ldV_ptr g2).trans rfl]
      rw [show D ft 70 [s, .func 75 [.ptr Sto.empty.next 0, .ptr (Sto.empty.alloc (.cells [pv'])).next 0]] ((Sto.empty.alloc (.cells [pv'])).alloc (.cells [bv'])) = _ from h1]
      cases decide (k = 4) with
      | false => simp [hvo, hvc]
      | true =>
        simp only [gd_tt, Option.bind_some, binV_int, intBin_geq, pickS_t]
        cases decide (0 ≤ idxS nm ps 0) with
        | false => simp [hvo, hvc]
        | true =>
          simp only [gd_tt, Option.bind_some, hb2.ex.len, binV_int, intBin_lss, pickS_t, Bool.true_and]
          cases decide (idxS nm ps 0 < bs'.length) with
          | false => simp [hvo, hvc]
          | true => rfl
    rw [base]
    cases hc : decide (k = 4) && (decide (0 ≤ idxS nm ps 0) && decide (idxS nm ps 0 < bs'.length)) with
    | true =>
      simp only [Bool.and_eq_true, decide_eq_true_eq] at hc
      obtain ⟨_, h0, hlt⟩ := hc
      have hlt' : (idxS nm ps 0).toNat < bs'.length := by omega
      have hget : bs'[(idxS nm ps 0).toNat]? = some bs'[(idxS nm ps 0).toNat] := List.getElem?_eq_getElem hlt'
      have hmem : bs'[(idxS nm ps 0).toNat] ∈ bs' := List.getElem_mem hlt'
      generalize bs'[(idxS nm ps 0).toNat] = e at hget hmem
      obtain ⟨cs, rfl, hcl⟩ := (hb2.all e hmem).agg
      have hones := (hb2.all _ hmem).ones
      have hat := hb2.ex.get (k := .i64) (K := 3) h0 hget hcl
      refine ⟨.agg cs, σ2, ?_, (hb2.all _ hmem).mono (by omega)⟩
      simp only [condV_t, hat, Option.bind_some, V.cells_agg, ldV_vp, part_all hcl, stC_all hcl (show [V.int .i64 0, .str [], .nsl].length = 3 from rfl) hones]
    | false =>
      refine ⟨_, σ', rfl, ?_⟩
      have : n + 1 + m = (n + m) + 1 := by omega
      rw [this]
      exact ⟨k, nm, v', es', rfl, h2, by rw [← h3.len]; exact hlen, fun e he => by
        obtain ⟨a, _, h⟩ := h3.mem_right e he
        exact h⟩

end Go.Eng
