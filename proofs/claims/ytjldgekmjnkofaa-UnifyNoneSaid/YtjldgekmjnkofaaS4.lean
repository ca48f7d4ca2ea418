/- Constraints: names that all have, what a scope tells of a name. -/
import Derived.Test.YtjldgekmjnkofaaS3
set_option linter.unusedVariables false
set_option linter.unusedSimpArgs false
namespace Go.Eng
open Go

theorem big41 {nv : V} {names : List (List UInt8)} {x : List UInt8} {σ : Sto} (hn : IsSl nv (names.map V.str)) (hl : names.length * 16 ≤ 140737488355328) : D ft 41 [nv, .str x] σ = some (.ret (.bool (names.contains x)), σ) := by
  rw [D41_eq, index63 hn (by omega)]
  simp only [bindR_ret, binV_int, intBin_geq, Option.bind_some, idxS_any]

theorem clo40 {t : Trm} {nv : V} {names : List (List UInt8)} {b : Nat} {σ : Sto} (hn : IsSl nv (names.map V.str)) (hl : names.length * 16 ≤ 140737488355328) (hb : σ.blk b = some (.cells [nv])) : D ft 40 [t.v, .ptr b 0] σ = some (.ret (.bool (!names.contains t.name)), σ) := by
  rw [D40_eq]
  simp [Trm.v, ldV_ptr hb, big41 hn hl]

def eachB (ts : List Trm) (names : List (List UInt8)) : Bool := decide (0 < ts.length) && ts.all fun t => names.contains t.name

theorem big18 {v nv : V} {s : SetL} {names : List (List UInt8)} (h : IsSet v s) (hn : IsSl nv (names.map V.str)) (hl : names.length * 16 ≤ 140737488355328) (σ : Sto) : ∃ σ', D ft 18 [v, nv] σ = some (.ret (.bool (eachB s.terms names)), σ') := by
  obtain ⟨⟨tv, rfl, ht⟩, hl2⟩ := h
  have hb : (σ.alloc (.cells [nv])).blk σ.next = some (.cells [nv]) := Sto.blk_next _ _
  have hc := contains36 (fv := .func 40 [.ptr σ.next 0]) (σ := σ.alloc (.cells [nv])) (fun e => !names.contains (trmOf e).name) ht terms_agg (fun e he => by
    obtain ⟨x, _, rfl⟩ := List.mem_map.1 he
    rw [appV_ptr]
    exact clo40 hn hl hb) (by simp; omega)
  have hany : ((s.terms.map Trm.v).any fun e => !names.contains (trmOf e).name) = !(s.terms.all fun t => names.contains t.name) := by
    rw [List.any_map]
    show (s.terms.any fun t => !names.contains t.name) = _
    rw [List.not_all_eq_any_not]
  rw [hany] at hc
  refine ⟨σ.alloc (.cells [nv]), ?_⟩
  rw [D18_eq]
  unfold eachB
  have hd : decide ((0 : Int) < (s.terms.length : Int)) = decide (0 < s.terms.length) := by simp
  simp only [boxC_agg, List.all_cons, V.one_bool, ht.one, List.all_nil, Bool.and_self, if_true, Option.bind_some, part_none, List.getElem?_cons_zero, List.getElem?_cons_succ, ht.len, List.length_map, binV_int, intBin_gtr, hd, boxN_eq, hn.cells, hn.one, alS_eq, chkB_b]
  generalize decide (0 < s.terms.length) = d
  cases d <;> simp [hc]

theorem pure18 {v nv : V} {s : SetL} {names : List (List UInt8)} (h : IsSet v s) (hn : IsSl nv (names.map V.str)) (hl : names.length * 16 ≤ 140737488355328) : callPure (D ft) 18 [v, nv] = some (.bool (eachB s.terms names)) := by
  obtain ⟨v', h1, h2⟩ := h.pure
  obtain ⟨nv', h3, h4⟩ := hn.pure_id fun e he => by
    obtain ⟨x, _, rfl⟩ := List.mem_map.1 he
    rfl
  obtain ⟨σ', h5⟩ := big18 h2 h4 hl .empty
  exact callPure_of (by simp only [V.pures, h1, h3]) h5 rfl

/-! ## Appending -/

/-- A slice that may grow: nothing, or the whole of its room so far; what tells its room lies from a block on. -/
inductive Grow (n0 : Nat) (σ : Sto) : V → List V → Prop
  | nsl : Grow n0 σ .nsl []
  | full (es : List V) : Grow n0 σ (.sl .full es) es
  | tok (k : Nat) (e : V) (es : List V) : n0 ≤ k → σ.blk k = some (.tok (e :: es).length) → Grow n0 σ (.sl (.tok k) (e :: es)) (e :: es)

/-- All that lay there stays, but for some. -/
structure Keep (W : Nat → Prop) (σ σ' : Sto) : Prop where
  next : σ.next ≤ σ'.next
  get : ∀ b x, ¬ W b → σ.get b = some x → σ'.get b = some x

theorem Keep.refl {W : Nat → Prop} (σ : Sto) : Keep W σ σ := ⟨Nat.le_refl _, fun _ _ _ h => h⟩
theorem Keep.trans {W : Nat → Prop} {a b c : Sto} (h : Keep W a b) (k : Keep W b c) : Keep W a c := ⟨Nat.le_trans h.next k.next, fun i x hi hx => k.get i x hi (h.get i x hi hx)⟩
theorem Keep.mono {W W' : Nat → Prop} {a b : Sto} (h : Keep W a b) (hw : ∀ i, W i → W' i) : Keep W' a b := ⟨h.next, fun i x hi hx => h.get i x (fun hn => hi (hw i hn)) hx⟩
theorem Sto.get_lt {σ : Sto} {b : Nat} {x : Nat × Blk} (h : σ.get b = some x) : b < σ.next := by
  unfold Sto.get at h
  by_cases hb : b < σ.next
  · exact hb
  · rw [if_neg hb] at h; cases h
theorem Keep.alloc {W : Nat → Prop} (σ : Sto) (x : Blk) : Keep W σ (σ.alloc x) := ⟨Nat.le_succ _, fun b y _ h => by
  rw [Sto.get_alloc, if_neg (by have := Sto.get_lt h; omega)]
  exact h⟩
theorem Keep.upd {W : Nat → Prop} (σ : Sto) (a : Nat) (x : Blk) (ha : W a) : Keep W σ (σ.upd a x) := ⟨Nat.le_refl _, fun b y hb h => by
  rw [Sto.get_upd, if_neg (fun e => hb (by rw [e.1]; exact ha))]
  exact h⟩
theorem Sto.get_of_blk {σ : Sto} {b : Nat} {x : Blk} (h : σ.blk b = some x) : ∃ v, σ.get b = some (v, x) := by
  unfold Sto.blk at h
  obtain ⟨⟨v, y⟩, h1, rfl⟩ := Option.map_eq_some_iff.1 h
  exact ⟨v, h1⟩
theorem Sto.blk_of_get' {σ : Sto} {b v : Nat} {x : Blk} (h : σ.get b = some (v, x)) : σ.blk b = some x := by unfold Sto.blk; rw [h]; rfl
theorem Sto.ver_of_get {σ : Sto} {b v : Nat} {x : Blk} (h : σ.get b = some (v, x)) : σ.ver b = some v := by unfold Sto.ver; rw [h]; rfl
theorem Keep.blk {W : Nat → Prop} {σ σ' : Sto} (h : Keep W σ σ') (b : Nat) (x : Blk) (hb : ¬ W b) (hx : σ.blk b = some x) : σ'.blk b = some x := by
  obtain ⟨v, hv⟩ := Sto.get_of_blk hx
  exact Sto.blk_of_get' (h.get b _ hb hv)
theorem Keep.ver {W : Nat → Prop} {σ σ' : Sto} (h : Keep W σ σ') (b v : Nat) (hb : ¬ W b) (hx : σ.ver b = some v) : σ'.ver b = some v := by
  unfold Sto.ver at hx ⊢
  obtain ⟨⟨v', y⟩, h1, rfl⟩ := Option.map_eq_some_iff.1 hx
  rw [h.get b _ hb h1]; rfl

theorem Grow.isSl {n0 : Nat} {σ : Sto} {v : V} {es : List V} (h : Grow n0 σ v es) : IsSl v es := by cases h <;> constructor

/-- What happens elsewhere does not touch it. -/
theorem Grow.keep {n0 : Nat} {σ σ' : Sto} {v : V} {es : List V} {W : Nat → Prop} (h : Grow n0 σ v es) (hk : Keep W σ σ') (hw : ∀ b, W b → b < n0) : Grow n0 σ' v es := by
  cases h with
  | nsl => exact .nsl
  | full es => exact .full es
  | tok k e es h1 h2 => exact .tok k e es h1 (hk.blk k _ (fun hn => by have := hw k hn; omega) h2)

theorem headOk_of {size : Nat} {es : List V} (h : ∀ e ∈ es, e.cells.length = size) : headOk size es = true := by
  cases es with
  | nil => rfl
  | cons e es => simp [headOk, h e List.mem_cons_self]

/-- Some more elements: the slice, the store. -/
theorem Grow.append {n0 : Nat} {σ : Sto} {v y : V} {es new : List V} {size bytes : Nat} (h : Grow n0 σ v es) (h0 : n0 ≤ σ.next) (hy : IsSl y new) (hb : (es.length + new.length) * bytes ≤ 140737488355328) (h1 : 1 ≤ bytes) (he : ∀ e ∈ es, e.cells.length = size) (hn : ∀ e ∈ new, e.cells.length = size) :
    ∃ v' σ', appendV size bytes false σ v y = some (v', σ') ∧ Grow n0 σ' v' (es ++ new) ∧ Keep (fun b => n0 ≤ b) σ σ' := by
  have hel : elems σ size y = some new := by cases hy <;> rfl
  have hall : (es.length + new.length) ≤ 9223372036854775807 := by
    have : (es.length + new.length) * 1 ≤ (es.length + new.length) * bytes := Nat.mul_le_mul_left _ h1
    omega
  cases new with
  | nil =>
    refine ⟨v, σ, ?_, by simpa using h, Keep.refl _⟩
    unfold appendV
    rw [hel]
    cases h <;> rfl
  | cons e r =>
    have hh2 : headOk size (e :: r) = true := headOk_of hn
    have hh1 : headOk size es = true := headOk_of he
    unfold appendV
    rw [hel]
    simp only
    cases h with
    | nsl =>
      have hg : ([] ++ e :: r : List V).length * bytes ≤ 140737488355328 ∧ ([] ++ e :: r : List V).length ≤ 9223372036854775807 ∧ headOk size [] = true ∧ headOk size (e :: r) = true := ⟨by simpa using hb, by simpa using hall, rfl, hh2⟩
      simp only [elems]
      rw [if_pos hg]
      refine ⟨_, _, rfl, .tok _ _ _ h0 (Sto.blk_next _ _), Keep.alloc _ _⟩
    | full es =>
      have hg : (es ++ e :: r).length * bytes ≤ 140737488355328 ∧ (es ++ e :: r).length ≤ 9223372036854775807 ∧ headOk size es = true ∧ headOk size (e :: r) = true := ⟨by rw [List.length_append]; exact hb, by rw [List.length_append]; exact hall, hh1, hh2⟩
      simp only [elems]
      rw [if_pos hg]
      refine ⟨_, _, rfl, ?_, Keep.alloc _ _⟩
      cases es with
      | nil => exact .tok _ _ _ h0 (Sto.blk_next _ _)
      | cons a es => exact .tok _ _ _ h0 (Sto.blk_next _ _)
    | tok k a es h0k hk =>
      have hg : (a :: es ++ e :: r).length * bytes ≤ 140737488355328 ∧ (a :: es ++ e :: r).length ≤ 9223372036854775807 ∧ headOk size (a :: es) = true ∧ headOk size (e :: r) = true := ⟨by rw [List.length_append]; exact hb, by rw [List.length_append]; exact hall, hh1, hh2⟩
      simp only [elems]
      rw [if_pos hg]
      simp only [Bool.false_eq_true, if_false, hk, if_true]
      refine ⟨_, _, rfl, .tok _ _ _ h0k ?_, Keep.upd _ _ _ h0k⟩
      rw [Sto.blk_upd, if_pos ⟨rfl, Sto.blk_lt hk⟩]; rfl

theorem eq_nsl {v : V} {es : List V} (h : IsSl v es) : (v = .nsl ∧ binV .eql .sl v .nsl = some (.bool true)) ∨ ((∃ o, v = .sl o es) ∧ binV .eql .sl v .nsl = some (.bool false)) := by
  cases h with
  | nsl => exact Or.inl ⟨rfl, rfl⟩
  | sl o es => exact Or.inr ⟨⟨o, rfl⟩, rfl⟩

theorem big46 {v : V} {ts : List Trm} (h : IsSl v (ts.map Trm.v)) (hl : ts.length * 24 ≤ 140737488355328) (σ : Sto) : ∃ v' σ', D ft 46 [v] σ = some (.ret v', σ') ∧ IsSl v' (ts.map Trm.v) := by
  rw [D46_eq]
  rcases eq_nsl h with ⟨rfl, h1⟩ | ⟨⟨o, rfl⟩, h1⟩
  · exact ⟨.nsl, σ, by simp [h1], h⟩
  · obtain ⟨v', σ', h2, h3, _⟩ := Grow.append (n0 := 0) (σ := σ) (size := 2) (bytes := 24) (.full []) (Nat.zero_le _) h (by simpa using hl) (by omega) (fun e he => by cases he) (fun e he => by
      obtain ⟨cs, rfl, hc⟩ := terms_agg e he
      exact hc)
    refine ⟨v', σ', ?_, h3.isSl⟩
    simp [h1, h2]

/-! ## A scope -/

structure Bnd where
  name : List UInt8
  set : SetL

structure IsBnd (e : V) (b : Bnd) : Prop where
  ex : ∃ tv, e = .agg [.str b.name, .bool b.set.all, .bool b.set.cmp, tv] ∧ IsSl tv (b.set.terms.map Trm.v)
  len : b.set.terms.length * 24 ≤ 140737488355328

structure IsScope (v : V) (bs : List Bnd) : Prop where
  ex : ∃ es, IsSl v es ∧ All2 IsBnd es bs
  len : bs.length * 48 ≤ 140737488355328

theorem All2.split {α β : Type} {P : α → β → Prop} {e : α} : ∀ {pre rest : List α} {m : List β}, All2 P (pre ++ e :: rest) m → ∃ pre' b rest', m = pre' ++ b :: rest' ∧ All2 P pre pre' ∧ P e b ∧ All2 P rest rest'
  | [], rest, m, h => by
    cases h with
    | cons h1 h2 => exact ⟨[], _, _, rfl, .nil, h1, h2⟩
  | a :: pre, rest, m, h => by
    cases h with
    | cons h1 h2 =>
      obtain ⟨pre', b, rest', rfl, h3, h4, h5⟩ := All2.split h2
      exact ⟨_ :: pre', b, rest', rfl, .cons h1 h3, h4, h5⟩

theorem IsBnd.pure {e : V} {b : Bnd} (h : IsBnd e b) : ∃ e', e.pure = some e' ∧ IsBnd e' b := by
  obtain ⟨⟨tv, rfl, ht⟩, hl⟩ := h
  obtain ⟨tv', h1, h2⟩ := ht.pure_id fun e he => by
    obtain ⟨x, _, rfl⟩ := List.mem_map.1 he
    rfl
  exact ⟨_, by simp only [V.pure, V.pures, h1, Option.map_some], ⟨tv', rfl, h2⟩, hl⟩

/-- Elements that are of something by themselves are of it. -/
theorem All2.pure {β : Type} {P : V → β → Prop} (hp : ∀ e b, P e b → ∃ e', e.pure = some e' ∧ P e' b) {es : List V} {bs : List β} (h : All2 P es bs) : ∃ es', V.pures es = some es' ∧ All2 P es' bs := by
  induction h with
  | nil => exact ⟨[], rfl, .nil⟩
  | cons h _ ih =>
    obtain ⟨e', h1, h2⟩ := hp _ _ h
    obtain ⟨es', h3, h4⟩ := ih
    exact ⟨e' :: es', by simp only [V.pures, h1, h3], .cons h2 h4⟩

theorem IsSl.pure2 {β : Type} {P : V → β → Prop} (hp : ∀ e b, P e b → ∃ e', e.pure = some e' ∧ P e' b) {v : V} {es : List V} {bs : List β} (hs : IsSl v es) (h : All2 P es bs) : ∃ v' es', v.pure = some v' ∧ IsSl v' es' ∧ All2 P es' bs := by
  obtain ⟨es', h1, h2⟩ := h.pure hp
  cases hs with
  | nsl => cases h1; exact ⟨.nsl, [], rfl, .nsl, h2⟩
  | sl o es => exact ⟨.sl o.pure es', es', by simp only [V.pure, h1, Option.map_some], .sl _ _, h2⟩

theorem IsScope.pure {v : V} {bs : List Bnd} (h : IsScope v bs) : ∃ v', v.pure = some v' ∧ IsScope v' bs := by
  obtain ⟨⟨es, h1, h2⟩, hl⟩ := h
  obtain ⟨v', es', h3, h4, h5⟩ := h1.pure2 (P := IsBnd) (fun e b h => IsBnd.pure h) h2
  exact ⟨v', h3, ⟨es', h4, h5⟩, hl⟩

def nameOf0 : V → List UInt8
  | .agg (.str n :: _) => n
  | _ => []

def findB (bs : List Bnd) (n : List UInt8) : Option SetL := (bs.find? fun b => b.name == n).map (·.set)

theorem clo45 {e : V} {b : Bnd} {n : List UInt8} {k : Nat} {σ : Sto} (h : IsBnd e b) (hb : σ.blk k = some (.cells [.str n])) : D ft 45 [e, .ptr k 0] σ = some (.ret (.bool (b.name == n)), σ) := by
  obtain ⟨⟨tv, rfl, ht⟩, hl⟩ := h
  rw [D45_eq]
  simp [ldV_ptr hb, ht.one]

theorem IsBnd.agg {e : V} {b : Bnd} (h : IsBnd e b) : ∃ cs, e = .agg cs ∧ cs.length = 4 := by
  obtain ⟨⟨tv, rfl, ht⟩, hl⟩ := h
  exact ⟨_, rfl, rfl⟩

theorem IsBnd.name {e : V} {b : Bnd} (h : IsBnd e b) : nameOf0 e = b.name := by
  obtain ⟨⟨tv, rfl, ht⟩, hl⟩ := h
  rfl

theorem big22 {v : V} {bs : List Bnd} {n : List UInt8} (h : IsScope v bs) (σ : Sto) : ∃ r σ', D ft 22 [v, .str n] σ = some (.ret (.tup [r, .bool (findB bs n).isSome]), σ') ∧ IsSet r ((findB bs n).getD ⟨false, false, []⟩) := by
  obtain ⟨⟨es, h1, h2⟩, hl⟩ := h
  have hb : (σ.alloc (.cells [.str n])).blk σ.next = some (.cells [.str n]) := Sto.blk_next _ _
  have hq : ∀ e ∈ es, appV (D ft) (.func 45 [.ptr σ.next 0]) [e] (σ.alloc (.cells [.str n])) = some (.ret (.bool (nameOf0 e == n)), σ.alloc (.cells [.str n])) := fun e he => by
    obtain ⟨b, _, hbe⟩ := h2.mem_left e he
    rw [appV_ptr, hbe.name]
    exact clo45 hbe hb
  have hi := index44 (fv := .func 45 [.ptr σ.next 0]) (σ := σ.alloc (.cells [.str n])) (fun e => nameOf0 e == n) h1 (fun e he => by
    obtain ⟨b, _, hbe⟩ := h2.mem_left e he
    exact hbe.agg) hq (by rw [h2.len]; omega)
  rw [D22_eq]
  rcases idx_cases (fun e => nameOf0 e == n) es 0 with ⟨hn1, hn2⟩ | ⟨pre, e, rest, hes, he, hpre, hix⟩
  · have hf : findB bs n = none := by
      unfold findB
      rw [List.find?_eq_none.2]
      · rfl
      · intro b hb
        obtain ⟨e, he, hbe⟩ := h2.mem_right b hb
        have := hn2 e he
        rw [hbe.name] at this
        simp [this]
    rw [hn1] at hi
    refine ⟨.agg [.bool false, .bool false, .nsl], σ.alloc (.cells [.str n]), ?_, ⟨.nsl, by rw [hf]; rfl, by rw [hf]; exact .nsl⟩, by rw [hf]; simp⟩
    rw [hf]
    simp [hi]
  · rw [hes] at h2
    obtain ⟨pre', b, rest', rfl, h3, h4, h5⟩ := h2.split
    have hf : findB (pre' ++ b :: rest') n = some b.set := by
      unfold findB
      rw [List.find?_append, List.find?_eq_none.2, Option.none_or, List.find?_cons_of_pos]
      · rfl
      · rw [← h4.name]; exact he
      · intro x hx
        obtain ⟨y, hy, hxy⟩ := h3.mem_right x hx
        have := hpre y hy
        rw [hxy.name] at this
        simp [this]
    rw [hix] at hi
    have hat : indexAddrV 4 v (.int .i64 (0 + pre.length)) = some (.vp e.cells) := by
      rw [Int.zero_add]
      obtain ⟨cs, rfl, hcs⟩ := h4.agg
      exact IsSl.idx (hes ▸ h1) hcs
    obtain ⟨⟨tv, rfl, ht⟩, hl2⟩ := h4
    have hneg : decide ((0 : Int) + (pre.length : Int) < 0) = false := by simp
    obtain ⟨v', σ', hc1, hc2⟩ := big46 ht hl2 (σ.alloc (.cells [.str n]))
    refine ⟨.agg [.bool b.set.all, .bool b.set.cmp, v'], σ', ?_, ⟨v', by rw [hf]; rfl, by rw [hf]; exact hc2⟩, by rw [hf]; exact hl2⟩
    rw [hf]
    simp only [boxN_eq, V.cells_str, List.length_cons, List.length_nil, List.all_cons, List.all_nil, V.one_str, Bool.and_true, and_self, if_true, Option.bind_some, alS_eq, hi, bindR_ret, binV_int, intBin_lss, hneg, condV_f, hat, V.cells_agg]
    simp [hc1, hc2.one, hc2.cells]

theorem pure22 {v : V} {bs : List Bnd} {n : List UInt8} (h : IsScope v bs) : ∃ r, callPure (D ft) 22 [v, .str n] = some (.tup [r, .bool (findB bs n).isSome]) ∧ IsSet r ((findB bs n).getD ⟨false, false, []⟩) := by
  obtain ⟨v', h1, h2⟩ := h.pure
  obtain ⟨r, σ', h3, h4⟩ := big22 (n := n) h2 .empty
  obtain ⟨r', h5, h6⟩ := h4.pure
  exact ⟨r', callPure_of (by simp only [V.pures, V.pure, h1]) h3 (by simp only [V.pure, V.pures, h5, Option.map_some]), h6⟩

end Go.Eng
