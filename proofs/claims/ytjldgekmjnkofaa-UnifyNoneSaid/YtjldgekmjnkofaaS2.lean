/- PRINTED BY A PROGRAM of this repo (wip/searches.py): the library's searches. -/
import Derived.Test.YtjldgekmjnkofaaS1
import Derived.Test.YtjldgekmjnkofaaF3
set_option linter.unusedVariables false
set_option linter.unusedSimpArgs false
namespace Go.Eng
open Go

def idx (q : V → Bool) : List V → Int → Int
  | [], _ => -1
  | e :: es, i => if q e then i else idx q es (i + 1)

def idxS (x : List UInt8) : List (List UInt8) → Int → Int
  | [], _ => -1
  | e :: es, i => if x == e then i else idxS x es (i + 1)

theorem idx_cases (q : V → Bool) : ∀ (es : List V) (i : Int), (idx q es i = -1 ∧ ∀ e ∈ es, q e = false) ∨ ∃ pre e rest, es = pre ++ e :: rest ∧ q e = true ∧ (∀ x ∈ pre, q x = false) ∧ idx q es i = i + pre.length
  | [], i => Or.inl ⟨rfl, fun e h => by cases h⟩
  | e :: es, i => by
    cases hq : q e with
    | true => exact Or.inr ⟨[], e, es, rfl, hq, by simp, by simp [idx, hq]⟩
    | false =>
      have he : idx q (e :: es) i = idx q es (i + 1) := by simp [idx, hq]
      rcases idx_cases q es (i + 1) with ⟨h1, h2⟩ | ⟨pre, x, rest, h1, h2, h3, h4⟩
      · refine Or.inl ⟨he.trans h1, fun x hx => ?_⟩
        cases hx with
        | head => exact hq
        | tail _ hx => exact h2 x hx
      · refine Or.inr ⟨e :: pre, x, rest, by rw [h1]; rfl, h2, fun y hy => ?_, ?_⟩
        · cases hy with
          | head => exact hq
          | tail _ hy => exact h3 y hy
        · rw [he, h4]; simp; omega

theorem idx_any (q : V → Bool) (es : List V) : decide (0 ≤ idx q es 0) = es.any q := by
  rcases idx_cases q es 0 with ⟨h1, h2⟩ | ⟨pre, x, rest, h1, h2, h3, h4⟩
  · rw [h1]
    have : es.any q = false := by simpa using h2
    rw [this]; rfl
  · rw [h4, h1]
    have : (pre ++ x :: rest).any q = true := by simp [h2]
    rw [this]; simp

theorem idxS_cases (q : List UInt8) : ∀ (es : List (List UInt8)) (i : Int), (idxS q es i = -1 ∧ q ∉ es) ∨ ∃ pre rest, es = pre ++ q :: rest ∧ q ∉ pre ∧ idxS q es i = i + pre.length
  | [], i => Or.inl ⟨rfl, by simp⟩
  | e :: es, i => by
    by_cases hq : q = e
    · exact Or.inr ⟨[], es, by rw [hq]; rfl, by simp, by simp [idxS, hq]⟩
    · have he : idxS q (e :: es) i = idxS q es (i + 1) := by simp [idxS, hq]
      rcases idxS_cases q es (i + 1) with ⟨h1, h2⟩ | ⟨pre, rest, h1, h3, h4⟩
      · exact Or.inl ⟨he.trans h1, by simp [hq, h2]⟩
      · exact Or.inr ⟨e :: pre, rest, by rw [h1]; rfl, by simp [hq, h3], by rw [he, h4]; simp; omega⟩

theorem idxS_any (q : List UInt8) (es : List (List UInt8)) : decide (0 ≤ idxS q es 0) = es.contains q := by
  rcases idxS_cases q es 0 with ⟨h1, h2⟩ | ⟨pre, rest, h1, h2, h4⟩
  · rw [h1]
    have : es.contains q = false := by simpa using h2
    rw [this]; rfl
  · rw [h4, h1]
    have : (pre ++ q :: rest).contains q = true := by simp
    rw [this]; simp

theorem loop58 {s fv : V} {es : List V} {σ : Sto} (q : V → Bool) (hs : IsSl s es) (hes : ∀ e ∈ es, ∃ cs, e = .agg cs ∧ cs.length = 2) (hq : ∀ e ∈ es, appV (D ft) fv [e] σ = some (.ret (.bool (q e)), σ)) (hlen : es.length ≤ 9223372036854775807) :
    ∀ rest pre : List V, es = pre ++ rest → L58_0 s fv (.int .i64 es.length) (.int .i64 pre.length) σ = some (.ret (.int .i64 (idx q rest pre.length)), σ) := by
  intro rest
  induction rest with
  | nil =>
    intro pre hpre
    rw [L58_0_eq]
    have hlt : decide ((pre.length : Int) < es.length) = false := by rw [hpre]; simp
    simp only [binV_int, intBin_lss, Option.bind_some, hlt, condV_f]
    rfl
  | cons e rest ih =>
    intro pre hpre
    rw [L58_0_eq]
    have hlt : decide ((pre.length : Int) < es.length) = true := by rw [hpre]; simp; omega
    have he : e ∈ es := by rw [hpre]; simp
    have hcl := hq e he
    obtain ⟨cs, rfl, hcs⟩ := hes e he
    have hidx : indexAddrV 2 s (.int .i64 pre.length) = some (.vp cs) := IsSl.idx (e := .agg cs) (hpre ▸ hs) hcs
    have hw : wrapI .i64 ((pre.length : Int) + 1) = ((pre ++ [V.agg cs]).length : Int) := by
      rw [wrap64 (by have := hlt; simp at this; omega)]; simp
    have hp : (List.take 2 (List.drop 0 cs)) = cs := by rw [List.drop_zero, List.take_of_length_le (by omega)]
    simp only [binV_int, intBin_lss, Option.bind_some, hlt, condV_t, hidx, ldV_vp, part_some, hcs, Nat.zero_add, Nat.le_refl, if_true, hp, hcl, bindR_ret, intBin_add, hw]
    cases hqe : q (.agg cs) with
    | true => simp [idx, hqe]
    | false =>
      simp only [condV_f]
      have hih := ih (pre ++ [V.agg cs]) (by rw [hpre]; simp)
      rw [hih]
      simp [idx, hqe]

theorem index58 {s fv : V} {es : List V} {σ : Sto} (q : V → Bool) (hs : IsSl s es) (hes : ∀ e ∈ es, ∃ cs, e = .agg cs ∧ cs.length = 2) (hq : ∀ e ∈ es, appV (D ft) fv [e] σ = some (.ret (.bool (q e)), σ)) (hlen : es.length ≤ 9223372036854775807) :
    D ft 58 [s, fv] σ = some (.ret (.int .i64 (idx q es 0)), σ) := by
  rw [D58_eq]
  simp only [hs.len, Option.bind_some]
  exact loop58 q hs hes hq hlen es [] rfl

theorem contains36 {s fv : V} {es : List V} {σ : Sto} (q : V → Bool) (hs : IsSl s es) (hes : ∀ e ∈ es, ∃ cs, e = .agg cs ∧ cs.length = 2) (hq : ∀ e ∈ es, appV (D ft) fv [e] σ = some (.ret (.bool (q e)), σ)) (hlen : es.length ≤ 9223372036854775807) :
    D ft 36 [s, fv] σ = some (.ret (.bool (es.any q)), σ) := by
  rw [D36_eq, index58 q hs hes hq hlen]
  simp [idx_any]

theorem loop44 {s fv : V} {es : List V} {σ : Sto} (q : V → Bool) (hs : IsSl s es) (hes : ∀ e ∈ es, ∃ cs, e = .agg cs ∧ cs.length = 4) (hq : ∀ e ∈ es, appV (D ft) fv [e] σ = some (.ret (.bool (q e)), σ)) (hlen : es.length ≤ 9223372036854775807) :
    ∀ rest pre : List V, es = pre ++ rest → L44_0 s fv (.int .i64 es.length) (.int .i64 pre.length) σ = some (.ret (.int .i64 (idx q rest pre.length)), σ) := by
  intro rest
  induction rest with
  | nil =>
    intro pre hpre
    rw [L44_0_eq]
    have hlt : decide ((pre.length : Int) < es.length) = false := by rw [hpre]; simp
    simp only [binV_int, intBin_lss, Option.bind_some, hlt, condV_f]
    rfl
  | cons e rest ih =>
    intro pre hpre
    rw [L44_0_eq]
    have hlt : decide ((pre.length : Int) < es.length) = true := by rw [hpre]; simp; omega
    have he : e ∈ es := by rw [hpre]; simp
    have hcl := hq e he
    obtain ⟨cs, rfl, hcs⟩ := hes e he
    have hidx : indexAddrV 4 s (.int .i64 pre.length) = some (.vp cs) := IsSl.idx (e := .agg cs) (hpre ▸ hs) hcs
    have hw : wrapI .i64 ((pre.length : Int) + 1) = ((pre ++ [V.agg cs]).length : Int) := by
      rw [wrap64 (by have := hlt; simp at this; omega)]; simp
    have hp : (List.take 4 (List.drop 0 cs)) = cs := by rw [List.drop_zero, List.take_of_length_le (by omega)]
    simp only [binV_int, intBin_lss, Option.bind_some, hlt, condV_t, hidx, ldV_vp, part_some, hcs, Nat.zero_add, Nat.le_refl, if_true, hp, hcl, bindR_ret, intBin_add, hw]
    cases hqe : q (.agg cs) with
    | true => simp [idx, hqe]
    | false =>
      simp only [condV_f]
      have hih := ih (pre ++ [V.agg cs]) (by rw [hpre]; simp)
      rw [hih]
      simp [idx, hqe]

theorem index44 {s fv : V} {es : List V} {σ : Sto} (q : V → Bool) (hs : IsSl s es) (hes : ∀ e ∈ es, ∃ cs, e = .agg cs ∧ cs.length = 4) (hq : ∀ e ∈ es, appV (D ft) fv [e] σ = some (.ret (.bool (q e)), σ)) (hlen : es.length ≤ 9223372036854775807) :
    D ft 44 [s, fv] σ = some (.ret (.int .i64 (idx q es 0)), σ) := by
  rw [D44_eq]
  simp only [hs.len, Option.bind_some]
  exact loop44 q hs hes hq hlen es [] rfl

theorem loop72 {s fv : V} {es : List V} {σ : Sto} (q : V → Bool) (hs : IsSl s es) (hes : ∀ e ∈ es, ∃ cs, e = .agg cs ∧ cs.length = 6) (hq : ∀ e ∈ es, appV (D ft) fv [e] σ = some (.ret (.bool (q e)), σ)) (hlen : es.length ≤ 9223372036854775807) :
    ∀ rest pre : List V, es = pre ++ rest → L72_0 s fv (.int .i64 es.length) (.int .i64 pre.length) σ = some (.ret (.int .i64 (idx q rest pre.length)), σ) := by
  intro rest
  induction rest with
  | nil =>
    intro pre hpre
    rw [L72_0_eq]
    have hlt : decide ((pre.length : Int) < es.length) = false := by rw [hpre]; simp
    simp only [binV_int, intBin_lss, Option.bind_some, hlt, condV_f]
    rfl
  | cons e rest ih =>
    intro pre hpre
    rw [L72_0_eq]
    have hlt : decide ((pre.length : Int) < es.length) = true := by rw [hpre]; simp; omega
    have he : e ∈ es := by rw [hpre]; simp
    have hcl := hq e he
    obtain ⟨cs, rfl, hcs⟩ := hes e he
    have hidx : indexAddrV 6 s (.int .i64 pre.length) = some (.vp cs) := IsSl.idx (e := .agg cs) (hpre ▸ hs) hcs
    have hw : wrapI .i64 ((pre.length : Int) + 1) = ((pre ++ [V.agg cs]).length : Int) := by
      rw [wrap64 (by have := hlt; simp at this; omega)]; simp
    have hp : (List.take 6 (List.drop 0 cs)) = cs := by rw [List.drop_zero, List.take_of_length_le (by omega)]
    simp only [binV_int, intBin_lss, Option.bind_some, hlt, condV_t, hidx, ldV_vp, part_some, hcs, Nat.zero_add, Nat.le_refl, if_true, hp, hcl, bindR_ret, intBin_add, hw]
    cases hqe : q (.agg cs) with
    | true => simp [idx, hqe]
    | false =>
      simp only [condV_f]
      have hih := ih (pre ++ [V.agg cs]) (by rw [hpre]; simp)
      rw [hih]
      simp [idx, hqe]

theorem index72 {s fv : V} {es : List V} {σ : Sto} (q : V → Bool) (hs : IsSl s es) (hes : ∀ e ∈ es, ∃ cs, e = .agg cs ∧ cs.length = 6) (hq : ∀ e ∈ es, appV (D ft) fv [e] σ = some (.ret (.bool (q e)), σ)) (hlen : es.length ≤ 9223372036854775807) :
    D ft 72 [s, fv] σ = some (.ret (.int .i64 (idx q es 0)), σ) := by
  rw [D72_eq]
  simp only [hs.len, Option.bind_some]
  exact loop72 q hs hes hq hlen es [] rfl

theorem loop63 {s : V} {es : List (List UInt8)} {x : List UInt8} {σ : Sto} (hs : IsSl s (es.map V.str)) (hlen : es.length ≤ 9223372036854775807) :
    ∀ rest pre : List (List UInt8), es = pre ++ rest → L63_0 s (.str x) (.int .i64 es.length) (.int .i64 pre.length) σ = some (.ret (.int .i64 (idxS x rest pre.length)), σ) := by
  intro rest
  induction rest with
  | nil =>
    intro pre hpre
    rw [L63_0_eq]
    have hlt : decide ((pre.length : Int) < es.length) = false := by rw [hpre]; simp
    simp only [binV_int, intBin_lss, Option.bind_some, hlt, condV_f]
    rfl
  | cons e rest ih =>
    intro pre hpre
    rw [L63_0_eq]
    have hlt : decide ((pre.length : Int) < es.length) = true := by rw [hpre]; simp; omega
    have hidx : indexAddrV 1 s (.int .i64 pre.length) = some (.vp [.str e]) := by
      have h : IsSl s (pre.map V.str ++ .str e :: rest.map V.str) := by rw [hpre] at hs; simpa using hs
      have := h.idx (K := 1) (k := .i64) rfl
      simpa using this
    have hw : wrapI .i64 ((pre.length : Int) + 1) = ((pre ++ [e]).length : Int) := by
      rw [wrap64 (by have := hlt; simp at this; omega)]; simp
    simp only [binV_int, intBin_lss, Option.bind_some, hlt, condV_t, hidx, ldV_vp, part_none, List.getElem?_cons_zero, binV_str, strBin_eql, intBin_add, hw]
    cases hqe : x == e with
    | true => simp [idxS, hqe]
    | false =>
      simp only [condV_f]
      have hih := ih (pre ++ [e]) (by rw [hpre]; simp)
      rw [hih]
      simp [idxS, hqe]

theorem index63 {s : V} {es : List (List UInt8)} {x : List UInt8} {σ : Sto} (hs : IsSl s (es.map V.str)) (hlen : es.length ≤ 9223372036854775807) :
    D ft 63 [s, .str x] σ = some (.ret (.int .i64 (idxS x es 0)), σ) := by
  rw [D63_eq]
  simp only [hs.len, Option.bind_some, List.length_map]
  exact loop63 hs hlen es [] rfl

theorem loop67 {s fv : V} {es : List V} {σ : Sto} (q : V → Bool) (hs : IsSl s es) (hes : ∀ e ∈ es, ∃ cs, e = .agg cs ∧ cs.length = 3) (hq : ∀ e ∈ es, appV (D ft) fv [e] σ = some (.ret (.bool (q e)), σ)) (hlen : es.length ≤ 9223372036854775807) :
    ∀ rest pre : List V, es = pre ++ rest → L67_0 s fv (.int .i64 es.length) (.int .i64 pre.length) σ = some (.ret (.int .i64 (idx q rest pre.length)), σ) := by
  intro rest
  induction rest with
  | nil =>
    intro pre hpre
    rw [L67_0_eq]
    have hlt : decide ((pre.length : Int) < es.length) = false := by rw [hpre]; simp
    simp only [binV_int, intBin_lss, Option.bind_some, hlt, condV_f]
    rfl
  | cons e rest ih =>
    intro pre hpre
    rw [L67_0_eq]
    have hlt : decide ((pre.length : Int) < es.length) = true := by rw [hpre]; simp; omega
    have he : e ∈ es := by rw [hpre]; simp
    have hcl := hq e he
    obtain ⟨cs, rfl, hcs⟩ := hes e he
    have hidx : indexAddrV 3 s (.int .i64 pre.length) = some (.vp cs) := IsSl.idx (e := .agg cs) (hpre ▸ hs) hcs
    have hw : wrapI .i64 ((pre.length : Int) + 1) = ((pre ++ [V.agg cs]).length : Int) := by
      rw [wrap64 (by have := hlt; simp at this; omega)]; simp
    have hp : (List.take 3 (List.drop 0 cs)) = cs := by rw [List.drop_zero, List.take_of_length_le (by omega)]
    simp only [binV_int, intBin_lss, Option.bind_some, hlt, condV_t, hidx, ldV_vp, part_some, hcs, Nat.zero_add, Nat.le_refl, if_true, hp, hcl, bindR_ret, intBin_add, hw]
    cases hqe : q (.agg cs) with
    | true => simp [idx, hqe]
    | false =>
      simp only [condV_f]
      have hih := ih (pre ++ [V.agg cs]) (by rw [hpre]; simp)
      rw [hih]
      simp [idx, hqe]

theorem index67 {s fv : V} {es : List V} {σ : Sto} (q : V → Bool) (hs : IsSl s es) (hes : ∀ e ∈ es, ∃ cs, e = .agg cs ∧ cs.length = 3) (hq : ∀ e ∈ es, appV (D ft) fv [e] σ = some (.ret (.bool (q e)), σ)) (hlen : es.length ≤ 9223372036854775807) :
    D ft 67 [s, fv] σ = some (.ret (.int .i64 (idx q es 0)), σ) := by
  rw [D67_eq]
  simp only [hs.len, Option.bind_some]
  exact loop67 q hs hes hq hlen es [] rfl

theorem contains52 {s fv : V} {es : List V} {σ : Sto} (q : V → Bool) (hs : IsSl s es) (hes : ∀ e ∈ es, ∃ cs, e = .agg cs ∧ cs.length = 3) (hq : ∀ e ∈ es, appV (D ft) fv [e] σ = some (.ret (.bool (q e)), σ)) (hlen : es.length ≤ 9223372036854775807) :
    D ft 52 [s, fv] σ = some (.ret (.bool (es.any q)), σ) := by
  rw [D52_eq, index67 q hs hes hq hlen]
  simp [idx_any]

end Go.Eng
