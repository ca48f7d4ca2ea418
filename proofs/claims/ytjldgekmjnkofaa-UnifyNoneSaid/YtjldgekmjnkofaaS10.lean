/- The laws' data, as they come out of the world. -/
import Derived.Test.YtjldgekmjnkofaaS9
set_option linter.unusedVariables false
set_option linter.unusedSimpArgs false
namespace Go.Eng
open Go Go.Proofs

def fieldsOf (d : TypeDesc) : List (TypeId × Nat) := match d with
  | .struct fs => fs.toList.map fun f => (f.type, f.offset)
  | _ => []

def isStructD (d : TypeDesc) : Bool := match d with
  | .struct _ => true
  | _ => false

theorem fits_struct {tt : Ty} {n : Nat} {t : TypeId} {i : TI} {cs : List V} (h : Fits tt (n + 1) t cs) (hi : tt t = some i) (hs : isStructD i.desc = true) : cs.length = i.size ∧ ∀ p ∈ fieldsOf i.desc, ∃ j, tt p.1 = some j ∧ Fits tt n p.1 ((cs.drop p.2).take j.size) := by
  unfold Fits at h
  rw [hi] at h
  simp only at h
  cases hd : i.desc with
  | struct fs =>
    rw [hd] at h
    refine ⟨h.1, fun p hp => ?_⟩
    obtain ⟨f, hf, rfl⟩ := List.mem_map.1 hp
    exact h.2 f hf
  | _ => rw [hd] at hs; cases hs

theorem fits_slice {tt : Ty} {n : Nat} {t e : TypeId} {i j : TI} {cs : List V} (h : Fits tt (n + 1) t cs) (hi : tt t = some i) (hd : i.desc = .slice e) (hj : tt e = some j) :
    ∃ s es, cs = [s] ∧ IsSl s es ∧ es.length * j.bytes ≤ reachBytes ∧ ∀ v ∈ es, v.cells.length = j.size ∧ (j.agg = true → v = .agg v.cells) ∧ (j.agg = false → v.cells = [v]) ∧ Fits tt n e v.cells := by
  unfold Fits at h
  rw [hi] at h
  simp only [hd] at h
  split at h <;> try contradiction
  · exact ⟨.nsl, [], rfl, .nsl, by simp, fun v hv => by cases hv⟩
  · rename_i e' es heq
    cases heq
    obtain ⟨_, j', hj', hb, hall⟩ := h
    rw [hj] at hj'
    cases hj'
    exact ⟨.sl .none es, es, rfl, .sl _ _, hb, hall⟩

theorem fits_int {tt : Ty} {n : Nat} {t : TypeId} {i : TI} {k : IntKind} {cs : List V} (h : Fits tt n t cs) (hi : tt t = some i) (hd : i.desc = .int k) : ∃ m, cs = [.int k m] ∧ k.min ≤ m ∧ m ≤ k.max := by
  cases n with
  | zero => exact h.elim
  | succ n =>
    unfold Fits at h
    rw [hi] at h
    simp only [hd] at h
    split at h <;> try contradiction
    rename_i heq
    cases heq
    obtain ⟨rfl, h1, h2⟩ := h
    exact ⟨_, rfl, h1, h2⟩

theorem fits_str {tt : Ty} {n : Nat} {t : TypeId} {i : TI} {cs : List V} (h : Fits tt n t cs) (hi : tt t = some i) (hd : i.desc = .string) : ∃ s, cs = [.str s] ∧ s.length ≤ reachBytes := by
  cases n with
  | zero => exact h.elim
  | succ n =>
    unfold Fits at h
    rw [hi] at h
    simp only [hd] at h
    split at h <;> try contradiction
    exact ⟨_, rfl, h⟩

theorem fits_bool {tt : Ty} {n : Nat} {t : TypeId} {i : TI} {cs : List V} (h : Fits tt n t cs) (hi : tt t = some i) (hd : i.desc = .bool) : ∃ b, cs = [.bool b] := by
  cases n with
  | zero => exact h.elim
  | succ n =>
    unfold Fits at h
    rw [hi] at h
    simp only [hd] at h
    split at h <;> try contradiction
    exact ⟨_, rfl⟩

theorem reach_le {a : Nat} (h : a ≤ reachBytes) : a ≤ 140737488355328 := Nat.le_trans h (by decide)

theorem fits_typ : ∀ (n : Nat) (cs : List V), Fits ty n 29 cs → IsTyp n (.agg cs)
  | 0, _, h => h.elim
  | n + 1, cs, h => by
    obtain ⟨hl, hf⟩ := fits_struct (i := ⟨Try.t28.desc, 3, 48, (some (.agg [(.int .i64 (0)), (.str []), .nsl]))⟩) h rfl (by kernel_rfl)
    have hfs : fieldsOf Try.t28.desc = [(3, 0), (9, 1), (27, 2)] := by kernel_rfl
    simp only [hfs] at hf
    obtain ⟨j0, e0, f0⟩ := hf (3, 0) (by simp)
    obtain ⟨j1, e1, f1⟩ := hf (9, 1) (by simp)
    obtain ⟨j2, e2, f2⟩ := hf (27, 2) (by simp)
    cases e0; cases e1; cases e2
    match cs, hl with
    | [a, b, c], _ =>
    obtain ⟨m, h0, _⟩ := fits_int (k := .i64) f0 rfl (by kernel_rfl)
    obtain ⟨s, h1, _⟩ := fits_str f1 rfl (by kernel_rfl)
    cases h0
    cases h1
    cases n with
    | zero => exact f2.elim
    | succ n =>
      obtain ⟨sv, es, h2, h3, h4, h5⟩ := fits_slice (e := 29) (j := ⟨Try.t28.desc, 3, 48, (some (.agg [(.int .i64 (0)), (.str []), .nsl]))⟩) f2 rfl (by kernel_rfl) rfl
      cases h2
      refine ⟨m, s, _, es, rfl, h3, reach_le h4, fun e he => ?_⟩
      obtain ⟨_, h6, _, h7⟩ := h5 e he
      have hag : (⟨Try.t28.desc, 3, 48, (some (.agg [(.int .i64 (0)), (.str []), .nsl]))⟩ : TI).agg = true := by kernel_rfl
      rw [h6 hag]
      exact (fits_typ n _ h7).succ

theorem fits_names {n : Nat} {cs : List V} (h : Fits ty n 30 cs) : ∃ v l, cs = [v] ∧ IsNames v l := by
  cases n with
  | zero => exact h.elim
  | succ n =>
    obtain ⟨sv, es, rfl, h3, h4, h5⟩ := fits_slice (e := 9) (j := ⟨Try.t9.desc, 1, 16, (some (.str []))⟩) h rfl (by kernel_rfl) rfl
    have hes : ∃ l : List (List UInt8), es = l.map V.str := by
      clear h3 h4 h
      induction es with
      | nil => exact ⟨[], rfl⟩
      | cons e es ih =>
        obtain ⟨l, hl⟩ := ih fun v hv => h5 v (List.mem_cons_of_mem _ hv)
        obtain ⟨h6, _, h7, h9⟩ := h5 e List.mem_cons_self
        obtain ⟨s, h8, _⟩ := fits_str h9 rfl (by kernel_rfl)
        have h7 := h7 (by kernel_rfl)
        rw [h8] at h7
        have : e = .str s := by simpa using h7.symm
        exact ⟨s :: l, by rw [hl, this]; rfl⟩
    obtain ⟨l, rfl⟩ := hes
    exact ⟨sv, l, rfl, h3, reach_le (by simpa using h4)⟩

theorem fits_terms {n : Nat} {cs : List V} (h : Fits ty n 24 cs) : ∃ v ts, cs = [v] ∧ IsSl v (List.map Trm.v ts) ∧ ts.length * 24 ≤ 140737488355328 := by
  cases n with
  | zero => exact h.elim
  | succ n =>
    obtain ⟨sv, es, rfl, h3, h4, h5⟩ := fits_slice (e := 86) (j := ⟨Try.t49.desc, 2, 24, (some (.agg [(.bool false), (.str [])]))⟩) h rfl (by kernel_rfl) rfl
    have hes : ∃ l : List Trm, es = l.map Trm.v := by
      clear h3 h4 h
      induction es with
      | nil => exact ⟨[], rfl⟩
      | cons e es ih =>
        obtain ⟨l, hl⟩ := ih fun v hv => h5 v (List.mem_cons_of_mem _ hv)
        obtain ⟨_, h6, _, h7⟩ := h5 e List.mem_cons_self
        have h6 := h6 (by kernel_rfl)
        cases n with
        | zero => exact h7.elim
        | succ n =>
          obtain ⟨hl2, hf⟩ := fits_struct (i := ⟨Try.t49.desc, 2, 24, (some (.agg [(.bool false), (.str [])]))⟩) h7 rfl (by kernel_rfl)
          have hfs : fieldsOf Try.t49.desc = [(4, 0), (9, 1)] := by kernel_rfl
          simp only [hfs] at hf
          obtain ⟨j0, e0, f0⟩ := hf (4, 0) (by simp)
          obtain ⟨j1, e1, f1⟩ := hf (9, 1) (by simp)
          cases e0; cases e1
          generalize e.cells = cs at *
          match cs, hl2 with
          | [a, b], _ =>
          obtain ⟨t, h0⟩ := fits_bool f0 rfl (by kernel_rfl)
          obtain ⟨s, h1, _⟩ := fits_str f1 rfl (by kernel_rfl)
          cases h0
          cases h1
          exact ⟨⟨t, s⟩ :: l, by rw [hl, h6]; rfl⟩
    obtain ⟨l, rfl⟩ := hes
    exact ⟨sv, l, rfl, h3, reach_le (by simpa using h4)⟩

theorem fits_set {n : Nat} {cs : List V} (h : Fits ty n 26 cs) : ∃ s, IsSet (.agg cs) s := by
  cases n with
  | zero => exact h.elim
  | succ n =>
    obtain ⟨hl, hf⟩ := fits_struct (i := ⟨Try.t25.desc, 3, 32, (some (.agg [(.bool false), (.bool false), .nsl]))⟩) h rfl (by kernel_rfl)
    have hfs : fieldsOf Try.t25.desc = [(4, 0), (4, 1), (24, 2)] := by kernel_rfl
    simp only [hfs] at hf
    obtain ⟨j0, e0, f0⟩ := hf (4, 0) (by simp)
    obtain ⟨j1, e1, f1⟩ := hf (4, 1) (by simp)
    obtain ⟨j2, e2, f2⟩ := hf (24, 2) (by simp)
    cases e0; cases e1; cases e2
    match cs, hl with
    | [a, b, c], _ =>
    obtain ⟨x, h0⟩ := fits_bool f0 rfl (by kernel_rfl)
    obtain ⟨y, h1⟩ := fits_bool f1 rfl (by kernel_rfl)
    obtain ⟨v, ts, h2, h3, h4⟩ := fits_terms f2
    cases h0; cases h1; cases h2
    exact ⟨⟨x, y, ts⟩, ⟨⟨_, rfl, h3⟩, h4⟩⟩

theorem fits_bnd {n : Nat} {cs : List V} (h : Fits ty n 83 cs) : ∃ b, IsBnd (.agg cs) b := by
  cases n with
  | zero => exact h.elim
  | succ n =>
    obtain ⟨hl, hf⟩ := fits_struct (i := ⟨Try.t82.desc, 4, 48, (some (.agg [(.str []), (.bool false), (.bool false), .nsl]))⟩) h rfl (by kernel_rfl)
    have hfs : fieldsOf Try.t82.desc = [(9, 0), (26, 1)] := by kernel_rfl
    simp only [hfs] at hf
    obtain ⟨j0, e0, f0⟩ := hf (9, 0) (by simp)
    obtain ⟨j1, e1, f1⟩ := hf (26, 1) (by simp)
    cases e0; cases e1
    match cs, hl with
    | [a, b, c, d], _ =>
    obtain ⟨s, h0, _⟩ := fits_str f0 rfl (by kernel_rfl)
    obtain ⟨st, ⟨tv, h1, h2⟩, h3⟩ := fits_set f1
    cases h0
    cases h1
    exact ⟨⟨s, st⟩, ⟨⟨_, rfl, h2⟩, h3⟩⟩

/-- A row whose elements each are of something. -/
theorem all2_of {α : Type} {P : V → α → Prop} : ∀ {es : List V}, (∀ e ∈ es, ∃ a, P e a) → ∃ l, All2 P es l
  | [], _ => ⟨[], .nil⟩
  | e :: es, h => by
    obtain ⟨a, ha⟩ := h e List.mem_cons_self
    obtain ⟨l, hl⟩ := all2_of (es := es) fun x hx => h x (List.mem_cons_of_mem _ hx)
    exact ⟨a :: l, .cons ha hl⟩

theorem fits_scope {n : Nat} {cs : List V} (h : Fits ty n 23 cs) : ∃ v bs, cs = [v] ∧ IsScope v bs := by
  cases n with
  | zero => exact h.elim
  | succ n =>
    obtain ⟨sv, es, rfl, h3, h4, h5⟩ := fits_slice (e := 83) (j := ⟨Try.t82.desc, 4, 48, (some (.agg [(.str []), (.bool false), (.bool false), .nsl]))⟩) h rfl (by kernel_rfl) rfl
    obtain ⟨l, hl⟩ := all2_of (P := IsBnd) fun e he => by
      obtain ⟨_, h6, _, h7⟩ := h5 e he
      have h6 := h6 (by kernel_rfl)
      rw [h6]
      exact fits_bnd h7
    exact ⟨sv, l, rfl, ⟨es, h3, hl⟩, reach_le (by rw [← hl.len]; exact h4)⟩

theorem fits_def {n : Nat} {cs : List V} (h : Fits ty n 79 cs) : ∃ d, IsDef (.agg cs) d := by
  cases n with
  | zero => exact h.elim
  | succ n =>
    obtain ⟨hl, hf⟩ := fits_struct (i := ⟨Try.t78.desc, 6, 96, (some (.agg [(.str []), .nsl, (.int .i64 (0)), (.str []), .nsl, (.bool false)]))⟩) h rfl (by kernel_rfl)
    have hfs : fieldsOf Try.t78.desc = [(9, 0), (30, 1), (29, 2), (4, 5)] := by kernel_rfl
    simp only [hfs] at hf
    obtain ⟨j0, e0, f0⟩ := hf (9, 0) (by simp)
    obtain ⟨j1, e1, f1⟩ := hf (30, 1) (by simp)
    obtain ⟨j2, e2, f2⟩ := hf (29, 2) (by simp)
    obtain ⟨j3, e3, f3⟩ := hf (4, 5) (by simp)
    cases e0; cases e1; cases e2; cases e3
    match cs, hl with
    | [a, b, c, d, e, f], _ =>
    obtain ⟨s, h0, _⟩ := fits_str f0 rfl (by kernel_rfl)
    obtain ⟨pv, ps, h1, hp⟩ := fits_names f1
    have ht := fits_typ _ _ f2
    obtain ⟨al, h3⟩ := fits_bool f3 rfl (by kernel_rfl)
    obtain ⟨k, nm, sv, es, hk, _⟩ := ht.names
    cases h0; cases h1; cases h3; cases hk
    exact ⟨⟨s, al⟩, ⟨_, ps, k, nm, _, n, rfl, hp, ht⟩⟩

theorem fits_defs {n : Nat} {cs : List V} (h : Fits ty n 22 cs) : ∃ v ds, cs = [v] ∧ IsDefs v ds := by
  cases n with
  | zero => exact h.elim
  | succ n =>
    obtain ⟨sv, es, rfl, h3, h4, h5⟩ := fits_slice (e := 79) (j := ⟨Try.t78.desc, 6, 96, (some (.agg [(.str []), .nsl, (.int .i64 (0)), (.str []), .nsl, (.bool false)]))⟩) h rfl (by kernel_rfl) rfl
    obtain ⟨l, hl⟩ := all2_of (P := IsDef) fun e he => by
      obtain ⟨_, h6, _, h7⟩ := h5 e he
      have h6 := h6 (by kernel_rfl)
      rw [h6]
      exact fits_def h7
    exact ⟨sv, l, rfl, ⟨es, h3, hl⟩, reach_le (by rw [← hl.len]; exact h4)⟩

/-- A constraint, a type, names. -/
theorem fits_ask {n : Nat} {cs : List V} (h : Fits ty n 32 cs) : ∃ a b c d e f g s m l, cs = [a, b, c, d, e, f, g] ∧ IsSet (.agg [a, b, c]) s ∧ IsTyp m (.agg [d, e, f]) ∧ IsNames g l := by
  cases n with
  | zero => exact h.elim
  | succ n =>
    obtain ⟨hl, hf⟩ := fits_struct (i := ⟨Try.t31.desc, 7, 104, (some (.agg [(.bool false), (.bool false), .nsl, (.int .i64 (0)), (.str []), .nsl, .nsl]))⟩) h rfl (by kernel_rfl)
    have hfs : fieldsOf Try.t31.desc = [(26, 0), (29, 3), (30, 6)] := by kernel_rfl
    simp only [hfs] at hf
    obtain ⟨j0, e0, f0⟩ := hf (26, 0) (by simp)
    obtain ⟨j1, e1, f1⟩ := hf (29, 3) (by simp)
    obtain ⟨j2, e2, f2⟩ := hf (30, 6) (by simp)
    cases e0; cases e1; cases e2
    match cs, hl with
    | [a, b, c, d, e, f, g], _ =>
    obtain ⟨s, hs⟩ := fits_set f0
    have ht := fits_typ _ _ f1
    obtain ⟨v, l, h2, hn⟩ := fits_names f2
    cases h2
    exact ⟨a, b, c, d, e, f, _, s, n, l, rfl, hs, ht, hn⟩

end Go.Eng
