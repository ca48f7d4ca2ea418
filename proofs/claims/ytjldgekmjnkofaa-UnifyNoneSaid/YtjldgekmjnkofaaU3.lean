/- A type is like itself; rows of elements in a block of the store. -/
import Derived.Test.YtjldgekmjnkofaaU2
set_option linter.unusedVariables false
set_option linter.unusedSimpArgs false
namespace Go.Eng
open Go

theorem pure31 : ∀ (n : Nat) (t : V), IsTyp n t → callPure (D ft) 31 [t, t] = some (.bool true) := by
  intro n
  induction n with
  | zero => intro t h; exact h.elim
  | succ n ih =>
    intro t h
    obtain ⟨t', ht1, ht2, _⟩ := h.pure
    obtain ⟨k, nm, s, es, rfl, hs, hlen, hall⟩ := ht2
    have hones : [V.int .i64 k, .str nm, s].all V.one = true := by simp [hs.one]
    have loop : ∀ (rest pre : List V), es = pre ++ rest → L31_0 [.int .i64 k, .str nm, s] [.int .i64 k, .str nm, s] (.int .i64 pre.length) .empty = some (.ret (.bool true), .empty) := by
      intro rest
      induction rest with
      | nil =>
        intro pre hpre
        have hlt : decide ((pre.length : Int) < es.length) = false := by rw [hpre]; simp
        rw [L31_0_eq]; iterate 3 (try simp only [part_none, List.getElem?_cons_succ, List.getElem?_cons_zero, hs.len, binV_int, intBin_lss, Option.bind_some, hlt, condV_f])
      | cons e rest ih2 =>
        intro pre hpre
        have hlt : decide ((pre.length : Int) < es.length) = true := by rw [hpre]; simp; omega
        have he : e ∈ es := by rw [hpre]; simp
        have hx := ih e (hall e he)
        obtain ⟨cs, rfl, hcs⟩ := (hall e he).agg
        have hidx : indexAddrV 3 s (.int .i64 pre.length) = some (.vp cs) := IsSl.idx (e := .agg cs) (hpre ▸ hs) hcs
        have hlen2 : es.length = pre.length + (rest.length + 1) := by rw [hpre]; simp
        have hw : wrapI .i64 ((pre.length : Int) + 1) = ((pre ++ [V.agg cs]).length : Int) := by
          rw [wrap64 (by omega)]; simp
        have hy := ih2 (pre ++ [V.agg cs]) (by rw [hpre]; simp)
        rw [L31_0_eq]
        iterate 3 (try simp only [part_none, List.getElem?_cons_succ, List.getElem?_cons_zero, hs.len, binV_int, intBin_lss, Option.bind_some, hlt, condV_t, hidx, ldV_vp, part_all hcs, hx, notV_bool, Bool.not_true, condV_f, intBin_add, hw])
        exact hy
    refine callPure_of (vs' := [.agg [.int .i64 k, .str nm, s], .agg [.int .i64 k, .str nm, s]]) (by simp only [V.pures, ht1]) (v := .bool true) (σ := .empty) ?_ rfl
    rw [D31_eq]
    have hk : decide (k = k) = true := by simp
    have hn : (nm == nm) = true := by simp
    have hl : decide ((es.length : Int) = es.length) = true := by simp
    iterate 4 (try simp only [boxC_all hones, Option.bind_some, part_none, List.getElem?_cons_succ, List.getElem?_cons_zero, binV_int, intBin_neq, decide_true, Bool.not_true, chkB_b, gd_ff, binV_str, strBin_neq, hn, pickS_f, hs.len, condV_f])
    exact loop es [] rfl

/-! ## Rows -/

theorem flat_part {K : Nat} : ∀ (l : List V) (i : Nat) (e : V), (∀ x ∈ l, x.cells.length = K) → l[i]? = some e → ((l.flatMap V.cells).drop (i * K)).take K = e.cells ∧ i * K + K ≤ (l.flatMap V.cells).length
  | [], i, e, _, hi => by simp at hi
  | x :: l, 0, e, h, hi => by
    simp at hi
    subst hi
    have hx := h x List.mem_cons_self
    rw [List.flatMap_cons, Nat.zero_mul, List.drop_zero]
    refine ⟨?_, by simp [hx]⟩
    rw [List.take_append_of_le_length (by omega), List.take_of_length_le (by omega)]
  | x :: l, i + 1, e, h, hi => by
    have hx := h x List.mem_cons_self
    have hi : l[i]? = some e := by simpa using hi
    obtain ⟨h1, h2⟩ := flat_part l i e (fun y hy => h y (List.mem_cons_of_mem _ hy)) hi
    have he : (i + 1) * K = x.cells.length + i * K := by rw [Nat.add_mul, Nat.one_mul, hx, Nat.add_comm]
    rw [List.flatMap_cons, he]
    refine ⟨?_, by rw [List.length_append]; omega⟩
    rw [List.drop_append, List.drop_eq_nil_of_le (by omega), List.nil_append, Nat.add_sub_cancel_left]
    exact h1

theorem flat_over {K : Nat} {t : V} (ht : t.cells.length = K) : ∀ (l : List V) (i : Nat), (∀ x ∈ l, x.cells.length = K) → i < l.length → over (l.flatMap V.cells) (i * K) t.cells = (l.set i t).flatMap V.cells
  | [], i, _, hi => by simp at hi
  | x :: l, 0, h, hi => by
    have hx := h x List.mem_cons_self
    rw [List.set_cons_zero, List.flatMap_cons, List.flatMap_cons, Nat.zero_mul]
    unfold over
    rw [List.take_zero, List.nil_append, Nat.zero_add, ht, ← hx, List.drop_left]
  | x :: l, i + 1, h, hi => by
    have hx := h x List.mem_cons_self
    have ih := flat_over ht l i (fun y hy => h y (List.mem_cons_of_mem _ hy)) (by simpa using hi)
    have he : (i + 1) * K = x.cells.length + i * K := by rw [Nat.add_mul, Nat.one_mul, hx, Nat.add_comm]
    rw [List.set_cons_succ, List.flatMap_cons, List.flatMap_cons, he, ← ih]
    unfold over
    rw [List.take_append, List.take_of_length_le (by omega), Nat.add_sub_cancel_left, List.drop_append, List.drop_eq_nil_of_le (by omega), List.nil_append, List.append_assoc, List.append_assoc, List.append_assoc]
    rw [show x.cells.length + i * K + t.cells.length - x.cells.length = i * K + t.cells.length from by omega]

/-- A slice in the store, all of its block. -/
structure Row (σ : Sto) (K b : Nat) (v : V) (l : List V) : Prop where
  v : v = .msl b 0 l.length K
  blk : σ.blk b = some (.cells (l.flatMap V.cells))
  each : ∀ x ∈ l, x.cells.length = K

theorem Row.idx {σ : Sto} {K b : Nat} {v : V} {l : List V} (h : Row σ K b v l) {i : Nat} (hi : i < l.length) : indexAddrV K v (.int .i64 i) = some (.ptr b (i * K)) := by
  rw [h.v]
  simp [indexAddrV, hi]

theorem Row.ld {σ : Sto} {K b : Nat} {v : V} {l : List V} (h : Row σ K b v l) {i : Nat} {e : V} (he : l[i]? = some e) : ldV σ (some K) (.ptr b (i * K)) = some (.agg e.cells) := by
  obtain ⟨h1, h2⟩ := flat_part l i e h.each he
  rw [ldV_ptr h.blk, part_some, if_pos h2, h1]

theorem Row.ld0 {σ : Sto} {K b : Nat} {v : V} {l : List V} (h : Row σ K b v l) {i : Nat} {e c : V} {cs : List V} (he : l[i]? = some e) (hc : e.cells = c :: cs) : ldV σ none (.ptr b (i * K + 0)) = some c := by
  obtain ⟨h1, h2⟩ := flat_part l i e h.each he
  rw [ldV_ptr h.blk, part_none]
  have h3 : (((l.flatMap V.cells).drop (i * K)).take K)[0]? = some c := by rw [h1, hc]; rfl
  rw [List.getElem?_take] at h3
  split at h3
  · rw [List.getElem?_drop] at h3
    exact h3
  · cases h3

theorem Row.st {σ : Sto} {K b : Nat} {v : V} {l : List V} (h : Row σ K b v l) {i : Nat} {t : V} (hi : i < l.length) (ht : t.cells.length = K) (ho : t.cells.all V.one = true) (hK : 0 < K) :
    stV σ K (.ptr b (i * K)) t = some (σ.upd b (.cells ((l.set i t).flatMap V.cells))) ∧ Row (σ.upd b (.cells ((l.set i t).flatMap V.cells))) K b v (l.set i t) := by
  have he : l[i]? = some l[i] := List.getElem?_eq_getElem hi
  obtain ⟨_, h2⟩ := flat_part l i _ h.each he
  refine ⟨?_, ⟨by rw [h.v]; simp, ?_, fun x hx => ?_⟩⟩
  · unfold stV
    simp only [h.blk]
    rw [if_pos ⟨ht, h2, ho, hK⟩, flat_over ht l i h.each hi]
  · rw [Sto.blk_upd, if_pos ⟨rfl, Sto.blk_lt h.blk⟩]
  · rcases List.mem_or_eq_of_mem_set hx with hx | rfl
    · exact h.each x hx
    · exact ht

theorem Row.other {σ : Sto} {K b c : Nat} {v : V} {l : List V} (h : Row σ K b v l) (hc : c ≠ b) (x : Blk) : Row (σ.upd c x) K b v l := by
  refine ⟨h.v, ?_, h.each⟩
  rw [Sto.blk_upd, if_neg (fun e => hc e.1.symm)]
  exact h.blk

theorem Row.alloc {σ : Sto} {K b : Nat} {v : V} {l : List V} (h : Row σ K b v l) (x : Blk) : Row (σ.alloc x) K b v l := ⟨h.v, Sto.sub_alloc _ _ _ _ h.blk, h.each⟩

end Go.Eng
