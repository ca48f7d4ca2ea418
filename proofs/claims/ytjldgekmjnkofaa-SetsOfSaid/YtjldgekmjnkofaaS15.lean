/- Trees: their constraints, by the program and by the document. -/
import Derived.Test.YtjldgekmjnkofaaS14
set_option linter.unusedVariables false
set_option linter.unusedSimpArgs false
namespace Go.Eng
open Go

inductive Node where
  | mk (kind : Int) (text : List UInt8) (kids : List Node) (pos : Int)

def Node.kind : Node → Int | .mk k _ _ _ => k
def Node.text : Node → List UInt8 | .mk _ t _ _ => t
def Node.kids : Node → List Node | .mk _ _ l _ => l
def Node.pos : Node → Int | .mk _ _ _ a => a

/-- A tree, of so much depth. -/
def IsNode : Nat → V → Node → Prop
  | 0, _, _ => False
  | n + 1, v, t => ∃ s es, v = .agg [.int .i64 t.kind, .str t.text, s, .int .i64 t.pos] ∧ IsSl s es ∧ es.length * 56 ≤ 140737488355328 ∧ All2 (IsNode n) es t.kids

theorem IsNode.succ : ∀ {n : Nat} {v : V} {t : Node}, IsNode n v t → IsNode (n + 1) v t
  | 0, _, _, h => h.elim
  | n + 1, v, t, ⟨s, es, h1, h2, h3, h4⟩ => ⟨s, es, h1, h2, h3, h4.mono fun a b h => h.succ⟩

theorem IsNode.agg {n : Nat} {v : V} {t : Node} (h : IsNode n v t) : ∃ cs, v = .agg cs ∧ cs.length = 4 ∧ cs.all V.one = true := by
  cases n with
  | zero => exact h.elim
  | succ n =>
    obtain ⟨s, es, rfl, hs, _⟩ := h
    exact ⟨_, rfl, rfl, by simp [hs.one]⟩

theorem IsNode.open {n : Nat} {v : V} {t : Node} (h : IsNode n v t) : ∃ s es, v = .agg [.int .i64 t.kind, .str t.text, s, .int .i64 t.pos] ∧ IsSl s es ∧ es.length * 56 ≤ 140737488355328 ∧ All2 (IsNode n) es t.kids := by
  cases n with
  | zero => exact h.elim
  | succ n =>
    obtain ⟨s, es, h1, h2, h3, h4⟩ := h
    exact ⟨s, es, h1, h2, h3, h4.mono fun a b h => h.succ⟩

theorem IsNode.pure : ∀ {n : Nat} {v : V} {t : Node}, IsNode n v t → ∃ v', v.pure = some v' ∧ IsNode n v' t
  | 0, _, _, h => h.elim
  | n + 1, v, t, ⟨s, es, h1, h2, h3, h4⟩ => by
    subst h1
    obtain ⟨s', es', h5, h6, h7⟩ := h2.pure2 (P := IsNode n) (fun e b h => h.pure) h4
    exact ⟨_, by simp only [V.pure, V.pures, h5, Option.map_some], ⟨s', es', rfl, h6, by rw [h7.len, ← h4.len]; exact h3, h7⟩⟩

theorem all2_one {α β : Type} {P : α → β → Prop} {l : List α} {m : List β} (h : All2 P l m) (hl : l.length = 1) : ∃ a b, l = [a] ∧ m = [b] ∧ P a b := by
  cases h with
  | nil => cases hl
  | cons h1 h2 =>
    cases h2 with
    | nil => exact ⟨_, _, rfl, rfl, h1⟩
    | cons _ _ => simp at hl

/-! ## Plain -/

def termOf (t : Node) : Option Trm :=
  match t.kids with
  | [k] => if t.kind = 15 ∧ k.kind = 10 ∧ k.kids.length = 0 ∧ basicB k.text = true then some ⟨t.text == [126], k.text⟩ else none
  | _ => none

def termsOf : List Node → Option (List Trm)
  | [] => some []
  | t :: l => match termOf t, termsOf l with
    | some x, some xs => some (x :: xs)
    | _, _ => none

def unionB (t : Node) : SetL × Bool := match termsOf t.kids with
  | some ts => (⟨false, false, ts⟩, decide (0 < ts.length))
  | none => (noSet, false)

def nAny : List UInt8 := [97, 110, 121]
def nComparable : List UInt8 := [99, 111, 109, 112, 97, 114, 97, 98, 108, 101]

def ofB (t : Node) (bs : List Bnd) : SetL × Bool :=
  if t.kind = 14 then unionB t
  else if t.kind ≠ 10 ∨ 0 < t.kids.length then (noSet, false)
  else match findB bs t.text with
    | some s => (s, true)
    | none => if t.text = nAny then (⟨true, false, []⟩, true) else if t.text = nComparable then (⟨false, true, []⟩, true) else (noSet, false)

/-! ## Names of basic types, wherever -/

theorem big57' (σ : Sto) : ∃ σ', D ft 57 [] σ = some (.ret (.map σ.next), σ') ∧ (∀ n : List UInt8, lookupV .str σ' (.bool false) (.map σ.next) (.str n) false = some (.bool (basicB n))) ∧ Keep (fun b => σ.next ≤ b) σ σ' := by
  have b0 : (σ.alloc (.map [] 0)).blk σ.next = some (.map [] 0) := Sto.blk_next _ _
  generalize hσ1 : σ.alloc (.map [] 0) = σ1 at b0
  have k1 : Keep (fun b => σ.next ≤ b) σ σ1 := hσ1 ▸ Keep.alloc _ _
  have u1 : mapUpdV .str σ1 (.map σ.next) (.str nInt) (.bool true) = some (σ1.upd σ.next (.map [(.str nInt, .bool true, 0)] 1)) := by
    simp [mapUpdV, b0, findK, isKey, setK]
  have b1 : (σ1.upd σ.next (.map [(.str nInt, .bool true, 0)] 1)).blk σ.next = some (.map [(.str nInt, .bool true, 0)] 1) := by rw [Sto.blk_upd, if_pos ⟨rfl, Sto.blk_lt b0⟩]
  generalize hσ2 : σ1.upd σ.next (.map [(.str nInt, .bool true, 0)] 1) = σ2 at b1 u1
  have k2 : Keep (fun b => σ.next ≤ b) σ1 σ2 := hσ2 ▸ Keep.upd _ _ _ (Nat.le_refl _)
  have u2 : mapUpdV .str σ2 (.map σ.next) (.str nString) (.bool true) = some (σ2.upd σ.next (.map [(.str nInt, .bool true, 0), (.str nString, .bool true, 1)] 2)) := by
    simp only [mapUpdV, b1]
    rfl
  have b2 : (σ2.upd σ.next (.map [(.str nInt, .bool true, 0), (.str nString, .bool true, 1)] 2)).blk σ.next = some (.map [(.str nInt, .bool true, 0), (.str nString, .bool true, 1)] 2) := by rw [Sto.blk_upd, if_pos ⟨rfl, Sto.blk_lt b1⟩]
  generalize hσ3 : σ2.upd σ.next (.map [(.str nInt, .bool true, 0), (.str nString, .bool true, 1)] 2) = σ3 at b2 u2
  have k3 : Keep (fun b => σ.next ≤ b) σ2 σ3 := hσ3 ▸ Keep.upd _ _ _ (Nat.le_refl _)
  have u3 : mapUpdV .str σ3 (.map σ.next) (.str nBool) (.bool true) = some (σ3.upd σ.next (.map [(.str nInt, .bool true, 0), (.str nString, .bool true, 1), (.str nBool, .bool true, 2)] 3)) := by
    simp only [mapUpdV, b2]
    rfl
  have b3 : (σ3.upd σ.next (.map [(.str nInt, .bool true, 0), (.str nString, .bool true, 1), (.str nBool, .bool true, 2)] 3)).blk σ.next = some (.map [(.str nInt, .bool true, 0), (.str nString, .bool true, 1), (.str nBool, .bool true, 2)] 3) := by rw [Sto.blk_upd, if_pos ⟨rfl, Sto.blk_lt b2⟩]
  refine ⟨σ3.upd σ.next (.map [(.str nInt, .bool true, 0), (.str nString, .bool true, 1), (.str nBool, .bool true, 2)] 3), ?_, fun n => ?_, ((k1.trans k2).trans k3).trans (Keep.upd _ _ _ (Nat.le_refl _))⟩
  · rw [D57_eq]
    rw [alS_eq, hσ1]
    rw [show mapUpdV .str σ1 (.map σ.next) (.str [105, 110, 116]) (.bool true) = _ from u1, Option.bind_some]
    rw [show mapUpdV .str σ2 (.map σ.next) (.str [115, 116, 114, 105, 110, 103]) (.bool true) = _ from u2, Option.bind_some]
    rw [show mapUpdV .str σ3 (.map σ.next) (.str [98, 111, 111, 108]) (.bool true) = _ from u3, Option.bind_some]
  · unfold lookupV
    simp only [b3, isKey, findK, keyEq, basicB]
    cases n == nInt <;> cases n == nString <;> cases n == nBool <;> rfl

theorem pure43 (n : List UInt8) : callPure (D ft) 43 [.str n] = some (.bool (basicB n)) := by
  refine callPure_of (vs' := [.str n]) rfl (v := .bool (basicB n)) (σ := .empty) ?_ rfl
  rw [D43_eq]
  unfold basicB nInt nString nBool
  simp only [binV_str, strBin_eql, Option.bind_some]
  cases n == [105, 110, 116] with
  | true => iterate 4 (try simp only [gd_tf, gd_u, Option.bind_some, pickS_t, Bool.true_or])
  | false =>
    iterate 3 (try simp only [gd_ff, Option.bind_some, binV_str, strBin_eql, pickS_f])
    cases n == [115, 116, 114, 105, 110, 103] with
    | true => iterate 4 (try simp only [gd_tf, gd_u, Option.bind_some, pickS_t, Bool.true_or, Bool.false_or])
    | false => iterate 4 (try simp only [gd_ff, Option.bind_some, binV_str, strBin_eql, pickS_f, Bool.false_or])

/-! ## The union of terms -/

theorem noSet_is : IsSet (.agg [.bool false, .bool false, .nsl]) noSet := ⟨⟨.nsl, rfl, .nsl⟩, by simp [noSet]⟩

/-- What a term's node is, told as the two functions ask it. -/
theorem termOf_none_kind {t : Node} (h : t.kind ≠ 15) : termOf t = none := by
  unfold termOf
  split
  · rw [if_neg (fun e => h e.1)]
  · rfl
theorem termOf_none_len {t : Node} (h : t.kids.length ≠ 1) : termOf t = none := by
  unfold termOf
  split
  · rename_i k hk; rw [hk] at h; simp at h
  · rfl
theorem termOf_one {t k : Node} (h : t.kids = [k]) : termOf t = if t.kind = 15 ∧ k.kind = 10 ∧ k.kids.length = 0 ∧ basicB k.text = true then some ⟨t.text == [126], k.text⟩ else none := by
  unfold termOf
  rw [h]

theorem loop42 {v : V} {es : List V} {n : Nat} (hs : IsSl v es) (hlen : es.length * 56 ≤ 140737488355328) :
    ∀ (rest : List V) (ks : List Node) (pre : List V) (done : List Trm) (ov : V) (σ : Sto), es = pre ++ rest → All2 (IsNode n) rest ks → done.length = pre.length → Grow 0 σ ov (done.map Trm.v) →
      ∃ r σ', L42_0 [.bool false, .bool false, .nsl] [.bool false, .bool false, ov] v (.int .i64 es.length) (.int .i64 pre.length) σ = some (.ret (.tup [r, .bool (match termsOf ks with | some ts => decide (0 < (done ++ ts).length) | none => false)]), σ') ∧
        IsSet r (match termsOf ks with | some ts => ⟨false, false, done ++ ts⟩ | none => noSet) := by
  intro rest
  induction rest with
  | nil =>
    intro ks pre done ov σ hpre hall hd hg
    cases hall
    have hlt : decide ((pre.length : Int) < es.length) = false := by rw [hpre]; simp
    have hov : [V.bool false, .bool false, ov].all V.one = true := by simp [hg.isSl.one]
    have hset : IsSet (.agg [.bool false, .bool false, ov]) ⟨false, false, done⟩ := ⟨⟨ov, rfl, hg.isSl⟩, by
      have : es.length = pre.length := by rw [hpre]; simp
      show done.length * 24 ≤ _
      omega⟩
    refine ⟨.agg [.bool false, .bool false, ov], σ, ?_, by simpa [termsOf] using hset⟩
    rw [L42_0_eq]
    have hd2 : decide ((0 : Int) < ((done.map Trm.v).length : Int)) = decide (0 < done.length) := by simp
    iterate 4 (try simp only [binV_int, intBin_lss, Option.bind_some, hlt, condV_f, part_all (cs := [V.bool false, .bool false, ov]) (n := 3) rfl, part_none, List.getElem?_cons_succ, List.getElem?_cons_zero, hg.isSl.len, intBin_gtr, hd2, stC_all (cs := [V.bool false, .bool false, ov]) (n := 3) rfl (show [V.bool false, .bool false, .nsl].length = 3 from rfl) hov])
    simp [termsOf]
  | cons e rest ih =>
    intro ks pre done ov σ hpre hall hd hg
    cases hall with
    | @cons _ t _ ks he hall =>
    have hlen2 : es.length = pre.length + (rest.length + 1) := by rw [hpre]; simp
    have hlt : decide ((pre.length : Int) < es.length) = true := by simp; omega
    have hidx : indexAddrV 4 v (.int .i64 pre.length) = some (.vp e.cells) := by
      obtain ⟨cs, rfl, hcs, _⟩ := he.agg
      exact IsSl.idx (e := .agg cs) (hpre ▸ hs) hcs
    obtain ⟨s1, es1, rfl, hs1, hl1, hall1⟩ := he.open
    have hone : [V.int .i64 t.kind, .str t.text, s1, .int .i64 t.pos].all V.one = true := by simp [hs1.one]
    have hz4 : [V.int .i64 0, .str [], .nsl, .int .i64 0].length = 4 := rfl
    -- where it is none
    have hno : ∀ σ', termOf t = none → ∃ r σ'', ((fillC [V.bool false, .bool false, .nsl] []).bind fun c50 => (stC [V.bool false, .bool false, .nsl] 0 3 (.agg c50)).bind fun c2_1 => (part c2_1 0 (some 3)).bind fun r2 => (some (Res.ret (.tup [r2, .bool false]), σ') : R)) = some (.ret (.tup [r, .bool (match termsOf (t :: ks) with | some ts => decide (0 < (done ++ ts).length) | none => false)]), σ'') ∧
        IsSet r (match termsOf (t :: ks) with | some ts => ⟨false, false, done ++ ts⟩ | none => noSet) := fun σ' h => by
      have : termsOf (t :: ks) = none := by simp [termsOf, h]
      rw [this]
      exact ⟨_, σ', rfl, noSet_is⟩
    rw [L42_0_eq]
    iterate 4 (try simp only [binV_int, intBin_lss, Option.bind_some, hlt, condV_t, hidx, V.cells_agg, ldV_vp, part_all (cs := [V.int .i64 t.kind, .str t.text, s1, .int .i64 t.pos]) (n := 4) rfl, stC_all (cs := [V.int .i64 t.kind, .str t.text, s1, .int .i64 t.pos]) (n := 4) rfl hz4 hone, part_none, List.getElem?_cons_zero, intBin_neq, chkB_b])
    by_cases h15 : t.kind = 15
    case neg =>
      obtain ⟨r, σ', h1, h2⟩ := hno σ (termOf_none_kind h15)
      refine ⟨r, σ', ?_, h2⟩
      rw [← h1]
      iterate 6 (try simp only [h15, decide_false, Bool.not_false, gd_tf, gd_u, Option.bind_some, pickS_t, chkB_b, noteG_u, gdR_tf, bindR_ret, passG_nil, condV_t])
    case pos =>
    have h15' : decide (t.kind = 15) = true := by simpa using h15
    iterate 5 (try simp only [h15', Bool.not_true, gd_ff, Option.bind_some, List.getElem?_cons_succ, List.getElem?_cons_zero, hs1.len, binV_int, intBin_neq, pickS_f, chkB_b])
    by_cases hl : es1.length = 1
    case neg =>
      obtain ⟨r, σ', h1, h2⟩ := hno σ (termOf_none_len (by rw [← hall1.len]; exact hl))
      have hl' : decide ((es1.length : Int) = 1) = false := by simp; omega
      refine ⟨r, σ', ?_, h2⟩
      rw [← h1]
      iterate 6 (try simp only [hl', Bool.not_false, gd_tf, gd_u, Option.bind_some, pickS_t, chkB_b, noteG_u, gdR_tf, bindR_ret, passG_nil, condV_t])
    case pos =>
    obtain ⟨e1, k1, rfl, hk1, he1⟩ := all2_one hall1 hl
    have hl' : decide ((([e1].length : Nat) : Int) = 1) = true := by simp
    obtain ⟨s2, es2, rfl, hs2, hl2, hall2⟩ := he1.open
    have hidx1 : indexAddrV 4 s1 (.int .i64 0) = some (.vp [.int .i64 k1.kind, .str k1.text, s2, .int .i64 k1.pos]) := IsSl.idx (pre := []) (rest := []) (e := .agg [.int .i64 k1.kind, .str k1.text, s2, .int .i64 k1.pos]) hs1 rfl
    have hT := termOf_one hk1
    have hf0 : fieldAddrV 0 (.vp [V.int .i64 k1.kind, .str k1.text, s2, .int .i64 k1.pos]) = some (.vp [V.int .i64 k1.kind, .str k1.text, s2, .int .i64 k1.pos]) := rfl
    have hf1 : fieldAddrV 1 (.vp [V.int .i64 k1.kind, .str k1.text, s2, .int .i64 k1.pos]) = some (.vp [.str k1.text, s2, .int .i64 k1.pos]) := rfl
    have hf2 : fieldAddrV 2 (.vp [V.int .i64 k1.kind, .str k1.text, s2, .int .i64 k1.pos]) = some (.vp [s2, .int .i64 k1.pos]) := rfl
    iterate 5 (try simp only [hl', Bool.not_true, gd_ff, Option.bind_some, hidx1, hf0, ldV_vp, part_none, List.getElem?_cons_zero, binV_int, intBin_neq, pickS_f, chkB_b])
    by_cases h10 : k1.kind = 10
    case neg =>
      obtain ⟨r, σ', h1, h2⟩ := hno σ (by rw [hT, if_neg (fun e => h10 e.2.1)])
      refine ⟨r, σ', ?_, h2⟩
      rw [← h1]
      iterate 6 (try simp only [h10, decide_false, Bool.not_false, gd_tf, gd_u, Option.bind_some, pickS_t, chkB_b, noteG_u, gdR_tf, bindR_ret, passG_nil, condV_t])
    case pos =>
    have h10' : decide (k1.kind = 10) = true := by simpa using h10
    iterate 5 (try simp only [h10', Bool.not_true, gd_ff, Option.bind_some, hidx1, hf2, ldV_vp, part_none, List.getElem?_cons_zero, List.getElem?_cons_succ, hs2.len, binV_int, intBin_gtr, pickS_f, chkB_b])
    by_cases h0 : es2.length = 0
    case neg =>
      obtain ⟨r, σ', h1, h2⟩ := hno σ (by rw [hT, if_neg (fun e => h0 (by rw [hall2.len]; exact e.2.2.1))])
      have h0' : decide ((0 : Int) < (es2.length : Int)) = true := by simp; omega
      refine ⟨r, σ', ?_, h2⟩
      rw [← h1]
      iterate 6 (try simp only [h0', gd_tf, gd_u, Option.bind_some, pickS_t, chkB_b, noteG_u, gdR_tf, bindR_ret, passG_nil, condV_t])
    case pos =>
    have h0' : decide ((0 : Int) < (es2.length : Int)) = false := by rw [h0]; rfl
    obtain ⟨σ5, m1, m2, m3⟩ := big57' σ
    iterate 7 (try simp only [h0', gd_ff, Option.bind_some, hidx1, hf1, ldV_vp, part_none, List.getElem?_cons_zero, List.getElem?_cons_succ, noteG_vp, gdR_ff, m1, bindR_ret, passG_nil, m2, notV_bool, pickS_f, chkB_b])
    cases hB : basicB k1.text with
    | false =>
      obtain ⟨r, σ', h1, h2⟩ := hno σ5 (by rw [hT, if_neg (fun e => by rw [hB] at e; exact absurd e.2.2.2 (by simp))])
      refine ⟨r, σ', ?_, h2⟩
      rw [← h1]
      iterate 2 (try simp only [Bool.not_false, condV_t])
    | true =>
      have hT2 : termOf t = some ⟨t.text == [126], k1.text⟩ := by rw [hT, if_pos ⟨h15, h10, by rw [← hall2.len]; exact h0, hB⟩]
      have hts : termsOf (t :: ks) = (termsOf ks).map fun l => ⟨t.text == [126], k1.text⟩ :: l := by
        simp only [termsOf, hT2]
        cases termsOf ks <;> rfl
      have hfill : fillC [V.bool false, .str []] [(0, 1, .bool (t.text == [126])), (1, 1, .str k1.text)] = some [.bool (t.text == [126]), .str k1.text] := rfl
      have hfd : fillD 2 (List.replicate 1 (.agg [V.bool false, .str []])) [(0, .agg [.bool (t.text == [126]), .str k1.text])] = some [(⟨t.text == [126], k1.text⟩ : Trm).v] := rfl
      obtain ⟨ov', σ6, g1, g2, _⟩ := (hg.fresh m3).append (y := .sl .full [(⟨t.text == [126], k1.text⟩ : Trm).v]) (new := [(⟨t.text == [126], k1.text⟩ : Trm).v]) (size := 2) (bytes := 24) (Nat.zero_le _) (.sl _ _) (by simp; omega) (by omega)
        (fun x hx => by obtain ⟨c, rfl, hc⟩ := terms_agg x hx; exact hc) (fun x hx => by rw [List.mem_singleton] at hx; rw [hx]; rfl)
      have hst : stC [V.bool false, .bool false, ov] 2 1 ov' = some [.bool false, .bool false, ov'] := by simp [g2.isSl.one, g2.isSl.cells]
      have hw : wrapI .i64 ((pre.length : Int) + 1) = ((pre ++ [V.agg [.int .i64 t.kind, .str t.text, s1, .int .i64 t.pos]]).length : Int) := by
        rw [wrap64 (by omega)]; simp
      obtain ⟨r, σ', q1, q2⟩ := ih ks (pre ++ [V.agg [.int .i64 t.kind, .str t.text, s1, .int .i64 t.pos]]) (done ++ [⟨t.text == [126], k1.text⟩]) ov' σ6 (by rw [hpre]; simp) hall (by simp [hd]) (by simpa using g2)
      refine ⟨r, σ', ?_, ?_⟩
      · iterate 7 (try simp only [Bool.not_true, condV_f, part_none, List.getElem?_cons_zero, List.getElem?_cons_succ, Option.bind_some, binV_str, strBin_eql, hidx1, hf1, ldV_vp, hfill, hfd, g1, bind2_some, hst, binV_int, intBin_add, hw])
        rw [q1, hts]
        cases termsOf ks with
        | none => rfl
        | some l => simp
      · rw [hts]
        cases hk : termsOf ks with
        | none => rw [hk] at q2; exact q2
        | some l => rw [hk] at q2; simpa using q2

theorem pure42 {n : Nat} {v : V} {t : Node} (h : IsNode n v t) : ∃ r, callPure (D ft) 42 [v] = some (.tup [r, .bool (unionB t).2]) ∧ IsSet r (unionB t).1 := by
  obtain ⟨v', h1, h2⟩ := h.pure
  obtain ⟨s, es, rfl, hs, hl, hall⟩ := h2.open
  obtain ⟨r, σ', q1, q2⟩ := loop42 hs hl es t.kids [] [] .nsl .empty rfl hall rfl .nsl
  have hone : [V.int .i64 t.kind, .str t.text, s, .int .i64 t.pos].all V.one = true := by simp [hs.one]
  have e1 : (match termsOf t.kids with | some ts => decide (0 < ([] ++ ts).length) | none => false) = (unionB t).2 := by
    unfold unionB
    cases termsOf t.kids <;> rfl
  have e2 : (match termsOf t.kids with | some ts => (⟨false, false, [] ++ ts⟩ : SetL) | none => noSet) = (unionB t).1 := by
    unfold unionB
    cases termsOf t.kids <;> rfl
  rw [e1] at q1
  rw [e2] at q2
  obtain ⟨r', p1, p2⟩ := q2.pure
  refine ⟨r', callPure_of (vs' := [.agg [.int .i64 t.kind, .str t.text, s, .int .i64 t.pos]]) (by simp only [V.pures, h1]) (v := .tup [r, .bool (unionB t).2]) (σ := σ') ?_ (by simp only [V.pure, V.pures, p1, Option.map_some]), p2⟩
  rw [D42_eq]
  iterate 3 (try simp only [boxC_all hone, Option.bind_some, part_none, List.getElem?_cons_succ, List.getElem?_cons_zero, hs.len])
  exact q1

end Go.Eng
