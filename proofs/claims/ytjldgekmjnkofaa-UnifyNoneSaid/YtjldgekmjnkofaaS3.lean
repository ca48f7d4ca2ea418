/- Constraints: their searches, whether they may be, what they let in of terms. -/
import Derived.Test.YtjldgekmjnkofaaS2
set_option linter.unusedVariables false
set_option linter.unusedSimpArgs false
namespace Go.Eng
open Go

structure Trm where
  tilde : Bool
  name : List UInt8

def Trm.v (t : Trm) : V := .agg [.bool t.tilde, .str t.name]

def trmOf : V → Trm
  | .agg [.bool t, .str n] => ⟨t, n⟩
  | _ => ⟨false, []⟩

@[simp] theorem trmOf_v (t : Trm) : trmOf t.v = t := rfl

structure SetL where
  all : Bool
  cmp : Bool
  terms : List Trm

structure IsSet (v : V) (s : SetL) : Prop where
  ex : ∃ tv, v = .agg [.bool s.all, .bool s.cmp, tv] ∧ IsSl tv (s.terms.map Trm.v)
  len : s.terms.length * 24 ≤ 140737488355328

theorem Trm.pure (t : Trm) : t.v.pure = some t.v := rfl

theorem IsSet.pure {v : V} {s : SetL} (h : IsSet v s) : ∃ v', v.pure = some v' ∧ IsSet v' s := by
  obtain ⟨⟨tv, rfl, ht⟩, hl⟩ := h
  obtain ⟨tv', h1, h2⟩ := ht.pure_id fun e he => by
    obtain ⟨x, _, rfl⟩ := List.mem_map.1 he
    rfl
  exact ⟨_, by simp only [V.pure, V.pures, h1, Option.map_some], ⟨tv', rfl, h2⟩, hl⟩

theorem terms_agg {ts : List Trm} : ∀ e ∈ ts.map Trm.v, ∃ cs, e = .agg cs ∧ cs.length = 2 := fun e he => by
  obtain ⟨x, _, rfl⟩ := List.mem_map.1 he
  exact ⟨_, rfl, rfl⟩

theorem clo59 {x t : Trm} {b : Nat} {σ : Sto} (hb : σ.blk b = some (.cells [.bool t.tilde, .str t.name])) : D ft 59 [x.v, .ptr b 0] σ = some (.ret (.bool (x.name == t.name && (x.tilde || !t.tilde))), σ) := by
  rw [D59_eq]
  obtain ⟨tx, nx⟩ := x
  obtain ⟨tt, nt⟩ := t
  generalize h : (nx == nt) = c
  cases c <;> cases tx <;> simp [Trm.v, ldV_ptr hb, h]

def withinB (ts : List Trm) (t : Trm) : Bool := ts.any fun x => x.name == t.name && (x.tilde || !t.tilde)

theorem big38 {v : V} {s : SetL} (h : IsSet v s) (t : Trm) (σ : Sto) : ∃ σ', D ft 38 [v, t.v] σ = some (.ret (.bool (withinB s.terms t)), σ') := by
  obtain ⟨⟨tv, rfl, ht⟩, hl⟩ := h
  have hb : (σ.alloc (.cells [.bool t.tilde, .str t.name])).blk σ.next = some (.cells [.bool t.tilde, .str t.name]) := Sto.blk_next _ _
  have hc := contains36 (fv := .func 59 [.ptr σ.next 0]) (σ := σ.alloc (.cells [.bool t.tilde, .str t.name])) (fun e => (trmOf e).name == t.name && ((trmOf e).tilde || !t.tilde)) ht terms_agg (fun e he => by
    obtain ⟨x, _, rfl⟩ := List.mem_map.1 he
    rw [appV_ptr]
    exact clo59 hb) (by simp; omega)
  have hany : (s.terms.map Trm.v).any (fun e => (trmOf e).name == t.name && ((trmOf e).tilde || !t.tilde)) = withinB s.terms t := by
    rw [List.any_map]; rfl
  rw [hany] at hc
  refine ⟨σ.alloc (.cells [.bool t.tilde, .str t.name]), ?_⟩
  rw [D38_eq]
  simp [ht.one, Trm.v, hc]

theorem pure38 {v : V} {s : SetL} (h : IsSet v s) (t : Trm) : callPure (D ft) 38 [v, t.v] = some (.bool (withinB s.terms t)) := by
  obtain ⟨v', h1, h2⟩ := h.pure
  obtain ⟨σ', h3⟩ := big38 h2 t .empty
  exact callPure_of (by simp only [V.pures, h1, t.pure]) h3 rfl

/-! ## Names of basic types -/

def s57 : Sto := match evalS ft 10 57 [] .empty with
  | some (_, σ) => σ
  | none => .empty

def nInt : List UInt8 := [105, 110, 116]
def nString : List UInt8 := [115, 116, 114, 105, 110, 103]
def nBool : List UInt8 := [98, 111, 111, 108]

theorem big57 : D ft 57 [] .empty = some (.ret (.map 0), s57) := D_known 10 (by kernel_rfl)

theorem blk57 : s57.blk 0 = some (.map [(.str nInt, .bool true, 0), (.str nString, .bool true, 1), (.str nBool, .bool true, 2)] 3) := by kernel_rfl

def basicB (n : List UInt8) : Bool := n == nInt || (n == nString || n == nBool)

theorem look57 (n : List UInt8) : lookupV .str s57 (.bool false) (.map 0) (.str n) false = some (.bool (basicB n)) := by
  unfold lookupV
  simp only [blk57, isKey, findK, keyEq, basicB]
  cases n == nInt <;> cases n == nString <;> cases n == nBool <;> rfl

theorem pure56 (t : Trm) : callPure (D ft) 56 [t.v] = some (.bool (!basicB t.name)) := by
  refine callPure_of (vs' := [t.v]) rfl (v := .bool (!basicB t.name)) (σ := s57) ?_ rfl
  rw [D56_eq, big57]
  simp [Trm.v, look57]

def b2i (b : Bool) : Int := if b then 1 else 0

def rightB (s : SetL) : Bool := (b2i s.all + b2i s.cmp + b2i (decide (0 < s.terms.length)) == 1) && s.terms.all fun t => basicB t.name

theorem big34 {v : V} {s : SetL} (h : IsSet v s) (σ : Sto) : D ft 34 [v] σ = some (.ret (.bool (rightB s)), σ) := by
  obtain ⟨⟨tv, rfl, ht⟩, hl⟩ := h
  have hc := contains36 (fv := .func 56 []) (σ := σ) (fun e => !basicB (trmOf e).name) ht terms_agg (fun e he => by
    obtain ⟨x, _, rfl⟩ := List.mem_map.1 he
    exact appV_pure (ps := [x.v]) rfl (pure56 x)) (by simp; omega)
  have hany : ((s.terms.map Trm.v).any fun e => !basicB (trmOf e).name) = !(s.terms.all fun t => basicB t.name) := by
    rw [List.any_map]
    show (s.terms.any fun t => !basicB t.name) = _
    rw [List.not_all_eq_any_not]
  rw [hany] at hc
  have hd : decide ((0 : Int) < (s.terms.length : Int)) = decide (0 < s.terms.length) := by simp
  rw [D34_eq]
  unfold rightB
  obtain ⟨a, c, ts⟩ := s
  simp only at hc hd ht hl ⊢
  generalize (ts.all fun t => basicB t.name) = ok at hc ⊢
  simp only [boxC_agg, List.all_cons, V.one_bool, ht.one, List.all_nil, Bool.and_self, if_true, Option.bind_some, part_none, List.getElem?_cons_zero, List.getElem?_cons_succ, ht.len, List.length_map, binV_int, intBin_gtr, hd]
  generalize decide (0 < ts.length) = d
  have fill : fillC [V.bool false, V.bool false, V.bool false] [(0, 1, V.bool a), (1, 1, V.bool c), (2, 1, V.bool d)] = some [.bool a, .bool c, .bool d] := rfl
  simp only [fill, Option.bind_some]
  have i0 : indexV 1 3 none (.agg [.bool a, .bool c, .bool d]) (.int .i64 0) = some (.bool a) := rfl
  have i1 : indexV 1 3 none (.agg [.bool a, .bool c, .bool d]) (.int .i64 1) = some (.bool c) := rfl
  have i2 : indexV 1 3 none (.agg [.bool a, .bool c, .bool d]) (.int .i64 2) = some (.bool d) := rfl
  have w1 : wrapI .i64 (0 + 1) = 1 := rfl
  have w2 : wrapI .i64 (1 + 1) = 2 := rfl
  have w3 : wrapI .i64 (2 + 1) = 3 := rfl
  cases a <;> cases c <;> cases d <;> (
    rw [L34_0_eq]; simp only [binV_int, intBin_lss, Option.bind_some, Int.reduceLT, decide_true, condV_t, condV_f, i0, J34_1, J34_0, intBin_add, w1, w2, w3]
    rw [L34_0_eq]; simp only [binV_int, intBin_lss, Option.bind_some, Int.reduceLT, decide_true, condV_t, condV_f, i1, J34_1, J34_0, intBin_add, w1, w2, w3]
    rw [L34_0_eq]; simp only [binV_int, intBin_lss, Option.bind_some, Int.reduceLT, decide_true, condV_t, condV_f, i2, J34_1, J34_0, intBin_add, w1, w2, w3]
    rw [L34_0_eq]; simp [hc, b2i])

end Go.Eng
