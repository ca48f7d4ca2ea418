/- Slices as lists; values by themselves; rooms of the store that stay. -/
import Derived.Test.YtjldgekmjnkofaaE30
set_option linter.unusedVariables false
set_option linter.unusedSimpArgs false
namespace Go.Eng
open Go

/-- A slice of such elements, nil or not. -/
inductive IsSl : V → List V → Prop
  | nsl : IsSl .nsl []
  | sl (o : Own) (es : List V) : IsSl (.sl o es) es

namespace IsSl
variable {s : V} {es : List V}

theorem len (h : IsSl s es) (σ : Sto) : lenV .sl σ s = some (.int .i64 es.length) := by cases h <;> rfl
theorem one (h : IsSl s es) : V.one s = true := by cases h <;> rfl
theorem cells (h : IsSl s es) : V.cells s = [s] := by cases h <;> rfl
theorem idx {pre rest : List V} {e : V} {K : Nat} {k : IntKind} (h : IsSl s (pre ++ e :: rest)) (hc : e.cells.length = K) : indexAddrV K s (.int k pre.length) = some (.vp e.cells) := by
  generalize hl : pre ++ e :: rest = l at h
  cases h with
  | nsl => simp at hl
  | sl o es =>
    subst hl
    simp [indexAddrV, hc]
theorem get (h : IsSl s es) {i : Int} {e : V} {K : Nat} {k : IntKind} (h0 : 0 ≤ i) (he : es[i.toNat]? = some e) (hc : e.cells.length = K) : indexAddrV K s (.int k i) = some (.vp e.cells) := by
  cases h with
  | nsl => simp at he
  | sl o es => simp [indexAddrV, h0, he, hc]
end IsSl

/-- Two rows, one by one. -/
inductive All2 {α β : Type} (P : α → β → Prop) : List α → List β → Prop
  | nil : All2 P [] []
  | cons {a : α} {b : β} {l : List α} {m : List β} : P a b → All2 P l m → All2 P (a :: l) (b :: m)

theorem All2.len {α β : Type} {P : α → β → Prop} {l : List α} {m : List β} (h : All2 P l m) : l.length = m.length := by
  induction h with
  | nil => rfl
  | cons _ _ ih => simp [ih]

theorem All2.mono {α β : Type} {P Q : α → β → Prop} {l : List α} {m : List β} (h : All2 P l m) (hpq : ∀ a b, P a b → Q a b) : All2 Q l m := by
  induction h with
  | nil => exact .nil
  | cons h _ ih => exact .cons (hpq _ _ h) ih

theorem All2.append {α β : Type} {P : α → β → Prop} {l l' : List α} {m m' : List β} (h : All2 P l m) (h' : All2 P l' m') : All2 P (l ++ l') (m ++ m') := by
  induction h with
  | nil => exact h'
  | cons h _ ih => exact .cons h ih

/-- Values by themselves, one by one. -/
theorem pures_of {P : V → V → Prop} : ∀ {es : List V}, (∀ e ∈ es, ∃ e', e.pure = some e' ∧ P e e') → ∃ es', V.pures es = some es' ∧ All2 P es es'
  | [], _ => ⟨[], rfl, .nil⟩
  | e :: es, h => by
    obtain ⟨e', h1, h2⟩ := h e List.mem_cons_self
    obtain ⟨es', h3, h4⟩ := pures_of (es := es) fun x hx => h x (List.mem_cons_of_mem _ hx)
    exact ⟨e' :: es', by simp only [V.pures, h1, h3], .cons h2 h4⟩

theorem IsSl.pure {P : V → V → Prop} {s : V} {es : List V} (hs : IsSl s es) (h : ∀ e ∈ es, ∃ e', e.pure = some e' ∧ P e e') : ∃ s' es', s.pure = some s' ∧ IsSl s' es' ∧ All2 P es es' := by
  cases hs with
  | nsl => exact ⟨.nsl, [], rfl, .nsl, .nil⟩
  | sl o es =>
    obtain ⟨es', h1, h2⟩ := pures_of h
    exact ⟨.sl o.pure es', es', by simp only [V.pure, h1, Option.map_some], .sl _ _, h2⟩

theorem All2.eq {l m : List V} (h : All2 (fun a b : V => a = b) l m) : l = m := by
  induction h with
  | nil => rfl
  | cons h _ ih => rw [h, ih]

/-- The elements are themselves. -/
theorem IsSl.pure_id {s : V} {es : List V} (hs : IsSl s es) (h : ∀ e ∈ es, e.pure = some e) : ∃ s', s.pure = some s' ∧ IsSl s' es := by
  obtain ⟨s', es', h1, h2, h3⟩ := hs.pure (P := fun a b => a = b) fun e he => ⟨e, h e he, rfl⟩
  rw [h3.eq]
  exact ⟨s', h1, h2⟩

theorem All2.mem_right {α β : Type} {P : α → β → Prop} {l : List α} {m : List β} (h : All2 P l m) : ∀ b ∈ m, ∃ a ∈ l, P a b := by
  induction h with
  | nil => intro b hb; cases hb
  | cons h _ ih =>
    intro b hb
    cases hb with
    | head => exact ⟨_, List.mem_cons_self, h⟩
    | tail _ hb =>
      obtain ⟨a, ha, hp⟩ := ih b hb
      exact ⟨a, List.mem_cons_of_mem _ ha, hp⟩

theorem All2.mem_left {α β : Type} {P : α → β → Prop} {l : List α} {m : List β} (h : All2 P l m) : ∀ a ∈ l, ∃ b ∈ m, P a b := by
  induction h with
  | nil => intro b hb; cases hb
  | cons h _ ih =>
    intro b hb
    cases hb with
    | head => exact ⟨_, List.mem_cons_self, h⟩
    | tail _ hb =>
      obtain ⟨a, ha, hp⟩ := ih b hb
      exact ⟨a, List.mem_cons_of_mem _ ha, hp⟩

theorem stC_all {zero cs : List V} {n : Nat} (h1 : cs.length = n) (h2 : zero.length = n) (h3 : cs.all V.one = true) : stC zero 0 n (.agg cs) = some cs := by
  subst h1
  unfold stC
  rw [if_pos ⟨rfl, by simp [h2], h3⟩]
  simp [over, h2]

theorem part_all {cs : List V} {n : Nat} (h : cs.length = n) : part cs 0 (some n) = some (.agg cs) := by
  subst h
  simp

theorem boxC_all {cs : List V} (h : cs.all V.one = true) : boxC (.agg cs) = some cs := by
  exact if_pos h

theorem boxN_all {cs : List V} {n : Nat} (h : cs.length = n) (h3 : cs.all V.one = true) : boxN n (.agg cs) = some cs := by
  exact if_pos (show cs.length = n ∧ _ from ⟨h, h3⟩)

theorem fillD_one {z : V} {cs : List V} {n : Nat} (h : cs.length = n) (h3 : cs.all V.one = true) : fillD n (List.replicate 1 z) [(0, .agg cs)] = some [.agg cs] := by
  show (if cs.length = n ∧ 0 < (List.replicate 1 z).length ∧ cs.all V.one = true then _ else _) = _
  rw [if_pos ⟨h, by simp, h3⟩]
  rfl

/-! ## Calls by themselves -/

theorem callPure_of {cl : Cl} {f : FuncId} {vs vs' : List V} {v v' : V} {σ : Sto} (hp : V.pures vs = some vs') (h : cl f vs' .empty = some (.ret v, σ)) (hv : v.pure = some v') : callPure cl f vs = some v' := by
  unfold callPure
  simp only [hp, h, snap_pure σ v v' hv]

/-- A call by itself that gives a slice in the store. -/
theorem callPure_snap {cl : Cl} {f : FuncId} {vs vs' : List V} {v v' : V} {σ : Sto} (hp : V.pures vs = some vs') (h : cl f vs' .empty = some (.ret v, σ)) (hv : v.snap σ = some v') : callPure cl f vs = some v' := by
  unfold callPure
  simp only [hp, h, hv]

theorem appV_pure {cl : Cl} {f : FuncId} {vs caps : List V} {σ : Sto} {v : V} {ps : List V} (hp : V.pures (vs ++ caps) = some ps) (h : callPure cl f (vs ++ caps) = some v) : appV cl (.func f caps) vs σ = some (.ret v, σ) := by
  unfold appV
  simp only [hp, Option.isSome_some, if_true, h, Option.map_some]

theorem pures_last {l : List V} {v : V} (h : v.pure = none) : V.pures (l ++ [v]) = none := by
  induction l with
  | nil => simp only [List.nil_append, V.pures, h]
  | cons a l ih =>
    simp only [List.cons_append, V.pures, ih]
    cases a.pure <;> rfl

theorem appV_imp {cl : Cl} {f : FuncId} {vs caps : List V} {b o : Nat} {σ : Sto} : appV cl (.func f (caps ++ [.ptr b o])) vs σ = cl f (vs ++ (caps ++ [.ptr b o])) σ := by
  show (if (V.pures (vs ++ (caps ++ [.ptr b o]))).isSome = true then _ else _) = _
  rw [← List.append_assoc, pures_last rfl]
  simp

theorem appV_ptr {cl : Cl} {f : FuncId} {vs : List V} {b o : Nat} {σ : Sto} : appV cl (.func f [.ptr b o]) vs σ = cl f (vs ++ [.ptr b o]) σ := appV_imp (caps := [])

/-! ## Rooms that stay -/

/-- What lay in the store lies there still. -/
def Sto.Sub (σ σ' : Sto) : Prop := ∀ b x, σ.blk b = some x → σ'.blk b = some x

theorem Sto.Sub.refl (σ : Sto) : σ.Sub σ := fun _ _ h => h
theorem Sto.Sub.trans {a b c : Sto} (h : a.Sub b) (k : b.Sub c) : a.Sub c := fun i x hx => k i x (h i x hx)
theorem Sto.blk_next (σ : Sto) (x : Blk) : (σ.alloc x).blk σ.next = some x := by rw [Sto.blk_alloc, if_pos rfl]
theorem Sto.sub_alloc (σ : Sto) (x : Blk) : σ.Sub (σ.alloc x) := fun b y h => by
  rw [Sto.blk_alloc]
  have := Sto.blk_lt h
  rw [if_neg (by omega)]
  exact h

end Go.Eng
