/- Steps of the world that keep the relation. -/
import Derived.Test.YtjldgekmjnkofaaE2
set_option linter.unusedVariables false
set_option linter.unusedSimpArgs false
namespace Go.Eng
open Go

/-! ## Rows of cells -/

theorem cell?_of_heap {w : World} {B : Nat} {c : Array Value} {el : TypeId} {fr : Nat × Nat} (h : w.heap[B]? = some (Obj.cells c el fr)) (o : Nat) : w.cell? ⟨B, o, none⟩ = c[o]? := by
  simp [World.cell?, h]

theorem heap_of_cell? {w : World} {B o : Nat} {u : Value} (h : w.cell? ⟨B, o, none⟩ = some u) : ∃ c el fr, w.heap[B]? = some (Obj.cells c el fr) ∧ c[o]? = some u := by
  unfold World.cell? at h
  dsimp only at h
  split at h
  · rename_i c el fr hh
    exact ⟨c, el, fr, hh, by simpa using h⟩
  · cases h

theorem lt_of_heap {w : World} {B : Nat} {x : Obj} (h : w.heap[B]? = some x) : B < w.heap.size := by
  rcases Nat.lt_or_ge B w.heap.size with h' | h'
  · exact h'
  · rw [Array.getElem?_eq_none h'] at h; cases h

/-- Values written into a row, one behind the other. -/
def wrow (c : Array Value) (o : Nat) : List Value → Array Value
  | [] => c
  | v :: vs => wrow (c.setIfInBounds o v) (o + 1) vs

@[simp] theorem wrow_size (vs : List Value) : ∀ (c : Array Value) (o : Nat), (wrow c o vs).size = c.size := by
  induction vs with
  | nil => intro c o; rfl
  | cons v vs ih => intro c o; simp [wrow, ih]

theorem wrow_out (vs : List Value) : ∀ (c : Array Value) (o j : Nat), (j < o ∨ o + vs.length ≤ j) → (wrow c o vs)[j]? = c[j]? := by
  induction vs with
  | nil => intro c o j _; rfl
  | cons v vs ih =>
    intro c o j h
    simp only [List.length_cons] at h
    unfold wrow
    rw [ih _ _ _ (by omega), Array.getElem?_setIfInBounds_ne (by omega)]

theorem wrow_in (vs : List Value) : ∀ (c : Array Value) (o i : Nat) (u : Value), o + vs.length ≤ c.size → vs[i]? = some u → (wrow c o vs)[o + i]? = some u := by
  induction vs with
  | nil => intro c o i u _ h; simp at h
  | cons v vs ih =>
    intro c o i u hsz h
    simp only [List.length_cons] at hsz
    unfold wrow
    cases i with
    | zero =>
      rw [wrow_out _ _ _ _ (by omega)]
      simp at h
      subst h
      rw [Nat.add_zero]
      have : o < c.size := by omega
      simp [this]
    | succ i =>
      have e : o + (i + 1) = (o + 1) + i := by omega
      rw [e]
      exact ih _ _ _ _ (by simp; omega) (by simpa using h)

/-- A world with another object in a block's place. -/
def setB (w : World) (B : Nat) (x : Obj) : World := { w with heap := w.heap.setIfInBounds B x }

theorem heap_setB (w : World) (B : Nat) (x : Obj) (k : Nat) : (setB w B x).heap[k]? = if k = B ∧ B < w.heap.size then some x else w.heap[k]? := by
  unfold setB
  dsimp only
  by_cases h : k = B
  · subst h
    by_cases hk : k < w.heap.size
    · simp [hk]
    · simp [hk]
  · rw [Array.getElem?_setIfInBounds_ne (fun e => h e.symm), if_neg (fun e => h e.1)]

@[simp] theorem size_setB (w : World) (B : Nat) (x : Obj) : (setB w B x).heap.size = w.heap.size := by simp [setB]

theorem setCell_eq {w : World} {B o : Nat} {c : Array Value} {el : TypeId} {fr : Nat × Nat} (h : w.heap[B]? = some (Obj.cells c el fr)) (v : Value) :
    w.setCell ⟨B, o, none⟩ v = setB w B (.cells (c.setIfInBounds o v) el fr) := by
  unfold World.setCell setB
  congr 1
  apply Array.ext_getElem?
  intro i
  have hlt := lt_of_heap h
  rw [Array.getElem?_modify]
  by_cases hi : B = i
  · subst hi
    rw [if_pos rfl, h]
    simp [hlt]
  · rw [if_neg hi, Array.getElem?_setIfInBounds_ne hi]

theorem setB_setB (w : World) (B : Nat) (x y : Obj) : setB (setB w B x) B y = setB w B y := by
  unfold setB
  congr 1
  apply Array.ext_getElem?
  intro i
  by_cases hi : B = i
  · subst hi; simp
  · simp [Array.getElem?_setIfInBounds_ne hi]

theorem setB_self {w : World} {B : Nat} {x : Obj} (h : w.heap[B]? = some x) : setB w B x = w := by
  unfold setB
  have : w.heap.setIfInBounds B x = w.heap := by
    apply Array.ext_getElem?
    intro i
    have hlt := lt_of_heap h
    by_cases hi : B = i
    · subst hi; simp [hlt, ← h]
    · simp [Array.getElem?_setIfInBounds_ne hi]
  rw [this]

section
variable {P : Program}

theorem run_loadCellsFrom (B o : Nat) (f : Nat → Value) : ∀ (n i : Nat) (acc : Array Value) (w : World), (∀ j, j < n → w.cell? ⟨B, o + (i + j), none⟩ = some (f (i + j))) →
    ∃ us, (loadCellsFrom ⟨B, o, none⟩ i n acc).run P w = .ok us w ∧ us.size = acc.size + n ∧ (∀ j, j < acc.size → us[j]? = acc[j]?) ∧ ∀ j, j < n → us[acc.size + j]? = some (f (i + j)) := by
  intro n
  induction n with
  | zero => intro i acc w _; exact ⟨acc, rfl, by simp, fun _ _ => rfl, fun j hj => absurd hj (by omega)⟩
  | succ n ih =>
    intro i acc w h
    have h0 := h 0 (by omega)
    rw [Nat.add_zero] at h0
    obtain ⟨us, hr, hs, ho, hn⟩ := ih (i + 1) (acc.push (f i)) w (fun j hj => by have := h (j + 1) (by omega); rw [show i + 1 + j = i + (j + 1) from by omega]; exact this)
    refine ⟨us, ?_, by rw [hs, Array.size_push]; omega, fun j hj => ?_, fun j hj => ?_⟩
    · unfold loadCellsFrom
      simp only [Sem.run_bind, run_load, Addr.add_lit]
      rw [h0]
      exact hr
    · rw [ho j (by rw [Array.size_push]; omega)]
      rw [Array.getElem?_push, if_neg (by omega)]
    · cases j with
      | zero =>
        rw [Nat.add_zero, ho _ (by rw [Array.size_push]; omega)]
        simp
      | succ j =>
        have := hn j (by omega)
        rw [Array.size_push, show acc.size + 1 + j = acc.size + (j + 1) from by omega, show i + 1 + j = i + (j + 1) from by omega] at this
        exact this

theorem run_loadCells (B o n : Nat) (f : Nat → Value) (w : World) (h : ∀ j, j < n → w.cell? ⟨B, o + j, none⟩ = some (f j)) :
    ∃ us, (loadCells ⟨B, o, none⟩ n).run P w = .ok us w ∧ us.size = n ∧ ∀ j, j < n → us[j]? = some (f j) := by
  obtain ⟨us, h1, h2, _, h4⟩ := run_loadCellsFrom (P := P) B o f n 0 #[] w (fun j hj => by simpa using h j hj)
  exact ⟨us, h1, by simpa using h2, fun j hj => by simpa using h4 j hj⟩

theorem run_storeCells (B o : Nat) (el : TypeId) (fr : Nat × Nat) : ∀ (vs : List Value) (i : Nat) (c : Array Value) (w : World), w.heap[B]? = some (Obj.cells c el fr) → o + i + vs.length ≤ c.size →
    (fr = (0, 0) ∨ c.size ≤ fr.1) → (∀ v ∈ vs, v.oneCell' = true) →
    (storeCells ⟨B, o, none⟩ vs i).run P w = .ok () (setB w B (.cells (wrow c (o + i) vs) el fr)) := by
  intro vs
  induction vs with
  | nil => intro i c w h _ _ _; simp only [storeCells, Sem.run_pure, wrow]; rw [setB_self h]
  | cons v vs ih =>
    intro i c w h hsz hfr hone
    simp only [List.length_cons] at hsz
    have hlt := lt_of_heap h
    have hc : w.cell? ⟨B, o + i, none⟩ = some (c.getD (o + i) undef) := by
      rw [cell?_of_heap h]
      simp [Array.getElem?_eq_getElem (show o + i < c.size by omega)]
    have hf : w.frozen? ⟨B, o + i, none⟩ = false := by
      simp only [World.frozen?, h]
      rcases hfr with rfl | hfr
      · simp
      · simp; omega
    unfold storeCells
    simp only [Sem.run_bind, Addr.add_lit]
    rw [run_store P w _ v .plain (hone v (by simp)), hc]
    simp only [hf, Bool.false_eq_true, if_false, Result.andThen_ok]
    rw [setCell_eq h]
    have h2 : (setB w B (.cells (c.setIfInBounds (o + i) v) el fr)).heap[B]? = some (Obj.cells (c.setIfInBounds (o + i) v) el fr) := by
      rw [heap_setB, if_pos ⟨rfl, hlt⟩]
    rw [ih (i + 1) _ _ h2 (by simp; omega) (by simpa using hfr) (fun u hu => hone u (by simp [hu])), setB_setB]
    rfl
end

theorem VR.oneCell {g : Gh} {w : World} {v : V} {u : Value} (h : VR g w v u) (ho : v.one = true) : u.oneCell' = true := by
  cases h <;> first | rfl | (simp [V.one] at ho; done)

theorem VR.cells_one {g : Gh} {w : World} {v : V} {u : Value} (h : VR g w v u) (ho : v.cells.all V.one = true) : u.cells.size = v.cells.length ∧ ∀ (j : Nat) x, v.cells[j]? = some x → ∃ y, u.cells[j]? = some y ∧ VR g w x y ∧ y.oneCell' = true := by
  cases h with
  | agg cs us hn hv =>
    refine ⟨hn, fun j x hj => ?_⟩
    simp only [V.cells] at hj ho
    have hlt : j < cs.length := by
      rcases Nat.lt_or_ge j cs.length with h' | h'
      · exact h'
      · rw [List.getElem?_eq_none h'] at hj; cases hj
    have hx := hv j x hj
    refine ⟨us.getD j Go.undef, ?_, hx, hx.oneCell ?_⟩
    · simp [Value.cells, show j < us.size by omega]
    · exact List.all_eq_true.1 ho x (List.mem_of_getElem? hj)
  | undef => simp [V.cells, V.one] at ho
  | tup => simp [V.cells, V.one] at ho
  | _ =>
    refine ⟨rfl, fun j x hj => ?_⟩
    cases j with
    | succ j => simp [V.cells] at hj
    | zero =>
      simp [V.cells] at hj
      subst hj
      exact ⟨_, rfl, by constructor <;> assumption, rfl⟩

end Go.Eng
