/- Steps of the world and of the store, side by side. -/
import Derived.Test.YtjldgekmjnkofaaE3
set_option linter.unusedVariables false
set_option linter.unusedSimpArgs false
namespace Go.Eng
open Go

/-! ## What is kept of a block that is not touched -/

theorem Holds.congr {σ σ' : Sto} {g g' : Gh} {b B : Nat} (hb : σ'.blk b = σ.blk b) (hi : g'.ι b = g.ι b) (ht : g'.τ b = g.τ b) : Holds σ' g' b B ↔ Holds σ g b B := by
  unfold Holds
  rw [hb, hi, ht]

theorem BlkOk.keep {σ σ' : Sto} {g g' : Gh} {w w' : World} {b : Nat} (h : BlkOk σ g w b) (m : Mon g w g' w') (hb : σ'.blk b = σ.blk b) (hi : g'.ι b = g.ι b) (ht : g'.τ b = g.τ b)
    (hh : ∀ B, Holds σ g b B → w'.heap[B]? = w.heap[B]? ∧ ∀ o, g'.Γ B o → g.Γ B o) : BlkOk σ' g' w' b := by
  unfold BlkOk at *
  unfold Holds at hh
  rw [hb, hi, ht]
  split
  · rename_i cs hx
    rw [hx] at h hh
    obtain ⟨B, d, c, el, h1, h2, h3, h4⟩ := h
    obtain ⟨k1, k2⟩ := hh B ⟨d, h1⟩
    exact ⟨B, d, c, el, h1, k1.trans h2, h3.mono m, fun o ho => h4 o (k2 o ho)⟩
  · rename_i es ck hx
    rw [hx] at h hh
    obtain ⟨B, us, h1, h2, h3, h4⟩ := h
    obtain ⟨k1, k2⟩ := hh B ⟨0, h1⟩
    exact ⟨B, us, h1, k1.trans h2, h3.mono m, fun o ho => h4 o (k2 o ho)⟩
  · rename_i n hx
    rw [hx] at h hh
    obtain ⟨B, mm, c, el, fr, h1, h2, h3, h4⟩ := h
    obtain ⟨k1, k2⟩ := hh B ⟨mm, n, h1⟩
    exact ⟨B, mm, c, el, fr, h1, k1.trans h2, h3, fun o ho hg => h4 o ho (k2 o hg)⟩
  · trivial

theorem Holds.lt {B0 : Nat} {σ : Sto} {g : Gh} {w : World} (h : Inv B0 σ g w) {b B : Nat} (hh : Holds σ g b B) : B < w.heap.size := by
  have := h.blk b
  unfold Holds at hh
  unfold BlkOk at this
  split at hh
  · rename_i cs hx
    rw [hx] at this
    obtain ⟨B', d, c, el, h1, h2, _⟩ := this
    obtain ⟨d', h3⟩ := hh
    rw [h1] at h3
    cases h3
    exact lt_of_heap h2
  · rename_i es ck hx
    rw [hx] at this
    obtain ⟨B', us, h1, h2, _⟩ := this
    obtain ⟨d', h3⟩ := hh
    rw [h1] at h3
    cases h3
    exact lt_of_heap h2
  · rename_i n hx
    rw [hx] at this
    obtain ⟨B', m, c, el, fr, h1, h2, _⟩ := this
    obtain ⟨m', L', h3⟩ := hh
    rw [h1] at h3
    cases h3
    exact lt_of_heap h2
  · exact hh.elim

theorem Holds.blk_lt {σ : Sto} {g : Gh} {b B : Nat} (hh : Holds σ g b B) : b < σ.next := by
  unfold Holds at hh
  split at hh
  all_goals first | exact hh.elim | (rename_i hx; exact Sto.blk_lt hx)

/-- No block of the store is there beyond its end. -/
theorem blk_next (σ : Sto) : σ.blk σ.next = none := by
  cases h : σ.blk σ.next with
  | none => rfl
  | some x => exact absurd (Sto.blk_lt h) (by omega)

theorem Inv.gam_lt {B0 : Nat} {σ : Sto} {g : Gh} {w : World} (h : Inv B0 σ g w) {B o : Nat} (hg : g.Γ B o) : B < w.heap.size := by
  have := h.gamlt B o hg
  obtain ⟨u, hu⟩ := Option.isSome_iff_exists.1 this
  exact World.block_lt_of_cell? w _ hu

/-! ## A new block -/

structure WPush (w : World) (X : Obj) (w' : World) : Prop where
  heap : w'.heap = w.heap.push X
  os : w'.os = w.os
  tape : w'.tape = w.tape
  output : w'.output = w.output

theorem WPush.alloc (w : World) (X : Obj) : WPush w X (w.alloc X) := ⟨rfl, rfl, rfl, rfl⟩
theorem WPush.drew {w : World} {X : Obj} {w' : World} (h : WPush w X w') : WPush w X w'.drew := ⟨h.heap, h.os, h.tape, h.output⟩
theorem WPush.ofDrew {w : World} {X : Obj} {w' : World} (h : WPush w.drew X w') : WPush w X w' := ⟨h.heap, h.os, h.tape, h.output⟩

theorem WPush.old {w w' : World} {X : Obj} (h : WPush w X w') {B : Nat} (hB : B < w.heap.size) : w'.heap[B]? = w.heap[B]? := by
  rw [h.heap, Array.getElem?_push, if_neg (by omega)]
theorem WPush.new {w w' : World} {X : Obj} (h : WPush w X w') : w'.heap[w.heap.size]? = some X := by
  rw [h.heap]; simp
theorem WPush.size {w w' : World} {X : Obj} (h : WPush w X w') : w'.heap.size = w.heap.size + 1 := by
  rw [h.heap]; simp

theorem cell?_congr {w w' : World} {B : Nat} (h : w'.heap[B]? = w.heap[B]?) (o : Nat) : w'.cell? ⟨B, o, none⟩ = w.cell? ⟨B, o, none⟩ := by
  unfold World.cell?; dsimp only; rw [h]

theorem WPush.mon {B0 : Nat} {σ : Sto} {g : Gh} {w w' : World} {X : Obj} (h : WPush w X w') (inv : Inv B0 σ g w) {g' : Gh} (hi : ∀ b x, g.ι b = some x → g'.ι b = some x) (hg : ∀ B o, g.Γ B o → g'.Γ B o)
    (ht : ∀ k B m L, g.τ k = some (B, m, L) → ∃ B' m' L', g'.τ k = some (B', m', L') ∧ L ≤ L' ∧ (L = L' → B' = B ∧ m' = m)) : Mon g w g' w' where
  iota := hi
  gam := hg
  tau := ht
  cell := fun B o ho => cell?_congr (h.old (inv.gam_lt ho)) o
  kind := fun B c el fr hB => ⟨c, (h.old (lt_of_heap hB)).trans hB, rfl⟩
  size := by rw [h.size]; omega
  os := h.os
  tape := h.tape
  output := h.output

def Gh.snap (g : Gh) (B n : Nat) : Gh := { g with Γ := fun B' o => g.Γ B' o ∨ (B' = B ∧ o < n) }
def Gh.own (g : Gh) (b B d : Nat) : Gh := { g with ι := fun b' => if b' = b then some (B, d) else g.ι b' }
def Gh.tokn (g : Gh) (k B m n : Nat) : Gh := { g with τ := fun k' => if k' = k then some (B, m, n) else g.τ k' }

/-- Behind a new block: the store turns at most at one block, bx. -/
theorem Inv.push {B0 : Nat} {σ σ' : Sto} {g g' : Gh} {w w' : World} {X : Obj} (inv : Inv B0 σ g w) (p : WPush w X w') (m : Mon g w g' w') (bx : Nat)
    (hblk : ∀ b, b ≠ bx → σ'.blk b = σ.blk b) (hi : ∀ b, b ≠ bx → g'.ι b = g.ι b) (ht : ∀ b, b ≠ bx → g'.τ b = g.τ b)
    (hg : ∀ B o, g'.Γ B o → g.Γ B o ∨ B = w.heap.size) (hgs : ∀ o, g'.Γ w.heap.size o → (w'.cell? ⟨w.heap.size, o, none⟩).isSome = true)
    (hx : BlkOk σ' g' w' bx) (hxh : ∀ B, Holds σ' g' bx B → B = w.heap.size)
    (hil : ∀ x, g'.ι bx = some x → bx < σ'.next) (htl : ∀ x, g'.τ bx = some x → bx < σ'.next) (hn : σ.next ≤ σ'.next) :
    Inv B0 σ' g' w' ∧ Ext σ g w σ' g' w' := by
  have hold : ∀ b B, b ≠ bx → (Holds σ' g' b B ↔ Holds σ g b B) := fun b B hne => Holds.congr (hblk b hne) (hi b hne) (ht b hne)
  refine ⟨⟨fun b => ?_, fun b b' B h1 h2 => ?_, fun b B h1 => ?_, fun B o ho => ?_, fun b x hb => ?_, fun k x hk => ?_, ?_⟩, { m with rest := fun B hB _ => p.old hB, news := fun B hB hno => ⟨fun b hb => ?_, fun o ho => ?_⟩, next := hn }⟩
  · by_cases hb : b = bx
    · subst hb; exact hx
    · refine (inv.blk b).keep m (hblk b hb) (hi b hb) (ht b hb) fun B hB => ⟨p.old (hB.lt inv), fun o ho => ?_⟩
      rcases hg B o ho with h | h
      · exact h
      · have := hB.lt inv; omega
  · by_cases hb : b = bx
    · by_cases hb' : b' = bx
      · rw [hb, hb']
      · subst hb
        have := hxh B h1
        have h3 := ((hold b' B hb').1 h2).lt inv
        omega
    · by_cases hb' : b' = bx
      · subst hb'
        have := hxh B h2
        have h3 := ((hold b B hb).1 h1).lt inv
        omega
      · exact inv.sep b b' B ((hold b B hb).1 h1) ((hold b' B hb').1 h2)
  · by_cases hb : b = bx
    · subst hb
      rw [hxh B h1]
      exact inv.b0
    · exact inv.base b B ((hold b B hb).1 h1)
  · rcases hg B o ho with h | h
    · rw [m.cell B o h]; exact inv.gamlt B o h
    · subst h; exact hgs o ho
  · by_cases hb' : b = bx
    · subst hb'; exact hil x hb
    · rw [hi b hb'] at hb; exact Nat.lt_of_lt_of_le (inv.iotalt b x hb) hn
  · by_cases hk' : k = bx
    · subst hk'; exact htl x hk
    · rw [ht k hk'] at hk; exact Nat.lt_of_lt_of_le (inv.tault k x hk) hn
  · rw [p.size]; have := inv.b0; omega
  · by_cases hb' : b = bx
    · subst hb'
      have := hxh B hb
      omega
    · exact hno b ((hold b B hb').1 hb)
  · rcases hg B o ho with h | h
    · exact h
    · omega

section
variable {B0 : Nat} {σ : Sto} {g : Gh} {w w' : World}

/-- A block of which the store knows nothing. -/
theorem step_priv {X : Obj} (inv : Inv B0 σ g w) (p : WPush w X w') : Inv B0 σ g w' ∧ Ext σ g w σ g w' :=
  inv.push p (p.mon inv (fun _ _ h => h) (fun _ _ h => h) fun _ B m L h => ⟨B, m, L, h, Nat.le_refl _, fun _ => ⟨rfl, rfl⟩⟩) σ.next (fun _ _ => rfl) (fun _ _ => rfl) (fun _ _ => rfl) (fun _ _ h => Or.inl h)
    (fun o ho => by have := inv.gam_lt ho; omega) (by unfold BlkOk; rw [blk_next]; trivial) (fun B h => by unfold Holds at h; rw [blk_next] at h; exact h.elim)
    (fun x h => by have := inv.iotalt _ _ h; omega) (fun x h => by have := inv.tault _ _ h; omega) (Nat.le_refl _)

/-- A block whose first n cells never turn. -/
theorem step_snap {C : Array Value} {el : TypeId} {fr : Nat × Nat} (inv : Inv B0 σ g w) (p : WPush w (.cells C el fr) w') (n : Nat) (hn : n ≤ C.size) :
    Inv B0 σ (g.snap w.heap.size n) w' ∧ Ext σ g w σ (g.snap w.heap.size n) w' :=
  inv.push p (p.mon inv (fun _ _ h => h) (fun _ _ h => Or.inl h) fun _ B m L h => ⟨B, m, L, h, Nat.le_refl _, fun _ => ⟨rfl, rfl⟩⟩) σ.next (fun _ _ => rfl) (fun _ _ => rfl) (fun _ _ => rfl)
    (fun _ _ h => h.imp id (fun h => h.1)) (fun o ho => by
      rcases ho with h | h
      · have := inv.gam_lt h; omega
      · rw [cell?_of_heap p.new]; simp; omega)
    (by unfold BlkOk; rw [blk_next]; trivial) (fun B h => by unfold Holds at h; rw [blk_next] at h; exact h.elim)
    (fun x h => by have := inv.iotalt _ _ h; omega) (fun x h => by have := inv.tault _ _ h; omega) (Nat.le_refl _)

theorem step_own {C : Array Value} {el : TypeId} {cs : List V} (inv : Inv B0 σ g w) (p : WPush w (.cells C el (0, 0)) w') (hr : Reads g w C 0 cs) :
    Inv B0 (σ.alloc (.cells cs)) (g.own σ.next w.heap.size 0) w' ∧ Ext σ g w (σ.alloc (.cells cs)) (g.own σ.next w.heap.size 0) w' := by
  have hno : ∀ b x, g.ι b = some x → (g.own σ.next w.heap.size 0).ι b = some x := fun b x h => by
    have := inv.iotalt b x h
    simp only [Gh.own]
    rw [if_neg (by omega)]; exact h
  have m : Mon g w (g.own σ.next w.heap.size 0) w' := p.mon inv hno (fun _ _ h => h) fun _ B m L h => ⟨B, m, L, h, Nat.le_refl _, fun _ => ⟨rfl, rfl⟩⟩
  refine inv.push p m σ.next (fun b hb => by rw [Sto.blk_alloc, if_neg hb]) (fun b hb => by simp only [Gh.own]; rw [if_neg hb]) (fun _ _ => rfl) (fun _ _ h => Or.inl h)
    (fun o ho => by have := inv.gam_lt (show g.Γ _ o from ho); omega) ?_ (fun B h => ?_) (fun x h => by simp) (fun x h => by simp) (by simp)
  · unfold BlkOk
    rw [Sto.blk_alloc, if_pos rfl]
    exact ⟨w.heap.size, 0, C, el, by simp [Gh.own], p.new, hr.mono m, fun o ho => by have := inv.gam_lt (show g.Γ _ o from ho); omega⟩
  · unfold Holds at h
    rw [Sto.blk_alloc, if_pos rfl] at h
    obtain ⟨d, h⟩ := h
    simp only [Gh.own, if_true, Option.some.injEq, Prod.mk.injEq] at h
    exact h.1.symm

theorem step_map (inv : Inv B0 σ g w) (p : WPush w (.map #[] 0) w') :
    Inv B0 (σ.alloc (.map [] 0)) (g.own σ.next w.heap.size 0) w' ∧ Ext σ g w (σ.alloc (.map [] 0)) (g.own σ.next w.heap.size 0) w' := by
  have hno : ∀ b x, g.ι b = some x → (g.own σ.next w.heap.size 0).ι b = some x := fun b x h => by
    have := inv.iotalt b x h
    simp only [Gh.own]
    rw [if_neg (by omega)]; exact h
  have m : Mon g w (g.own σ.next w.heap.size 0) w' := p.mon inv hno (fun _ _ h => h) fun _ B m L h => ⟨B, m, L, h, Nat.le_refl _, fun _ => ⟨rfl, rfl⟩⟩
  refine inv.push p m σ.next (fun b hb => by rw [Sto.blk_alloc, if_neg hb]) (fun b hb => by simp only [Gh.own]; rw [if_neg hb]) (fun _ _ => rfl) (fun _ _ h => Or.inl h)
    (fun o ho => by have := inv.gam_lt (show g.Γ _ o from ho); omega) ?_ (fun B h => ?_) (fun x h => by simp) (fun x h => by simp) (by simp)
  · unfold BlkOk
    rw [Sto.blk_alloc, if_pos rfl]
    exact ⟨w.heap.size, #[], by simp [Gh.own], p.new, ⟨rfl, fun j k v n hj => by simp at hj⟩, fun o ho => by have := inv.gam_lt (show g.Γ _ o from ho); omega⟩
  · unfold Holds at h
    rw [Sto.blk_alloc, if_pos rfl] at h
    obtain ⟨d, h⟩ := h
    simp only [Gh.own, if_true, Option.some.injEq, Prod.mk.injEq] at h
    exact h.1.symm

/-- A new row with room behind it: a new right, or one that is passed on. -/
theorem step_tok {C : Array Value} {el : TypeId} (inv : Inv B0 σ g w) (p : WPush w (.cells C el (0, 0)) w') (m n : Nat) (hm : m ≤ C.size) :
    Inv B0 (σ.alloc (.tok n)) ((g.snap w.heap.size m).tokn σ.next w.heap.size m n) w' ∧ Ext σ g w (σ.alloc (.tok n)) ((g.snap w.heap.size m).tokn σ.next w.heap.size m n) w' := by
  have hmon : Mon g w ((g.snap w.heap.size m).tokn σ.next w.heap.size m n) w' := p.mon inv (fun _ _ h => h) (fun _ _ h => Or.inl h) fun k B m L h => ⟨B, m, L, by
    have := inv.tault k _ h
    simp only [Gh.tokn, Gh.snap]
    rw [if_neg (by omega)]; exact h, Nat.le_refl _, fun _ => ⟨rfl, rfl⟩⟩
  refine inv.push p hmon σ.next (fun b hb => by rw [Sto.blk_alloc, if_neg hb]) (fun _ _ => rfl) (fun b hb => by simp only [Gh.tokn, Gh.snap]; rw [if_neg hb]) (fun _ _ h => h.imp id (fun h => h.1))
    (fun o ho => ?_) ?_ (fun B h => ?_) (fun x h => by simp) (fun x h => by simp) (by simp)
  · rcases ho with h | h
    · have := inv.gam_lt h; omega
    · rw [cell?_of_heap p.new]; simp; omega
  · unfold BlkOk
    rw [Sto.blk_alloc, if_pos rfl]
    refine ⟨w.heap.size, m, C, el, (0, 0), by simp [Gh.tokn], p.new, Or.inl rfl, fun o ho h => ?_⟩
    rcases h with h | h
    · have := inv.gam_lt h; omega
    · omega
  · unfold Holds at h
    rw [Sto.blk_alloc, if_pos rfl] at h
    obtain ⟨m', L, h⟩ := h
    simp only [Gh.tokn, if_true, Option.some.injEq, Prod.mk.injEq] at h
    exact h.1.symm

theorem step_tokmove {C : Array Value} {el : TypeId} {k n : Nat} (inv : Inv B0 σ g w) (p : WPush w (.cells C el (0, 0)) w') (hk : σ.blk k = some (.tok n)) (m n' : Nat) (hm : m ≤ C.size) (hn : n < n') :
    Inv B0 (σ.upd k (.tok n')) ((g.snap w.heap.size m).tokn k w.heap.size m n') w' ∧ Ext σ g w (σ.upd k (.tok n')) ((g.snap w.heap.size m).tokn k w.heap.size m n') w' := by
  have hkn := Sto.blk_lt hk
  obtain ⟨Bk, mk, ck, elk, frk, hτ, _⟩ := inv.toks hk
  have hmon : Mon g w ((g.snap w.heap.size m).tokn k w.heap.size m n') w' := p.mon inv (fun _ _ h => h) (fun _ _ h => Or.inl h) fun k' B m1 L h => by
    by_cases he : k' = k
    · subst he
      rw [hτ] at h
      cases h
      exact ⟨w.heap.size, m, n', by simp [Gh.tokn], by omega, fun e => by omega⟩
    · exact ⟨B, m1, L, by simp only [Gh.tokn, Gh.snap]; rw [if_neg he]; exact h, Nat.le_refl _, fun _ => ⟨rfl, rfl⟩⟩
  refine inv.push p hmon k (fun b hb => by rw [Sto.blk_upd, if_neg (fun e => hb e.1)]) (fun _ _ => rfl) (fun b hb => by simp only [Gh.tokn, Gh.snap]; rw [if_neg hb]) (fun _ _ h => h.imp id (fun h => h.1))
    (fun o ho => ?_) ?_ (fun B h => ?_) (fun x h => by simpa using hkn) (fun x h => by simpa using hkn) (by simp)
  · rcases ho with h | h
    · have := inv.gam_lt h; omega
    · rw [cell?_of_heap p.new]; simp; omega
  · unfold BlkOk
    rw [Sto.blk_upd, if_pos ⟨rfl, hkn⟩]
    refine ⟨w.heap.size, m, C, el, (0, 0), by simp [Gh.tokn], p.new, Or.inl rfl, fun o ho h => ?_⟩
    rcases h with h | h
    · have := inv.gam_lt h; omega
    · omega
  · unfold Holds at h
    rw [Sto.blk_upd, if_pos ⟨rfl, hkn⟩] at h
    obtain ⟨m', L, h⟩ := h
    simp only [Gh.tokn, if_true, Option.some.injEq, Prod.mk.injEq] at h
    exact h.1.symm

end

end Go.Eng
