/- Steps that write into a block that is there. -/
import Derived.Test.YtjldgekmjnkofaaE4
set_option linter.unusedVariables false
set_option linter.unusedSimpArgs false
namespace Go.Eng
open Go

structure WSet (w : World) (Bx : Nat) (X : Obj) (w' : World) : Prop where
  other : ∀ k, k ≠ Bx → w'.heap[k]? = w.heap[k]?
  same : w'.heap[Bx]? = some X
  size : w'.heap.size = w.heap.size
  os : w'.os = w.os
  tape : w'.tape = w.tape
  output : w'.output = w.output

theorem WSet.setB {w : World} {B : Nat} (hB : B < w.heap.size) (X : Obj) : WSet w B X (setB w B X) :=
  ⟨fun k hk => by rw [heap_setB, if_neg (fun e => hk e.1)], by rw [heap_setB, if_pos ⟨rfl, hB⟩], by simp, rfl, rfl, rfl⟩

theorem WSet.mon {B0 : Nat} {σ : Sto} {g : Gh} {w w' : World} {Bx : Nat} {X : Obj} (p : WSet w Bx X w') (_inv : Inv B0 σ g w) {g' : Gh} (hi : ∀ b x, g.ι b = some x → g'.ι b = some x) (hg : ∀ B o, g.Γ B o → g'.Γ B o)
    (ht : ∀ k B m L, g.τ k = some (B, m, L) → ∃ B' m' L', g'.τ k = some (B', m', L') ∧ L ≤ L' ∧ (L = L' → B' = B ∧ m' = m))
    (hc : ∀ o, g.Γ Bx o → w'.cell? ⟨Bx, o, none⟩ = w.cell? ⟨Bx, o, none⟩)
    (hk : ∀ c el fr, w.heap[Bx]? = some (Obj.cells c el fr) → ∃ c', X = Obj.cells c' el fr ∧ c'.size = c.size) : Mon g w g' w' where
  iota := hi
  gam := hg
  tau := ht
  cell := fun B o ho => by
    by_cases h : B = Bx
    · subst h; exact hc o ho
    · exact cell?_congr (p.other B h) o
  kind := fun B c el fr hB => by
    by_cases h : B = Bx
    · subst h
      obtain ⟨c', hX, hs⟩ := hk c el fr hB
      exact ⟨c', by rw [p.same, hX], hs⟩
    · exact ⟨c, (p.other B h).trans hB, rfl⟩
  size := by rw [p.size]; omega
  os := p.os
  tape := p.tape
  output := p.output

theorem Inv.turn {B0 : Nat} {σ σ' : Sto} {g g' : Gh} {w w' : World} {Bx : Nat} {X : Obj} (inv : Inv B0 σ g w) (p : WSet w Bx X w') (m : Mon g w g' w') (tch : Nat → Prop)
    (hblk : ∀ b, ¬ tch b → σ'.blk b = σ.blk b) (hi : ∀ b, ¬ tch b → g'.ι b = g.ι b) (ht : ∀ b, ¬ tch b → g'.τ b = g.τ b)
    (hfree : ∀ b B, ¬ tch b → Holds σ g b B → B ≠ Bx) (bh : Nat) (hheld : Holds σ g bh Bx)
    (hg : ∀ B o, g'.Γ B o → g.Γ B o ∨ B = Bx) (hgs : ∀ o, g'.Γ Bx o → (w'.cell? ⟨Bx, o, none⟩).isSome = true)
    (hx : ∀ b, tch b → BlkOk σ' g' w' b) (hxh : ∀ b B, tch b → Holds σ' g' b B → B = Bx) (huni : ∀ b b', tch b → tch b' → Holds σ' g' b Bx → Holds σ' g' b' Bx → b = b')
    (hil : ∀ b x, tch b → g'.ι b = some x → b < σ'.next) (htl : ∀ b x, tch b → g'.τ b = some x → b < σ'.next) (hn : σ.next ≤ σ'.next) :
    Inv B0 σ' g' w' ∧ Ext σ g w σ' g' w' := by
  have hold : ∀ b B, ¬ tch b → (Holds σ' g' b B ↔ Holds σ g b B) := fun b B hne => Holds.congr (hblk b hne) (hi b hne) (ht b hne)
  have hBx : B0 ≤ Bx := inv.base bh Bx hheld
  refine ⟨⟨fun b => ?_, fun b b' B h1 h2 => ?_, fun b B h1 => ?_, fun B o ho => ?_, fun b x hb => ?_, fun k x hk => ?_, by rw [p.size]; exact inv.b0⟩,
    { m with rest := fun B hB hno => ?_, news := fun B hB hno => ⟨fun b hb => ?_, fun o ho => ?_⟩, next := hn }⟩
  · by_cases hb : tch b
    · exact hx b hb
    · exact (inv.blk b).keep m (hblk b hb) (hi b hb) (ht b hb) fun B hB => ⟨p.other B (hfree b B hb hB), fun o ho => (hg B o ho).resolve_right (hfree b B hb hB)⟩
  · by_cases hb : tch b
    · by_cases hb' : tch b'
      · have := hxh b B hb h1
        subst this
        exact huni b b' hb hb' h1 h2
      · have := hxh b B hb h1
        exact absurd this (hfree b' B hb' ((hold b' B hb').1 h2))
    · by_cases hb' : tch b'
      · have := hxh b' B hb' h2
        exact absurd this (hfree b B hb ((hold b B hb).1 h1))
      · exact inv.sep b b' B ((hold b B hb).1 h1) ((hold b' B hb').1 h2)
  · by_cases hb : tch b
    · rw [hxh b B hb h1]; exact hBx
    · exact inv.base b B ((hold b B hb).1 h1)
  · rcases hg B o ho with h | h
    · rw [m.cell B o h]; exact inv.gamlt B o h
    · subst h; exact hgs o ho
  · by_cases hb' : tch b
    · exact hil b x hb' hb
    · rw [hi b hb'] at hb; exact Nat.lt_of_lt_of_le (inv.iotalt b x hb) hn
  · by_cases hk' : tch k
    · exact htl k x hk' hk
    · rw [ht k hk'] at hk; exact Nat.lt_of_lt_of_le (inv.tault k x hk) hn
  · exact p.other B (fun e => hno bh (e ▸ hheld))
  · by_cases hb' : tch b
    · have := hxh b B hb' hb
      exact hno bh (this ▸ hheld)
    · exact hno b ((hold b B hb').1 hb)
  · exact (hg B o ho).resolve_right (fun e => hno bh (e ▸ hheld))

theorem over_length (cs new : List V) (off : Nat) (h : off + new.length ≤ cs.length) : (over cs off new).length = cs.length := by
  unfold over
  simp; omega

theorem over_get (cs new : List V) (off j : Nat) (h : off + new.length ≤ cs.length) :
    (over cs off new)[j]? = if j < off then cs[j]? else if j < off + new.length then new[j - off]? else cs[j]? := by
  unfold over
  have hl : (cs.take off).length = off := by simp; omega
  by_cases h1 : j < off
  · rw [if_pos h1, List.append_assoc, List.getElem?_append_left (by omega), List.getElem?_take, if_pos h1]
  · rw [if_neg h1, List.append_assoc, List.getElem?_append_right (by omega), hl]
    by_cases h2 : j < off + new.length
    · rw [if_pos h2, List.getElem?_append_left (by omega)]
    · rw [if_neg h2, List.getElem?_append_right (by omega), List.getElem?_drop]
      congr 1; omega

/-- Some of a row is written over: it reads as the list that is written over. -/
theorem Reads.over {g : Gh} {w : World} {c : Array Value} {d : Nat} {cs new : List V} {us : List Value} (h : Reads g w c d cs) (off : Nat) (hoff : off + new.length ≤ cs.length) (hc : d + cs.length ≤ c.size)
    (hl : us.length = new.length) (hn : ∀ (j : Nat) v, new[j]? = some v → v.one = true ∧ ∃ u, us[j]? = some u ∧ VR g w v u) : Reads g w (wrow c (d + off) us) d (over cs off new) := by
  intro j v hj
  rw [over_get _ _ _ _ hoff] at hj
  by_cases h1 : j < off
  · rw [if_pos h1] at hj
    obtain ⟨k1, u, k2, k3⟩ := h j v hj
    exact ⟨k1, u, by rw [wrow_out _ _ _ _ (by omega)]; exact k2, k3⟩
  · rw [if_neg h1] at hj
    by_cases h2 : j < off + new.length
    · rw [if_pos h2] at hj
      obtain ⟨k1, u, k2, k3⟩ := hn _ _ hj
      refine ⟨k1, u, ?_, k3⟩
      have := wrow_in us c (d + off) (j - off) u (by omega) k2
      rw [show d + off + (j - off) = d + j from by omega] at this
      exact this
    · rw [if_neg h2] at hj
      obtain ⟨k1, u, k2, k3⟩ := h j v hj
      exact ⟨k1, u, by rw [wrow_out _ _ _ _ (by omega)]; exact k2, k3⟩

theorem Reads.size {g : Gh} {w : World} {c : Array Value} {d : Nat} {cs : List V} (h : Reads g w c d cs) (hne : cs ≠ []) : d + cs.length ≤ c.size := by
  have hl : 0 < cs.length := List.length_pos_iff.2 hne
  obtain ⟨_, u, h2, _⟩ := h (cs.length - 1) cs[cs.length - 1] (List.getElem?_eq_getElem (by omega))
  have := (Array.getElem?_eq_some_iff.1 h2).1
  omega

section
variable {B0 : Nat} {σ : Sto} {g : Gh} {w : World}

/-- A store into a block of the store's. -/
theorem step_store {b B d : Nat} {c : Array Value} {el : TypeId} {cs new : List V} {us : List Value} (inv : Inv B0 σ g w) (hb : σ.blk b = some (.cells cs)) (hi : g.ι b = some (B, d))
    (hh : w.heap[B]? = some (Obj.cells c el (0, 0))) (hr : Reads g w c d cs) (hgm : ∀ o, ¬ g.Γ B o) (off : Nat) (hoff : off + new.length ≤ cs.length) (hl : us.length = new.length)
    (hn : ∀ (j : Nat) v, new[j]? = some v → v.one = true ∧ ∃ u, us[j]? = some u ∧ VR g w v u) :
    Inv B0 (σ.upd b (.cells (over cs off new))) g (setB w B (.cells (wrow c (d + off) us) el (0, 0))) ∧ Ext σ g w (σ.upd b (.cells (over cs off new))) g (setB w B (.cells (wrow c (d + off) us) el (0, 0))) := by
  have hbn := Sto.blk_lt hb
  have p := WSet.setB (lt_of_heap hh) (.cells (wrow c (d + off) us) el (0, 0))
  have m : Mon g w g (setB w B (.cells (wrow c (d + off) us) el (0, 0))) := p.mon inv (fun _ _ h => h) (fun _ _ h => h) (fun _ B m L h => ⟨B, m, L, h, Nat.le_refl _, fun _ => ⟨rfl, rfl⟩⟩)
    (fun o ho => absurd ho (hgm o)) (fun c' el' fr' h => by rw [hh] at h; cases h; exact ⟨_, rfl, by simp⟩)
  have hold : Holds σ g b B := by unfold Holds; rw [hb]; exact ⟨d, hi⟩
  refine inv.turn p m (· = b) (fun b' hb' => by rw [Sto.blk_upd, if_neg (fun e => hb' e.1)]) (fun _ _ => rfl) (fun _ _ => rfl) (fun b' B' hb' hh' e => hb' (inv.sep b' b B (e ▸ hh') hold)) b hold
    (fun _ _ h => Or.inl h) (fun o ho => absurd ho (hgm o)) ?_ ?_ (fun b1 b2 h1 h2 _ _ => h1.trans h2.symm) (fun b' x hb' h => by subst hb'; simpa using hbn) (fun b' x hb' h => by subst hb'; simpa using hbn) (by simp)
  · rintro b' rfl
    unfold BlkOk
    rw [Sto.blk_upd, if_pos ⟨rfl, hbn⟩]
    refine ⟨B, d, _, el, hi, p.same, ?_, hgm⟩
    by_cases hne : cs = []
    · subst hne
      intro j v hj
      have : (over [] off new : List V).length = 0 := by rw [over_length _ _ _ hoff]; rfl
      rw [List.getElem?_eq_none (by omega)] at hj
      cases hj
    · exact ((hr.over off hoff (hr.size hne) hl hn)).mono m
  · rintro b' B' rfl h
    unfold Holds at h
    rw [Sto.blk_upd, if_pos ⟨rfl, hbn⟩] at h
    obtain ⟨d', h⟩ := h
    rw [hi] at h
    cases h; rfl

/-- An append into the room behind a row. -/
theorem step_tokin {k B m n : Nat} {c : Array Value} {el : TypeId} {fr : Nat × Nat} {us : List Value} (inv : Inv B0 σ g w) (hk : σ.blk k = some (.tok n)) (hτ : g.τ k = some (B, m, n))
    (hh : w.heap[B]? = some (Obj.cells c el fr)) (hfr : fr = (0, 0) ∨ c.size ≤ fr.1) (hgm : ∀ o, m ≤ o → ¬ g.Γ B o) (hsz : m + us.length ≤ c.size) (n' : Nat) (hn : n < n') :
    Inv B0 (σ.upd k (.tok n')) ((g.snap B (m + us.length)).tokn k B (m + us.length) n') (setB w B (.cells (wrow c m us) el fr)) ∧
      Ext σ g w (σ.upd k (.tok n')) ((g.snap B (m + us.length)).tokn k B (m + us.length) n') (setB w B (.cells (wrow c m us) el fr)) := by
  have hkn := Sto.blk_lt hk
  have p := WSet.setB (lt_of_heap hh) (.cells (wrow c m us) el fr)
  have hcell : ∀ o, o < m → (setB w B (.cells (wrow c m us) el fr)).cell? ⟨B, o, none⟩ = w.cell? ⟨B, o, none⟩ := fun o ho => by
    rw [cell?_of_heap p.same, cell?_of_heap hh, wrow_out _ _ _ _ (by omega)]
  have hm : Mon g w ((g.snap B (m + us.length)).tokn k B (m + us.length) n') (setB w B (.cells (wrow c m us) el fr)) := by
    refine p.mon inv (fun _ _ h => h) (fun _ _ h => Or.inl h) (fun k' B' m' L h => ?_) (fun o ho => hcell o ?_) (fun c' el' fr' h => by rw [hh] at h; cases h; exact ⟨_, rfl, by simp⟩)
    · by_cases he : k' = k
      · subst he
        rw [hτ] at h
        cases h
        exact ⟨B, m + us.length, n', by simp [Gh.tokn], by omega, fun e => by omega⟩
      · exact ⟨B', m', L, by simp only [Gh.tokn, Gh.snap]; rw [if_neg he]; exact h, Nat.le_refl _, fun _ => ⟨rfl, rfl⟩⟩
    · rcases Nat.lt_or_ge o m with h | h
      · exact h
      · exact absurd ho (hgm o h)
  have hold : Holds σ g k B := by unfold Holds; rw [hk]; exact ⟨m, n, hτ⟩
  refine inv.turn p hm (· = k) (fun b' hb' => by rw [Sto.blk_upd, if_neg (fun e => hb' e.1)]) (fun _ _ => rfl) (fun b hb => by simp only [Gh.tokn, Gh.snap]; rw [if_neg hb])
    (fun b' B' hb' hh' e => hb' (inv.sep b' k B (e ▸ hh') hold)) k hold (fun _ _ h => h.imp id (fun h => h.1)) (fun o ho => ?_) ?_ ?_ (fun b1 b2 h1 h2 _ _ => h1.trans h2.symm)
    (fun b' x hb' h => by subst hb'; simpa using hkn) (fun b' x hb' h => by subst hb'; simpa using hkn) (by simp)
  · rw [cell?_of_heap p.same]
    have : o < c.size := by
      rcases ho with h | h
      · rcases Nat.lt_or_ge o m with h' | h'
        · omega
        · exact absurd h (hgm o h')
      · omega
    simp [this]
  · rintro b' rfl
    unfold BlkOk
    rw [Sto.blk_upd, if_pos ⟨rfl, hkn⟩]
    refine ⟨B, m + us.length, _, el, fr, by simp [Gh.tokn], p.same, by simpa using hfr, fun o ho h => ?_⟩
    rcases h with h | h
    · exact hgm o (by omega) h
    · omega
  · rintro b' B' rfl h
    unfold Holds at h
    rw [Sto.blk_upd, if_pos ⟨rfl, hkn⟩] at h
    obtain ⟨m', L', h⟩ := h
    simp only [Gh.tokn, if_true, Option.some.injEq, Prod.mk.injEq] at h
    exact h.1.symm

/-- A map is written. -/
theorem step_mapupd {b B ck ck' : Nat} {es es' : List (V × V × Nat)} {us us' : Array MapEntry} (inv : Inv B0 σ g w) (hb : σ.blk b = some (.map es ck)) (hi : g.ι b = some (B, 0))
    (hh : w.heap[B]? = some (Obj.map us ck)) (hgm : ∀ o, ¬ g.Γ B o) (hr : MapReads g w es' us') :
    Inv B0 (σ.upd b (.map es' ck')) g (setB w B (.map us' ck')) ∧ Ext σ g w (σ.upd b (.map es' ck')) g (setB w B (.map us' ck')) := by
  have hbn := Sto.blk_lt hb
  have p := WSet.setB (lt_of_heap hh) (.map us' ck')
  have m : Mon g w g (setB w B (.map us' ck')) := p.mon inv (fun _ _ h => h) (fun _ _ h => h) (fun _ B m L h => ⟨B, m, L, h, Nat.le_refl _, fun _ => ⟨rfl, rfl⟩⟩)
    (fun o ho => absurd ho (hgm o)) (fun c' el' fr' h => by rw [hh] at h; cases h)
  have hold : Holds σ g b B := by unfold Holds; rw [hb]; exact ⟨0, hi⟩
  refine inv.turn p m (· = b) (fun b' hb' => by rw [Sto.blk_upd, if_neg (fun e => hb' e.1)]) (fun _ _ => rfl) (fun _ _ => rfl) (fun b' B' hb' hh' e => hb' (inv.sep b' b B (e ▸ hh') hold)) b hold
    (fun _ _ h => Or.inl h) (fun o ho => absurd ho (hgm o)) ?_ ?_ (fun b1 b2 h1 h2 _ _ => h1.trans h2.symm) (fun b' x hb' h => by subst hb'; simpa using hbn) (fun b' x hb' h => by subst hb'; simpa using hbn) (by simp)
  · rintro b' rfl
    unfold BlkOk
    rw [Sto.blk_upd, if_pos ⟨rfl, hbn⟩]
    exact ⟨B, us', hi, p.same, hr.mono m, hgm⟩
  · rintro b' B' rfl h
    unfold Holds at h
    rw [Sto.blk_upd, if_pos ⟨rfl, hbn⟩] at h
    obtain ⟨d', h⟩ := h
    rw [hi] at h
    cases h; rfl

/-- A row that is written is given up. -/
theorem step_die {b : Nat} {cs : List V} (inv : Inv B0 σ g w) (hb : σ.blk b = some (.cells cs)) : Inv B0 (σ.upd b .dead) g w ∧ Ext σ g w (σ.upd b .dead) g w := by
  have hbn := Sto.blk_lt hb
  have hdead : ∀ B, ¬ Holds (σ.upd b .dead) g b B := fun B h => by
    unfold Holds at h
    rw [Sto.blk_upd, if_pos ⟨rfl, hbn⟩] at h
    exact h
  have hold : ∀ b' B, Holds (σ.upd b .dead) g b' B → Holds σ g b' B := fun b' B h => by
    by_cases e : b' = b
    · subst e; exact absurd h (hdead B)
    · exact (Holds.congr (by rw [Sto.blk_upd, if_neg (fun k => e k.1)]) rfl rfl).1 h
  refine ⟨⟨fun b' => ?_, fun x y B h1 h2 => inv.sep x y B (hold x B h1) (hold y B h2), fun x B h => inv.base x B (hold x B h), inv.gamlt, by simpa using inv.iotalt, by simpa using inv.tault, inv.b0⟩,
    { Mon.refl g w with rest := fun _ _ _ => rfl, news := fun B _ h => ⟨fun b' h' => h b' (hold b' B h'), fun _ h => h⟩, next := by simp }⟩
  by_cases e : b' = b
  · subst e
    unfold BlkOk
    rw [Sto.blk_upd, if_pos ⟨rfl, hbn⟩]
    trivial
  · exact (inv.blk b').keep (Mon.refl g w) (by rw [Sto.blk_upd, if_neg (fun k => e k.1)]) rfl rfl fun _ _ => ⟨rfl, fun _ h => h⟩

/-- An append in place to a row that is written: a new block of the store, over the same block of the world. -/
theorem step_adopt {b B d off : Nat} {c : Array Value} {el : TypeId} {cs all : List V} {us : List Value} (inv : Inv B0 σ g w) (hb : σ.blk b = some (.cells cs)) (hi : g.ι b = some (B, d))
    (hh : w.heap[B]? = some (Obj.cells c el (0, 0))) (hgm : ∀ o, ¬ g.Γ B o) (o : Nat)
    (hr : Reads g w (wrow c o us) (d + off) all) :
    Inv B0 ((σ.upd b .dead).alloc (.cells all)) (g.own σ.next B (d + off)) (setB w B (.cells (wrow c o us) el (0, 0))) ∧
      Ext σ g w ((σ.upd b .dead).alloc (.cells all)) (g.own σ.next B (d + off)) (setB w B (.cells (wrow c o us) el (0, 0))) := by
  have hbn := Sto.blk_lt hb
  have p := WSet.setB (lt_of_heap hh) (.cells (wrow c o us) el (0, 0))
  have m : Mon g w (g.own σ.next B (d + off)) (setB w B (.cells (wrow c o us) el (0, 0))) := p.mon inv (fun b' x h => by
      have := inv.iotalt b' x h
      simp only [Gh.own]
      rw [if_neg (by omega)]; exact h) (fun _ _ h => h) (fun _ B m L h => ⟨B, m, L, h, Nat.le_refl _, fun _ => ⟨rfl, rfl⟩⟩)
    (fun o ho => absurd ho (hgm o)) (fun c' el' fr' h => by rw [hh] at h; cases h; exact ⟨_, rfl, by simp⟩)
  have hold : Holds σ g b B := by unfold Holds; rw [hb]; exact ⟨d, hi⟩
  have hbk : ∀ b', b' ≠ b → b' ≠ σ.next → ((σ.upd b .dead).alloc (.cells all)).blk b' = σ.blk b' := fun b' h1 h2 => by
    rw [Sto.blk_alloc, if_neg (by simpa using h2), Sto.blk_upd, if_neg (fun e => h1 e.1)]
  have hdead : ∀ B', ¬ Holds ((σ.upd b .dead).alloc (.cells all)) (g.own σ.next B (d + off)) b B' := fun B' h => by
    unfold Holds at h
    rw [Sto.blk_alloc, if_neg (by simp; omega), Sto.blk_upd, if_pos ⟨rfl, hbn⟩] at h
    exact h
  refine inv.turn p m (fun x => x = b ∨ x = σ.next) (fun b' hb' => hbk b' (fun e => hb' (Or.inl e)) (fun e => hb' (Or.inr e))) (fun b' hb' => by simp only [Gh.own]; rw [if_neg (fun e => hb' (Or.inr e))]) (fun _ _ => rfl)
    (fun b' B' hb' hh' e => hb' (Or.inl (inv.sep b' b B (e ▸ hh') hold))) b hold (fun _ _ h => Or.inl h) (fun o ho => absurd ho (hgm o)) ?_ ?_ ?_
    (fun b' x hb' h => by rcases hb' with rfl | rfl <;> simp; omega) (fun b' x hb' h => by rcases hb' with rfl | rfl <;> simp; omega) (by simp)
  · rintro b' (rfl | rfl)
    · unfold BlkOk
      rw [Sto.blk_alloc, if_neg (by simp; omega), Sto.blk_upd, if_pos ⟨rfl, hbn⟩]
      trivial
    · unfold BlkOk
      rw [Sto.blk_alloc, if_pos (by simp)]
      exact ⟨B, d + off, _, el, by simp [Gh.own], p.same, hr.mono m, hgm⟩
  · rintro b' B' (rfl | rfl) h
    · exact absurd h (hdead B')
    · unfold Holds at h
      rw [Sto.blk_alloc, if_pos (by simp)] at h
      obtain ⟨d', h⟩ := h
      simp only [Gh.own, if_true, Option.some.injEq, Prod.mk.injEq] at h
      exact h.1.symm
  · rintro b1 b2 (rfl | rfl) (rfl | rfl) h1 h2
    · rfl
    · exact absurd h1 (hdead B)
    · exact absurd h2 (hdead B)
    · rfl

/-- A store into a block of which the store knows nothing. -/
theorem step_mine {B : Nat} {X : Obj} {w' : World} (inv : Inv B0 σ g w) (p : WSet w B X w') (hfree : ∀ b, ¬ Holds σ g b B) (hgm : ∀ o, ¬ g.Γ B o)
    (hk : ∀ c el fr, w.heap[B]? = some (Obj.cells c el fr) → ∃ c', X = Obj.cells c' el fr ∧ c'.size = c.size) : Inv B0 σ g w' ∧ Mon g w g w' := by
  have m : Mon g w g w' := p.mon inv (fun _ _ h => h) (fun _ _ h => h) (fun _ B m L h => ⟨B, m, L, h, Nat.le_refl _, fun _ => ⟨rfl, rfl⟩⟩) (fun o ho => absurd ho (hgm o)) hk
  refine ⟨⟨fun b => (inv.blk b).keep m rfl rfl rfl fun B' hB => ⟨p.other B' (fun e => hfree b (e ▸ hB)), fun _ h => h⟩, inv.sep, inv.base, fun B' o ho => by rw [m.cell B' o ho]; exact inv.gamlt B' o ho,
    inv.iotalt, inv.tault, by rw [p.size]; exact inv.b0⟩, m⟩

end

end Go.Eng
