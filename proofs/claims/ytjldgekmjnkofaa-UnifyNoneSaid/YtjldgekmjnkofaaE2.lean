/- The relation between the interpreter's state and the model's world; it is kept by what goes on. -/
import Derived.Test.YtjldgekmjnkofaaE1
import Derived.Calls
import Derived.Orders
import Derived.Laws.Sem
import Derived.Laws.World
import Derived.Laws.Entries
set_option linter.unusedVariables false
set_option linter.unusedSimpArgs false
namespace Go.Eng
open Go

/-! ## Tries -/

theorem Tr.get_put_same {α : Type} (t : Tr α) (p : Pos) (x : Option α) : (t.put p x).get p = x := by
  induction p generalizing t with
  | xH => cases t <;> rfl
  | xO p ih => cases t <;> simp [Tr.put, Tr.get, ih]
  | xI p ih => cases t <;> simp [Tr.put, Tr.get, ih]

theorem Tr.get_leaf {α : Type} (p : Pos) : (Tr.leaf : Tr α).get p = none := by cases p <;> rfl

theorem Tr.get_put_ne {α : Type} (t : Tr α) (p q : Pos) (x : Option α) (h : p ≠ q) : (t.put p x).get q = t.get q := by
  induction p generalizing t q with
  | xH => cases t <;> cases q <;> first | exact absurd rfl h | simp [Tr.put, Tr.get]
  | xO p ih =>
    cases t <;> cases q with
    | xO q =>
      have hn : p ≠ q := fun e => h (by rw [e])
      simp [Tr.put, Tr.get, ih _ _ hn]
    | _ => simp [Tr.put, Tr.get]
  | xI p ih =>
    cases t <;> cases q with
    | xI q =>
      have hn : p ≠ q := fun e => h (by rw [e])
      simp [Tr.put, Tr.get, ih _ _ hn]
    | _ => simp [Tr.put, Tr.get]

theorem Tr.get_set_same {α : Type} (t : Tr α) (p : Pos) (x : α) : (t.set p x).get p = some x := Tr.get_put_same t p _
theorem Tr.get_set_ne {α : Type} (t : Tr α) (p q : Pos) (x : α) (h : p ≠ q) : (t.set p x).get q = t.get q := Tr.get_put_ne t p q _ h

theorem Pos.toNat_ofBin : ∀ (f n : Nat), 1 ≤ n → n ≤ f → (Pos.ofBin f n).toNat = n := by
  intro f
  induction f with
  | zero => intro n h1 h2; omega
  | succ f ih =>
    intro n h1 h2
    unfold Pos.ofBin
    split
    · simp [Pos.toNat]; omega
    · split
      · simp only [Pos.toNat]; rw [ih (n / 2) (by omega) (by omega)]; omega
      · simp only [Pos.toNat]; rw [ih (n / 2) (by omega) (by omega)]; omega

theorem pos_toNat (n : Nat) : (pos n).toNat = n + 1 := Pos.toNat_ofBin (n + 1) (n + 1) (by omega) (by omega)
theorem pos_inj {a b : Nat} (h : pos a = pos b) : a = b := by
  have := congrArg Pos.toNat h
  rw [pos_toNat, pos_toNat] at this
  omega
theorem pos_ne {a b : Nat} (h : a ≠ b) : pos a ≠ pos b := fun e => h (pos_inj e)

/-! ## The store -/

theorem Sto.get_alloc (σ : Sto) (x : Blk) (b : Nat) : (σ.alloc x).get b = if b = σ.next then some (0, x) else σ.get b := by
  unfold Sto.get Sto.alloc
  dsimp only
  by_cases h : b = σ.next
  · subst h
    rw [if_pos (by omega), if_pos rfl, Tr.get_set_same]
  · rw [if_neg h, Tr.get_set_ne _ _ _ _ (pos_ne (fun e => h e.symm))]
    by_cases hb : b < σ.next
    · rw [if_pos (by omega), if_pos hb]
    · rw [if_neg (by omega), if_neg hb]

theorem Sto.get_upd (σ : Sto) (a : Nat) (x : Blk) (b : Nat) : (σ.upd a x).get b = if b = a ∧ a < σ.next then some ((σ.ver a).getD 0 + 1, x) else σ.get b := by
  unfold Sto.get Sto.upd
  dsimp only
  by_cases h : b = a
  · subst h
    by_cases hb : b < σ.next
    · rw [if_pos hb, if_pos ⟨rfl, hb⟩, Tr.get_set_same]
    · rw [if_neg hb, if_neg (fun e => hb e.2), if_neg hb]
  · rw [if_neg (show ¬(b = a ∧ a < σ.next) from fun e => h e.1)]
    split
    · rw [Tr.get_set_ne _ _ _ _ (pos_ne (fun e => h e.symm))]
    · rfl

theorem Sto.blk_alloc (σ : Sto) (x : Blk) (b : Nat) : (σ.alloc x).blk b = if b = σ.next then some x else σ.blk b := by
  unfold Sto.blk
  rw [Sto.get_alloc]
  split <;> rfl

theorem Sto.blk_upd (σ : Sto) (a : Nat) (x : Blk) (b : Nat) : (σ.upd a x).blk b = if b = a ∧ a < σ.next then some x else σ.blk b := by
  unfold Sto.blk
  rw [Sto.get_upd]
  split <;> rfl

theorem Sto.blk_lt {σ : Sto} {b : Nat} {x : Blk} (h : σ.blk b = some x) : b < σ.next := by
  unfold Sto.blk Sto.get at h
  by_cases hb : b < σ.next
  · exact hb
  · rw [if_neg hb] at h; cases h

@[simp] theorem Sto.next_alloc (σ : Sto) (x : Blk) : (σ.alloc x).next = σ.next + 1 := rfl
@[simp] theorem Sto.next_upd (σ : Sto) (a : Nat) (x : Blk) : (σ.upd a x).next = σ.next := rfl

/-! ## Values -/

/-- What is known beside a state: where blocks lie, which cells never turn again, where behind a slice there is room. -/
structure Gh where
  ι : Nat → Option (Nat × Nat)
  Γ : Nat → Nat → Prop
  τ : Nat → Option (Nat × Nat × Nat)

def OwnOk (g : Gh) (w : World) (len s B o cap : Nat) : Own → Prop
  | .none => True
  | .full => cap = len
  | .tok k => ∃ B' m L, g.τ k = some (B', m, L) ∧ len ≤ L ∧ (len = L → B' = B ∧ m = o + len * s ∧ ∃ c el fr, w.heap[B]? = some (Obj.cells c el fr) ∧ o + cap * s ≤ c.size)

inductive VR (g : Gh) (w : World) : V → Value → Prop
  | undef : VR g w .undef (.tuple #[])
  | bool (b : Bool) : VR g w (.bool b) (.bool b)
  | int (k : IntKind) (n : Int) : VR g w (.int k n) (.int k n)
  | str (s : ByteArray) (l : List UInt8) (h : s.data.toList = l) : VR g w (.str l) (.string s)
  | nptr : VR g w .nptr (.pointer none)
  | ptr (b off B d : Nat) (h : g.ι b = some (B, d)) : VR g w (.ptr b off) (.pointer (some ⟨B, d + off, none⟩))
  | vp (cs : List V) (B o : Nat) (f : Nat → Value) (hs : ∀ j, j < cs.length → w.cell? ⟨B, o + j, none⟩ = some (f j) ∧ g.Γ B (o + j))
      (hv : ∀ j v, cs[j]? = some v → VR g w v (f j)) : VR g w (.vp cs) (.pointer (some ⟨B, o, none⟩))
  | nsl : VR g w .nsl (.slice none 0 0)
  | sl (ow : Own) (es : List V) (B o cap s : Nat) (f : Nat → Value) (hl : ∀ v ∈ es, v.cells.length = s) (hc : es.length ≤ cap)
      (hs : ∀ j, j < es.length * s → w.cell? ⟨B, o + j, none⟩ = some (f j) ∧ g.Γ B (o + j))
      (hv : ∀ j v, (es.flatMap V.cells)[j]? = some v → VR g w v (f j)) (hone : ∀ v ∈ es, ∀ x ∈ v.cells, x.one = true)
      (ho : OwnOk g w es.length s B o cap ow) : VR g w (.sl ow es) (.slice (some ⟨B, o, none⟩) es.length cap)
  | esl (A : Addr) : VR g w (.sl .none []) (.slice (some A) 0 0)
  | msl (b off len s B d cap : Nat) (h : g.ι b = some (B, d)) (hc : len ≤ cap) (hr : ∃ (c : Array Value) (el : TypeId) (fr : Nat × Nat), w.heap[B]? = some (Obj.cells c el fr) ∧ d + off + cap * s ≤ c.size) : VR g w (.msl b off len s) (.slice (some ⟨B, d + off, none⟩) len cap)
  | nmap : VR g w .nmap (.map none)
  | map (b B : Nat) (h : g.ι b = some (B, 0)) : VR g w (.map b) (.map (some B))
  | nfunc : VR g w .nfunc .nilFunc
  | func (f : FuncId) (cs : List V) (us : Array Value) (hn : us.size = cs.length) (hv : ∀ j v, cs[j]? = some v → VR g w v (us.getD j undef)) : VR g w (.func f cs) (.func (.func f) #[] us)
  | niface : VR g w .niface .nilIface
  | iface (t : TypeId) (v : V) (u : Value) (h : VR g w v u) : VR g w (.iface t v) (.iface t u)
  | agg (cs : List V) (us : Array Value) (hn : us.size = cs.length) (hv : ∀ j v, cs[j]? = some v → VR g w v (us.getD j undef)) : VR g w (.agg cs) (.agg us)
  | tup (cs : List V) (us : Array Value) (hn : us.size = cs.length) (hv : ∀ j v, cs[j]? = some v → VR g w v (us.getD j undef)) : VR g w (.tup cs) (.tuple us)

/-- What never goes back. -/
structure Mon (g : Gh) (w : World) (g' : Gh) (w' : World) : Prop where
  iota : ∀ b x, g.ι b = some x → g'.ι b = some x
  gam : ∀ B o, g.Γ B o → g'.Γ B o
  tau : ∀ k B m L, g.τ k = some (B, m, L) → ∃ B' m' L', g'.τ k = some (B', m', L') ∧ L ≤ L' ∧ (L = L' → B' = B ∧ m' = m)
  cell : ∀ B o, g.Γ B o → w'.cell? ⟨B, o, none⟩ = w.cell? ⟨B, o, none⟩
  kind : ∀ (B : Nat) c el fr, w.heap[B]? = some (Obj.cells c el fr) → ∃ c', w'.heap[B]? = some (Obj.cells c' el fr) ∧ c'.size = c.size
  size : w.heap.size ≤ w'.heap.size
  os : w'.os = w.os
  tape : w'.tape = w.tape
  output : w'.output = w.output

theorem Mon.refl (g : Gh) (w : World) : Mon g w g w :=
  ⟨fun _ _ h => h, fun _ _ h => h, fun _ B m L h => ⟨B, m, L, h, Nat.le_refl _, fun _ => ⟨rfl, rfl⟩⟩, fun _ _ _ => rfl, fun _ c _ _ h => ⟨c, h, rfl⟩, Nat.le_refl _, rfl, rfl, rfl⟩

theorem Mon.trans {g g1 g2 : Gh} {w w1 w2 : World} (a : Mon g w g1 w1) (b : Mon g1 w1 g2 w2) : Mon g w g2 w2 where
  iota := fun x y h => b.iota x y (a.iota x y h)
  gam := fun x y h => b.gam x y (a.gam x y h)
  tau := fun k B m L h => by
    obtain ⟨B1, m1, L1, h1, hl1, he1⟩ := a.tau k B m L h
    obtain ⟨B2, m2, L2, h2, hl2, he2⟩ := b.tau k B1 m1 L1 h1
    refine ⟨B2, m2, L2, h2, by omega, fun e => ?_⟩
    obtain ⟨r1, r2⟩ := he1 (by omega)
    obtain ⟨r3, r4⟩ := he2 (by omega)
    exact ⟨r3.trans r1, r4.trans r2⟩
  cell := fun B o h => (b.cell B o (a.gam B o h)).trans (a.cell B o h)
  kind := fun B c el fr h => by
    obtain ⟨c1, h1, e1⟩ := a.kind B c el fr h
    obtain ⟨c2, h2, e2⟩ := b.kind B c1 el fr h1
    exact ⟨c2, h2, e2.trans e1⟩
  size := Nat.le_trans a.size b.size
  os := b.os.trans a.os
  tape := b.tape.trans a.tape
  output := b.output.trans a.output

theorem OwnOk.mono {g g' : Gh} {w w' : World} (m : Mon g w g' w') {len s B o cap : Nat} {ow : Own} (h : OwnOk g w len s B o cap ow) : OwnOk g' w' len s B o cap ow := by
  cases ow with
  | none => trivial
  | full => exact h
  | tok k =>
    obtain ⟨B', m1, L, hk, hle, he⟩ := h
    obtain ⟨B2, m2, L2, hk2, hl2, he2⟩ := m.tau k B' m1 L hk
    refine ⟨B2, m2, L2, hk2, by omega, fun e => ?_⟩
    obtain ⟨r1, r2⟩ := he2 (by omega)
    obtain ⟨r3, r4, c, el, fr, hh, hsz⟩ := he (by omega)
    obtain ⟨c', hh', e'⟩ := m.kind B c el fr hh
    exact ⟨r1.trans r3, r2.trans r4, c', el, fr, hh', by omega⟩

theorem VR.mono {g g' : Gh} {w w' : World} (m : Mon g w g' w') {v : V} {u : Value} (h : VR g w v u) : VR g' w' v u := by
  induction h with
  | undef => exact .undef
  | bool b => exact .bool b
  | int k n => exact .int k n
  | str s l h => exact .str s l h
  | nptr => exact .nptr
  | ptr b off B d h => exact .ptr b off B d (m.iota _ _ h)
  | vp cs B o f hs hv ih => exact .vp cs B o f (fun j hj => ⟨(m.cell _ _ (hs j hj).2).trans (hs j hj).1, m.gam _ _ (hs j hj).2⟩) ih
  | nsl => exact .nsl
  | sl ow es B o cap s f hl hc hs hv hone ho ih =>
    exact .sl ow es B o cap s f hl hc (fun j hj => ⟨(m.cell _ _ (hs j hj).2).trans (hs j hj).1, m.gam _ _ (hs j hj).2⟩) ih hone (ho.mono m)
  | esl A => exact .esl A
  | msl b off len s B d cap h hc hr =>
    obtain ⟨c, el, fr, hh, hsz⟩ := hr
    obtain ⟨c', hh', e'⟩ := m.kind B c el fr hh
    exact .msl b off len s B d cap (m.iota _ _ h) hc ⟨c', el, fr, hh', by omega⟩
  | nmap => exact .nmap
  | map b B h => exact .map b B (m.iota _ _ h)
  | nfunc => exact .nfunc
  | func f cs us hn hv ih => exact .func f cs us hn ih
  | niface => exact .niface
  | iface t v u h ih => exact .iface t v u ih
  | agg cs us hn hv ih => exact .agg cs us hn ih
  | tup cs us hn hv ih => exact .tup cs us hn ih

/-! ## The store's blocks in the world -/

/-- Block b of the store owns block B of the world. -/
def Holds (σ : Sto) (g : Gh) (b B : Nat) : Prop :=
  match σ.blk b with
  | some (.cells _) | some (.map _ _) => ∃ d, g.ι b = some (B, d)
  | some (.tok _) => ∃ m L, g.τ b = some (B, m, L)
  | _ => False

/-- A row of the world's cells, from one on, reads as a list. -/
def Reads (g : Gh) (w : World) (c : Array Value) (d : Nat) (cs : List V) : Prop :=
  ∀ j v, cs[j]? = some v → v.one = true ∧ ∃ u, c[d + j]? = some u ∧ VR g w v u

theorem Reads.mono {g g' : Gh} {w w' : World} (m : Mon g w g' w') {c : Array Value} {d : Nat} {cs : List V} (h : Reads g w c d cs) : Reads g' w' c d cs :=
  fun j v hj => let ⟨h1, u, h2, h3⟩ := h j v hj; ⟨h1, u, h2, h3.mono m⟩

structure MapReads (g : Gh) (w : World) (es : List (V × V × Nat)) (us : Array MapEntry) : Prop where
  len : us.size = es.length
  at_ : ∀ (j : Nat) k v n, es[j]? = some (k, v, n) → ∃ e, us[j]? = some e ∧ VR g w k e.key ∧ VR g w v e.val ∧ e.born = n

theorem MapReads.mono {g g' : Gh} {w w' : World} (m : Mon g w g' w') {es : List (V × V × Nat)} {us : Array MapEntry} (h : MapReads g w es us) : MapReads g' w' es us :=
  ⟨h.len, fun j k v n hj => let ⟨e, h1, h2, h3, h4⟩ := h.at_ j k v n hj; ⟨e, h1, h2.mono m, h3.mono m, h4⟩⟩

/-- A block of the store is as the world has it. -/
def BlkOk (σ : Sto) (g : Gh) (w : World) (b : Nat) : Prop :=
  match σ.blk b with
  | some (.cells cs) => ∃ (B d : Nat) (c : Array Value) (el : TypeId), g.ι b = some (B, d) ∧ w.heap[B]? = some (Obj.cells c el (0, 0)) ∧ Reads g w c d cs ∧ ∀ o, ¬ g.Γ B o
  | some (.map es ck) => ∃ (B : Nat) (us : Array MapEntry), g.ι b = some (B, 0) ∧ w.heap[B]? = some (Obj.map us ck) ∧ MapReads g w es us ∧ ∀ o, ¬ g.Γ B o
  | some (.tok n) => ∃ (B m : Nat) (c : Array Value) (el : TypeId) (fr : Nat × Nat), g.τ b = some (B, m, n) ∧ w.heap[B]? = some (Obj.cells c el fr) ∧ (fr = (0, 0) ∨ c.size ≤ fr.1) ∧ ∀ o, m ≤ o → ¬ g.Γ B o
  | _ => True

structure Inv (B0 : Nat) (σ : Sto) (g : Gh) (w : World) : Prop where
  blk : ∀ b, BlkOk σ g w b
  sep : ∀ b b' B, Holds σ g b B → Holds σ g b' B → b = b'
  base : ∀ b B, Holds σ g b B → B0 ≤ B
  gamlt : ∀ B o, g.Γ B o → (w.cell? ⟨B, o, none⟩).isSome = true
  iotalt : ∀ b x, g.ι b = some x → b < σ.next
  tault : ∀ k x, g.τ k = some x → k < σ.next
  b0 : B0 ≤ w.heap.size

theorem Inv.cells {B0 : Nat} {σ : Sto} {g : Gh} {w : World} (h : Inv B0 σ g w) {b : Nat} {cs : List V} (hb : σ.blk b = some (.cells cs)) :
    ∃ (B d : Nat) (c : Array Value) (el : TypeId), g.ι b = some (B, d) ∧ w.heap[B]? = some (Obj.cells c el (0, 0)) ∧ Reads g w c d cs ∧ ∀ o, ¬ g.Γ B o := by
  have := h.blk b
  unfold BlkOk at this
  rw [hb] at this
  exact this

theorem Inv.maps {B0 : Nat} {σ : Sto} {g : Gh} {w : World} (h : Inv B0 σ g w) {b ck : Nat} {es : List (V × V × Nat)} (hb : σ.blk b = some (.map es ck)) :
    ∃ (B : Nat) (us : Array MapEntry), g.ι b = some (B, 0) ∧ w.heap[B]? = some (Obj.map us ck) ∧ MapReads g w es us ∧ ∀ o, ¬ g.Γ B o := by
  have := h.blk b
  unfold BlkOk at this
  rw [hb] at this
  exact this

theorem Inv.toks {B0 : Nat} {σ : Sto} {g : Gh} {w : World} (h : Inv B0 σ g w) {b n : Nat} (hb : σ.blk b = some (.tok n)) :
    ∃ (B m : Nat) (c : Array Value) (el : TypeId) (fr : Nat × Nat), g.τ b = some (B, m, n) ∧ w.heap[B]? = some (Obj.cells c el fr) ∧ (fr = (0, 0) ∨ c.size ≤ fr.1) ∧ ∀ o, m ≤ o → ¬ g.Γ B o := by
  have := h.blk b
  unfold BlkOk at this
  rw [hb] at this
  exact this

/-- What one call, or a part of one, may turn: what the store holds, and what is new. -/
structure Ext (σ : Sto) (g : Gh) (w : World) (σ' : Sto) (g' : Gh) (w' : World) : Prop extends Mon g w g' w' where
  rest : ∀ B : Nat, B < w.heap.size → (∀ b, ¬ Holds σ g b B) → w'.heap[B]? = w.heap[B]?
  news : ∀ B, B < w.heap.size → (∀ b, ¬ Holds σ g b B) → (∀ b, ¬ Holds σ' g' b B) ∧ ∀ o, g'.Γ B o → g.Γ B o
  next : σ.next ≤ σ'.next

theorem Ext.refl (σ : Sto) (g : Gh) (w : World) : Ext σ g w σ g w :=
  { Mon.refl g w with rest := fun _ _ _ => rfl, news := fun _ _ h => ⟨h, fun _ h => h⟩, next := Nat.le_refl _ }

theorem Ext.trans {σ σ1 σ2 : Sto} {g g1 g2 : Gh} {w w1 w2 : World} (a : Ext σ g w σ1 g1 w1) (b : Ext σ1 g1 w1 σ2 g2 w2) : Ext σ g w σ2 g2 w2 :=
  { a.toMon.trans b.toMon with
    rest := fun B hB h => (b.rest B (Nat.lt_of_lt_of_le hB a.size) (a.news B hB h).1).trans (a.rest B hB h)
    news := fun B hB h =>
      have h1 := a.news B hB h
      have h2 := b.news B (Nat.lt_of_lt_of_le hB a.size) h1.1
      ⟨h2.1, fun o ho => h1.2 o (h2.2 o ho)⟩
    next := Nat.le_trans a.next b.next }

/-! ## Registers -/

/-- The content of a variable that a frame has to itself. -/
structure Priv (B0 Bf : Nat) (σ : Sto) (g : Gh) (w : World) (B : Nat) (cs : List V) : Prop where
  heap : ∃ c el, w.heap[B]? = some (Obj.cells c el (0, 0)) ∧ c.size = cs.length ∧ Reads g w c 0 cs
  free : ∀ b, ¬ Holds σ g b B
  gam : ∀ o, ¬ g.Γ B o
  base : B0 ≤ B
  frame : Bf ≤ B

structure FR (pv : Nat → Bool) (B0 Bf n : Nat) (σ : Sto) (g : Gh) (w : World) (t : T) (a : Act) : Prop where
  size : a.tmps.size = n
  val : ∀ s v, pv s = false → t.get (pos s) = some v → VR g w v (a.tmps.getD s undef)
  priv : ∀ s v, pv s = true → t.get (pos s) = some v → ∃ B cs, v = .agg cs ∧ a.tmps.getD s undef = .pointer (some ⟨B, 0, none⟩) ∧ Priv B0 Bf σ g w B cs
  sep : ∀ s s' v v' B, pv s = true → pv s' = true → t.get (pos s) = some v → t.get (pos s') = some v' →
    a.tmps.getD s undef = .pointer (some ⟨B, 0, none⟩) → a.tmps.getD s' undef = .pointer (some ⟨B, 0, none⟩) → s = s'

theorem Priv.mono {B0 Bf : Nat} {σ σ' : Sto} {g g' : Gh} {w w' : World} (e : Ext σ g w σ' g' w') {B : Nat} {cs : List V} (h : Priv B0 Bf σ g w B cs) : Priv B0 Bf σ' g' w' B cs := by
  obtain ⟨c, el, hh, hsz, hr⟩ := h.heap
  have hlt : B < w.heap.size := by
    rcases Nat.lt_or_ge B w.heap.size with h' | h'
    · exact h'
    · rw [Array.getElem?_eq_none h'] at hh; cases hh
  exact ⟨⟨c, el, (e.rest B hlt h.free).trans hh, hsz, hr.mono e.toMon⟩, (e.news B hlt h.free).1, fun o ho => h.gam o ((e.news B hlt h.free).2 o ho), h.base, h.frame⟩

theorem FR.mono {pv : Nat → Bool} {B0 Bf n : Nat} {σ σ' : Sto} {g g' : Gh} {w w' : World} (e : Ext σ g w σ' g' w') {t : T} {a : Act} (h : FR pv B0 Bf n σ g w t a) : FR pv B0 Bf n σ' g' w' t a :=
  ⟨h.size, fun s v hp hv => (h.val s v hp hv).mono e.toMon, fun s v hp hv => let ⟨B, cs, h1, h2, h3⟩ := h.priv s v hp hv; ⟨B, cs, h1, h2, h3.mono e⟩, h.sep⟩

end Go.Eng
