/- Regions in any order: from one order of the interpreter to all. -/
import Derived.Test.YtjldgekmjnkofaaE18
import Derived.Orders
set_option linter.unusedVariables false
set_option linter.unusedSimpArgs false
namespace Go.Eng
open Go

/-- What a step writes: a register, and what. -/
def putU (t : T) : Option (Pos × Option V) → T
  | none => t
  | some (p, x) => t.put p x

theorem putU_get {t : T} {u : Option (Pos × Option V)} {q : Pos} (h : ∀ p x, u = some (p, x) → p ≠ q) : (putU t u).get q = t.get q := by
  cases u with
  | none => rfl
  | some u => exact Tr.get_put_ne _ _ _ _ (h u.1 u.2 rfl)

theorem putU_comm {t : T} {u u' : Option (Pos × Option V)} (h : ∀ p x q y, u = some (p, x) → u' = some (q, y) → p ≠ q) : putU (putU t u) u' = putU (putU t u') u := by
  cases u with
  | none => rfl
  | some u =>
    cases u' with
    | none => rfl
    | some u' => exact Tr.put_comm _ _ _ _ _ (h _ _ _ _ rfl rfl)

section
variable {cl : Cl}

theorem stepS_go {i : CI} {t t' : T} {σ σ' : Sto} (h : stepS cl i t σ = some (.go t' σ')) :
    ∃ u, t' = putU t u ∧ (∀ p x, u = some (p, x) → p ∈ i.wrs) ∧ ∀ t2, Agr i.rds t t2 → stepS cl i t2 σ = some (.go (putU t2 u) σ') := by
  unfold stepS at h
  have hd : ∀ x, (∀ (t : T), setD t i.dst x = putU t (i.dst.map fun p => (p, some x))) := fun x t => by cases i.dst <;> rfl
  have hw : ∀ (y : Option V) p x, (i.dst.map fun p => (p, y)) = some (p, x) → p ∈ i.wrs := fun y p x h => by
    cases hi : i.dst with
    | none => rw [hi] at h; cases h
    | some q =>
      rw [hi] at h
      cases h
      unfold CI.wrs
      rw [hi]
      simp
  split at h
  · cases h
  · rename_i hg
    cases h
    refine ⟨i.dst.map fun p => (p, some .undef), hd _ _, hw _, fun t2 ha => ?_⟩
    unfold stepS
    rw [← guardOf_same ha.l, hg]
    dsimp only
    rw [hd]
  · rename_i hg
    split at h
    · cases h
    · cases h
    · rename_i r σ2 hnp hev
      cases h
      have key : ∃ u, (∀ t : T, nextT t i.dst r = putU t u) ∧ ∀ p x, u = some (p, x) → p ∈ i.wrs := by
        cases r with
        | val v => exact ⟨_, hd v, hw _⟩
        | unk => exact ⟨i.dst.map fun p => (p, none), fun t => by unfold nextT forget; cases i.dst <;> rfl, hw _⟩
        | wr p v => exact ⟨some (p, some v), fun t => rfl, fun q x h => by
            cases h
            unfold CI.wrs
            rw [evOp_wr hev]; simp⟩
        | pan v => exact (hnp v rfl).elim
      obtain ⟨u, h1, h2⟩ := key
      refine ⟨u, h1 t, h2, fun t2 ha => ?_⟩
      unfold stepS
      rw [← guardOf_same ha.l, hg]
      dsimp only
      rw [← evOp_same cl σ ha.r, hev]
      cases r with
      | pan v => exact (hnp v rfl).elim
      | _ => dsimp only; rw [h1 t2]

theorem stepS_pan {i : CI} {t : T} {σ σ' : Sto} {v : V} (h : stepS cl i t σ = some (.pan v σ')) {t2 : T} (ha : Agr i.rds t t2) : stepS cl i t2 σ = some (.pan v σ') := by
  unfold stepS at h ⊢
  rw [← guardOf_same ha.l, ← evOp_same cl σ ha.r]
  split at h
  · cases h
  · cases h
  · split at h
    · cases h
    · exact h
    · cases h

theorem stepS_pan_eff {i : CI} {t : T} {σ σ' : Sto} {v : V} (h : stepS cl i t σ = some (.pan v σ')) : i.op.eff = true := by
  unfold stepS at h
  split at h
  · cases h
  · cases h
  · split at h
    · cases h
    · rename_i hev; exact evOp_pan hev
    · cases h

theorem stepS_le (hcl : ClLe cl) {i : CI} {t t' : T} {σ σ' : Sto} (h : stepS cl i t σ = some (.go t' σ')) : σ.Le σ' := by
  unfold stepS at h
  split at h
  · cases h
  · cases h; exact Sto.Le.refl _
  · split at h
    · cases h
    · cases h
    · rename_i hev; cases h; exact evOp_le hcl hev

/-- What turns no store: again, at another store. -/
theorem stepS_mv {i : CI} (hi : i.op.eff = false) {t t' : T} {σ σ' : Sto} (h : stepS cl i t σ = some (.go t' σ')) :
    σ' = σ ∧ ∀ σ2, (∀ n x, guardOf t i.g = some true → i.op = .ld n x → ∀ a, ev t x = some a → ldV σ2 n a = ldV σ n a) → stepS cl i t σ2 = some (.go t' σ2) := by
  unfold stepS at h
  split at h
  · cases h
  · rename_i hg
    cases h
    refine ⟨rfl, fun σ2 _ => ?_⟩
    unfold stepS
    rw [hg]
  · rename_i hg
    have hm : ∀ σ2, (∀ n x, i.op = .ld n x → ∀ a, ev t x = some a → ldV σ2 n a = ldV σ n a) → evOp cl t σ2 i.op = (evOp cl t σ i.op).map fun q => (q.1, σ2) := fun σ2 h => evOp_mv hi σ2 h
    split at h
    · cases h
    · cases h
    · rename_i r σ3 hnp hev
      cases h
      have h0 := hm σ (fun _ _ _ _ _ => rfl)
      rw [hev] at h0
      simp at h0
      subst h0
      refine ⟨rfl, fun σ2 hs => ?_⟩
      unfold stepS
      rw [hg]
      dsimp only
      rw [hm σ2 fun n x ho a ha => hs n x hg ho a ha, hev]
      cases r with
      | pan v => exact (hnp v rfl).elim
      | _ => rfl

end

/-! ## All orders -/

section
variable (cl : Cl) (ops : Array Oper) (ci : Nat → CI) (kn : T → Sto → Prop) (kp : V → Sto → Prop)

def Any : Nat → (Nat → Sto → Prop) → Array Bool → T → Sto → Prop
  | 0, _, L, t, σ => Region.ready .any ops L = [] ∧ kn t σ
  | fuel + 1, C, L, t, σ => (Region.ready .any ops L = [] → kn t σ) ∧ ∀ i ∈ Region.ready .any ops L, ∃ s, stepS cl (ci i) t σ = some s ∧ (∀ v σ', s = .pan v σ' → kp v σ') ∧
      ∀ t' σ', s = .go t' σ' → (if (ci i).op.eff then C 0 σ' ∧ Any fuel (fun n => C (n + 1)) (L.setIfInBounds i true) t' σ' else Any fuel C (L.setIfInBounds i true) t' σ')

variable {cl ops ci kn kp}

theorem Any.weaken : ∀ {fuel : Nat} {C C' : Nat → Sto → Prop} {L : Array Bool} {t : T} {σ : Sto}, (∀ n σ, C n σ → C' n σ) → Any cl ops ci kn kp fuel C L t σ → Any cl ops ci kn kp fuel C' L t σ
  | 0, _, _, _, _, _, _, h => h
  | fuel + 1, C, C', L, t, σ, hC, h => ⟨h.1, fun i hi => by
      obtain ⟨s, h1, h2, h3⟩ := h.2 i hi
      refine ⟨s, h1, h2, fun t' σ' hs => ?_⟩
      have := h3 t' σ' hs
      split
      · rename_i he
        rw [if_pos he] at this
        exact ⟨hC _ _ this.1, Any.weaken (fun n σ h => hC (n + 1) σ h) this.2⟩
      · rename_i he
        rw [if_neg he] at this
        exact Any.weaken hC this⟩

end

/-- What is before what: by the edges that bind. -/
structure AncOk (ops : Array Oper) (anc : Nat → Nat → Bool) : Prop where
  inv : ∀ j o i, ops[j]? = some o → anc j i = true → ∃ e ∈ o.after, Region.binds .any e = true ∧ (e.on = i ∨ anc e.on i = true)

def Closed (anc : Nat → Nat → Bool) (L : Array Bool) : Prop := ∀ j i, L.getD j false = true → anc j i = true → L.getD i false = true

theorem Closed.ready {ops : Array Oper} {anc : Nat → Nat → Bool} (ha : AncOk ops anc) {L : Array Bool} (hc : Closed anc L) {j i : Nat} (hj : j ∈ Region.ready .any ops L) (h : anc j i = true) : L.getD i false = true := by
  obtain ⟨_, o, ho, hall⟩ := mem_ready.1 hj
  obtain ⟨e, he, hb, hi⟩ := ha.inv j o i ho h
  have := hall e he hb
  rcases hi with rfl | hi
  · exact this
  · exact hc _ _ this hi

theorem Closed.set {ops : Array Oper} {anc : Nat → Nat → Bool} (ha : AncOk ops anc) {L : Array Bool} (hc : Closed anc L) {j : Nat} (hj : j ∈ Region.ready .any ops L) : Closed anc (L.setIfInBounds j true) := by
  intro k i hk hki
  refine getD_set_true ?_
  by_cases h : j = k
  · subst h; exact hc.ready ha hj hki
  · rw [getD_set_ne false h] at hk
    exact hc k i hk hki

def Pos.apart (a b : List Pos) : Bool := a.all fun p => !p.elem b

theorem Pos.apart_ne {a b : List Pos} (h : Pos.apart a b = true) {p q : Pos} (hp : p ∈ a) (hq : q ∈ b) : p ≠ q := fun e => by
  subst e
  unfold Pos.apart at h
  rw [List.all_eq_true] at h
  have := h p hp
  simp only [Bool.not_eq_true', ← Bool.not_eq_true, Pos.elem_iff] at this
  exact this hq

/-- Two operations that do not meet in a register. -/
def CI.free (x y : CI) : Bool := Pos.apart x.wrs y.rds && (Pos.apart x.wrs y.wrs && Pos.apart y.wrs x.rds)

theorem getD_listed {L : Array Bool} {j : Nat} : L.getD j true = false → L.getD j false = false := fun h => by
  rcases Nat.lt_or_ge j L.size with h' | h'
  · simp [h'] at h ⊢; exact h
  · simp [Array.getElem?_eq_none h'] at h

theorem countP_erase' {p : Nat → Bool} {j : Nat} : ∀ {l : List Nat}, j ∈ l → (l.erase j).countP p + (if p j = true then 1 else 0) = l.countP p
  | [], h => by cases h
  | a :: l, h => by
    by_cases e : a = j
    · subst e
      rw [List.erase_cons_head, List.countP_cons]
    · rw [List.erase_cons_tail (by simpa using e), List.countP_cons, List.countP_cons]
      have := countP_erase' (p := p) ((List.mem_cons.1 h).resolve_left (fun h => e h.symm))
      omega

section
variable {cl : Cl} {ops : Array Oper} {ci : Nat → CI} {kn : T → Sto → Prop} {kp : V → Sto → Prop} {anc : Nat → Nat → Bool}

def VerOk (D : Option (Nat × Nat × Blk)) (σ : Sto) : Prop := ∀ b v x, D = some (b, v, x) → σ.get b = some (v, x)

def withD (D : Option (Nat × Nat × Blk)) (n : Nat) (C : Nat → Sto → Prop) (m : Nat) (σ : Sto) : Prop := (m < n → ∀ b v x, D = some (b, v, x) → σ.ver b = some v) ∧ C m σ

theorem VerOk.step {D : Option (Nat × Nat × Blk)} {σ σ' : Sto} (h : VerOk D σ) (hl : σ.Le σ') (hv : ∀ b v x, D = some (b, v, x) → σ'.ver b = some v) : VerOk D σ' := fun b v x hD => by
  obtain ⟨v', x', h1, _, h3⟩ := hl.2 b v x (h b v x hD)
  have := hv b v x hD
  unfold Sto.ver at this
  rw [h1] at this
  cases this
  rw [h1, h3 rfl]

/-- An operation that turns no store may be first. -/
theorem Any.first (hcl : ClLe cl) (ha : AncOk ops anc) {i : Nat} (hI : (ci i).op.eff = false) {u : Option (Pos × Option V)} (hu : ∀ p x, u = some (p, x) → p ∈ (ci i).wrs) {D : Option (Nat × Nat × Blk)} :
    ∀ (fuel : Nat) (L : Array Bool) (rest : List Nat) (C : Nat → Sto → Prop) (t : T) (σ : Sto) (n : Nat), (∀ j, L.getD j true = false → j = i ∨ j ∈ rest) → Closed anc L →
      (∀ j ∈ rest, anc j i = true ∨ (ci i).free (ci j) = true) → rest.countP (fun j => (ci j).op.eff && !anc j i) ≤ n → i ∈ Region.ready .any ops L →
      (∀ t2 σ2, Agr (ci i).rds t t2 → VerOk D σ2 → stepS cl (ci i) t2 σ2 = some (.go (putU t2 u) σ2)) → VerOk D σ →
      Any cl ops ci kn kp fuel (withD D n C) (L.setIfInBounds i true) (putU t u) σ → Any cl ops ci kn kp (fuel + 1) C L t σ := by
  intro fuel
  induction fuel with
  | zero =>
    intro L rest C t σ n hun hcd hfree hcnt hr hst hv H
    refine ⟨fun h => (by rw [h] at hr; cases hr), fun j hj => ?_⟩
    by_cases hji : j = i
    · subst hji
      refine ⟨_, hst t σ (fun _ _ => rfl) hv, (fun v σ' h => by cases h), fun t' σ' h => ?_⟩
      cases h
      rw [hI]
      exact H
    · have := ready_mono (ops := ops) (md := .any) hj hji
      rw [H.1] at this
      cases this
  | succ fuel ih =>
    intro L rest C t σ n hun hcd hfree hcnt hr hst hv H
    refine ⟨fun h => (by rw [h] at hr; cases hr), fun j hj => ?_⟩
    by_cases hji : j = i
    · subst hji
      refine ⟨_, hst t σ (fun _ _ => rfl) hv, (fun v σ' h => by cases h), fun t' σ' h => ?_⟩
      cases h
      rw [hI]
      exact Any.weaken (fun _ _ h => h.2) H
    · obtain ⟨s, h1, h2, h3⟩ := H.2 j (ready_mono hj hji)
      have hjun := (mem_ready.1 hj).1
      have hjr : j ∈ rest := (hun j hjun).resolve_left hji
      have hnot : anc j i = false := by
        cases h : anc j i with
        | false => rfl
        | true =>
          have := hcd.ready ha hj h
          rw [getD_listed (mem_ready.1 hr).1] at this
          cases this
      have hfr : (ci i).free (ci j) = true := (hfree j hjr).resolve_left (by rw [hnot]; simp)
      unfold CI.free at hfr
      simp only [Bool.and_eq_true] at hfr
      obtain ⟨f1, f2, f3⟩ := hfr
      have hag : Agr (ci j).rds (putU t u) t := fun q hq => putU_get fun p x hpx => Pos.apart_ne f1 (hu p x hpx) hq
      cases s with
      | pan v σ' =>
        exact ⟨_, stepS_pan h1 hag, fun v' σ2 h => by cases h; exact h2 v σ' rfl, fun t' σ2 h => by cases h⟩
      | go t' σ' =>
        obtain ⟨uj, hj1, hj2, hj3⟩ := stepS_go h1
        have hle := stepS_le hcl h1
        refine ⟨_, hj3 t hag, (fun v σ2 h => by cases h), fun t2 σ2 h => ?_⟩
        cases h
        have hagi : Agr (ci i).rds t (putU t uj) := fun q hq => (putU_get fun p x hpx => Pos.apart_ne f3 (hj2 p x hpx) hq).symm
        have hcomm : putU (putU t u) uj = putU (putU t uj) u := putU_comm fun p x q y h1 h2 => Pos.apart_ne f2 (hu p x h1) (hj2 q y h2)
        have hstp := h3 t' σ' rfl
        have ready' : i ∈ Region.ready .any ops (L.setIfInBounds j true) := ready_mono hr (Ne.symm hji)
        have hun' : ∀ j', (L.setIfInBounds j true).getD j' true = false → j' = i ∨ j' ∈ rest.erase j := fun j' h => by
          by_cases hjj : j = j'
          · subst hjj
            rcases Nat.lt_or_ge j L.size with h' | h'
            · simp [h'] at h
            · exfalso
              have : (L.setIfInBounds j true).getD j true = true := by rw [Array.getD_eq_getD_getElem?, Array.getElem?_eq_none (by simpa using h')]; rfl
              rw [this] at h; cases h
          · rw [getD_set_ne true hjj] at h
            exact (hun j' h).imp id fun h => (List.mem_erase_of_ne (Ne.symm hjj)).2 h
        have hfree' : ∀ j' ∈ rest.erase j, anc j' i = true ∨ (ci i).free (ci j') = true := fun j' h => hfree j' (List.mem_of_mem_erase h)
        rw [Array.setIfInBounds_comm _ _ (Ne.symm hji), hj1, hcomm] at hstp
        cases he : (ci j).op.eff with
        | true =>
          rw [he, if_pos rfl] at hstp
          have hpos : 0 < rest.countP (fun j => (ci j).op.eff && !anc j i) := List.countP_pos_iff.2 ⟨j, hjr, by simp [he, hnot]⟩
          have hn : 0 < n := by omega
          have hv' : VerOk D σ' := hv.step hle (hstp.1.1 hn)
          refine (if_pos rfl).mpr ⟨hstp.1.2, ih (L.setIfInBounds j true) (rest.erase j) (fun m => C (m + 1)) (putU t uj) σ' (n - 1) hun' (hcd.set ha hj) hfree' ?_ ready' (fun t2 σ2 h => hst t2 σ2 (fun q hq => (hagi q hq).trans (h q hq))) hv' ?_⟩
          · have := countP_erase' (p := fun j => (ci j).op.eff && !anc j i) hjr
            simp only [he, hnot] at this
            simp at this
            omega
          · exact Any.weaken (fun m σ h => ⟨fun hm => h.1 (by omega), h.2⟩) hstp.2
        | false =>
          rw [he] at hstp
          have hstp : Any cl ops ci kn kp fuel (withD D n C) ((L.setIfInBounds j true).setIfInBounds i true) (putU (putU t uj) u) σ' := by simpa using hstp
          have hσ : σ' = σ := (stepS_mv he h1).1
          subst hσ
          refine (if_neg (by simp)).mpr (ih (L.setIfInBounds j true) (rest.erase j) C (putU t uj) σ' n hun' (hcd.set ha hj) hfree' ?_ ready' (fun t2 σ2 h => hst t2 σ2 (fun q hq => (hagi q hq).trans (h q hq))) hv hstp)
          have := countP_erase' (p := fun j => (ci j).op.eff && !anc j i) hjr
          omega

/-! ## Stores that may be made later -/

def isLd : CO → Bool
  | .ld _ _ => true
  | _ => false

def isSt (c : CI) : Bool := match c.op, c.g, c.dst with
  | .st _ _ _, none, none => true
  | _, _, _ => false

theorem isSt_of {c : CI} (h : isSt c = true) : ∃ n x y, c.op = .st n x y ∧ c.g = none ∧ c.dst = none := by
  unfold isSt at h
  split at h
  · rename_i n x y h1 h2 h3
    exact ⟨n, x, y, h1, h2, h3⟩
  · cases h

theorem Sto.ver_upd_ne (σ : Sto) {b c : Nat} (h : c ≠ b) (X : Blk) : (σ.upd b X).ver c = σ.ver c := by
  unfold Sto.ver
  rw [Sto.get_upd, if_neg (fun e => h e.1)]

theorem Sto.upd_comm (σ : Sto) {b c : Nat} (h : b ≠ c) (X Y : Blk) : (σ.upd b X).upd c Y = (σ.upd c Y).upd b X := by
  have h1 := Sto.ver_upd_ne σ (b := b) (c := c) (Ne.symm h) X
  have h2 := Sto.ver_upd_ne σ (b := c) (c := b) h Y
  unfold Sto.upd at h1 h2 ⊢
  simp only [Sto.mk.injEq, true_and]
  rw [h1, h2]
  exact Tr.put_comm _ _ _ _ _ (pos_ne h)

theorem stepS_st {i : CI} (hi : isSt i = true) {t : T} {σ : Sto} {s : SO} (h : stepS cl i t σ = some s) :
    ∃ b n x y off cs vs, i.op = .st n x y ∧ ev t x = some (.ptr b off) ∧ σ.blk b = some (.cells cs) ∧ s = .go t (σ.upd b (.cells (over cs off vs))) ∧
      ∀ t2 σ2, Agr i.rds t t2 → σ2.blk b = some (.cells cs) → stepS cl i t2 σ2 = some (.go t2 (σ2.upd b (.cells (over cs off vs)))) := by
  obtain ⟨n, x, y, hop, hg, hd⟩ := isSt_of hi
  have hstep : ∀ t σ, stepS cl i t σ = (match (ev t x).bind fun a => (ev t y).bind fun v => stV σ n a v with | none => none | some σ' => some (.go t σ')) := fun t σ => by
    unfold stepS
    rw [hg, hop, hd]
    simp only [guardOf, evOp]
    cases ev t x with
    | none => rfl
    | some a =>
      cases ev t y with
      | none => rfl
      | some v =>
        simp only [Option.bind_some]
        cases stV σ n a v <;> rfl
  rw [hstep] at h
  cases hx : ev t x with
  | none => rw [hx] at h; cases h
  | some a =>
    rw [hx] at h
    cases hy : ev t y with
    | none => rw [hy] at h; cases h
    | some v =>
      rw [hy] at h
      simp only [Option.bind_some] at h
      cases a with
      | ptr b off =>
        cases hb : σ.blk b with
        | none => simp [stV, hb] at h
        | some z =>
          cases z with
          | cells cs =>
            simp only [stV, hb] at h
            split at h
            · cases h
            · rename_i σ' hσ
              cases h
              split at hσ
              · rename_i hc
                cases hσ
                refine ⟨b, n, x, y, off, cs, v.cells, hop, hx, hb, rfl, fun t2 σ2 hag hb2 => ?_⟩
                have hag' : Agr i.op.rd t t2 := hag.r
                rw [hop] at hag'
                have e1 : ev t2 x = some (.ptr b off) := by rw [← hx]; exact (ev_same hag'.l).symm
                have e2 : ev t2 y = some v := by rw [← hy]; exact (ev_same hag'.r).symm
                rw [hstep, e1, e2]
                simp only [Option.bind_some, stV, hb2]
                rw [if_pos hc]
              · cases hσ
          | _ => simp [stV, hb] at h
      | _ => simp [stV] at h

/-- A store may be made first, where what others do before it does not meet it. -/
theorem Any.late (hcl : ClLe cl) (ha : AncOk ops anc) {i : Nat} (hI : isSt (ci i) = true) {b v : Nat} {cs : List V} {X : Blk} :
    ∀ (fuel : Nat) (L : Array Bool) (rest : List Nat) (C : Nat → Sto → Prop) (t : T) (σ : Sto) (n : Nat), (∀ m σ, C m σ) → (∀ j, L.getD j true = false → j = i ∨ j ∈ rest) → Closed anc L →
      (∀ j ∈ rest, anc j i = true ∨ ((ci i).free (ci j) = true ∧ (((ci j).op.eff = false ∧ isLd (ci j).op = false) ∨ isSt (ci j) = true))) → rest.countP (fun j => (ci j).op.eff && !anc j i) ≤ n → i ∈ Region.ready .any ops L →
      σ.blk b = some (.cells cs) → (∀ t2 σ2, Agr (ci i).rds t t2 → σ2.blk b = some (.cells cs) → stepS cl (ci i) t2 σ2 = some (.go t2 (σ2.upd b X))) → (σ.upd b X).ver b = some v →
      Any cl ops ci kn kp fuel (fun m σ => m < n → σ.ver b = some v) (L.setIfInBounds i true) t (σ.upd b X) → Any cl ops ci kn kp (fuel + 1) C L t σ := by
  have heff : (ci i).op.eff = true := by
    obtain ⟨n, x, y, hop, _, _⟩ := isSt_of hI
    rw [hop]; rfl
  intro fuel
  induction fuel with
  | zero =>
    intro L rest C t σ n hC hun hcd hfree hcnt hr hb hst hv H
    refine ⟨fun h => (by rw [h] at hr; cases hr), fun j hj => ?_⟩
    by_cases hji : j = i
    · subst hji
      refine ⟨_, hst t σ (fun _ _ => rfl) hb, (fun v σ' h => by cases h), fun t' σ' h => ?_⟩
      cases h
      rw [heff]
      exact ⟨hC _ _, Any.weaken (fun m σ _ => hC _ _) H⟩
    · have := ready_mono (ops := ops) (md := .any) hj hji
      rw [H.1] at this
      cases this
  | succ fuel ih =>
    intro L rest C t σ n hC hun hcd hfree hcnt hr hb hst hv H
    refine ⟨fun h => (by rw [h] at hr; cases hr), fun j hj => ?_⟩
    by_cases hji : j = i
    · subst hji
      refine ⟨_, hst t σ (fun _ _ => rfl) hb, (fun v σ' h => by cases h), fun t' σ' h => ?_⟩
      cases h
      rw [heff]
      exact ⟨hC _ _, Any.weaken (fun m σ _ => hC _ _) H⟩
    · obtain ⟨s, h1, h2, h3⟩ := H.2 j (ready_mono hj hji)
      have hjun := (mem_ready.1 hj).1
      have hjr : j ∈ rest := (hun j hjun).resolve_left hji
      have hnot : anc j i = false := by
        cases h : anc j i with
        | false => rfl
        | true =>
          have := hcd.ready ha hj h
          rw [getD_listed (mem_ready.1 hr).1] at this
          cases this
      obtain ⟨hfr, hkind⟩ := (hfree j hjr).resolve_left (by rw [hnot]; simp)
      unfold CI.free at hfr
      simp only [Bool.and_eq_true] at hfr
      obtain ⟨f1, f2, f3⟩ := hfr
      have ready' : i ∈ Region.ready .any ops (L.setIfInBounds j true) := ready_mono hr (Ne.symm hji)
      have hun' : ∀ j', (L.setIfInBounds j true).getD j' true = false → j' = i ∨ j' ∈ rest.erase j := fun j' h => by
        by_cases hjj : j = j'
        · subst hjj
          rcases Nat.lt_or_ge j L.size with h' | h'
          · simp [h'] at h
          · exfalso
            have : (L.setIfInBounds j true).getD j true = true := by rw [Array.getD_eq_getD_getElem?, Array.getElem?_eq_none (by simpa using h')]; rfl
            rw [this] at h; cases h
        · rw [getD_set_ne true hjj] at h
          exact (hun j' h).imp id fun h => (List.mem_erase_of_ne (Ne.symm hjj)).2 h
      have hfree' : ∀ j' ∈ rest.erase j, anc j' i = true ∨ ((ci i).free (ci j') = true ∧ (((ci j').op.eff = false ∧ isLd (ci j').op = false) ∨ isSt (ci j') = true)) := fun j' h => hfree j' (List.mem_of_mem_erase h)
      have hcnt2 := countP_erase' (p := fun j => (ci j).op.eff && !anc j i) hjr
      rcases hkind with ⟨he, hld⟩ | hsj
      · -- one that turns no store
        cases s with
        | pan v σ' => have := stepS_pan_eff h1; rw [he] at this; cases this
        | go t' σ' =>
          obtain ⟨hσ, hmv⟩ := stepS_mv he h1
          subst hσ
          obtain ⟨uj, hj1, hj2, hj3⟩ := stepS_go h1
          have hag : Agr (ci i).rds t t' := fun q hq => by rw [hj1]; exact (putU_get fun p x hpx => Pos.apart_ne f3 (hj2 p x hpx) hq).symm
          refine ⟨_, hmv σ (fun n x _ ho => by rw [ho] at hld; cases hld), (fun v σ2 h => by cases h), fun t2 σ2 h => ?_⟩
          cases h
          have hstp := h3 t' _ rfl
          rw [he] at hstp
          have hstp : Any cl ops ci kn kp fuel (fun m σ => m < n → σ.ver b = some v) ((L.setIfInBounds i true).setIfInBounds j true) t' (σ.upd b X) := by simpa using hstp
          rw [Array.setIfInBounds_comm _ _ (Ne.symm hji)] at hstp
          rw [he]
          refine (if_neg (by simp)).mpr (ih (L.setIfInBounds j true) (rest.erase j) C t' σ n hC hun' (hcd.set ha hj) hfree' ?_ ready' hb (fun t2 σ2 h => hst t2 σ2 (fun q hq => (hag q hq).trans (h q hq))) hv hstp)
          omega
      · -- another store
        have hej : (ci j).op.eff = true := by
          obtain ⟨n, x, y, hop, _, _⟩ := isSt_of hsj
          rw [hop]; rfl
        obtain ⟨c, nj, xj, yj, offj, cj, vsj, _, _, hc1, hc2, hc3⟩ := stepS_st hsj h1
        subst hc2
        have hstp := h3 t _ rfl
        rw [hej, if_pos rfl] at hstp
        have hn : 0 < n := by
          have hpos : 0 < rest.countP (fun j => (ci j).op.eff && !anc j i) := List.countP_pos_iff.2 ⟨j, hjr, by simp [hej, hnot]⟩
          omega
        have hv2 := hstp.1 hn
        have hcb : c ≠ b := by
          rintro rfl
          have hlt := Sto.blk_lt hc1
          unfold Sto.ver at hv2 hv
          rw [Sto.get_upd, if_pos ⟨rfl, hlt⟩] at hv2
          simp only [Option.map_some, Option.some.injEq, Sto.ver, hv, Option.getD_some] at hv2
          omega
        have hbc : σ.blk c = some (.cells cj) := by
          rw [Sto.blk_upd, if_neg (fun e => hcb e.1)] at hc1
          exact hc1
        refine ⟨_, hc3 t σ (fun _ _ => rfl) hbc, (fun v σ2 h => by cases h), fun t2 σ2 h => ?_⟩
        cases h
        rw [hej, if_pos rfl]
        have hstp2 := hstp.2
        rw [Array.setIfInBounds_comm _ _ (Ne.symm hji), Sto.upd_comm σ (Ne.symm hcb)] at hstp2
        rw [Sto.upd_comm σ (Ne.symm hcb)] at hv2
        refine ⟨hC _ _, ih (L.setIfInBounds j true) (rest.erase j) (fun m => C (m + 1)) t _ (n - 1) (fun m σ => hC _ _) hun' (hcd.set ha hj) hfree' ?_ ready' ?_ hst hv2 (Any.weaken (fun m σ h hm => h (by omega)) hstp2)⟩
        · simp only [hej, hnot] at hcnt2
          simp at hcnt2
          omega
        · rw [Sto.blk_upd, if_neg (fun e => hcb e.1.symm)]
          exact hb

/-! ## The interpreter's order -/

def CPd (pd : Pend) (m : Nat) (σ : Sto) : Prop := ∀ n b v, (n, b, v) ∈ pd → m < n → σ.ver b = some v

def PdNow (pd : Pend) (σ : Sto) : Prop := ∀ n b v, (n, b, v) ∈ pd → σ.ver b = some v

theorem Pend.pass_spec : ∀ {pd pd' : Pend} {σ : Sto}, Pend.pass σ pd = some pd' → CPd pd 0 σ ∧ PdNow pd' σ ∧ ∀ n b v, (n + 1, b, v) ∈ pd → (n, b, v) ∈ pd'
  | [], _, σ, h => by
    cases h
    exact ⟨(fun _ _ _ h => by cases h), (fun _ _ _ h => by cases h), (fun _ _ _ h => by cases h)⟩
  | (0, b, v) :: l, pd', σ, h => by
    simp only [Pend.pass] at h
    obtain ⟨h1, h2, h3⟩ := Pend.pass_spec h
    refine ⟨fun n b v hm hn => ?_, h2, fun n b v hm => ?_⟩
    · rcases List.mem_cons.1 hm with e | hm
      · cases e; cases hn
      · exact h1 n b v hm hn
    · rcases List.mem_cons.1 hm with e | hm
      · cases e
      · exact h3 n b v hm
  | (k + 1, c, z) :: l, pd', σ, h => by
    simp only [Pend.pass] at h
    split at h
    · rename_i hv
      cases hl : Pend.pass σ l with
      | none => rw [hl] at h; cases h
      | some l' =>
        rw [hl] at h
        cases h
        obtain ⟨h1, h2, h3⟩ := Pend.pass_spec hl
        refine ⟨fun n b v hm hn => ?_, fun n b v hm => ?_, fun n b v hm => ?_⟩
        · rcases List.mem_cons.1 hm with e | hm
          · cases e; exact hv
          · exact h1 n b v hm hn
        · rcases List.mem_cons.1 hm with e | hm
          · cases e; exact hv
          · exact h2 n b v hm
        · rcases List.mem_cons.1 hm with e | hm
          · cases e; exact List.mem_cons_self
          · exact List.mem_cons_of_mem _ (h3 n b v hm)
    · cases h

theorem evOps_cons' {cl : Cl} {i : CI} {l : List CI} {pd : Pend} {t : T} {σ : Sto} {k : K} {r : Res × Sto} (h : evOps cl (i :: l) pd t σ k = some r) :
    ∃ s, stepS cl i t σ = some s ∧ (∀ v σ', s = .pan v σ' → k (.pan v) t σ' = some r) ∧
      (∀ t' σ', s = .go t' σ' → ∃ pd', evOps cl l pd' t' σ' k = some r ∧ ((guardOf t i.g = some false ∧ pd' = pd ∧ σ' = σ) ∨ (guardOf t i.g = some true ∧ pendOf t σ σ' i pd = some pd'))) := by
  unfold evOps at h
  unfold stepS
  cases hg : guardOf t i.g with
  | none => rw [hg] at h; cases h
  | some b =>
    rw [hg] at h
    cases b with
    | false =>
      refine ⟨_, rfl, ?_, ?_⟩
      · intro v σ' h; cases h
      · intro t' σ' h'; cases h'; exact ⟨pd, h, Or.inl ⟨rfl, rfl, rfl⟩⟩
    | true =>
      dsimp only at h ⊢
      cases he : evOp cl t σ i.op with
      | none => rw [he] at h; cases h
      | some q =>
        obtain ⟨r', σ'⟩ := q
        rw [he] at h
        cases r' with
        | pan v =>
          refine ⟨_, rfl, ?_, ?_⟩
          · intro v' σ2 h'; cases h'; exact h
          · intro t' σ2 h'; cases h'
        | _ =>
          simp only [Option.bind_eq_some_iff] at h
          obtain ⟨pd', hp, h⟩ := h
          refine ⟨_, rfl, ?_, ?_⟩
          · intro v' σ2 h'; cases h'
          · intro t' σ2 h'; cases h'; exact ⟨pd', h, Or.inr ⟨rfl, hp⟩⟩

/-- The order of the interpreter is one that says all others. -/
def chkPerm (ops : Array Oper) (ci : Nat → CI) (anc : Nat → Nat → Bool) : List Nat → Bool
  | [] => true
  | i :: rest => (match ops[i]? with | some o => o.after.all fun e => !Region.binds .any e || (decide (e.on < ops.size) && !(i :: rest).contains e.on) | none => false) &&
      ((if (ci i).late then isSt (ci i) && ((rest.all fun j => anc j i || ((ci i).free (ci j) && ((!(ci j).op.eff && !isLd (ci j).op) || isSt (ci j)))) && decide (rest.countP (fun j => (ci j).op.eff && !anc j i) ≤ (ci i).chk))
        else if (ci i).op.eff then rest.all fun j => anc j i
        else (rest.all fun j => anc j i || (ci i).free (ci j)) && (!isLd (ci i).op || decide (rest.countP (fun j => (ci j).op.eff && !anc j i) ≤ (ci i).chk))) &&
       chkPerm ops ci anc rest)

theorem ldV_at {n : Option Nat} {a : V} {σ σ2 : Sto} (h : ∀ b off, a = .ptr b off → σ2.blk b = σ.blk b) : ldV σ2 n a = ldV σ n a := by
  unfold ldV
  cases a with
  | ptr b off => dsimp only; rw [h b off rfl]
  | _ => rfl

theorem blk_of_get {σ : Sto} {b v : Nat} {x : Blk} (h : σ.get b = some (v, x)) : σ.blk b = some x := by unfold Sto.blk; rw [h]; rfl

theorem Any.of_evOps (hcl : ClLe cl) (ha : AncOk ops anc) {k : K} {r : Res × Sto} (hkn : ∀ t σ, k .normal t σ = some r → kn t σ) (hkp : ∀ v t σ, k (.pan v) t σ = some r → kp v σ) : ∀ (rest : List Nat) (L : Array Bool) (pd : Pend) (t : T) (σ : Sto),
    L.size = ops.size → (∀ j, j < ops.size → (L.getD j false = true ↔ j ∉ rest)) → rest.Nodup → (∀ j ∈ rest, j < ops.size) → Closed anc L → chkPerm ops ci anc rest = true → PdNow pd σ →
    evOps cl (rest.map ci) pd t σ k = some r → Any cl ops ci kn kp rest.length (CPd pd) L t σ := by
  intro rest
  induction rest with
  | nil =>
    intro L pd t σ hsz hL _ _ _ _ _ hev
    refine ⟨?_, hkn _ _ hev⟩
    unfold Region.ready
    rw [List.filter_eq_nil_iff]
    intro i hi
    have hlt : i < ops.size := List.mem_range.1 hi
    have := (hL i hlt).2 (by simp)
    have hlt' : i < L.size := by omega
    simp [hlt'] at this
    simp [hlt', this]
  | cons i rest ih =>
    intro L pd t σ hsz hL hnd hlt hcd hchk hnow hev
    have hil : i < ops.size := hlt i List.mem_cons_self
    unfold chkPerm at hchk
    rw [Bool.and_eq_true, Bool.and_eq_true] at hchk
    obtain ⟨c1, c2, c3⟩ := hchk
    have hun : L.getD i true = false := by
      have h1 : ¬ L.getD i false = true := fun h => (hL i hil).1 h List.mem_cons_self
      have hlt' : i < L.size := by omega
      simp [hlt'] at h1 ⊢; exact h1
    have hready : i ∈ Region.ready .any ops L := by
      rw [mem_ready]
      have ho : ops[i]? = some ops[i] := by simp [hil]
      refine ⟨hun, ops[i], ho, fun e he hb => ?_⟩
      rw [ho] at c1
      dsimp only at c1
      have := Array.all_eq_true_iff_forall_mem.1 c1 e he
      rw [hb] at this
      simp only [Bool.not_true, Bool.false_or, Bool.and_eq_true, decide_eq_true_eq, Bool.not_eq_true'] at this
      refine (hL e.on this.1).2 fun hm => ?_
      have h2 := this.2
      rw [← Bool.not_eq_true, List.contains_iff_mem] at h2
      exact h2 hm
    have hunall : ∀ j, L.getD j true = false → j = i ∨ j ∈ rest := fun j hj => by
      have h1 := getD_listed hj
      rcases Nat.lt_or_ge j L.size with h' | h'
      · have := (hL j (by omega))
        rw [h1] at this
        simp at this
        exact (Classical.em (j = i)).imp id fun h => this h
      · simp [Array.getElem?_eq_none h'] at hj
    obtain ⟨s, h1, h2, h3⟩ := evOps_cons' hev
    have hnd' := List.nodup_cons.1 hnd
    have next : ∀ (pd' : Pend) (t' : T) (σ' : Sto), PdNow pd' σ' → evOps cl (rest.map ci) pd' t' σ' k = some r → Any cl ops ci kn kp rest.length (CPd pd') (L.setIfInBounds i true) t' σ' := fun pd' t' σ' hn he => by
      refine ih (L.setIfInBounds i true) pd' t' σ' (by simpa using hsz) (fun j hj => ?_) hnd'.2 (fun j hj => hlt j (List.mem_cons_of_mem _ hj)) (hcd.set ha hready) c3 hn he
      by_cases hij : i = j
      · subst hij
        constructor
        · intro _; exact hnd'.1
        · intro _
          have : i < L.size := by omega
          simp [this]
      · rw [getD_set_ne false hij, hL j hj, List.mem_cons, not_or]
        exact ⟨fun h => h.2, fun h => ⟨Ne.symm hij, h⟩⟩
    cases hlt8 : (ci i).late with
    | true =>
      rw [hlt8, if_pos rfl] at c2
      simp only [Bool.and_eq_true, decide_eq_true_eq] at c2
      obtain ⟨d1, d2, d3⟩ := c2
      obtain ⟨n, x, y, hop, hg, hd⟩ := isSt_of d1
      obtain ⟨b, n', x', y', off, cs, vs, hop', hx, hb, rfl, hst⟩ := stepS_st d1 h1
      rw [hop] at hop'
      cases hop'
      obtain ⟨pd', hev', hpd⟩ := h3 t _ rfl
      rcases hpd with ⟨hgf, _⟩ | ⟨_, hpd⟩
      · rw [hg] at hgf; cases hgf
      · unfold pendOf at hpd
        rw [hlt8, if_pos rfl] at hpd
        unfold lateP at hpd
        rw [hop, hg, hd] at hpd
        cases pd with
        | cons e l => cases hpd
        | nil =>
          simp only [hx, Option.bind_some, lateV] at hpd
          obtain ⟨v, hv, rfl⟩ := Option.map_eq_some_iff.1 hpd
          have hnow' : PdNow [((ci i).chk, b, v)] (σ.upd b (.cells (over cs off vs))) := fun n b' v' hm => by
            rw [List.mem_singleton] at hm
            cases hm
            exact hv
          refine Any.late hcl ha d1 rest.length L rest (CPd []) t σ (ci i).chk (fun m σ n b v h => by cases h) hunall hcd (fun j hj => ?_) d3 hready hb hst hv (Any.weaken (fun m σ h hm => h _ _ _ (List.mem_singleton.2 rfl) hm) (next _ _ _ hnow' hev'))
          have := List.all_eq_true.1 d2 j hj
          simpa only [Bool.or_eq_true, Bool.and_eq_true, Bool.not_eq_true'] using this
    | false =>
    rw [hlt8] at c2
    rw [if_neg (by simp)] at c2
    have hpeq : ∀ σ' : Sto, pendOf t σ σ' (ci i) pd = if (ci i).op.eff then Pend.pass σ' pd else Pend.note t σ (ci i) pd := fun σ' => by
      unfold pendOf
      rw [hlt8, if_neg (by simp)]
    cases he : (ci i).op.eff with
    | true =>
      rw [he, if_pos rfl] at c2
      refine ⟨fun h => (by rw [h] at hready; cases hready), fun j hj => ?_⟩
      have hji : j = i := by
        refine (hunall j (mem_ready.1 hj).1).resolve_right fun hm => ?_
        have := hcd.ready ha hj (List.all_eq_true.1 c2 j hm)
        rw [getD_listed hun] at this
        cases this
      subst hji
      refine ⟨s, h1, fun v σ' hs => hkp _ _ _ (h2 v σ' hs), fun t' σ' hs => ?_⟩
      obtain ⟨pd', hev', hpd⟩ := h3 t' σ' hs
      rw [he, if_pos rfl]
      rcases hpd with ⟨_, rfl, rfl⟩ | ⟨_, hpd⟩
      · exact ⟨fun n b v hm _ => hnow n b v hm, Any.weaken (fun m σ h n b v hm hn => h n b v hm (by omega)) (next _ _ _ hnow hev')⟩
      · rw [hpeq] at hpd
        rw [he, if_pos rfl] at hpd
        obtain ⟨p1, p2, p3⟩ := Pend.pass_spec hpd
        refine ⟨p1, Any.weaken (fun m σ h n b v hm hn => ?_) (next _ _ _ p2 hev')⟩
        cases n with
        | zero => cases hn
        | succ n => exact h n b v (p3 n b v hm) (by omega)
    | false =>
      rw [he] at c2
      simp only [Bool.false_eq_true, if_false, Bool.and_eq_true] at c2
      obtain ⟨c4, c5⟩ := c2
      cases s with
      | pan v σ' => have := stepS_pan_eff h1; rw [he] at this; cases this
      | go t' σ' =>
        have hσ := (stepS_mv he h1).1
        subst hσ
        obtain ⟨u, hu1, hu2, hu3⟩ := stepS_go h1
        obtain ⟨pd', hev', hpd⟩ := h3 t' σ' rfl
        have hfree : ∀ j ∈ rest, anc j i = true ∨ (ci i).free (ci j) = true := fun j hj => by
          have := List.all_eq_true.1 c4 j hj
          simpa using this
        -- is it a load that may be late?
        have key : ∃ D n, VerOk D σ' ∧ rest.countP (fun j => (ci j).op.eff && !anc j i) ≤ n ∧ (∀ m σ, CPd pd' m σ → withD D n (CPd pd) m σ) ∧ PdNow pd' σ' ∧
            (∀ σ2, VerOk D σ2 → ∀ n x, guardOf t (ci i).g = some true → (ci i).op = .ld n x → ∀ a, ev t x = some a → ldV σ2 n a = ldV σ' n a) := by
          rcases hpd with ⟨hg, rfl, _⟩ | ⟨hg, hpd⟩
          · exact ⟨none, _, (fun b v x h => by cases h), Nat.le_refl _, (fun m σ h => ⟨(fun _ b v x h => by cases h), h⟩), hnow, (fun σ2 _ n x h => by rw [hg] at h; cases h)⟩
          · rw [hpeq] at hpd
            rw [he] at hpd
            simp only [Bool.false_eq_true, if_false] at hpd
            unfold Pend.note at hpd
            by_cases hptr : ∃ n x b off, (ci i).op = .ld n x ∧ ev t x = some (.ptr b off)
            · obtain ⟨n, x, b, off, hop, hx⟩ := hptr
              -- the block is there
              have hblk : ∃ v y, σ'.get b = some (v, y) := by
                unfold stepS at h1
                rw [hg] at h1
                simp only [hop, evOp, hx, Option.bind_some] at h1
                unfold ldV at h1
                cases hb : σ'.get b with
                | some q => exact ⟨q.1, q.2, rfl⟩
                | none =>
                  exfalso
                  unfold Sto.blk at h1
                  dsimp only at h1
                  rw [hb] at h1
                  cases h1
              obtain ⟨v, y, hget⟩ := hblk
              have hver : σ'.ver b = some v := by unfold Sto.ver; rw [hget]; rfl
              have hisld : isLd (ci i).op = true := by rw [hop]; rfl
              rw [hisld] at c5
              simp only [Bool.not_true, Bool.false_or, decide_eq_true_eq] at c5
              have stab : ∀ σ2, VerOk (some (b, v, y)) σ2 → ∀ n x, guardOf t (ci i).g = some true → (ci i).op = .ld n x → ∀ a, ev t x = some a → ldV σ2 n a = ldV σ' n a := fun σ2 hv n' x' _ ho a hxa => by
                rw [hop] at ho
                cases ho
                rw [hx] at hxa
                cases hxa
                refine ldV_at fun b' off' e => ?_
                cases e
                rw [blk_of_get (hv b v y rfl), blk_of_get hget]
              cases hc : (ci i).chk with
              | zero =>
                rw [hc] at hpd c5
                cases hpd
                exact ⟨some (b, v, y), 0, (fun b v x h => by cases h; exact hget), c5, (fun m σ h => ⟨fun h => (by cases h), h⟩), hnow, stab⟩
              | succ c =>
                rw [hc] at hpd c5
                simp only [hop, hx, hver, Option.map_some] at hpd
                cases hpd
                refine ⟨some (b, v, y), c + 1, (fun b v x h => by cases h; exact hget), c5, fun m σ h => ⟨fun hm b' v' x' e => ?_, fun n b v hm => h n b v (List.mem_cons_of_mem _ hm)⟩, fun n b' v' hm => ?_, stab⟩
                · cases e
                  exact h _ _ _ List.mem_cons_self hm
                · rcases List.mem_cons.1 hm with e | hm
                  · cases e; exact hver
                  · exact hnow n b' v' hm
            · have hpd' : pd' = pd := by
                split at hpd
                · cases hpd; rfl
                · split at hpd
                  · rename_i hop
                    split at hpd
                    · rename_i hx
                      exact absurd ⟨_, _, _, _, hop, hx⟩ hptr
                    · cases hpd; rfl
                  · cases hpd
              subst hpd'
              refine ⟨none, _, (fun b v x h => by cases h), Nat.le_refl _, (fun m σ h => ⟨(fun _ b v x h => by cases h), h⟩), hnow, fun σ2 _ n x _ hop a hx => ldV_at fun b off e => ?_⟩
              subst e
              exact absurd ⟨n, x, b, off, hop, hx⟩ hptr
        obtain ⟨D, n, k1, k2, k3, k4, k5⟩ := key
        refine Any.first hcl ha he hu2 rest.length L rest (CPd pd) t σ' n hunall hcd hfree k2 hready (fun t2 σ2 hag hv => ?_) k1 ?_
        · refine (stepS_mv he (hu3 t2 hag)).2 σ2 fun n x hg ho a hx => ?_
          rw [← guardOf_same hag.l] at hg
          have h4 : Agr (ci i).op.rd t t2 := hag.r
          rw [ho] at h4
          rw [← ev_same h4] at hx
          exact k5 σ2 hv n x hg ho a hx
        · rw [← hu1]
          exact Any.weaken k3 (next pd' t' σ' k4 hev')

end

end Go.Eng
