/- Regions: how they are compiled; those that are done in the order of the text. -/
import Derived.Test.YtjldgekmjnkofaaE16
set_option linter.unusedVariables false
set_option linter.unusedSimpArgs false
namespace Go.Eng
open Go

/-- An address in a variable of the frame's own: the slot that it lies in, the variable, where in it; which operation made it, under which guard. -/
structure AE where
  d : Nat
  p : Nat
  off : Nat
  i : Nat
  g : Option (Nat × Bool)

def sameG (a b : Option (Nat × Bool)) : Bool :=
  match a, b with
  | none, _ => true
  | some (i, x), some (j, y) => i == j && x == y
  | _, _ => false

def visible (adr : List AE) (o : Oper) (may : Nat → Bool) : Adr := (adr.filter fun e => sameG e.g o.guard && may e.i).map fun e => (e.d, e.p, e.off)

section
variable (fx : FX) (ty : Ty) (ops : Array Oper)

def dstAt (j : Nat) : Option Nat := (ops[j]?).bind (·.dst)

/-- A guard's register. -/
def cGuard (o : Oper) : Option (Option (Pos × Bool)) :=
  match o.guard with
  | none => some none
  | some (j, b) => match dstAt ops j with
    | some d => if fx.pv d = false ∧ d < fx.n then some (some (pos d, b)) else none
    | none => none

/-- What an operation writes: its register; a variable of the frame's own. -/
def CO.wr : CO → List Pos
  | .alR p _ | .boxR p _ | .stR p _ _ _ => [p]
  | _ => []

def CI.wrs (i : CI) : List Pos := i.dst.toList ++ i.op.wr

def Pos.elem (p : Pos) (l : List Pos) : Bool := l.any fun q => p.beq q

def AE.live (o : Oper) (ci : CI) (e : AE) : Bool :=
  (match o.dst with
  | none => true
  | some d => !(d == e.d) && !(d == e.p)) &&
  (match e.g with
  | none => true
  | some (j, _) => match dstAt ops j with
    | none => true
    | some d => !(pos d).elem ci.wrs)

def adrOf (o : Oper) (i : Nat) : Made → List AE
  | .adr p off => match o.dst with
    | some d => [⟨d, p, off, i, o.guard⟩]
    | none => []
  | _ => []

def Made.fit (o : Oper) : Made → Bool
  | .adr p _ => fx.pv p
  | m => !m.isNew || o.guard.isNone

def mkCI (o : Oper) (g : Option (Pos × Bool)) (m : Made) (chk : Nat) : CI := { dst := ciDst o m, g, op := coOf m, chk }

/-- Operations in the order of the text. -/
def cSeq : List Oper → Nat → List AE → Option (List CI)
  | [], _, _ => some []
  | o :: l, i, adr => match cGuard fx ops o, cOp fx ty (visible adr o fun _ => true) o with
    | some g, some m => if dstOk fx o m && m.fit fx o then
        match cSeq l (i + 1) (adr.filter (AE.live ops o (mkCI o g m 0)) ++ adrOf o i m) with
        | some cs => some (mkCI o g m 0 :: cs)
        | none => none
      else none
    | _, _ => none

end

/-! ## One step -/

inductive SO where
  | go (t : T) (σ : Sto)
  | pan (v : V) (σ : Sto)

def stepS (cl : Cl) (i : CI) (t : T) (σ : Sto) : Option SO :=
  match guardOf t i.g with
  | none => none
  | some false => some (.go (setD t i.dst .undef) σ)
  | some true => match evOp cl t σ i.op with
    | none => none
    | some (.pan v, σ') => some (.pan v σ')
    | some (r, σ') => some (.go (nextT t i.dst r) σ')

/-! ## What is known at a place -/

structure St (fx : FX) (B0 : Nat) (σ0 : Sto) (g0 : Gh) (w0 : World) (t : T) (σ : Sto) (g : Gh) (w : World) (a : Act) : Prop where
  fr : FR fx.pv B0 w0.heap.size fx.n σ g w t a
  inv : Inv B0 σ g w
  ext : Ext σ0 g0 w0 σ g w
  defers : a.defers = []

def OutR (g : Gh) (w : World) : Out → Exit → Prop
  | .normal, .normal => True
  | .exit i, .exit j => i = j
  | .ret, .ret => True
  | .pan v, .panic ch => ∃ u, ch = [{ v := u, recovered := false }] ∧ VR g w v u
  | _, _ => False

/-- What goes on behind a place ends so. -/
def QOk (fx : FX) (B0 : Nat) (σ0 : Sto) (g0 : Gh) (w0 : World) (k : K) (r : Res × Sto) (Q : Exit → Act → World → Prop) : Prop :=
  ∀ o t σ g w a, St fx B0 σ0 g0 w0 t σ g w a → k o t σ = some r → ∀ e, OutR g w o e → Q e a w

theorem FR.sub {pv : Nat → Bool} {B0 Bf n : Nat} {σ : Sto} {g : Gh} {w : World} {t t' : T} {a : Act} (fr : FR pv B0 Bf n σ g w t a) (h : ∀ p v, t'.get p = some v → t.get p = some v) : FR pv B0 Bf n σ g w t' a :=
  ⟨fr.size, fun s v hp hv => fr.val s v hp (h _ _ hv), fun s v hp hv => fr.priv s v hp (h _ _ hv), fun s s' v v' B h1 h2 h3 h4 => fr.sep s s' v v' B h1 h2 (h _ _ h3) (h _ _ h4)⟩

theorem put_sub (t : T) (p q : Pos) (v : V) (h : (t.put p none).get q = some v) : t.get q = some v := by
  by_cases e : p = q
  · subst e; rw [Tr.get_put_same] at h; cases h
  · rw [Tr.get_put_ne _ _ _ _ e] at h; exact h

theorem panT_sub : ∀ (l : List CI) (t : T) (q : Pos) (v : V), (panT t l).get q = some v → t.get q = some v := by
  intro l
  induction l with
  | nil => intro t q v h; exact h
  | cons i l ih =>
    intro t q v h
    unfold panT at h
    have h1 := ih _ q v h
    have h2 : ∀ t' : T, (∀ q v, t'.get q = some v → t.get q = some v) → (match i.op with | .alR p _ | .boxR p _ | .stR p _ _ _ => t'.put p none | _ => t').get q = some v → t.get q = some v := fun t' ht h => by
      split at h <;> first | exact ht _ _ (put_sub _ _ _ _ h) | exact ht _ _ h
    refine h2 _ (fun q v h => ?_) h1
    cases hd : i.dst with
    | none => rw [hd] at h; exact h
    | some p => rw [hd] at h; exact put_sub _ _ _ _ h

/-- An address is where it is said to be, if its guard was met. -/
def AEOk (ops : Array Oper) (t : T) (a : Act) (e : AE) : Prop :=
  (match e.g with | none => True | some (j, b) => ∃ d, dstAt ops j = some d ∧ t.get (pos d) = some (.bool b)) → ∃ B, a.tmps.getD e.p undef = .pointer (some ⟨B, 0, none⟩) ∧ a.tmps.getD e.d undef = .pointer (some ⟨B, e.off, none⟩)

section
variable {P : Program} {ty : Ty} {fx : FX} {B0 : Nat} {cl : Cl} {σ0 : Sto} {g0 : Gh} {w0 : World} {ops : Array Oper}

/-- The guard as the model asks it. -/
theorem guard_rel {Bf : Nat} {σ : Sto} {g : Gh} {w : World} {t : T} {a : Act} (fr : FR fx.pv B0 Bf fx.n σ g w t a) {o : Oper} {gd : Option (Pos × Bool)} (h : cGuard fx ops o = some gd) {b : Bool} (hg : guardOf t gd = some b) :
    Region.wanted o (yielded ops a.tmps) = b := by
  unfold cGuard at h
  unfold Region.wanted
  split at h
  · rename_i hgo
    cases h
    cases hg
    rw [hgo]
  · rename_i j want hgo
    rw [hgo]
    dsimp only
    split at h
    · rename_i d hd
      split at h
      · rename_i hc
        cases h
        simp only [guardOf] at hg
        have hy : yielded ops a.tmps j = match a.tmps[d]? with | some (.bool b) => some b | _ => none := by
          unfold yielded
          unfold dstAt at hd
          rw [hd]
          rfl
        rw [hy]
        have hdn : d < a.tmps.size := by rw [fr.size]; exact hc.2
        have hget : a.tmps[d]? = some (a.tmps.getD d undef) := by simp [hdn]
        rw [hget]
        split at hg
        · rename_i c hv
          cases hg
          have := (fr.val d _ hc.1 hv).bool_inv
          rw [this]
          cases c <;> cases want <;> rfl
        · rename_i hv
          cases hg
          have := (fr.val d _ hc.1 hv).undef_inv
          rw [this]
          rfl
        · cases hg
      · cases h
    · cases h

theorem find_mem {adr : Adr} {d p off : Nat} (h : adr.find d = some (p, off)) : (d, p, off) ∈ adr := by
  induction adr with
  | nil => cases h
  | cons e adr ih =>
    obtain ⟨d', p', off'⟩ := e
    simp only [Adr.find] at h
    split at h
    · rename_i hd
      cases h
      subst hd
      exact List.mem_cons_self
    · exact List.mem_cons_of_mem _ (ih h)

theorem visible_inv {adr : List AE} {o : Oper} {may : Nat → Bool} {d p off : Nat} (h : (visible adr o may).find d = some (p, off)) : ∃ e ∈ adr, e.d = d ∧ e.p = p ∧ e.off = off ∧ sameG e.g o.guard = true ∧ may e.i = true := by
  have := find_mem h
  unfold visible at this
  obtain ⟨e, he, heq⟩ := List.mem_map.1 this
  obtain ⟨h1, h2⟩ := List.mem_filter.1 he
  simp only [Prod.mk.injEq] at heq
  simp at h2
  exact ⟨e, h1, heq.1, heq.2.1, heq.2.2, h2.1, h2.2⟩

/-- What is visible to an operation whose guard is met is there. -/
theorem visible_ok {t : T} {a : Act} {adr : List AE} {o : Oper} {may : Nat → Bool} (h : ∀ e ∈ adr, may e.i = true → AEOk ops t a e) {gd : Option (Pos × Bool)} (hg : cGuard fx ops o = some gd) (hgo : guardOf t gd = some true) :
    AdrOk (visible adr o may) a := by
  intro d p off hf
  obtain ⟨e, he, rfl, rfl, rfl, hsg, hmay⟩ := visible_inv hf
  refine h e he hmay ?_
  unfold cGuard at hg
  unfold sameG at hsg
  split at hsg
  · rename_i heg; rw [heg]; trivial
  · rename_i i x j y heg hog
    rw [heg]
    rw [hog] at hg
    simp at hsg
    obtain ⟨rfl, rfl⟩ := hsg
    dsimp only at hg ⊢
    split at hg
    · rename_i d hd
      split at hg
      · cases hg
        refine ⟨d, hd, ?_⟩
        simp only [guardOf] at hgo
        split at hgo
        · rename_i c hc
          simp at hgo
          rw [hc, hgo]
        · cases hgo
        · cases hgo
      · cases hg
    · cases hg
  · cases hsg

theorem visible_pv {adr : List AE} {o : Oper} {may : Nat → Bool} (h : ∀ e ∈ adr, fx.pv e.p = true) : AdrPv fx (visible adr o may) := fun _ p _ hf => by
  obtain ⟨e, he, rfl, rfl, rfl, _, _⟩ := visible_inv hf
  exact h e he

theorem Pos.beq_iff : ∀ (p q : Pos), p.beq q = true ↔ p = q
  | .xH, .xH => by simp [Pos.beq]
  | .xO p, .xO q => by simp [Pos.beq, Pos.beq_iff p q]
  | .xI p, .xI q => by simp [Pos.beq, Pos.beq_iff p q]
  | .xH, .xO _ => by simp [Pos.beq]
  | .xH, .xI _ => by simp [Pos.beq]
  | .xO _, .xH => by simp [Pos.beq]
  | .xO _, .xI _ => by simp [Pos.beq]
  | .xI _, .xH => by simp [Pos.beq]
  | .xI _, .xO _ => by simp [Pos.beq]

theorem Pos.elem_iff {p : Pos} {l : List Pos} : p.elem l = true ↔ p ∈ l := by
  unfold Pos.elem
  rw [List.any_eq_true]
  constructor
  · rintro ⟨q, hq, h⟩
    rw [Pos.beq_iff] at h
    subst h; exact hq
  · exact fun h => ⟨p, h, (Pos.beq_iff p p).2 rfl⟩

theorem setD_get {t : T} {d : Option Pos} {v : V} {q : Pos} (h : q ∉ d.toList) : (setD t d v).get q = t.get q := by
  cases d with
  | none => rfl
  | some p => exact Tr.get_set_ne _ _ _ _ (fun e => h (by simp [e]))

theorem evOp_wr {cl : Cl} {t : T} {σ σ' : Sto} {o : CO} {p : Pos} {v : V} (h : evOp cl t σ o = some (.wr p v, σ')) : o.wr = [p] := by
  have pureNo : ∀ x : Option V, pureR σ x ≠ some (.wr p v, σ') := fun x h => by
    unfold pureR at h; split at h <;> cases h
  have callNo : ∀ x : R, callR x ≠ some (.wr p v, σ') := fun x h => by
    unfold callR at h; split at h <;> cases h
  have vis : ∀ {α : Type} {x : Option α} {f : α → Option (OR × Sto)}, x.bind f = some (.wr p v, σ') → ∃ y, x = some y ∧ f y = some (.wr p v, σ') := fun h => Option.bind_eq_some_iff.1 h
  cases o <;> simp only [evOp] at h
  case alR q z => cases h; rfl
  case boxR q x =>
    obtain ⟨y, _, h⟩ := vis h
    split at h
    · cases h; rfl
    · cases h
  case stR q off n x =>
    split at h
    · obtain ⟨y, _, h⟩ := vis h
      cases h; rfl
    · cases h
  case adr => split at h <;> cases h
  case al => cases h
  case mkMap => cases h
  case buildSl =>
    split at h
    · split at h <;> cases h
    · cases h
  case ldR =>
    split at h
    · exact absurd h (pureNo _)
    · cases h
  case callV =>
    obtain ⟨_, _, h⟩ := vis h
    obtain ⟨_, _, h⟩ := vis h
    split at h
    · split at h
      · exact absurd h (pureNo _)
      · exact absurd h (callNo _)
    · cases h
  case sliceE =>
    obtain ⟨_, _, h⟩ := vis h
    obtain ⟨_, _, h⟩ := vis h
    obtain ⟨_, _, h⟩ := vis h
    split at h
    · exact absurd h (pureNo _)
    · cases h
  case box =>
    obtain ⟨_, _, h⟩ := vis h
    split at h <;> cases h
  all_goals first
    | exact absurd h (pureNo _)
    | (obtain ⟨_, _, h⟩ := vis h
       first
       | exact absurd h (pureNo _)
       | exact absurd h (callNo _)
       | cases h
       | (obtain ⟨_, _, h⟩ := vis h
          first
          | exact absurd h (pureNo _)
          | cases h
          | (obtain ⟨_, _, h⟩ := vis h
             first
             | exact absurd h (pureNo _)
             | cases h
             | (obtain ⟨_, _, h⟩ := vis h
                first
                | exact absurd h (pureNo _)
                | cases h))))

/-- A step leaves what it does not write. -/
theorem stepS_get {cl : Cl} {i : CI} {t t' : T} {σ σ' : Sto} (h : stepS cl i t σ = some (.go t' σ')) {q : Pos} (hq : q ∉ i.wrs) : t'.get q = t.get q := by
  unfold CI.wrs at hq
  rw [List.mem_append, not_or] at hq
  unfold stepS at h
  split at h
  · cases h
  · cases h
    exact setD_get hq.1
  · split at h
    · cases h
    · cases h
    · rename_i r σ2 hnp hev
      cases h
      cases r with
      | val v => exact setD_get hq.1
      | unk =>
        unfold nextT forget
        cases hd : i.dst with
        | none => rfl
        | some p => exact Tr.get_put_ne _ _ _ _ (fun e => hq.1 (by simp [hd, e]))
      | wr p v =>
        have := evOp_wr hev
        exact Tr.get_set_ne _ _ _ _ (fun e => hq.2 (by rw [this, e]; simp))
      | pan v => exact (hnp v rfl).elim

/-- An entry is good: of a variable of the frame's own, and where it is said to be. -/
structure AEG (fx : FX) (ops : Array Oper) (t : T) (a : Act) (e : AE) : Prop where
  pv : fx.pv e.p = true
  ok : AEOk ops t a e

theorem AEG.put {t t' : T} {a : Act} {e : AE} {o : Oper} {ci : CI} (h : AEG fx ops t a e) (hl : e.live ops o ci = true) (ht : ∀ q, q ∉ ci.wrs → t'.get q = t.get q) (u : Value) (hsz : ∀ d, o.dst = some d → d < a.tmps.size) : AEG fx ops t' (a.put o.dst u) e := by
  unfold AE.live at hl
  rw [Bool.and_eq_true] at hl
  have hget : ∀ s, (s = e.d ∨ s = e.p) → (a.put o.dst u).tmps.getD s undef = a.tmps.getD s undef := fun s hs => by
    cases hd : o.dst with
    | none => rfl
    | some d =>
      rw [put_getD (hsz d hd), if_neg]
      intro e'
      have := hl.1
      rw [hd] at this
      simp at this
      rcases hs with rfl | rfl
      · exact this.1 e'.symm
      · exact this.2 e'.symm
  refine ⟨h.pv, fun hg => ?_⟩
  rw [hget _ (Or.inl rfl), hget _ (Or.inr rfl)]
  refine h.ok ?_
  split
  · trivial
  · rename_i j b heg
    rw [heg] at hg
    obtain ⟨d, hd, hb⟩ := hg
    refine ⟨d, hd, ?_⟩
    have h2 := hl.2
    rw [heg] at h2
    simp only [hd, Bool.not_eq_true', ← Bool.not_eq_true, Pos.elem_iff] at h2
    rw [← ht _ h2]; exact hb

/-- One operation of a region. -/
theorem step_wp (tok : TyOk P ty) (hcl : ClAll P cl) {t : T} {σ : Sto} {g : Gh} {w : World} {a : Act} (st : St fx B0 σ0 g0 w0 t σ g w a) {o : Oper} {gd : Option (Pos × Bool)} {m : Made} {adr : List AE} {may : Nat → Bool} {chk : Nat}
    (hg : cGuard fx ops o = some gd) (hm : cOp fx ty (visible adr o may) o = some m) (hd : dstOk fx o m = true) (hp : m.fit fx o = true) (ha : ∀ e ∈ adr, may e.i = true → AEG fx ops t a e)
    {s : SO} (hs : stepS cl (mkCI o gd m chk) t σ = some s) {K : Act → World → Prop} {Q : Exit → Act → World → Prop}
    (hK : ∀ t' σ' g' w' u, s = .go t' σ' → St fx B0 σ0 g0 w0 t' σ' g' w' (a.put o.dst u) → (∀ i, ∀ e ∈ adrOf o i m, AEG fx ops t' (a.put o.dst u) e) → K (a.put o.dst u) w')
    (hQ : ∀ v σ' g' w' u, s = .pan v σ' → St fx B0 σ0 g0 w0 t σ' g' w' a → VR g' w' v u → Q (.panic [{ v := u, recovered := false }]) a w') :
    if Region.wanted o (yielded ops a.tmps) then o.wp P a w K Q ∨ (o.asks P a w ∧ LetsOut Q) else K (a.put o.dst undef) w := by
  -- the addresses made here
  have made : ∀ (t' : T) (u : Value), (∀ q, q ∉ (ciDst o m).toList → t'.get q = t.get q) → (∀ p off d, m = .adr p off → o.dst = some d → ∀ b, t'.get (pos d) ≠ some (.bool b)) →
      (∀ p off, m = .adr p off → guardOf t gd = some true → ∃ B, a.tmps.getD p undef = .pointer (some ⟨B, 0, none⟩) ∧ u = .pointer (some ⟨B, off, none⟩)) → ∀ i, ∀ e ∈ adrOf o i m, AEG fx ops t' (a.put o.dst u) e := fun t' u ht hb h i e he => by
    cases m with
    | op _ => cases he
    | adr p off =>
      unfold adrOf at he
      dsimp only at he
      cases hdd : o.dst with
      | none => rw [hdd] at he; cases he
      | some d =>
        rw [hdd] at he
        rw [List.mem_singleton] at he
        subst he
        unfold dstOk at hd
        rw [hdd] at hd
        simp [Made.isNew] at hd
        have hpp : fx.pv p = true := hp
        refine ⟨hpp, fun hgd => ?_⟩
        dsimp only at hgd ⊢
        have hdsz : d < a.tmps.size := by rw [st.fr.size]; exact hd.1
        have hne : p ≠ d := fun e => by subst e; rw [hpp] at hd; cases hd.2
        rw [put_getD hdsz, put_getD hdsz, if_neg hne, if_pos rfl]
        refine h p off rfl ?_
        unfold cGuard at hg
        split at hg
        · cases hg; rfl
        · rename_i j want hog
          rw [hog] at hgd
          obtain ⟨dg, hdg, hbool⟩ := hgd
          rw [hdg] at hg
          dsimp only at hg
          split at hg
          · cases hg
            have : pos dg ∉ (ciDst o (.adr p off)).toList := fun hmem => by
              simp [ciDst, Made.isNew, hdd] at hmem
              rw [hmem] at hbool
              exact hb p off d rfl hdd _ hbool
            rw [ht _ this] at hbool
            simp [guardOf, hbool]
          · cases hg
  cases hgo : guardOf t gd with
  | none => unfold stepS at hs; simp only [mkCI, hgo] at hs; cases hs
  | some b =>
    rw [guard_rel st.fr hg hgo]
    cases b with
    | false =>
      have hs' : s = .go (setD t (ciDst o m) .undef) σ := by
        unfold stepS at hs
        simp only [mkCI, hgo] at hs
        cases hs; rfl
      refine hK _ σ g w undef hs' ?_ ?_
      · refine ⟨?_, st.inv, st.ext, by rw [put_defers']; exact st.defers⟩
        cases hn : m.isNew with
        | false => exact st.fr.nextVal hn hd .undef
        | true =>
          -- a new variable has no guard
          exfalso
          have : o.guard = none := by
            cases m with
            | adr _ _ => cases hn
            | op c =>
              unfold Made.fit at hp
              simp [hn] at hp
              exact hp
          unfold cGuard at hg
          rw [this] at hg
          cases hg
          cases hgo
      · refine made _ _ (fun q hq => setD_get hq) (fun p off d hm' hdd b hb => ?_) (fun p off _ h => by rw [hgo] at h; cases h)
        subst hm'
        unfold ciDst at hb
        rw [hdd] at hb
        simp [Made.isNew, setD] at hb
        rw [Tr.get_set_same] at hb
        cases hb
    | true =>
      rw [if_pos rfl]
      left
      have hAdr := visible_ok (may := may) (fun e he hm => (ha e he hm).ok) hg hgo
      have hPv : AdrPv fx (visible adr o may) := fun _ p _ hf => by
        obtain ⟨e, he, rfl, rfl, rfl, _, hm⟩ := visible_inv hf
        exact (ha e he hm).pv
      unfold stepS at hs
      simp only [mkCI, hgo] at hs
      cases hev : evOp cl t σ (coOf m) with
      | none => rw [hev] at hs; cases hs
      | some q =>
        obtain ⟨r, σ'⟩ := q
        rw [hev] at hs
        refine op_step tok hcl st.fr st.inv st.ext rfl hAdr hPv hm hd hev (fun u g' w' fr e i mo hadr hnp => ?_) (fun v u g' w' hr e i hv => ?_)
        · have hs' : s = .go (nextT t (ciDst o m) r) σ' := by
            cases r with
            | pan v => exact (hnp v rfl).elim
            | _ => cases hs; rfl
          refine hK _ σ' g' w' u hs' ⟨fr, i, e, by rw [put_defers']; exact st.defers⟩ ?_
          cases m with
          | op c => intro i e he; cases he
          | adr p off =>
            have hr : r = .unk := by
              simp only [coOf, evOp] at hev
              split at hev
              · cases hev; rfl
              · cases hev
            subst hr
            refine made _ _ (fun q hq => ?_) (fun p' off' d hm' hdd b hb => ?_) (fun p' off' hm' _ => hadr p' off' hm')
            · unfold nextT forget
              cases hc : ciDst o (.adr p off) with
              | none => rfl
              | some z => exact Tr.get_put_ne _ _ _ _ (fun e => hq (by simp [hc, e]))
            · unfold ciDst at hb
              rw [hdd] at hb
              simp [Made.isNew, nextT, forget] at hb
              rw [Tr.get_put_same] at hb
              cases hb
        · subst hr
          cases hs
          exact hQ v σ' g' w' u rfl ⟨st.fr.mono e, i, st.ext.trans e, st.defers⟩ hv

theorem panT_none : ∀ (l : List CI) (t : T) (i : CI) (q : Pos), i ∈ l → q ∈ i.wrs → (panT t l).get q = none := by
  have keeps : ∀ (l : List CI) (t : T) (q : Pos), t.get q = none → (panT t l).get q = none := fun l t q h => by
    cases hh : (panT t l).get q with
    | none => rfl
    | some v => rw [panT_sub l t q v hh] at h; cases h
  intro l
  induction l with
  | nil => intro t i q h; cases h
  | cons j l ih =>
    intro t i q hi hq
    unfold panT
    rcases List.mem_cons.1 hi with rfl | hi
    · refine keeps _ _ _ ?_
      unfold CI.wrs at hq
      rcases List.mem_append.1 hq with hq | hq
      · cases hd : i.dst with
        | none => rw [hd] at hq; cases hq
        | some p =>
          rw [hd] at hq
          have : q = p := by simpa using hq
          subst this
          have hput : (t.put q none).get q = none := Tr.get_put_same _ _ _
          have h2 : ∀ (p : Pos), ((t.put q none).put p none).get q = none := fun p => by
            by_cases e : p = q
            · subst e; exact Tr.get_put_same _ _ _
            · rw [Tr.get_put_ne _ _ _ _ e]; exact hput
          dsimp only
          split <;> first | exact h2 _ | exact hput
      · unfold CO.wr at hq
        split at hq
        · rename_i p _ ho
          have : q = p := by simpa using hq
          subst this
          rw [ho]; exact Tr.get_put_same _ _ _
        · rename_i p _ ho
          have : q = p := by simpa using hq
          subst this
          rw [ho]; exact Tr.get_put_same _ _ _
        · rename_i p _ _ _ ho
          have : q = p := by simpa using hq
          subst this
          rw [ho]; exact Tr.get_put_same _ _ _
        · cases hq
    · exact ih _ i q hi hq

/-- What is known where a region began and is not written in it. -/
def Agree (tp t : T) : Prop := ∀ q v, tp.get q = some v → t.get q = some v

theorem Agree.step {cl : Cl} {tp t t' : T} {σ σ' : Sto} {i : CI} (h : Agree tp t) (hi : ∀ q ∈ i.wrs, tp.get q = none) (hs : stepS cl i t σ = some (.go t' σ')) : Agree tp t' := fun q v hv => by
  rw [stepS_get hs (fun hq => by rw [hi q hq] at hv; cases hv)]
  exact h q v hv

theorem St.sub {t t' : T} {σ : Sto} {g : Gh} {w : World} {a : Act} (st : St fx B0 σ0 g0 w0 t σ g w a) (h : Agree t' t) : St fx B0 σ0 g0 w0 t' σ g w a :=
  ⟨st.fr.sub h, st.inv, st.ext, st.defers⟩

theorem evOps_cons {cl : Cl} {i : CI} {l : List CI} {pd : Pend} {t : T} {σ : Sto} {k : K} {r : Res × Sto} (h : evOps cl (i :: l) pd t σ k = some r) :
    ∃ s, stepS cl i t σ = some s ∧ (∀ v σ', s = .pan v σ' → k (.pan v) t σ' = some r) ∧ (∀ t' σ', s = .go t' σ' → ∃ pd', evOps cl l pd' t' σ' k = some r) := by
  unfold evOps at h
  unfold stepS
  cases hg : guardOf t i.g with
  | none => rw [hg] at h; cases h
  | some b =>
    rw [hg] at h
    cases b with
    | false =>
      refine ⟨_, rfl, ?_, ?_⟩
      · intro v σ' h; cases h
      · intro t' σ' h'; cases h'; exact ⟨pd, h⟩
    | true =>
      dsimp only at h ⊢
      cases he : evOp cl t σ i.op with
      | none => rw [he] at h; cases h
      | some q =>
        obtain ⟨r', σ'⟩ := q
        rw [he] at h
        cases r' with
        | pan v =>
          refine ⟨_, rfl, ?_, ?_⟩
          · intro v' σ2 h'; cases h'; exact h
          · intro t' σ2 h'; cases h'
        | _ =>
          simp only [Option.bind_eq_some_iff] at h
          obtain ⟨pd', _, h⟩ := h
          refine ⟨_, rfl, ?_, ?_⟩
          · intro v' σ2 h'; cases h'
          · intro t' σ2 h'; cases h'; exact ⟨pd', h⟩

/-- The end of a region. -/
structure RegEnd (fx : FX) (B0 : Nat) (σ0 : Sto) (g0 : Gh) (w0 : World) (tp : T) (k : K) (r : Res × Sto) (Q : Exit → Act → World → Prop) : Prop where
  normal : ∀ t σ g w a, St fx B0 σ0 g0 w0 t σ g w a → k .normal t σ = some r → Q .normal a w
  pan : ∀ t v σ g w a u, St fx B0 σ0 g0 w0 tp σ g w a → k (.pan v) t σ = some r → VR g w v u → Q (.panic [{ v := u, recovered := false }]) a w

theorem cSeq_wp (tok : TyOk P ty) (hcl : ClAll P cl) {tp : T} {k : K} {r : Res × Sto} {Q : Exit → Act → World → Prop} (hend : RegEnd fx B0 σ0 g0 w0 tp k r Q) : ∀ (l : List Oper) (i : Nat) (adr : List AE) (cis : List CI), cSeq fx ty ops l i adr = some cis →
    (∀ (j : Nat) o, l[j]? = some o → ops[i + j]? = some o) → (∀ c ∈ cis, ∀ q ∈ c.wrs, tp.get q = none) → ∀ (t : T) (σ : Sto) (g : Gh) (w : World) (a : Act) (pd : Pend), St fx B0 σ0 g0 w0 t σ g w a → Agree tp t → (∀ e ∈ adr, AEG fx ops t a e) →
    evOps cl cis pd t σ k = some r → wpOps P ops Q (List.range' i l.length) a w := by
  intro l
  induction l with
  | nil =>
    intro i adr cis hc _ _ t σ g w a pd st _ _ hev
    cases hc
    simp only [List.length_nil, List.range'_zero, wpOps]
    exact hend.normal t σ g w a st hev
  | cons o l ih =>
    intro i adr cis hc hops htp t σ g w a pd st hag hadr hev
    unfold cSeq at hc
    split at hc
    case h_2 => cases hc
    rename_i gd m hg hm
    split at hc
    case isFalse => cases hc
    rename_i hdf
    rw [Bool.and_eq_true] at hdf
    split at hc
    case h_2 => cases hc
    rename_i cs hcs
    cases hc
    obtain ⟨s, hs, hpan, hgo⟩ := evOps_cons hev
    have ho : ops[i]? = some o := by simpa using hops 0 o (by simp)
    rw [List.length_cons, List.range'_succ, wpOps]
    rw [ho]
    dsimp only
    refine step_wp tok hcl st hg hm hdf.1 hdf.2 (fun e he _ => hadr e he) hs (fun t' σ' g' w' u hs' st' hmade => ?_) (fun v σ' g' w' u hs' st' hv => ?_)
    · subst hs'
      obtain ⟨pd', hev'⟩ := hgo t' σ' rfl
      refine ih (i + 1) _ cs hcs (fun j o' hj => ?_) (fun c hc => htp c (List.mem_cons_of_mem _ hc)) t' σ' g' w' _ pd' st' (hag.step (htp _ List.mem_cons_self) hs) (fun e he => ?_) hev'
      · have := hops (j + 1) o' (by simpa using hj)
        rw [Nat.add_assoc, Nat.add_comm 1 j]; exact this
      · rcases List.mem_append.1 he with he | he
        · obtain ⟨he1, he2⟩ := List.mem_filter.1 he
          refine (hadr e he1).put he2 (fun q hq => stepS_get hs hq) u (fun d hd => ?_)
          have := hdf.1
          unfold dstOk at this
          rw [hd] at this
          simp at this
          rw [st.fr.size]; exact this.1
        · exact hmade i e he
    · subst hs'
      exact hend.pan t v σ' g' w' a u (st'.sub hag) (hpan v σ' rfl) hv

end

end Go.Eng
