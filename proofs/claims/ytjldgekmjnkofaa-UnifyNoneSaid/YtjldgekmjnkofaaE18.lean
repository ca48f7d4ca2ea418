/- What an operation reads and writes; the store only grows older. -/
import Derived.Test.YtjldgekmjnkofaaE17
set_option linter.unusedVariables false
set_option linter.unusedSimpArgs false
namespace Go.Eng
open Go

/-! ## Tries -/

theorem Tr.put_put {α : Type} : ∀ (t : Tr α) (p : Pos) (x y : Option α), (t.put p x).put p y = t.put p y
  | .leaf, .xH, _, _ => rfl
  | .leaf, .xO p, x, y => by simp only [Tr.put]; rw [Tr.put_put .leaf p]
  | .leaf, .xI p, x, y => by simp only [Tr.put]; rw [Tr.put_put .leaf p]
  | .node _ _ _, .xH, _, _ => rfl
  | .node l v r, .xO p, x, y => by simp only [Tr.put]; rw [Tr.put_put l p]
  | .node l v r, .xI p, x, y => by simp only [Tr.put]; rw [Tr.put_put r p]

theorem Tr.put_comm {α : Type} : ∀ (t : Tr α) (p q : Pos) (x y : Option α), p ≠ q → (t.put p x).put q y = (t.put q y).put p x
  | _, .xH, .xH, _, _, h => absurd rfl h
  | .leaf, .xH, .xO q, x, y, _ => rfl
  | .leaf, .xH, .xI q, x, y, _ => rfl
  | .leaf, .xO p, .xH, x, y, _ => rfl
  | .leaf, .xI p, .xH, x, y, _ => rfl
  | .leaf, .xO p, .xI q, x, y, _ => rfl
  | .leaf, .xI p, .xO q, x, y, _ => rfl
  | .leaf, .xO p, .xO q, x, y, h => by simp only [Tr.put]; rw [Tr.put_comm .leaf p q x y (fun e => h (by rw [e]))]
  | .leaf, .xI p, .xI q, x, y, h => by simp only [Tr.put]; rw [Tr.put_comm .leaf p q x y (fun e => h (by rw [e]))]
  | .node l v r, .xH, .xO q, x, y, _ => rfl
  | .node l v r, .xH, .xI q, x, y, _ => rfl
  | .node l v r, .xO p, .xH, x, y, _ => rfl
  | .node l v r, .xI p, .xH, x, y, _ => rfl
  | .node l v r, .xO p, .xI q, x, y, _ => rfl
  | .node l v r, .xI p, .xO q, x, y, _ => rfl
  | .node l v r, .xO p, .xO q, x, y, h => by simp only [Tr.put]; rw [Tr.put_comm l p q x y (fun e => h (by rw [e]))]
  | .node l v r, .xI p, .xI q, x, y, h => by simp only [Tr.put]; rw [Tr.put_comm r p q x y (fun e => h (by rw [e]))]

/-! ## What is read -/

def Opd.rds : Opd → List Pos
  | .r p => [p]
  | .c _ => []

def rdsL : List Opd → List Pos
  | [] => []
  | x :: l => x.rds ++ rdsL l

def rdsO : Option Opd → List Pos
  | none => []
  | some x => x.rds

def rdsP : List (Nat × Nat × Opd) → List Pos
  | [] => []
  | (_, _, x) :: l => x.rds ++ rdsP l

def rdsE : List (Nat × Opd) → List Pos
  | [] => []
  | (_, x) :: l => x.rds ++ rdsE l

def CO.rd : CO → List Pos
  | .adr p => [p]
  | .mov x => x.rds
  | .pick c a b => c.rds ++ (a.rds ++ b.rds)
  | .alR _ _ => []
  | .boxR _ x => x.rds
  | .ldR p _ _ => [p]
  | .stR p _ _ x => p :: x.rds
  | .al _ => []
  | .box _ x => x.rds
  | .ld _ x => x.rds
  | .st _ x y => x.rds ++ y.rds
  | .nilCheck x => x.rds
  | .fieldAddr _ x => x.rds
  | .indexAddr _ x i => x.rds ++ i.rds
  | .indexArr _ _ x i => x.rds ++ i.rds
  | .field _ _ x => x.rds
  | .index _ _ _ x i => x.rds ++ i.rds
  | .indexS x i => x.rds ++ i.rds
  | .bin _ _ x y => x.rds ++ y.rds
  | .not x => x.rds
  | .build _ ps => rdsP ps
  | .buildSl _ _ _ ps _ => rdsE ps
  | .mkFunc _ xs => rdsL xs
  | .mkIface _ x => x.rds
  | .mkMap => []
  | .mkSl _ _ _ x _ => x.rds
  | .mapUpd _ m k x => m.rds ++ (k.rds ++ x.rds)
  | .lookup _ _ m k _ => m.rds ++ k.rds
  | .len _ x => x.rds
  | .append _ _ x y _ => x.rds ++ y.rds
  | .sliceE _ _ x lo hi => x.rds ++ (rdsO lo ++ rdsO hi)
  | .extract x _ => x.rds
  | .callF _ xs => rdsL xs
  | .callV f xs => f.rds ++ rdsL xs
  | .callP _ xs => rdsL xs

def CI.rds (i : CI) : List Pos := (match i.g with | none => [] | some (p, _) => [p]) ++ i.op.rd

def Agr (l : List Pos) (t t' : T) : Prop := ∀ q ∈ l, t.get q = t'.get q

theorem Agr.l {a b : List Pos} {t t' : T} (h : Agr (a ++ b) t t') : Agr a t t' := fun q hq => h q (List.mem_append_left _ hq)
theorem Agr.r {a b : List Pos} {t t' : T} (h : Agr (a ++ b) t t') : Agr b t t' := fun q hq => h q (List.mem_append_right _ hq)

section
variable {t t' : T}

theorem ev_same {x : Opd} (h : Agr x.rds t t') : ev t x = ev t' x := by
  cases x with
  | r p => exact h p (by simp [Opd.rds])
  | c v => rfl

theorem evs_same : ∀ {l : List Opd}, Agr (rdsL l) t t' → evs t l = evs t' l
  | [], _ => rfl
  | x :: l, h => by simp only [evs]; rw [ev_same h.l, evs_same (l := l) h.r]

theorem evO_same : ∀ {l : Option Opd}, Agr (rdsO l) t t' → evO t l = evO t' l
  | none, _ => rfl
  | some x, h => by simp only [evO]; rw [ev_same h]

theorem fillV_same : ∀ {l : List (Nat × Nat × Opd)} {cs : List V}, Agr (rdsP l) t t' → fillV t cs l = fillV t' cs l
  | [], _, _ => rfl
  | (_, _, x) :: l, cs, h => by
    simp only [fillV]
    rw [ev_same (x := x) h.l]
    split
    · split
      · exact fillV_same (l := l) h.r
      · rfl
    · rfl

theorem fillE_same {size : Nat} : ∀ {l : List (Nat × Opd)} {es : List V}, Agr (rdsE l) t t' → fillE t size es l = fillE t' size es l
  | [], _, _ => rfl
  | (_, x) :: l, cs, h => by
    simp only [fillE]
    rw [ev_same (x := x) h.l]
    split
    · split
      · exact fillE_same (l := l) h.r
      · rfl
    · rfl

theorem evOp_same (cl : Cl) (σ : Sto) {o : CO} (h : Agr o.rd t t') : evOp cl t σ o = evOp cl t' σ o := by
  cases o <;> simp only [evOp] <;> simp only [CO.rd] at h
  case adr p => rw [h p (by simp)]
  case mov => rw [ev_same h]
  case pick => unfold pickV; rw [ev_same h.l, ev_same h.r.l, ev_same h.r.r]
  case boxR => rw [ev_same h]
  case ldR p _ _ => rw [h p (by simp)]
  case stR p _ _ x => rw [h p (by simp), ev_same (x := x) fun q hq => h q (by simp [hq])]
  case box => rw [ev_same h]
  case ld => rw [ev_same h]
  case st => rw [ev_same h.l, ev_same h.r]
  case nilCheck => rw [ev_same h]
  case fieldAddr => rw [ev_same h]
  case indexAddr => rw [ev_same h.l, ev_same h.r]
  case indexArr => rw [ev_same h.l, ev_same h.r]
  case field => rw [ev_same h]
  case index => rw [ev_same h.l, ev_same h.r]
  case indexS => rw [ev_same h.l, ev_same h.r]
  case bin => rw [ev_same h.l, ev_same h.r]
  case not => rw [ev_same h]
  case build => rw [fillV_same h]
  case buildSl => rw [fillE_same h]
  case mkFunc => rw [evs_same h]
  case mkIface => rw [ev_same h]
  case mkSl => rw [ev_same h]
  case mapUpd => rw [ev_same h.l, ev_same h.r.l, ev_same h.r.r]
  case lookup => rw [ev_same h.l, ev_same h.r]
  case len => rw [ev_same h]
  case append => rw [ev_same h.l, ev_same h.r]
  case sliceE => rw [ev_same h.l, evO_same h.r.l, evO_same h.r.r]
  case extract => rw [ev_same h]
  case callF => rw [evs_same h]
  case callV => rw [ev_same h.l, evs_same h.r]
  case callP => rw [evs_same h]

theorem guardOf_same {g : Option (Pos × Bool)} (h : Agr (match g with | none => [] | some (p, _) => [p]) t t') : guardOf t g = guardOf t' g := by
  cases g with
  | none => rfl
  | some q => simp only [guardOf]; rw [h q.1 (by simp)]

end

/-! ## The store grows older -/

def Sto.Le (σ σ' : Sto) : Prop := σ.next ≤ σ'.next ∧ ∀ b v x, σ.get b = some (v, x) → ∃ v' x', σ'.get b = some (v', x') ∧ v ≤ v' ∧ (v' = v → x' = x)

theorem Sto.Le.refl (σ : Sto) : σ.Le σ := ⟨Nat.le_refl _, fun _ v x h => ⟨v, x, h, Nat.le_refl _, fun _ => rfl⟩⟩

theorem Sto.Le.trans {a b c : Sto} (h : a.Le b) (k : b.Le c) : a.Le c := ⟨Nat.le_trans h.1 k.1, fun i v x hv => by
  obtain ⟨v1, x1, h1, l1, e1⟩ := h.2 i v x hv
  obtain ⟨v2, x2, h2, l2, e2⟩ := k.2 i v1 x1 h1
  exact ⟨v2, x2, h2, by omega, fun e => (e2 (by omega)).trans (e1 (by omega))⟩⟩

theorem Sto.le_alloc (σ : Sto) (x : Blk) : σ.Le (σ.alloc x) := ⟨Nat.le_succ _, fun b v y h => by
  refine ⟨v, y, ?_, Nat.le_refl _, fun _ => rfl⟩
  unfold Sto.get at h ⊢
  split at h
  · rename_i hb
    have : b < (σ.alloc x).next := Nat.lt_succ_of_lt hb
    rw [if_pos this]
    unfold Sto.alloc
    rw [Tr.get_set_ne _ _ _ _ (pos_ne (by omega))]
    exact h
  · cases h⟩

theorem Sto.le_upd (σ : Sto) (c : Nat) (x : Blk) : σ.Le (σ.upd c x) := ⟨Nat.le_refl _, fun b v y h => by
  by_cases e : c = b
  · subst e
    refine ⟨v + 1, x, ?_, by omega, fun e => by omega⟩
    have hv : σ.ver c = some v := by unfold Sto.ver; rw [h]; rfl
    unfold Sto.get at h ⊢
    split at h
    · rename_i hb
      have : c < (σ.upd c x).next := hb
      rw [if_pos this]
      unfold Sto.upd
      rw [Tr.get_set_same, hv]; rfl
    · cases h
  · refine ⟨v, y, ?_, Nat.le_refl _, fun _ => rfl⟩
    unfold Sto.get at h ⊢
    split at h
    · rename_i hb
      have : b < (σ.upd c x).next := hb
      rw [if_pos this]
      unfold Sto.upd
      rw [Tr.get_set_ne _ _ _ _ (pos_ne e)]
      exact h
    · cases h⟩

def ClLe (cl : Cl) : Prop := ∀ f vs σ r σ', cl f vs σ = some (r, σ') → σ.Le σ'

section
variable {cl : Cl} {t : T} {σ σ' : Sto} {r : OR}

theorem pureR_le {x : Option V} (h : pureR σ x = some (r, σ')) : σ.Le σ' := by
  unfold pureR at h; split at h <;> cases h; exact Sto.Le.refl _

theorem callR_le (hcl : ClLe cl) {f : FuncId} {vs : List V} (h : callR (cl f vs σ) = some (r, σ')) : σ.Le σ' := by
  unfold callR at h
  split at h
  · rename_i hc; cases h; exact hcl _ _ _ _ _ hc
  · rename_i hc; cases h; exact hcl _ _ _ _ _ hc
  · cases h

theorem stV_le {n : Nat} {a x : V} (h : stV σ n a x = some σ') : σ.Le σ' := by
  unfold stV at h
  split at h
  · split at h
    · split at h <;> cases h
      exact Sto.le_upd _ _ _
    · cases h
  · cases h

theorem mapUpdV_le {kk : Kd} {m k x : V} (h : mapUpdV kk σ m k x = some σ') : σ.Le σ' := by
  unfold mapUpdV at h
  split at h
  · split at h
    · split at h
      · split at h <;> cases h
        exact Sto.le_upd _ _ _
      · split at h <;> cases h
        exact Sto.le_upd _ _ _
      · cases h
    · cases h
  · cases h

theorem mkSlV_le {size bytes : Nat} {zero : V} {mu : Bool} {n : V} {q : V × Sto} (h : mkSlV size bytes zero mu σ n = some q) : σ.Le q.2 := by
  unfold mkSlV at h
  split at h
  · split at h
    · split at h
      · cases h; exact Sto.le_alloc _ _
      · cases h; exact Sto.Le.refl _
    · cases h
  · cases h

theorem appendV_le {size bytes : Nat} {mu : Bool} {x y : V} {q : V × Sto} (h : appendV size bytes mu σ x y = some q) : σ.Le q.2 := by
  unfold appendV at h
  split at h
  · cases h
  · split at h
    · cases h; exact Sto.Le.refl _
    · cases h; exact Sto.Le.refl _
    · cases h; exact Sto.Le.refl _
    · cases h
  · split at h
    · cases h
    · dsimp only at h
      split at h
      · split at h
        · split at h
          · cases h; exact Sto.le_alloc _ _
          · cases h; exact Sto.le_alloc _ _
          · cases h; exact (Sto.le_upd _ _ _).trans (Sto.le_alloc _ _)
          · cases h
        · split at h
          · cases h; exact Sto.le_alloc _ _
          · cases h; exact Sto.le_alloc _ _
          · split at h
            · split at h
              · cases h; exact Sto.le_upd _ _ _
              · cases h
            · cases h
          · cases h
      · cases h

theorem evOp_le (hcl : ClLe cl) {o : CO} (h : evOp cl t σ o = some (r, σ')) : σ.Le σ' := by
  have vis : ∀ {α : Type} {x : Option α} {f : α → Option (OR × Sto)}, x.bind f = some (r, σ') → ∃ y, x = some y ∧ f y = some (r, σ') := fun h => Option.bind_eq_some_iff.1 h
  cases o <;> simp only [evOp] at h
  case adr => split at h <;> cases h; exact Sto.Le.refl _
  case alR => cases h; exact Sto.Le.refl _
  case boxR =>
    obtain ⟨_, _, h⟩ := vis h
    split at h <;> cases h
    exact Sto.Le.refl _
  case ldR =>
    split at h
    · exact pureR_le h
    · cases h
  case stR =>
    split at h
    · obtain ⟨_, _, h⟩ := vis h
      cases h; exact Sto.Le.refl _
    · cases h
  case al => cases h; exact Sto.le_alloc _ _
  case mkMap => cases h; exact Sto.le_alloc _ _
  case box =>
    obtain ⟨_, _, h⟩ := vis h
    split at h <;> cases h
    exact Sto.le_alloc _ _
  case st =>
    obtain ⟨_, _, h⟩ := vis h
    obtain ⟨_, _, h⟩ := vis h
    obtain ⟨_, hs, h⟩ := vis h
    cases h; exact stV_le hs
  case buildSl =>
    split at h
    · split at h
      · cases h; exact Sto.le_alloc _ _
      · cases h; exact Sto.Le.refl _
    · cases h
  case mkFunc =>
    obtain ⟨_, _, h⟩ := vis h
    cases h; exact Sto.Le.refl _
  case mkIface =>
    obtain ⟨_, _, h⟩ := vis h
    cases h; exact Sto.Le.refl _
  case mkSl =>
    obtain ⟨_, _, h⟩ := vis h
    obtain ⟨_, hs, h⟩ := vis h
    cases h; exact mkSlV_le hs
  case mapUpd =>
    obtain ⟨_, _, h⟩ := vis h
    obtain ⟨_, _, h⟩ := vis h
    obtain ⟨_, _, h⟩ := vis h
    obtain ⟨_, hs, h⟩ := vis h
    cases h; exact mapUpdV_le hs
  case append =>
    obtain ⟨_, _, h⟩ := vis h
    obtain ⟨_, _, h⟩ := vis h
    obtain ⟨_, hs, h⟩ := vis h
    cases h; exact appendV_le hs
  case sliceE =>
    obtain ⟨_, _, h⟩ := vis h
    obtain ⟨_, _, h⟩ := vis h
    obtain ⟨_, _, h⟩ := vis h
    split at h
    · exact pureR_le h
    · cases h
  case callF =>
    obtain ⟨_, _, h⟩ := vis h
    exact callR_le hcl h
  case callV =>
    obtain ⟨_, _, h⟩ := vis h
    obtain ⟨_, _, h⟩ := vis h
    split at h
    · split at h
      · exact pureR_le h
      · exact callR_le hcl h
    · cases h
  all_goals first
    | exact pureR_le h
    | (obtain ⟨_, _, h⟩ := vis h
       first
       | exact pureR_le h
       | (obtain ⟨_, _, h⟩ := vis h
          exact pureR_le h))

theorem evOp_pan {v : V} {o : CO} (h : evOp cl t σ o = some (.pan v, σ')) : o.eff = true := by
  have pureNo : ∀ x : Option V, pureR σ x ≠ some (.pan v, σ') := fun x h => by
    unfold pureR at h; split at h <;> cases h
  have vis : ∀ {α : Type} {x : Option α} {f : α → Option (OR × Sto)}, x.bind f = some (.pan v, σ') → ∃ y, x = some y ∧ f y = some (.pan v, σ') := fun h => Option.bind_eq_some_iff.1 h
  cases o <;> first | rfl | skip
  all_goals simp only [evOp] at h
  case adr => split at h <;> cases h
  case alR => cases h
  case boxR =>
    obtain ⟨_, _, h⟩ := vis h
    split at h <;> cases h
  case ldR =>
    split at h
    · exact absurd h (pureNo _)
    · cases h
  case stR =>
    split at h
    · obtain ⟨_, _, h⟩ := vis h
      cases h
    · cases h
  case buildSl =>
    split at h
    · split at h <;> cases h
    · cases h
  case mkFunc =>
    obtain ⟨_, _, h⟩ := vis h
    cases h
  case mkIface =>
    obtain ⟨_, _, h⟩ := vis h
    cases h
  case mkSl =>
    obtain ⟨_, _, h⟩ := vis h
    obtain ⟨_, _, h⟩ := vis h
    cases h
  case sliceE =>
    obtain ⟨_, _, h⟩ := vis h
    obtain ⟨_, _, h⟩ := vis h
    obtain ⟨_, _, h⟩ := vis h
    split at h
    · exact absurd h (pureNo _)
    · cases h
  all_goals first
    | exact absurd h (pureNo _)
    | (obtain ⟨_, _, h⟩ := vis h
       first
       | exact absurd h (pureNo _)
       | (obtain ⟨_, _, h⟩ := vis h
          exact absurd h (pureNo _)))

theorem pureR_mv (σ σ2 : Sto) (v : Option V) : (pureR σ v).map (fun q => (q.1, σ2)) = pureR σ2 v := by cases v <;> rfl

theorem mkSlV_mv {size bytes : Nat} {zero n : V} (σ2 : Sto) : ((mkSlV size bytes zero false σ n).bind fun x => some (OR.val x.1, x.2)).map (fun q => (q.1, σ2)) = (mkSlV size bytes zero false σ2 n).bind fun x => some (OR.val x.1, x.2) := by
  unfold mkSlV
  split
  · split <;> rfl
  · rfl

/-- What turns no store: what it gives does not hang on the store, but for what a load finds. -/
theorem evOp_mv {o : CO} (ho : o.eff = false) (σ2 : Sto) (hld : ∀ n x, o = .ld n x → ∀ a, ev t x = some a → ldV σ2 n a = ldV σ n a) :
    evOp cl t σ2 o = (evOp cl t σ o).map fun q => (q.1, σ2) := by
  cases o <;> try (cases ho; done)
  case ld n x =>
    simp only [evOp, Option.map_bind, Function.comp_def, pureR_mv]
    cases hx : ev t x with
    | none => rfl
    | some a => simp only [Option.bind_some]; rw [hld n x rfl a hx]
  case len kd x =>
    simp only [evOp]
    cases ev t x with
    | none => rfl
    | some a =>
      simp only [Option.bind_some]
      have : lenV kd σ2 a = lenV kd σ a := by
        cases kd <;> first | rfl | (cases a <;> rfl) | (cases ho; done)
      rw [this, pureR_mv]
  case adr => simp only [evOp]; split <;> rfl
  case alR => rfl
  case boxR p x =>
    simp only [evOp]
    cases ev t x with
    | none => rfl
    | some a => simp only [Option.bind_some]; split <;> rfl
  case ldR =>
    simp only [evOp]
    split
    · rw [pureR_mv]
    · rfl
  case stR =>
    simp only [evOp]
    split
    · rename_i cs v _ _
      cases stRV cs _ _ v <;> rfl
    · rfl
  case buildSl =>
    simp only [CO.eff] at ho
    subst ho
    simp only [evOp]
    split <;> rfl
  case mkFunc f caps =>
    simp only [evOp]
    cases evs t caps <;> rfl
  case mkIface d x =>
    simp only [evOp]
    cases ev t x <;> rfl
  case mkSl s b z x mu =>
    simp only [CO.eff] at ho
    subst ho
    simp only [evOp]
    cases ev t x with
    | none => rfl
    | some a => exact (mkSlV_mv σ2).symm
  case sliceE kd s x lo hi =>
    simp only [evOp]
    cases ev t x with
    | none => rfl
    | some a =>
      simp only [Option.bind_some]
      cases evO t lo with
      | none => rfl
      | some b =>
        simp only [Option.bind_some]
        cases evO t hi with
        | none => rfl
        | some c =>
          simp only [Option.bind_some]
          split
          · rw [pureR_mv]
          · rfl
  all_goals simp only [evOp, Option.map_bind, Function.comp_def, pureR_mv]

end

end Go.Eng
