/- Regions in any order: how they are compiled; the world's orders follow the interpreter's. -/
import Derived.Test.YtjldgekmjnkofaaE19
set_option linter.unusedVariables false
set_option linter.unusedSimpArgs false
namespace Go.Eng
open Go

def AE.same (a b : AE) : Bool := a.d == b.d && (a.p == b.p && (a.off == b.off && (a.i == b.i && a.g == b.g)))

theorem AE.same_eq {a b : AE} (h : a.same b = true) : a = b := by
  unfold AE.same at h
  simp only [Bool.and_eq_true, beq_iff_eq] at h
  cases a; cases b
  simp only at h
  obtain ⟨rfl, rfl, rfl, rfl, rfl⟩ := h
  rfl

section
variable (fx : FX) (ty : Ty) (ops : Array Oper)

def bindMask (ancs : List Nat) : List Edge → Nat
  | [] => 0
  | e :: l => if Region.binds .any e then (bindMask ancs l ||| ancs.getD e.on 0) ||| 1 <<< e.on else bindMask ancs l

def ancB (ancs : List Nat) (j i : Nat) : Bool := (ancs.getD j 0).testBit i

def ancsOf : List Nat → List Nat → List Nat
  | [], ancs => ancs
  | i :: l, ancs => ancsOf l (match ops[i]? with | some o => ancs.set i (bindMask ancs o.after.toList) | none => ancs)

def ancChk (ancs : List Nat) : Bool := (List.range ops.size).all fun j => match ops[j]? with
  | some o => ancs.getD j 0 == bindMask ancs o.after.toList
  | none => true

def collect (ancs : List Nat) : List Nat → List AE → List AE
  | [], E => E
  | i :: l, E => collect ancs l (match ops[i]? with
    | some o => match cOp fx ty (visible E o (ancB ancs i)) o with
      | some m => E ++ adrOf o i m
      | none => E
    | none => E)

def cOne (ancs : List Nat) (E : List AE) (j : Nat) : Option CI :=
  match ops[j]? with
  | none => none
  | some o => match cGuard fx ops o, cOp fx ty (visible E o (ancB ancs j)) o with
    | some g, some m => if dstOk fx o m && (m.fit fx o && E.all fun e => (!(e.i == j) || (adrOf o j m).any e.same) && (e.i == j || (ancB ancs e.i j || e.live ops o (mkCI o g m 0)))) then some (mkCI o g m 0) else none
    | _, _ => none

def cList (ancs : List Nat) (E : List AE) : List Nat → Option (List CI)
  | [] => some []
  | j :: l => match cOne fx ty ops ancs E j, cList ancs E l with
    | some c, some cs => some (c :: cs)
    | _, _ => none

def noCI : CI := { dst := none, g := none, op := .mkMap, chk := 0 }

def ciAt (cis : List CI) (ancs perm : List Nat) (j : Nat) : CI :=
  let c := cis.getD j noCI
  { c with chk := if isLd c.op || isSt c then ((perm.dropWhile fun i => !(i == j)).drop 1).countP fun i => (cis.getD i noCI).op.eff && !ancB ancs i j else 0 }

def nodupB : List Nat → Bool
  | [] => true
  | a :: l => !l.contains a && nodupB l

theorem nodupB_spec : ∀ {l : List Nat}, nodupB l = true → l.Nodup
  | [], _ => List.nodup_nil
  | a :: l, h => by
    unfold nodupB at h
    rw [Bool.and_eq_true] at h
    refine List.nodup_cons.2 ⟨fun hm => ?_, nodupB_spec h.2⟩
    rw [List.contains_iff_mem.2 hm] at h
    exact absurd h.1 (by simp)

def cDraw (perm : List Nat) : Option (List CI) :=
  let ancs := ancsOf ops perm (List.replicate ops.size 0)
  let E := collect fx ty ops ancs perm []
  match cList fx ty ops ancs E (List.range ops.size) with
  | none => none
  | some cis =>
    let ci := ciAt cis ancs perm
    if ancChk ops ancs && (nodupB perm && (perm.length == ops.size && ((List.range ops.size).all perm.contains && (perm.all (fun j => decide (j < ops.size)) && chkPerm ops ci (ancB ancs) perm)))) then some (perm.map ci) else none

end

theorem bindMask_spec {ancs : List Nat} {i : Nat} : ∀ {l : List Edge}, (bindMask ancs l).testBit i = true → ∃ e ∈ l, Region.binds .any e = true ∧ (e.on = i ∨ ancB ancs e.on i = true)
  | [], h => by simp [bindMask] at h
  | e :: l, h => by
    unfold bindMask at h
    split at h
    · rename_i hb
      rw [Nat.testBit_or, Nat.testBit_or, Bool.or_eq_true, Bool.or_eq_true] at h
      rcases h with (h | h) | h
      · obtain ⟨e', h1, h2⟩ := bindMask_spec h
        exact ⟨e', List.mem_cons_of_mem _ h1, h2⟩
      · exact ⟨e, List.mem_cons_self, hb, Or.inr h⟩
      · refine ⟨e, List.mem_cons_self, hb, Or.inl ?_⟩
        rw [Nat.one_shiftLeft, Nat.testBit_two_pow] at h
        simpa using h
    · obtain ⟨e', h1, h2⟩ := bindMask_spec h
      exact ⟨e', List.mem_cons_of_mem _ h1, h2⟩

theorem ancOk_of {ops : Array Oper} {ancs : List Nat} (h : ancChk ops ancs = true) : AncOk ops (ancB ancs) := ⟨fun j o i ho hi => by
  unfold ancChk at h
  rw [List.all_eq_true] at h
  have hj : j < ops.size := (Array.getElem?_eq_some_iff.1 ho).1
  have := h j (List.mem_range.2 hj)
  rw [ho] at this
  simp only [beq_iff_eq] at this
  unfold ancB at hi
  rw [this] at hi
  obtain ⟨e, h1, h2⟩ := bindMask_spec hi
  exact ⟨e, by simpa using h1, h2⟩⟩

/-- What is known of a region that is done in any order. -/
structure DrawOk (fx : FX) (ty : Ty) (ops : Array Oper) (anc : Nat → Nat → Bool) (E : List AE) (ci : Nat → CI) : Prop where
  at_ : ∀ j o, ops[j]? = some o → ∃ gd m chk, cGuard fx ops o = some gd ∧ cOp fx ty (visible E o (anc j)) o = some m ∧ dstOk fx o m = true ∧ m.fit fx o = true ∧ ci j = mkCI o gd m chk ∧
    (∀ e ∈ E, e.i = j → e ∈ adrOf o j m) ∧ (∀ e ∈ E, e.i = j ∨ anc e.i j = true ∨ e.live ops o (ci j) = true)

theorem cList_at {fx : FX} {ty : Ty} {ops : Array Oper} {ancs : List Nat} {E : List AE} : ∀ {l : List Nat} {cis : List CI}, cList fx ty ops ancs E l = some cis → ∀ (k : Nat) j, l[k]? = some j → ∃ c, cOne fx ty ops ancs E j = some c ∧ cis[k]? = some c
  | [], _, _, k, j, hk => by simp at hk
  | i :: l, cis, h, k, j, hk => by
    unfold cList at h
    split at h
    · rename_i c cs h1 h2
      cases h
      cases k with
      | zero => simp at hk; subst hk; exact ⟨c, h1, rfl⟩
      | succ k =>
        obtain ⟨c', h3, h4⟩ := cList_at h2 k j (by simpa using hk)
        exact ⟨c', h3, by simpa using h4⟩
    · cases h

section
variable {P : Program} {ty : Ty} {fx : FX} {B0 : Nat} {cl : Cl} {σ0 : Sto} {g0 : Gh} {w0 : World} {ops : Array Oper}

theorem drawOk_of {ancs perm : List Nat} {E : List AE} {cis : List CI} (h : cList fx ty ops ancs E (List.range ops.size) = some cis) : DrawOk fx ty ops (ancB ancs) E (ciAt cis ancs perm) := ⟨fun j o ho => by
  have hj : j < ops.size := (Array.getElem?_eq_some_iff.1 ho).1
  obtain ⟨c, h1, h2⟩ := cList_at h j j (by simp [hj])
  have hgd : cis.getD j noCI = c := by simp [List.getD_eq_getElem?_getD, h2]
  unfold cOne at h1
  rw [ho] at h1
  dsimp only at h1
  split at h1
  · rename_i gd m hg hm
    split at h1
    · rename_i hc
      rw [Bool.and_eq_true, Bool.and_eq_true, List.all_eq_true] at hc
      obtain ⟨c1, c2, c3⟩ := hc
      cases h1
      refine ⟨gd, m, (ciAt cis ancs perm j).chk, hg, hm, c1, c2, ?_, fun e he hi => ?_, fun e he => ?_⟩
      · unfold ciAt
        rw [hgd]
        rfl
      · have := c3 e he
        simp only [hi, Bool.and_eq_true, beq_self_eq_true, Bool.not_true, Bool.false_or, List.any_eq_true] at this
        obtain ⟨⟨e', h1, h2⟩, _⟩ := this
        rw [AE.same_eq h2]; exact h1
      · have := c3 e he
        rw [Bool.and_eq_true, Bool.or_eq_true, Bool.or_eq_true, Bool.or_eq_true] at this
        refine this.2.imp (by simp) (Or.imp id fun h => ?_)
        unfold ciAt
        rw [hgd]
        exact h
    · cases h1
  · cases h1⟩

/-- The world's orders. -/
theorem Any.wp (tok : TyOk P ty) (hcl : ClAll P cl) {tp : T} {k : K} {r : Res × Sto} {Q : Exit → Act → World → Prop} (hend : RegEnd fx B0 σ0 g0 w0 tp k r Q) {anc : Nat → Nat → Bool} (ha : AncOk ops anc) {E : List AE} {ci : Nat → CI} (hd : DrawOk fx ty ops anc E ci)
    (htp : ∀ j o, ops[j]? = some o → ∀ q ∈ (ci j).wrs, tp.get q = none) : ∀ (fuel : Nat) (C : Nat → Sto → Prop) (L : Array Bool) (t : T) (σ : Sto) (g : Gh) (w : World) (a : Act), St fx B0 σ0 g0 w0 t σ g w a → Agree tp t → Closed anc L → (∀ e ∈ E, L.getD e.i false = true → AEG fx ops t a e) →
    Any cl ops ci (fun t σ => k .normal t σ = some r) (fun v σ => ∃ t, k (.pan v) t σ = some r) fuel C L t σ → wpAny P .any ops Q fuel L a w := by
  intro fuel
  induction fuel with
  | zero => exact fun C L t σ g w a st hag hcd hE h => ⟨h.1, hend.normal t σ g w a st h.2⟩
  | succ fuel ih =>
    intro C L t σ g w a st hag hcd hE h
    refine ⟨fun h0 => hend.normal t σ g w a st (h.1 h0), fun j hj => ?_⟩
    obtain ⟨s, h1, h2, h3⟩ := h.2 j hj
    obtain ⟨hun, o, ho, hall⟩ := mem_ready.1 hj
    obtain ⟨gd, m, chk, hg, hm, hdo, hfit, hci, hmk, hlive⟩ := hd.at_ j o ho
    unfold wpOp
    rw [ho]
    dsimp only
    refine step_wp tok hcl st hg hm hdo hfit (fun e he hmay => hE e he (hcd.ready ha hj hmay)) (by rw [← hci]; exact h1) (fun t' σ' g' w' u hs' st' hmade => ?_) (fun v σ' g' w' u hs' st' hv => ?_)
    · subst hs'
      have hnext : ∃ C', Any cl ops ci (fun t σ => k .normal t σ = some r) (fun v σ => ∃ t, k (.pan v) t σ = some r) fuel C' (L.setIfInBounds j true) t' σ' := by
        have := h3 t' σ' rfl
        split at this
        · exact ⟨_, this.2⟩
        · exact ⟨_, this⟩
      obtain ⟨C', hnext⟩ := hnext
      refine ih C' _ t' σ' g' w' _ st' (hag.step (htp j o ho) h1) (hcd.set ha hj) (fun e he hl => ?_) hnext
      by_cases hej : e.i = j
      · exact hmade j e (hmk e he hej)
      · rw [getD_set_ne false (Ne.symm hej)] at hl
        rcases hlive e he with h | h | h
        · exact absurd h hej
        · have := hcd _ _ hl h
          rw [getD_listed hun] at this
          cases this
        · refine (hE e he hl).put h (fun q hq => stepS_get h1 hq) u (fun d hd => ?_)
          have := hdo
          unfold dstOk at this
          rw [hd] at this
          simp at this
          rw [st.fr.size]; exact this.1
    · subst hs'
      obtain ⟨tx, hk⟩ := h2 v σ' rfl
      exact hend.pan tx v σ' g' w' a u (st'.sub hag) hk hv

theorem cDraw_wp (tok : TyOk P ty) (hcl : ClAll P cl) (hcle : ClLe cl) {tp : T} {k : K} {r : Res × Sto} {Q : Exit → Act → World → Prop} (hend : RegEnd fx B0 σ0 g0 w0 tp k r Q) {perm : List Nat} {cis : List CI} (hc : cDraw fx ty ops perm = some cis)
    (htp : ∀ c ∈ cis, ∀ q ∈ c.wrs, tp.get q = none) {t : T} {σ : Sto} {g : Gh} {w : World} {a : Act} (st : St fx B0 σ0 g0 w0 t σ g w a) (hag : Agree tp t) (hev : evOps cl cis [] t σ k = some r) :
    wpAny P .any ops Q ops.size (Array.replicate ops.size false) a w := by
  unfold cDraw at hc
  dsimp only at hc
  split at hc
  case h_1 => cases hc
  rename_i cs hcs
  split at hc
  case isFalse => cases hc
  rename_i hchk
  simp only [Bool.and_eq_true, List.all_eq_true, beq_iff_eq, decide_eq_true_eq] at hchk
  obtain ⟨c1, c2, c3, c4, c5, c6⟩ := hchk
  have ha := ancOk_of c1
  cases hc
  have hcl0 : Closed (ancB (ancsOf ops perm (List.replicate ops.size 0))) (Array.replicate ops.size false) := fun j i h => by
    exfalso
    rw [Array.getD_eq_getD_getElem?, Array.getElem?_replicate] at h
    split at h <;> cases h
  have hany := Any.of_evOps (kn := fun t σ => k .normal t σ = some r) (kp := fun v σ => ∃ t, k (.pan v) t σ = some r) hcle ha (fun t σ h => h) (fun v t σ h => ⟨t, h⟩) perm (Array.replicate ops.size false) [] t σ (by simp) (fun j hj => by
    have := c4 j (List.mem_range.2 hj)
    rw [List.contains_iff_mem] at this
    simp [hj, this]) (nodupB_spec c2) c5 hcl0 c6 (fun _ _ _ h => by cases h) hev
  rw [c3] at hany
  refine Any.wp tok hcl hend ha (drawOk_of hcs) (fun j o ho q hq => ?_) _ _ _ t σ g w a st hag hcl0 (fun e _ h => ?_) hany
  · have hj : j < ops.size := (Array.getElem?_eq_some_iff.1 ho).1
    have := c4 j (List.mem_range.2 hj)
    rw [List.contains_iff_mem] at this
    exact htp _ (List.mem_map.2 ⟨j, this, rfl⟩) q hq
  · exfalso
    rw [Array.getD_eq_getD_getElem?, Array.getElem?_replicate] at h
    split at h <;> cases h

end

end Go.Eng
