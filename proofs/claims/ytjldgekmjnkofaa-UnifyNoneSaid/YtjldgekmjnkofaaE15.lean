/- Registers behind an operation; the variables that a frame has to itself. -/
import Derived.Test.YtjldgekmjnkofaaE14
set_option linter.unusedVariables false
set_option linter.unusedSimpArgs false
namespace Go.Eng
open Go

theorem put_getD {a : Act} {d s : Nat} {u : Value} (hd : d < a.tmps.size) : (a.put (some d) u).tmps.getD s undef = if s = d then u else a.tmps.getD s undef := by
  unfold Act.put
  dsimp only
  rw [Array.getD_eq_getD_getElem?, Array.getD_eq_getD_getElem?]
  by_cases h : s = d
  · subst h; simp [hd]
  · rw [Array.getElem?_setIfInBounds_ne (fun e => h e.symm), if_neg h]

theorem put_size {a : Act} {d : Option Tmp} {u : Value} : (a.put d u).tmps.size = a.tmps.size := by
  cases d <;> simp [Act.put]

theorem put_defers' {a : Act} {d : Option Tmp} {u : Value} : (a.put d u).defers = a.defers := by
  cases d <;> rfl

section
variable {pv : Nat → Bool} {B0 Bf n : Nat} {σ : Sto} {g : Gh} {w : World} {t : T} {a : Act}

theorem FR.put_val (fr : FR pv B0 Bf n σ g w t a) {d : Nat} (hp : pv d = false) (hd : d < n) {v : V} {u : Value} (hv : VR g w v u) : FR pv B0 Bf n σ g w (t.set (pos d) v) (a.put (some d) u) := by
  have hd' : d < a.tmps.size := by rw [fr.size]; exact hd
  have hne : ∀ s, pv s = true → s ≠ d := fun s hs e => by subst e; rw [hp] at hs; cases hs
  refine ⟨by rw [put_size]; exact fr.size, fun s x hs hx => ?_, fun s x hs hx => ?_, fun s s' x x' B hs hs' hx hx' h1 h2 => ?_⟩
  · rw [put_getD hd']
    by_cases h : s = d
    · subst h
      rw [Tr.get_set_same] at hx
      cases hx
      rw [if_pos rfl]; exact hv
    · rw [Tr.get_set_ne _ _ _ _ (pos_ne (fun e => h e.symm))] at hx
      rw [if_neg h]; exact fr.val s x hs hx
  · rw [Tr.get_set_ne _ _ _ _ (pos_ne (fun e => hne s hs e.symm))] at hx
    rw [put_getD hd', if_neg (hne s hs)]
    exact fr.priv s x hs hx
  · rw [Tr.get_set_ne _ _ _ _ (pos_ne (fun e => hne s hs e.symm))] at hx
    rw [Tr.get_set_ne _ _ _ _ (pos_ne (fun e => hne s' hs' e.symm))] at hx'
    rw [put_getD hd', if_neg (hne s hs)] at h1
    rw [put_getD hd', if_neg (hne s' hs')] at h2
    exact fr.sep s s' x x' B hs hs' hx hx' h1 h2

theorem FR.put_unk (fr : FR pv B0 Bf n σ g w t a) {d : Nat} (hp : pv d = false) (hd : d < n) (u : Value) : FR pv B0 Bf n σ g w (t.put (pos d) none) (a.put (some d) u) := by
  have hd' : d < a.tmps.size := by rw [fr.size]; exact hd
  have hne : ∀ s, pv s = true → s ≠ d := fun s hs e => by subst e; rw [hp] at hs; cases hs
  refine ⟨by rw [put_size]; exact fr.size, fun s x hs hx => ?_, fun s x hs hx => ?_, fun s s' x x' B hs hs' hx hx' h1 h2 => ?_⟩
  · rw [put_getD hd']
    by_cases h : s = d
    · subst h
      rw [Tr.get_put_same] at hx
      cases hx
    · rw [Tr.get_put_ne _ _ _ _ (pos_ne (fun e => h e.symm))] at hx
      rw [if_neg h]; exact fr.val s x hs hx
  · rw [Tr.get_put_ne _ _ _ _ (pos_ne (fun e => hne s hs e.symm))] at hx
    rw [put_getD hd', if_neg (hne s hs)]
    exact fr.priv s x hs hx
  · rw [Tr.get_put_ne _ _ _ _ (pos_ne (fun e => hne s hs e.symm))] at hx
    rw [Tr.get_put_ne _ _ _ _ (pos_ne (fun e => hne s' hs' e.symm))] at hx'
    rw [put_getD hd', if_neg (hne s hs)] at h1
    rw [put_getD hd', if_neg (hne s' hs')] at h2
    exact fr.sep s s' x x' B hs hs' hx hx' h1 h2

/-- A new variable of the frame's own. -/
theorem FR.put_new (fr : FR pv B0 Bf n σ g w t a) {d : Nat} (hp : pv d = true) (hd : d < n) {B : Nat} {cs : List V} (hB : Priv B0 Bf σ g w B cs)
    (hfresh : ∀ s v B' cs', pv s = true → t.get (pos s) = some v → a.tmps.getD s undef = .pointer (some ⟨B', 0, none⟩) → Priv B0 Bf σ g w B' cs' → B' ≠ B) :
    FR pv B0 Bf n σ g w (t.set (pos d) (.agg cs)) (a.put (some d) (.pointer (some ⟨B, 0, none⟩))) := by
  have hd' : d < a.tmps.size := by rw [fr.size]; exact hd
  have hold : ∀ s v, s ≠ d → pv s = true → t.get (pos s) = some v → a.tmps.getD s undef ≠ .pointer (some ⟨B, 0, none⟩) := fun s v hne hs hv e => by
    obtain ⟨B', cs', _, h2, h3⟩ := fr.priv s v hs hv
    rw [h2] at e
    injection e with e
    injection e with e
    injection e with e
    exact hfresh s v B' cs' hs hv h2 h3 e
  refine ⟨by rw [put_size]; exact fr.size, fun s x hs hx => ?_, fun s x hs hx => ?_, fun s s' x x' B' hs hs' hx hx' h1 h2 => ?_⟩
  · have h : s ≠ d := fun e => by subst e; rw [hp] at hs; cases hs
    rw [Tr.get_set_ne _ _ _ _ (pos_ne (fun e => h e.symm))] at hx
    rw [put_getD hd', if_neg h]; exact fr.val s x hs hx
  · rw [put_getD hd']
    by_cases h : s = d
    · subst h
      rw [Tr.get_set_same] at hx
      cases hx
      rw [if_pos rfl]
      exact ⟨B, cs, rfl, rfl, hB⟩
    · rw [Tr.get_set_ne _ _ _ _ (pos_ne (fun e => h e.symm))] at hx
      rw [if_neg h]; exact fr.priv s x hs hx
  · rw [put_getD hd'] at h1 h2
    by_cases h : s = d
    · by_cases h' : s' = d
      · rw [h, h']
      · rw [if_pos h] at h1
        rw [if_neg h'] at h2
        rw [Tr.get_set_ne _ _ _ _ (pos_ne (fun e => h' e.symm))] at hx'
        rw [← h1] at h2
        exact absurd h2 (hold s' x' h' hs' hx')
    · rw [if_neg h] at h1
      rw [Tr.get_set_ne _ _ _ _ (pos_ne (fun e => h e.symm))] at hx
      by_cases h' : s' = d
      · rw [if_pos h'] at h2
        rw [← h2] at h1
        exact absurd h1 (hold s x h hs hx)
      · rw [if_neg h'] at h2
        rw [Tr.get_set_ne _ _ _ _ (pos_ne (fun e => h' e.symm))] at hx'
        exact fr.sep s s' x x' B' hs hs' hx hx' h1 h2

/-- A store into a variable of the frame's own. -/
theorem FR.store (fr : FR pv B0 Bf n σ g w t a) (inv : Inv B0 σ g w) {p : Nat} (hp : pv p = true) {cs : List V} (ht : t.get (pos p) = some (.agg cs)) {v : V} {u : Value} (hv : VR g w v u) (hone : v.cells.all V.one = true) {off : Nat}
    (hoff : off + v.cells.length ≤ cs.length) : ∃ B c el, a.tmps.getD p undef = .pointer (some ⟨B, 0, none⟩) ∧ w.heap[B]? = some (Obj.cells c el (0, 0)) ∧ c.size = cs.length ∧ Bf ≤ B ∧ B0 ≤ B ∧
      (∀ b, ¬ Holds σ g b B) ∧ (∀ o, ¬ g.Γ B o) ∧
      Inv B0 σ g (setB w B (.cells (wrow c off u.cells.toList) el (0, 0))) ∧ Mon g w g (setB w B (.cells (wrow c off u.cells.toList) el (0, 0))) ∧
      FR pv B0 Bf n σ g (setB w B (.cells (wrow c off u.cells.toList) el (0, 0))) (t.set (pos p) (.agg (over cs off v.cells))) a := by
  obtain ⟨B, cs', hcs, hB, hpriv⟩ := fr.priv p _ hp ht
  cases hcs
  obtain ⟨c, el, hh, hsz, hr⟩ := hpriv.heap
  have hws := WSet.setB (lt_of_heap hh) (.cells (wrow c off u.cells.toList) el (0, 0))
  have hmine := step_mine inv hws hpriv.free hpriv.gam (fun c' el' fr' h => by rw [hh] at h; cases h; exact ⟨_, rfl, by simp⟩)
  have m := hmine.2
  obtain ⟨k1, k2⟩ := hv.cells_one hone
  have hrd : Reads g w (wrow c off u.cells.toList) 0 (over cs off v.cells) := by
    have := hr.over (us := u.cells.toList) off hoff (by omega) (by simpa using k1) (fun j x hj => by
      obtain ⟨y, hy, hyr, _⟩ := k2 j x hj
      exact ⟨List.all_eq_true.1 hone x (List.mem_of_getElem? hj), y, by simpa using hy, hyr⟩)
    rw [Nat.zero_add] at this
    exact this
  refine ⟨B, c, el, hB, hh, hsz, hpriv.frame, hpriv.base, hpriv.free, hpriv.gam, hmine.1, m, ⟨fr.size, fun s x hs hx => ?_, fun s x hs hx => ?_, fun s s' x x' B' hs hs' hx hx' h1 h2 => ?_⟩⟩
  · have h : s ≠ p := fun e => by subst e; rw [hp] at hs; cases hs
    rw [Tr.get_set_ne _ _ _ _ (pos_ne (fun e => h e.symm))] at hx
    exact (fr.val s x hs hx).mono m
  · by_cases h : s = p
    · subst h
      rw [Tr.get_set_same] at hx
      cases hx
      exact ⟨B, _, rfl, hB, ⟨⟨_, el, hws.same, by rw [wrow_size, over_length _ _ _ hoff]; exact hsz, hrd.mono m⟩, hpriv.free, hpriv.gam, hpriv.base, hpriv.frame⟩⟩
    · rw [Tr.get_set_ne _ _ _ _ (pos_ne (fun e => h e.symm))] at hx
      obtain ⟨B2, cs2, e1, e2, hp2⟩ := fr.priv s x hs hx
      have hne : B2 ≠ B := fun e => by
        subst e
        exact h (fr.sep s p x _ B2 hs hp hx ht e2 hB)
      obtain ⟨c2, el2, hh2, hsz2, hr2⟩ := hp2.heap
      exact ⟨B2, cs2, e1, e2, ⟨⟨c2, el2, (hws.other B2 hne).trans hh2, hsz2, hr2.mono m⟩, hp2.free, hp2.gam, hp2.base, hp2.frame⟩⟩
  · have old : ∀ s x, pv s = true → (t.set (pos p) (.agg (over cs off v.cells))).get (pos s) = some x → ∃ y, t.get (pos s) = some y := fun s x _ hx => by
      by_cases h : s = p
      · subst h; exact ⟨_, ht⟩
      · rw [Tr.get_set_ne _ _ _ _ (pos_ne (fun e => h e.symm))] at hx
        exact ⟨x, hx⟩
    obtain ⟨y, hy⟩ := old s x hs hx
    obtain ⟨y', hy'⟩ := old s' x' hs' hx'
    exact fr.sep s s' y y' B' hs hs' hy hy' h1 h2

end

/-! ## Calls -/

/-- What a call comes to. -/
def Post (B0 : Nat) (σ : Sto) (g : Gh) (w : World) (r : Res) (σ' : Sto) : Ending → World → Prop
  | .returned u, w' => ∃ v g', r = .ret v ∧ Ext σ g w σ' g' w' ∧ Inv B0 σ' g' w' ∧ VR g' w' v u
  | .panicked ch, w' => ∃ v u g', r = .pan v ∧ ch = [{ v := u, recovered := false }] ∧ Ext σ g w σ' g' w' ∧ Inv B0 σ' g' w' ∧ VR g' w' v u
  | .outgrown, _ => False

def Does (P : Program) (f : FuncId) (us : Array Value) (w : World) (R : Ending → World → Prop) : Prop :=
  (callFunc f us).run P w = .ok (.enter f us) w ∧ Calls P f us w R

def ClOk (P : Program) (B0 : Nat) (cl : Cl) : Prop :=
  ∀ f vs σ r σ', cl f vs σ = some (r, σ') → ∀ g w us, Inv B0 σ g w → us.size = vs.length → (∀ (j : Nat) v, vs[j]? = some v → VR g w v (us.getD j undef)) → Does P f us w (Post B0 σ g w r σ')

theorem call_wp {P : Program} {B0 : Nat} {cl : Cl} (hcl : ClOk P B0 cl) {o : Oper} {a : Act} {σ σ' : Sto} {g : Gh} {w : World} {f : FuncId} {vs : List V} {us : Array Value} {r : Res} (hc : cl f vs σ = some (r, σ'))
    (inv : Inv B0 σ g w) (hn : us.size = vs.length) (hv : ∀ (j : Nat) v, vs[j]? = some v → VR g w v (us.getD j undef)) (hex : (execOp a.eval o).run P w = (callFunc f us).run P w)
    {K : Act → World → Prop} {Q : Exit → Act → World → Prop}
    (hK : ∀ v u g' w', r = .ret v → Ext σ g w σ' g' w' → Inv B0 σ' g' w' → VR g' w' v u → K (a.put o.dst u) w')
    (hQ : ∀ v u g' w', r = .pan v → Ext σ g w σ' g' w' → Inv B0 σ' g' w' → VR g' w' v u → Q (.panic [{ v := u, recovered := false }]) a w') : o.wp P a w K Q := by
  obtain ⟨h1, h2⟩ := hcl f vs σ r σ' hc g w us inv hn hv
  unfold Oper.wp
  rw [hex, h1, Oper.upon_enter]
  refine h2.mono fun e w' he => ?_
  cases e with
  | returned u =>
    obtain ⟨v, g', hr, e1, e2, e3⟩ := he
    exact hK v u g' w' hr e1 e2 e3
  | panicked ch =>
    obtain ⟨v, u, g', hr, rfl, e1, e2, e3⟩ := he
    exact hQ v u g' w' hr e1 e2 e3
  | outgrown => exact he.elim

/-! ## Calls that hang on their arguments alone -/

theorem pures_get : ∀ {l l' : List V}, V.pures l = some l' → l'.length = l.length ∧ ∀ (j : Nat) v', l'[j]? = some v' → ∃ v, l[j]? = some v ∧ v.pure = some v'
  | [], l', h => by
    cases h
    exact ⟨rfl, fun j v' hj => by simp at hj⟩
  | v :: l, l', h => by
    simp only [V.pures] at h
    split at h
    · rename_i v1 l1 h1 h2
      cases h
      obtain ⟨k1, k2⟩ := pures_get h2
      refine ⟨by simp [k1], fun j v' hj => ?_⟩
      cases j with
      | zero => simp at hj; subst hj; exact ⟨v, rfl, h1⟩
      | succ j => simpa using k2 j v' (by simpa using hj)
    · cases h

theorem pures_append : ∀ {a b a' b' : List V}, V.pures a = some a' → V.pures b = some b' → V.pures (a ++ b) = some (a' ++ b')
  | [], b, a', b', h1, h2 => by cases h1; simpa using h2
  | v :: a, b, a', b', h1, h2 => by
    simp only [V.pures] at h1
    split at h1
    · rename_i v1 l1 e1 e2
      cases h1
      simp only [List.cons_append, V.pures, e1, pures_append e2 h2]
    · cases h1

theorem pure_one {v v' : V} (h : v.pure = some v') : v'.one = v.one := by
  cases v <;> simp only [V.pure] at h <;> first
    | (cases h; done)
    | (cases h; rfl)
    | (obtain ⟨_, _, rfl⟩ := Option.map_eq_some_iff.1 h; rfl)

theorem pure_cells {v v' : V} (h : v.pure = some v') : V.pures v.cells = some v'.cells := by
  have one : ∀ v v' : V, v.pure = some v' → v.cells = [v] → v'.cells = [v'] → V.pures v.cells = some v'.cells := fun v v' h h1 h2 => by
    rw [h1, h2]
    simp only [V.pures, h]
  cases v with
  | agg cs =>
    simp only [V.pure] at h
    obtain ⟨l, h1, rfl⟩ := Option.map_eq_some_iff.1 h
    exact h1
  | _ =>
    refine one _ _ h rfl ?_
    simp only [V.pure] at h
    first
      | (cases h; done)
      | (cases h; rfl)
      | (obtain ⟨_, _, rfl⟩ := Option.map_eq_some_iff.1 h; rfl)

theorem pures_flat : ∀ {es es' : List V}, V.pures es = some es' → V.pures (es.flatMap V.cells) = some (es'.flatMap V.cells)
  | [], es', h => by cases h; rfl
  | v :: es, es', h => by
    simp only [V.pures] at h
    split at h
    · rename_i v1 l1 e1 e2
      cases h
      rw [List.flatMap_cons, List.flatMap_cons]
      exact pures_append (pure_cells e1) (pures_flat e2)
    · cases h

/-- A value that hangs on no store, elsewhere. -/
theorem VR.pure {g g2 : Gh} {w : World} (hΓ : ∀ B o, g.Γ B o → g2.Γ B o) {v : V} {u : Value} (h : VR g w v u) : ∀ v', v.pure = some v' → VR g2 w v' u := by
  induction h with
  | undef => intro v' h; cases h; exact .undef
  | bool b => intro v' h; cases h; exact .bool b
  | int k n => intro v' h; cases h; exact .int k n
  | str s l h => intro v' h'; cases h'; exact .str s l h
  | nptr => intro v' h; cases h; exact .nptr
  | ptr b off B d h => intro v' h; cases h
  | vp cs B o f hs hv ih =>
    intro v' h
    obtain ⟨l, h1, rfl⟩ := Option.map_eq_some_iff.1 (show (V.pures cs).map V.vp = some v' from h)
    obtain ⟨k1, k2⟩ := pures_get h1
    exact .vp l B o f (fun j hj => ⟨(hs j (by omega)).1, hΓ _ _ (hs j (by omega)).2⟩) (fun j x hj => by
      obtain ⟨y, h2, h3⟩ := k2 j x hj
      exact ih j y h2 x h3)
  | nsl => intro v' h; cases h; exact .nsl
  | sl ow es B o cap s f hl hc hs hv hone ho ih =>
    intro v' h
    obtain ⟨l, h1, rfl⟩ := Option.map_eq_some_iff.1 (show (V.pures es).map (V.sl ow.pure) = some v' from h)
    obtain ⟨k1, k2⟩ := pures_get h1
    obtain ⟨_, k4⟩ := pures_get (pures_flat h1)
    have hel : ∀ x ∈ l, ∃ y ∈ es, y.pure = some x := fun x hx => by
      obtain ⟨j, hj⟩ := List.getElem?_of_mem hx
      obtain ⟨y, h2, h3⟩ := k2 j x hj
      exact ⟨y, List.mem_of_getElem? h2, h3⟩
    have hcl : ∀ x y : V, y.pure = some x → x.cells.length = y.cells.length ∧ ∀ z ∈ x.cells, ∃ z' ∈ y.cells, z'.pure = some z := fun x y hxy => by
      obtain ⟨q1, q2⟩ := pures_get (pure_cells hxy)
      refine ⟨q1, fun z hz => ?_⟩
      obtain ⟨j, hj⟩ := List.getElem?_of_mem hz
      obtain ⟨z', h2, h3⟩ := q2 j z hj
      exact ⟨z', List.mem_of_getElem? h2, h3⟩
    rw [← k1] at hc hs ho ⊢
    refine .sl ow.pure l B o cap s f (fun x hx => ?_) hc (fun j hj => ⟨(hs j hj).1, hΓ _ _ (hs j hj).2⟩) (fun j x hj => ?_) (fun x hx z hz => ?_) ?_
    · obtain ⟨y, hy, hyx⟩ := hel x hx
      rw [(hcl x y hyx).1]; exact hl y hy
    · obtain ⟨y, h2, h3⟩ := k4 j x hj
      exact ih j y h2 x h3
    · obtain ⟨y, hy, hyx⟩ := hel x hx
      obtain ⟨z', h2, h3⟩ := (hcl x y hyx).2 z hz
      rw [pure_one h3]; exact hone y hy z' h2
    · cases ow with
      | none => trivial
      | full => exact ho
      | tok k => trivial
  | esl A => intro v' h; cases h; exact .esl A
  | msl b off len s B d cap h hc hr => intro v' h; cases h
  | nmap => intro v' h; cases h; exact .nmap
  | map b B h => intro v' h; cases h
  | nfunc => intro v' h; cases h; exact .nfunc
  | func f cs us hn hv ih =>
    intro v' h
    obtain ⟨l, h1, rfl⟩ := Option.map_eq_some_iff.1 (show (V.pures cs).map (V.func f) = some v' from h)
    obtain ⟨k1, k2⟩ := pures_get h1
    exact .func f l us (by omega) (fun j x hj => by
      obtain ⟨y, h2, h3⟩ := k2 j x hj
      exact ih j y h2 x h3)
  | niface => intro v' h; cases h; exact .niface
  | iface t v u h ih =>
    intro v' h
    obtain ⟨l, h1, rfl⟩ := Option.map_eq_some_iff.1 (show v.pure.map (V.iface t) = some v' from h)
    exact .iface t l u (ih l h1)
  | agg cs us hn hv ih =>
    intro v' h
    obtain ⟨l, h1, rfl⟩ := Option.map_eq_some_iff.1 (show (V.pures cs).map V.agg = some v' from h)
    obtain ⟨k1, k2⟩ := pures_get h1
    exact .agg l us (by omega) (fun j x hj => by
      obtain ⟨y, h2, h3⟩ := k2 j x hj
      exact ih j y h2 x h3)
  | tup cs us hn hv ih =>
    intro v' h
    obtain ⟨l, h1, rfl⟩ := Option.map_eq_some_iff.1 (show (V.pures cs).map V.tup = some v' from h)
    obtain ⟨k1, k2⟩ := pures_get h1
    exact .tup l us (by omega) (fun j x hj => by
      obtain ⟨y, h2, h3⟩ := k2 j x hj
      exact ih j y h2 x h3)

theorem snaps_get {σ : Sto} : ∀ {l l' : List V}, V.snaps σ l = some l' → l'.length = l.length ∧ ∀ (j : Nat) v', l'[j]? = some v' → ∃ v, l[j]? = some v ∧ v.snap σ = some v'
  | [], l', h => by
    cases h
    exact ⟨rfl, fun j v' hj => by simp at hj⟩
  | v :: l, l', h => by
    simp only [V.snaps] at h
    split at h
    · rename_i v1 l1 h1 h2
      cases h
      obtain ⟨k1, k2⟩ := snaps_get h2
      refine ⟨by simp [k1], fun j v' hj => ?_⟩
      cases j with
      | zero => simp at hj; subst hj; exact ⟨v, rfl, h1⟩
      | succ j => simpa using k2 j v' (by simpa using hj)
    · cases h

/-- A value, with slices in the store as they are, elsewhere. -/
theorem VR.snap {B0 : Nat} {σ : Sto} {g g2 : Gh} {w : World} (inv : Inv B0 σ g w) (hΓ : ∀ B o, g.Γ B o → g2.Γ B o) (hΓ2 : ∀ B o, B0 ≤ B → (w.cell? ⟨B, o, none⟩).isSome = true → g2.Γ B o) {v : V} {u : Value} (h : VR g w v u) :
    ∀ v', v.snap σ = some v' → VR g2 w v' u := by
  induction h with
  | iface t v u h ih =>
    intro v' h
    obtain ⟨l, h1, rfl⟩ := Option.map_eq_some_iff.1 (show (v.snap σ).map (V.iface t) = some v' by simpa only [V.snap] using h)
    exact .iface t l u (ih l h1)
  | agg cs us hn hv ih =>
    intro v' h
    obtain ⟨l, h1, rfl⟩ := Option.map_eq_some_iff.1 (show (V.snaps σ cs).map V.agg = some v' by simpa only [V.snap] using h)
    obtain ⟨k1, k2⟩ := snaps_get h1
    exact .agg l us (by omega) (fun j x hj => by
      obtain ⟨y, h2, h3⟩ := k2 j x hj
      exact ih j y h2 x h3)
  | tup cs us hn hv ih =>
    intro v' h
    obtain ⟨l, h1, rfl⟩ := Option.map_eq_some_iff.1 (show (V.snaps σ cs).map V.tup = some v' by simpa only [V.snap] using h)
    obtain ⟨k1, k2⟩ := snaps_get h1
    exact .tup l us (by omega) (fun j x hj => by
      obtain ⟨y, h2, h3⟩ := k2 j x hj
      exact ih j y h2 x h3)
  | msl b off len s B d cap hι hc hr =>
    intro v' h
    have hv : VR g w (.msl b off len s) (.slice (some ⟨B, d + off, none⟩) len cap) := .msl b off len s B d cap hι hc hr
    simp only [V.snap] at h
    split at h
    · rename_i es he
      split at h
      · rename_i hh
        obtain ⟨l, h1, rfl⟩ := Option.map_eq_some_iff.1 h
        obtain ⟨A, cap', news, hu, hlc, hl, hone, hn, hA, hn1, hrd⟩ := elems_rel inv hv he hh.2 hh.1
        have hB : B0 ≤ B := by
          simp only [elems] at he
          split at he
          · rename_i cs hb
            refine inv.base b B ?_
            unfold Holds
            rw [hb]
            exact ⟨d, hι⟩
          · cases he
        injection hu with e1 e2 e3
        subst e2 e3
        obtain ⟨k1, k2⟩ := pures_get h1
        obtain ⟨k3, k4⟩ := pures_get (pures_flat h1)
        have hcl : ∀ x y : V, y.pure = some x → x.cells.length = y.cells.length ∧ ∀ z ∈ x.cells, ∃ z' ∈ y.cells, z'.pure = some z := fun x y hxy => by
          obtain ⟨q1, q2⟩ := pures_get (pure_cells hxy)
          refine ⟨q1, fun z hz => ?_⟩
          obtain ⟨j, hj⟩ := List.getElem?_of_mem hz
          obtain ⟨z', h2, h3⟩ := q2 j z hj
          exact ⟨z', List.mem_of_getElem? h2, h3⟩
        have hel : ∀ x ∈ l, ∃ y ∈ es, y.pure = some x := fun x hx => by
          obtain ⟨j, hj⟩ := List.getElem?_of_mem hx
          obtain ⟨y, h2, h3⟩ := k2 j x hj
          exact ⟨y, List.mem_of_getElem? h2, h3⟩
        have hcell : ∀ j, j < es.length * s → w.cell? ⟨B, d + off + j, none⟩ = some (news.getD j Go.undef) := fun j hj => by
          have hj' : j < news.length := by omega
          have hg : news[j]? = some (news.getD j Go.undef) := by simp [List.getD_eq_getElem?_getD, hj']
          rcases hA with h0 | ⟨B2, o2, h, h3⟩
          · have : es.length = 0 := by omega
            rw [this] at hj
            omega
          · cases e1.trans h
            exact h3 j _ hg
        rw [← k1]
        refine .sl .none l B (d + off) cap s (fun j => news.getD j Go.undef) (fun x hx => ?_) (by omega) (fun j hj => ?_) (fun j x hj => ?_) (fun x hx z hz => ?_) trivial
        · obtain ⟨y, hy, hyx⟩ := hel x hx
          rw [(hcl x y hyx).1]; exact hl y hy
        · have := hcell j (by rw [← k1]; exact hj)
          exact ⟨this, hΓ2 _ _ hB (by rw [this]; rfl)⟩
        · obtain ⟨y, h2, h3⟩ := k4 j x hj
          obtain ⟨u, h5, h6⟩ := hrd j y h2
          have : news.getD j Go.undef = u := by simp [List.getD_eq_getElem?_getD, h5]
          rw [this]
          exact VR.pure hΓ h6 x h3
        · obtain ⟨y, hy, hyx⟩ := hel x hx
          obtain ⟨z', h2, h3⟩ := (hcl x y hyx).2 z hz
          rw [pure_one h3]; exact hone y hy z' h2
      · cases h
    · cases h
  | undef => intro v' h; simp only [V.snap] at h; exact VR.pure hΓ .undef v' h
  | bool b => intro v' h; simp only [V.snap] at h; exact VR.pure hΓ (.bool b) v' h
  | int k n => intro v' h; simp only [V.snap] at h; exact VR.pure hΓ (.int k n) v' h
  | str s l hs => intro v' h; simp only [V.snap] at h; exact VR.pure hΓ (.str s l hs) v' h
  | nptr => intro v' h; simp only [V.snap] at h; exact VR.pure hΓ .nptr v' h
  | ptr b off B d hp => intro v' h; simp only [V.snap] at h; exact VR.pure hΓ (.ptr b off B d hp) v' h
  | vp cs B o f hs hv ih => intro v' h; simp only [V.snap] at h; exact VR.pure hΓ (.vp cs B o f hs hv) v' h
  | nsl => intro v' h; simp only [V.snap] at h; exact VR.pure hΓ .nsl v' h
  | sl ow es B o cap s f hl hc hs hv hone ho ih => intro v' h; simp only [V.snap] at h; exact VR.pure hΓ (.sl ow es B o cap s f hl hc hs hv hone ho) v' h
  | esl A => intro v' h; simp only [V.snap] at h; exact VR.pure hΓ (.esl A) v' h
  | nmap => intro v' h; simp only [V.snap] at h; exact VR.pure hΓ .nmap v' h
  | map b B hm => intro v' h; simp only [V.snap] at h; exact VR.pure hΓ (.map b B hm) v' h
  | nfunc => intro v' h; simp only [V.snap] at h; exact VR.pure hΓ .nfunc v' h
  | func f cs us hn hv ih => intro v' h; simp only [V.snap] at h; exact VR.pure hΓ (.func f cs us hn hv) v' h
  | niface => intro v' h; simp only [V.snap] at h; exact VR.pure hΓ .niface v' h

def Gh.bare (g : Gh) : Gh := ⟨fun _ => none, g.Γ, fun _ => none⟩

theorem no_holds {g : Gh} {b B : Nat} : ¬ Holds .empty g b B := fun h => by
  have he : Sto.empty.blk b = none := by
    unfold Sto.blk Sto.get Sto.empty
    simp
  unfold Holds at h
  rw [he] at h
  exact h

theorem Inv.bare {B0 : Nat} {σ : Sto} {g : Gh} {w : World} (h : Inv B0 σ g w) : Inv w.heap.size .empty g.bare w := by
  have he : ∀ b, Sto.empty.blk b = none := fun b => by
    unfold Sto.blk Sto.get Sto.empty
    simp
  refine ⟨fun b => ?_, fun b b' B h => (no_holds h).elim, fun b B h => (no_holds h).elim, fun B o h' => h.gamlt B o h', fun b x h => (by cases h), fun k x h => (by cases h), Nat.le_refl _⟩
  unfold BlkOk; rw [he]; trivial

/-- What is still behind a call by itself: what stood, and what is new. -/
def newΓ (g' : Gh) (w w' : World) (B o : Nat) : Prop := g'.Γ B o ∨ (w.heap.size ≤ B ∧ (w'.cell? ⟨B, o, none⟩).isSome = true)

/-- What stays of a call by itself. -/
theorem pure_after {B0 : Nat} {σ σ' : Sto} {g g' : Gh} {w w' : World} (inv : Inv B0 σ g w) (e : Ext .empty g.bare w σ' g' w') (inv' : Inv w.heap.size σ' g' w') :
    Ext σ g w σ ⟨g.ι, newΓ g' w w', g.τ⟩ w' ∧ Inv B0 σ ⟨g.ι, newΓ g' w w', g.τ⟩ w' := by
  have hm : Mon g w ⟨g.ι, newΓ g' w w', g.τ⟩ w' := ⟨fun _ _ h => h, fun B o h => Or.inl (e.gam B o h), fun k B m L h => ⟨B, m, L, h, Nat.le_refl _, fun _ => ⟨rfl, rfl⟩⟩, fun B o h => e.cell B o h, e.kind, e.size, e.os, e.tape, e.output⟩
  have hold : ∀ b B, Holds σ ⟨g.ι, newΓ g' w w', g.τ⟩ b B ↔ Holds σ g b B := fun b B => Iff.rfl
  have hgam : ∀ B, B < w.heap.size → ∀ o, newΓ g' w w' B o → g.Γ B o := fun B hB o ho => by
    rcases ho with ho | ho
    · exact (e.news B hB fun b => no_holds).2 o ho
    · omega
  have hheap : ∀ (B : Nat) x, w.heap[B]? = some x → w'.heap[B]? = some x ∧ ∀ o, newΓ g' w w' B o → g.Γ B o := fun B x hx => by
    have hlt : B < w.heap.size := by
      rcases Nat.lt_or_ge B w.heap.size with h | h
      · exact h
      · rw [Array.getElem?_eq_none h] at hx; cases hx
    exact ⟨(e.rest B hlt fun b => no_holds).trans hx, hgam B hlt⟩
  refine ⟨{ hm with rest := fun B hB _ => e.rest B hB fun b => no_holds, news := fun B hB h => ⟨h, hgam B hB⟩, next := Nat.le_refl _ }, ?_⟩
  refine ⟨fun b => ?_, inv.sep, inv.base, fun B o ho => ?_, inv.iotalt, inv.tault, Nat.le_trans inv.b0 e.size⟩
  · have := inv.blk b
    unfold BlkOk at this ⊢
    split at this
    · obtain ⟨B, d, c, el, h1, h2, h3, h4⟩ := this
      obtain ⟨k1, k2⟩ := hheap B _ h2
      exact ⟨B, d, c, el, h1, k1, h3.mono hm, fun o ho => h4 o (k2 o ho)⟩
    · obtain ⟨B, us, h1, h2, h3, h4⟩ := this
      obtain ⟨k1, k2⟩ := hheap B _ h2
      exact ⟨B, us, h1, k1, h3.mono hm, fun o ho => h4 o (k2 o ho)⟩
    · obtain ⟨B, m, c, el, fr, h1, h2, h3, h4⟩ := this
      obtain ⟨k1, k2⟩ := hheap B _ h2
      exact ⟨B, m, c, el, fr, h1, k1, h3, fun o ho hg => h4 o ho (k2 o hg)⟩
    · trivial
  · rcases ho with ho | ho
    · exact inv'.gamlt B o ho
    · exact ho.2

def ClAll (P : Program) (cl : Cl) : Prop := ∀ B, ClOk P B cl

theorem pure_wp {P : Program} {B0 : Nat} {cl : Cl} (hcl : ClAll P cl) {o : Oper} {a : Act} {σ : Sto} {g : Gh} {w : World} {f : FuncId} {vs : List V} {us : Array Value} {v : V} (hc : callPure cl f vs = some v)
    (inv : Inv B0 σ g w) (hn : us.size = vs.length) (hv : ∀ (j : Nat) v, vs[j]? = some v → VR g w v (us.getD j undef)) (hex : (execOp a.eval o).run P w = (callFunc f us).run P w)
    {K : Act → World → Prop} {Q : Exit → Act → World → Prop}
    (hK : ∀ u g' w', Ext σ g w σ g' w' → Inv B0 σ g' w' → VR g' w' v u → K (a.put o.dst u) w') : o.wp P a w K Q := by
  unfold callPure at hc
  split at hc
  · cases hc
  · rename_i vs' hvs
    split at hc
    · rename_i v0 σ' hcall
      obtain ⟨k1, k2⟩ := pures_get hvs
      obtain ⟨h1, h2⟩ := hcl w.heap.size f vs' .empty _ σ' hcall g.bare w us inv.bare (by omega) (fun j x hj => by
        obtain ⟨y, e1, e2⟩ := k2 j x hj
        exact VR.pure (g := g) (g2 := g.bare) (show ∀ B o, g.Γ B o → g.bare.Γ B o from fun B o h => h) (hv j y e1) x e2)
      unfold Oper.wp
      rw [hex, h1, Oper.upon_enter]
      refine h2.mono fun e w' he => ?_
      cases e with
      | returned u =>
        obtain ⟨v1, g', hr, e1, e2, e3⟩ := he
        cases hr
        obtain ⟨q1, q2⟩ := pure_after inv e1 e2
        exact hK u _ w' q1 q2 (VR.snap (g := g') (g2 := ⟨g.ι, newΓ g' w w', g.τ⟩) e2 (fun B o h => Or.inl h) (fun B o hB h => Or.inr ⟨hB, h⟩) e3 v hc)
      | panicked ch => obtain ⟨_, _, _, h, _⟩ := he; cases h
      | outgrown => exact he.elim
    · cases hc

end Go.Eng
