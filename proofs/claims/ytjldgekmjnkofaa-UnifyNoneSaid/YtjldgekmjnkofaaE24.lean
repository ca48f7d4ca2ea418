/- A law that says true: from the interpreter to the row. -/
import Derived.Test.YtjldgekmjnkofaaE23
import Derived.ProofKit
set_option linter.unusedVariables false
set_option linter.unusedSimpArgs false
namespace Go.Eng
open Go Go.ChangeShapes Go.WideShapes Go.RowKit

/-- An argument of a type. -/
def Arg (ty : Ty) (n : Nat) (t : TypeId) (v : V) : Prop := ∃ i, ty t = some i ∧ (i.agg = true → v = .agg v.cells) ∧ (i.agg = false → v.cells = [v]) ∧ Fits ty n t v.cells

section
variable {H : Type} {enc : TypeId × Value → H} {P : Program} {ty : Ty} {W : World} {L : List TypeId}

theorem arg_of (tok : TyOk P ty) (hL : dataSet ty L = true) {base : Nat} {t : TypeId} {v : Value} {d : DataW H} {ps : List MemPlace} (hm : t ∈ L) (hval : Value.okWide P W .any base t v) (h : DataW.Trod enc P W 0 (fun _ => true) true t v d ps) (hw : ∀ x ∈ d.weights P t, x ≤ reachBytes) :
    ∃ x n, Arg ty n t x ∧ VR (g0 W) W x v := by
  obtain ⟨fuel, h⟩ := h
  obtain ⟨vs, hc, hf⟩ := trod_fits tok hL fuel t _ d ps hm h hw
  have hset := List.all_eq_true.1 hL t hm
  cases hi : ty t with
  | none => rw [hi] at hset; cases hset
  | some i =>
    have hu := tok.under t i hi
    cases ha : i.agg with
    | true =>
      have : ∃ cs, v = .agg cs := by
        unfold TI.agg at ha
        split at ha
        · rename_i fs hd
          rw [hd] at hu
          obtain ⟨cs, h, _⟩ := okWide_struct hu hval
          exact ⟨cs, h⟩
        · rename_i hd
          rw [hi] at hset
          simp [hd] at hset
        · cases ha
      obtain ⟨cs, rfl⟩ := this
      refine ⟨.agg vs, fuel, ⟨i, hi, fun _ => rfl, (fun h => by rw [ha] at h; cases h), hf⟩, .agg vs cs ?_ fun j x hj => ?_⟩
      · have := hc.len
        simp [Value.cells] at this
        exact this.symm
      · obtain ⟨u, h1, h2⟩ := hc.rel j x hj
        have : cs.getD j undef = u := by
          simp [Value.cells] at h1
          simp [h1]
        rw [this]; exact h2
    | false =>
      -- one cell
      have hone : v.cells = #[v] := by
        rw [hi] at hset
        dsimp only at hset
        unfold TI.agg at ha
        cases hd : i.desc <;> rw [hd] at hset hu ha <;> simp only at hset ha <;> try (cases hset; done)
        · obtain ⟨b, rfl⟩ := okWide_bool hu hval; rfl
        · obtain ⟨b, rfl⟩ := okWide_int hu hval; rfl
        · obtain ⟨b, rfl⟩ := okWide_string hu hval; rfl
        · obtain ⟨b, _, _, rfl⟩ := okWide_slice hu hval; rfl
        · cases ha
      rw [hone] at hc
      have hlen := hc.len
      simp at hlen
      obtain ⟨x, rfl⟩ := List.length_eq_one_iff.1 hlen
      have hx1 := hc.one x (by simp)
      obtain ⟨u, h1, h2⟩ := hc.rel 0 x rfl
      have huv : v = u := by simpa using h1
      subst huv
      have hcx : x.cells = [x] := by cases x <;> first | rfl | cases hx1
      exact ⟨x, fuel, ⟨i, hi, (fun h => by rw [ha] at h; cases h), (fun _ => hcx), by rw [hcx]; exact hf⟩, h2⟩

theorem args_of (tok : TyOk P ty) (hL : dataSet ty L = true) {base : Nat} : ∀ (ts : List TypeId) (vs : List Value) (ds : List (DataW H)) (ps : List MemPlace), (∀ t ∈ ts, t ∈ L) → (∀ (j : Nat) t v, ts[j]? = some t → vs[j]? = some v → Value.okWide P W .any base t v) →
    DataW.TrodAll enc P W 0 (fun _ => true) true ts vs ds ps → (∀ x ∈ DataW.weightsEach P ts ds, x ≤ reachBytes) →
    ∃ xs : List V, xs.length = vs.length ∧ ds.length = ts.length ∧ xs.length = ts.length ∧ (∀ (j : Nat) x, xs[j]? = some x → ∃ v, vs[j]? = some v ∧ VR (g0 W) W x v) ∧ ∀ (j : Nat) t, ts[j]? = some t → ∃ x n, xs[j]? = some x ∧ Arg ty n t x
  | [], vs, ds, ps, _, _, h, _ => by
    obtain ⟨rfl, rfl, rfl⟩ := trodAll_nil h
    exact ⟨[], rfl, rfl, rfl, fun j x hj => by simp at hj, fun j t hj => by simp at hj⟩
  | t :: ts, vs, ds, ps, hm, hval, h, hw => by
    obtain ⟨v, vs1, d, ds1, a, b, rfl, rfl, rfl, h1, h2⟩ := trodAll_cons h
    obtain ⟨x, n, ha, hx⟩ := arg_of tok hL (hm t List.mem_cons_self) (hval 0 t v rfl rfl) h1 fun x hx => hw x (by simp only [DataW.weightsEach, List.mem_append]; exact Or.inl hx)
    obtain ⟨xs, l1, l2, l3, k1, k2⟩ := args_of tok hL ts vs1 ds1 b (fun t ht => hm t (List.mem_cons_of_mem _ ht)) (fun j t v hj hv => hval (j + 1) t v (by simpa using hj) (by simpa using hv)) h2 fun x hx => hw x (by simp only [DataW.weightsEach, List.mem_append]; exact Or.inr hx)
    refine ⟨x :: xs, by simp [l1], by simp [l2], by simp [l3], fun j y hj => ?_, fun j t' hj => ?_⟩
    · cases j with
      | zero => simp at hj; subst hj; exact ⟨v, rfl, hx⟩
      | succ j => simpa using k1 j y (by simpa using hj)
    · cases j with
      | zero => simp at hj; subst hj; exact ⟨x, n, rfl, ha⟩
      | succ j => simpa using k2 j t' (by simpa using hj)

theorem trodAll_stays (hl : laidOutB P = true) {W' : World} {sp' : Nat → Bool} : ∀ {ts : List TypeId} {vs : List Value} {ds : List (DataW H)} {ps : List MemPlace}, (∀ t ∈ ts, P.readableRec t = true ∧ t < P.types.size) →
    DataW.TrodAll enc P W 0 (fun _ => true) true ts vs ds ps → (∀ p ∈ ps, W.sameAt W' p) → (∀ p ∈ ps, sp' p.block = true) → DataW.TrodAll enc P W' 0 sp' true ts vs ds ps
  | [], _, _, _, _, h, _, _ => by
    obtain ⟨rfl, rfl, rfl⟩ := trodAll_nil h
    exact trodAll_mk0
  | t :: ts, _, _, _, ht, h, hs, hp => by
    obtain ⟨v, vs1, d, ds1, a, b, rfl, rfl, rfl, h1, h2⟩ := trodAll_cons h
    obtain ⟨r1, r2⟩ := ht t List.mem_cons_self
    exact ⟨a, b, WideElems.Trod_stays hl r1 r2 h1 (fun p hp => hs p (List.mem_append_left _ hp)) (fun p h => hp p (List.mem_append_left _ h)),
      trodAll_stays hl (fun t h => ht t (List.mem_cons_of_mem _ h)) h2 (fun p hp => hs p (List.mem_append_right _ hp)) (fun p h => hp p (List.mem_append_right _ h)), rfl⟩

/-- The row's last step where all that is known of the world is 'Below'. -/
theorem post_of_below {f : Func} {s : ChangeSpec} {apart fresh handsOn again : Bool} {W' : World} {args : Array Value} {v : Value} {ds gs : List (DataW H)} {before pa pv : List MemPlace}
    (hW : DataW.Whole enc P f.params.toList s.vars apart W args.toList ds gs before)
    (hres : ∀ (b : Nat) (sp : Nat → Bool) (hd : Bool), DataW.TrodAll enc P W' b sp hd f.resultTypes.toList (v.resultList f.resultTypes.size) (s.fn H (ds ++ gs)).results [])
    (hargs : ∀ sp : Nat → Bool, (∀ p ∈ before, sp p.block = true) → DataW.TrodAll enc P W' 0 sp true f.params.toList args.toList (s.fn H (ds ++ gs)).args pa)
    (hvars : ∀ sp : Nat → Bool, (∀ p ∈ before, sp p.block = true) → DataW.TrodVars enc P W' sp s.vars (s.fn H (ds ++ gs)).vars pv)
    (hps : before = pa ++ pv) (hb : Below W.heap.size W W')
    (hok : ∀ (j : Nat) (t : TypeId) (r : Value), f.resultTypes[j]? = some t → (v.resultList f.resultTypes.size)[j]? = some r → Value.okWide P W' .any 0 t r) :
    s.post enc P f apart fresh handsOn again W args v W' := by
  have hlt : ∀ p ∈ before, p.block < W.heap.size := fun p hp => hW.lt p hp
  have hold : ∀ p ∈ before, (fun b => decide (b < W.heap.size)) p.block = true := fun p hp => by simpa using hlt p hp
  refine ⟨ds, gs, before, [], pa, pv, hW, hres _ _ _, hargs _ hold, hvars _ hold, World.keptBut_mono (fun p hp => ⟨hp, ?_⟩) (hb.frame (· ∈ before)), fun _ => ?_⟩
  · rw [hps, List.mem_append] at hp
    exact Or.inr hp
  · obtain ⟨_, _, _, _, _, hz, hn⟩ := hW
    refine ⟨hok, _, _, ([] ++ pa) ++ pv, ⟨[] ++ pa, pv, trodAll_append (hargs _ (fun _ _ => rfl)) (hres _ _ _), hvars _ (fun _ _ => rfl), rfl, ?_, ?_⟩, ?_⟩
    · intro b off hp
      have hin : MemPlace.cell b off ∈ before := by rw [hps]; simpa using hp
      rw [hb.frozen (hlt _ hin)]
      exact hz b off hin
    · intro ha
      have := hn ha
      rw [hps] at this
      simpa using this
    · intro p hp _
      rw [hps]
      simpa using hp

/-- The law says true, whatever the data: so the call does, and the arguments read as they did. -/
theorem law_calls (tok : TyOk P ty) (hmix : P.follows .mixedOrders = true) {ft : FuncId → Option CF} (hft : FtOk P ty ft) (hL : dataSet ty L = true) (hlaid : laidOutB P = true) {f : FuncId} {fn : Func} {s : ChangeSpec} {tb : TypeId} {base : Nat}
    {apart fresh handsOn again : Bool} {args : Array Value} {ds gs : List (DataW H)} {before : List MemPlace} (hts : ∀ t ∈ fn.params.toList, t ∈ L ∧ P.readableRec t = true ∧ t < P.types.size)
    (hrt : fn.resultTypes = #[tb]) (hbool : P.underlying tb = some .bool) (hsv : s.vars = []) (hsf : ∀ ds : List (DataW H), ds.length = fn.params.size → s.fn H ds = { results := [.lit (.bool true)], args := ds })
    (hval : ∀ (j : Nat) t v, fn.params[j]? = some t → args[j]? = some v → Value.okWide P W .any base t v) (hW : DataW.Whole enc P fn.params.toList s.vars apart W args.toList ds gs before) (hws : ∀ x ∈ DataW.weightsEach P fn.params.toList ds, x ≤ reachBytes)
    (law : ∀ xs : List V, xs.length = fn.params.size → (∀ (j : Nat) t, fn.params[j]? = some t → ∃ x n, xs[j]? = some x ∧ Arg ty n t x) → ∃ n σ', evalF ft n f xs .empty = some (.ret (.bool true), σ')) :
    Calls P f args W fun e W' => ∃ v, e = .returned v ∧ s.post enc P fn apart fresh handsOn again W args v W' := by
  have hW' := hW
  obtain ⟨p, q, hA, hV, rfl, hfz, hnd⟩ := hW
  rw [hsv] at hV
  obtain ⟨rfl, rfl⟩ := trodVars_none hV
  obtain ⟨xs, l1, l2, l3, k1, k2⟩ := args_of tok hL fn.params.toList args.toList ds p (fun t ht => (hts t ht).1) (fun j t v hj hv => hval j t v (by simpa using hj) (by simpa using hv)) hA hws
  obtain ⟨n, σ', hev⟩ := law xs (by simpa using l3) (fun j t hj => k2 j t (by simpa using hj))
  have hdoes := (evalF_ok tok hmix hft n).1 W.heap.size f xs .empty _ σ' hev (g0 W) W args (Inv.start W) (by simpa using l1.symm) (fun j x hj => by
    obtain ⟨v, h1, h2⟩ := k1 j x hj
    have : args.getD j undef = v := by
      simp at h1
      simp [h1]
    rw [this]; exact h2)
  refine hdoes.2.mono fun e W' he => ?_
  cases e with
  | panicked ch => obtain ⟨v, u, g', h, _⟩ := he; cases h
  | outgrown => exact he.elim
  | returned u =>
    obtain ⟨v, g', h, hext, _, hvr⟩ := he
    cases h
    have := hvr.bool_inv
    subst this
    have hb := Below.of_ext hext
    have hfn : s.fn H (ds ++ []) = { results := [.lit (.bool true)], args := ds } := by rw [List.append_nil]; exact hsf ds (by simpa using l2)
    refine ⟨_, rfl, post_of_below (pa := p) (pv := []) hW' (fun b sp hd => ?_) (fun sp hsp => ?_) (fun sp _ => ?_) rfl hb ?_⟩
    · rw [hfn, hrt]
      exact trodAll_mk1 (shut_bool hbool true)
    · rw [hfn]
      refine trodAll_stays hlaid (fun t ht => (hts t ht).2) hA (fun x hx => hb.same (hW'.lt x (by simpa using hx))) (fun x hx => hsp x (by simpa using hx))
    · rw [hfn, hsv]
      rfl
    · exact ok_one hrt rfl (okWide_bool_mk hbool true)

end

end Go.Eng
