/- The arguments of a law: data of the world that it was called in, as the interpreter's values. -/
import Derived.Test.YtjldgekmjnkofaaE22
import GoSem.ClaimChange
import GoSem.ClaimJoined
import Derived.DataReads
import Derived.Below
set_option linter.unusedVariables false
set_option linter.unusedSimpArgs false
namespace Go.Eng
open Go

def fitsTile (ty : Ty) : Nat → List Field → Option Nat
  | off, [] => some off
  | off, f :: fs => match ty f.type with
    | some j => if f.offset = off then fitsTile ty (off + j.size) fs else none
    | none => none

/-- The cells of a datum of a type, of so much depth. -/
def Fits (ty : Ty) : Nat → TypeId → List V → Prop
  | 0, _, _ => False
  | n + 1, t, cs => match ty t with
    | none => False
    | some i => match i.desc, cs with
      | .bool, [.bool _] => True
      | .int k, [.int k' m] => k' = k ∧ k.min ≤ m ∧ m ≤ k.max
      | .string, [.str l] => l.length ≤ reachBytes
      | .slice _, [.nsl] => True
      | .slice e, [.sl .none es] => es.length ≤ maxLen ∧ ∃ j, ty e = some j ∧ es.length * j.bytes ≤ reachBytes ∧ ∀ v ∈ es, v.cells.length = j.size ∧ (j.agg = true → v = .agg v.cells) ∧ (j.agg = false → v.cells = [v]) ∧ Fits ty n e v.cells
      | .struct fs, cs => cs.length = i.size ∧ ∀ f ∈ fs.toList, ∃ j, ty f.type = some j ∧ Fits ty n f.type ((cs.drop f.offset).take j.size)
      | _, _ => False

/-- A set of types of data, shut under parts. -/
def dataSet (ty : Ty) (L : List TypeId) : Bool := L.all fun t => match ty t with
  | none => false
  | some i => match i.desc with
    | .bool | .int _ | .string => i.size == 1
    | .slice e => i.size == 1 && (L.contains e && match ty e with | some j => decide (0 < j.size) && (j.agg || j.size == 1) | none => false)
    | .struct fs => (fitsTile ty 0 fs.toList == some i.size) && fs.toList.all fun f => L.contains f.type
    | _ => false

def g0 (w : World) : Gh := ⟨fun _ => none, fun B o => (w.cell? ⟨B, o, none⟩).isSome = true, fun _ => none⟩

theorem Inv.start (w : World) : Inv w.heap.size .empty (g0 w) w := by
  have he : ∀ b, Sto.empty.blk b = none := fun b => by
    unfold Sto.blk Sto.get Sto.empty
    simp
  refine ⟨fun b => ?_, fun b b' B h => ?_, fun b B h => ?_, fun B o h => h, fun b x h => (by cases h), fun k x h => (by cases h), Nat.le_refl _⟩
  · unfold BlkOk; rw [he]; trivial
  · unfold Holds at h; rw [he] at h; exact h.elim
  · unfold Holds at h; rw [he] at h; exact h.elim

theorem Below.of_ext {w w' : World} {σ' : Sto} {g' : Gh} (e : Ext .empty (g0 w) w σ' g' w') : RowKit.Below w.heap.size w w' := by
  refine ⟨e.os, e.tape, e.output, e.size, fun k hk => e.rest k hk fun b h => ?_⟩
  have he : Sto.empty.blk b = none := by
    unfold Sto.blk Sto.get Sto.empty
    simp
  unfold Holds at h
  rw [he] at h
  exact h

section
variable {H : Type} {enc : TypeId × Value → H} {P : Program} {ty : Ty} {w : World}

/-- Cells of the world and what they are. -/
structure CellsAre (w : World) (cs : List Value) (vs : List V) : Prop where
  len : vs.length = cs.length
  one : ∀ v ∈ vs, v.one = true
  rel : ∀ (j : Nat) v, vs[j]? = some v → ∃ u, cs[j]? = some u ∧ VR (g0 w) w v u

theorem cells?_get {base : Nat} {a : Addr} {n : Nat} {cs : List Value} (h : w.cells? base a n = some cs) : cs.length = n ∧ ∀ j, j < n → w.cell? (a.add j) = cs[j]? := by
  unfold World.cells? at h
  split at h
  · refine ⟨by simpa using mapM_some_length h, fun j hj => ?_⟩
    exact mapM_some_get h j j (by simp [hj])
  · cases h

theorem tok_cellsOf (tok : TyOk P ty) {t : TypeId} {i : TI} (h : ty t = some i) : P.cellsOf t = i.size := by
  obtain ⟨x, hx, hs, _⟩ := tok.info t i h
  unfold Program.cellsOf
  rw [hx]
  exact hs

theorem cellOne {v : V} {u : Value} (ho : v.one = true) (h : VR (g0 w) w v u) : CellsAre w [u] [v] :=
  ⟨rfl, fun x hx => by rw [List.mem_singleton] at hx; rw [hx]; exact ho, fun j x hj => by
    cases j with
    | zero => simp at hj; subst hj; exact ⟨u, rfl, h⟩
    | succ j => simp at hj⟩

theorem tile_le {ty : Ty} : ∀ (fs : List Field) (off total : Nat), fitsTile ty off fs = some total → off ≤ total
  | [], off, total, h => by cases h; exact Nat.le_refl _
  | f :: fs, off, total, h => by
    simp only [fitsTile] at h
    split at h
    · split at h
      · have := tile_le fs _ _ h; omega
      · cases h
    · cases h

/-- Fields that lie one behind the other. -/
theorem tile_cells {n : Nat} : ∀ (fs : List Field) (off total : Nat) (cs : List Value), fitsTile ty off fs = some total → off + cs.length = total →
    (∀ f ∈ fs, ∀ j, ty f.type = some j → ∃ vs, CellsAre w ((cs.drop (f.offset - off)).take j.size) vs ∧ Fits ty n f.type vs) →
    ∃ vs, CellsAre w cs vs ∧ ∀ f ∈ fs, off ≤ f.offset ∧ ∃ j, ty f.type = some j ∧ Fits ty n f.type ((vs.drop (f.offset - off)).take j.size) := by
  intro fs
  induction fs with
  | nil =>
    intro off total cs h hl _
    cases h
    have : cs = [] := List.eq_nil_of_length_eq_zero (by omega)
    subst this
    exact ⟨[], ⟨rfl, fun v hv => (by cases hv), fun j v hj => by simp at hj⟩, fun f hf => by cases hf⟩
  | cons f fs ih =>
    intro off total cs h hl hf
    simp only [fitsTile] at h
    split at h
    case h_2 => cases h
    rename_i j hj
    split at h
    case isFalse => cases h
    rename_i hoff
    have hle := tile_le _ _ _ h
    obtain ⟨vs1, c1, f1⟩ := hf f List.mem_cons_self j hj
    rw [hoff, Nat.sub_self, List.drop_zero] at c1
    have hge : ∀ f' ∈ fs, off + j.size ≤ f'.offset := by
      have : ∀ (fs : List Field) (o t : Nat), fitsTile ty o fs = some t → ∀ f' ∈ fs, o ≤ f'.offset := by
        intro fs
        induction fs with
        | nil => intro o t _ f' hf'; cases hf'
        | cons x fs ih =>
          intro o t h f' hf'
          simp only [fitsTile] at h
          split at h
          case h_2 => cases h
          split at h
          case isFalse => cases h
          rename_i hx
          rcases List.mem_cons.1 hf' with rfl | hf'
          · omega
          · have := ih _ _ h f' hf'; omega
      exact this fs _ _ h
    obtain ⟨vs2, c2, f2⟩ := ih (off + j.size) total (cs.drop j.size) h (by rw [List.length_drop]; omega) (fun f' hf' j' hj' => by
      have := hf f' (List.mem_cons_of_mem _ hf') j' hj'
      have hg := hge f' hf'
      rw [List.drop_drop]
      rw [show j.size + (f'.offset - (off + j.size)) = f'.offset - off from by omega]
      exact this)
    have hl1 : vs1.length = j.size := by rw [c1.len, List.length_take]; omega
    refine ⟨vs1 ++ vs2, ⟨?_, fun v hv => ?_, fun q v hq => ?_⟩, fun f' hf' => ?_⟩
    · rw [List.length_append, hl1, c2.len, List.length_drop]; omega
    · rcases List.mem_append.1 hv with hv | hv
      · exact c1.one v hv
      · exact c2.one v hv
    · by_cases hlt : q < vs1.length
      · rw [List.getElem?_append_left hlt] at hq
        obtain ⟨u, h1, h2⟩ := c1.rel q v hq
        rw [List.getElem?_take, if_pos (by omega)] at h1
        exact ⟨u, h1, h2⟩
      · rw [List.getElem?_append_right (by omega)] at hq
        obtain ⟨u, h1, h2⟩ := c2.rel _ v hq
        rw [List.getElem?_drop, hl1, show j.size + (q - j.size) = q from by omega] at h1
        exact ⟨u, h1, h2⟩
    · rcases List.mem_cons.1 hf' with rfl | hf'
      · refine ⟨by omega, j, hj, ?_⟩
        rw [hoff, Nat.sub_self, List.drop_zero, List.take_left' hl1]
        exact f1
      · obtain ⟨h1, j', hj', h2⟩ := f2 f' hf'
        refine ⟨by omega, j', hj', ?_⟩
        have : (vs1 ++ vs2).drop (f'.offset - off) = vs2.drop (f'.offset - (off + j.size)) := by
          rw [List.drop_append, List.drop_eq_nil_of_le (by omega), List.nil_append]
          congr 1
          omega
        rw [this]; exact h2

theorem flatMap_get' {size : Nat} : ∀ (es : List V), (∀ v ∈ es, v.cells.length = size) → ∀ (j : Nat) v, (es.flatMap V.cells)[j]? = some v → ∃ e, es[j / size]? = some e ∧ e.cells[j % size]? = some v
  | [], _, j, v, h => by simp at h
  | e :: es, hl, j, v, h => by
    rw [List.flatMap_cons] at h
    have he := hl e List.mem_cons_self
    by_cases hlt : j < size
    · rw [List.getElem?_append_left (by omega)] at h
      refine ⟨e, by rw [Nat.div_eq_of_lt hlt]; rfl, by rw [Nat.mod_eq_of_lt hlt]; exact h⟩
    · rw [List.getElem?_append_right (by omega), he] at h
      obtain ⟨e', h1, h2⟩ := flatMap_get' es (fun v hv => hl v (List.mem_cons_of_mem _ hv)) _ v h
      have hpos : 0 < size := by
        rcases Nat.eq_zero_or_pos size with h0 | h0
        · subst h0
          have := (List.getElem?_eq_some_iff.1 h2).1
          rw [hl e' (List.mem_cons_of_mem _ (List.mem_of_getElem? h1))] at this
          omega
        · exact h0
      have hj : j = (j - size) + size := by omega
      have hdiv : j / size = (j - size) / size + 1 := by
        have := Nat.add_div_right (j - size) hpos
        rw [← hj] at this
        exact this
      have hmod : j % size = (j - size) % size := by
        have := Nat.add_mod_right (j - size) size
        rw [← hj] at this
        exact this
      rw [hdiv, hmod]
      exact ⟨e', by simpa using h1, h2⟩

theorem mem_weightsAll {e : TypeId} : ∀ (l : List (DataW H)) (d : DataW H), d ∈ l → ∀ x ∈ d.weights P e, x ∈ DataW.weightsAll P e l
  | d' :: l, d, hd, x, hx => by
    simp only [DataW.weightsAll, List.mem_append]
    cases hd with
    | head => exact Or.inl hx
    | tail _ h => exact Or.inr (mem_weightsAll l d h x hx)

theorem mem_weightsEach : ∀ (ts : List TypeId) (l : List (DataW H)) (j : Nat) (t : TypeId) (d : DataW H), ts[j]? = some t → l[j]? = some d → ∀ x ∈ d.weights P t, x ∈ DataW.weightsEach P ts l
  | [], l, j, t, d, ht, hd, x, hx => by simp at ht
  | t' :: ts, [], j, t, d, ht, hd, x, hx => by simp at hd
  | t' :: ts, d' :: l, j, t, d, ht, hd, x, hx => by
    simp only [DataW.weightsEach, List.mem_append]
    cases j with
    | zero => simp at ht hd; subst ht; subst hd; exact Or.inl hx
    | succ j => exact Or.inr (mem_weightsEach ts l j t d (by simpa using ht) (by simpa using hd) x hx)

theorem tok_bytesOf (tok : TyOk P ty) {t : TypeId} {i : TI} (h : ty t = some i) : P.bytesOf t = i.bytes := by
  obtain ⟨x, hx, _, hb, _⟩ := tok.info t i h
  unfold Program.bytesOf
  rw [hx]
  exact hb

theorem trod_fits (tok : TyOk P ty) {L : List TypeId} (hL : dataSet ty L = true) : ∀ (fuel : Nat) (t : TypeId) (cs : List Value) (d : DataW H) (ps : List MemPlace), t ∈ L →
    DataW.trod enc P w 0 (fun _ => true) true fuel t cs = some (d, ps) → (∀ x ∈ d.weights P t, x ≤ reachBytes) → ∃ vs, CellsAre w cs vs ∧ Fits ty fuel t vs := by
  intro fuel
  induction fuel with
  | zero => intro t cs d ps _ h; cases h
  | succ n ih =>
    intro t cs d ps hmem h hw
    have hset := List.all_eq_true.1 hL t hmem
    cases hi : ty t with
    | none => rw [hi] at hset; cases hset
    | some i =>
      rw [hi] at hset
      dsimp only at hset
      have hu := tok.under t i hi
      unfold DataW.trod at h
      rw [hu] at h
      unfold Fits
      rw [hi]
      dsimp only
      cases hd : i.desc <;> simp only [hd] at h hset <;> try (cases hset; done)
      case bool =>
        split at h <;> try (cases h; done)
        all_goals first
          | (rename_i heq; cases heq; done)
          | skip
        rename_i b _
        exact ⟨[.bool b], cellOne rfl (.bool b), trivial⟩
      case int k =>
        split at h <;> try (cases h; done)
        all_goals first
          | (rename_i heq; cases heq; done)
          | skip
        rename_i k1 k' m heq
        cases heq
        split at h
        · rename_i hc
          obtain ⟨rfl, hw⟩ := hc
          simp only [Lit.wf, Bool.and_eq_true, decide_eq_true_eq] at hw
          exact ⟨[.int k' m], cellOne rfl (.int k' m), rfl, hw⟩
        · cases h
      case string =>
        split at h <;> try (cases h; done)
        all_goals first
          | (rename_i heq; cases heq; done)
          | skip
        rename_i s _
        split at h
        · rename_i hc
          cases h
          refine ⟨[.str s.data.toList], cellOne rfl (.str s _ rfl), hw _ ?_⟩
          simp [DataW.weights]
        · cases h
      case slice e =>
        simp only [Bool.and_eq_true, beq_iff_eq] at hset
        obtain ⟨_, hme, hj⟩ := hset
        have hme' : e ∈ L := List.contains_iff_mem.1 hme
        split at hj
        case h_2 => cases hj
        rename_i j hj'
        simp only [Bool.and_eq_true, decide_eq_true_eq, Bool.or_eq_true, beq_iff_eq] at hj
        obtain ⟨hpos, hagg⟩ := hj
        have hce := tok_cellsOf tok hj'
        split at h <;> try (cases h; done)
        all_goals first
          | (rename_i heq _; cases heq; done)
          | (rename_i heq; cases heq; done)
          | skip
        · exact ⟨[.nsl], cellOne rfl .nsl, trivial⟩
        · rename_i e' A len cap heq
          cases heq
          split at h
          case isFalse => cases h
          rename_i hc
          obtain ⟨_, hlc, hcap⟩ := hc
          simp only [Option.bind_eq_some_iff, Option.map_eq_some_iff] at h
          obtain ⟨elems, hel, rest, hrest, hdp⟩ := h
          rw [if_pos trivial] at hrest
          cases hdp
          have hlenE := mapM_some_length hel
          rw [List.length_range] at hlenE
          have hwt : DataW.weights P t (DataW.slice (elems.map (·.1)) (rest.map (·.1))) = ((elems.map (·.1)).length + (rest.map (·.1)).length) * P.bytesOf e :: (DataW.weightsAll P e (elems.map (·.1)) ++ DataW.weightsAll P e (rest.map (·.1))) := by
            simp only [DataW.weights, hu, hd]
          have hbytes : len * j.bytes ≤ reachBytes := by
            have := hw _ (by rw [hwt]; exact List.mem_cons_self)
            rw [tok_bytesOf tok hj'] at this
            refine Nat.le_trans (Nat.mul_le_mul_right _ ?_) this
            simp; omega
          -- each element
          have hat : ∀ q, q < len → ∃ ecs vs, w.cells? 0 (A.add (q * P.cellsOf e)) (P.cellsOf e) = some ecs ∧ CellsAre w ecs vs ∧ Fits ty n e vs := fun q hq => by
            have h1 := mapM_some_get hel q q (by simp [hq])
            have hlen := mapM_some_length hel
            rw [List.length_range] at hlen
            rw [List.getElem?_eq_getElem (by omega)] at h1
            simp only [Option.bind_eq_some_iff] at h1
            obtain ⟨ecs, h2, h3⟩ := h1
            obtain ⟨vs, h4, h5⟩ := ih e ecs _ _ hme' h3 fun x hx => hw x (by
              rw [hwt]
              refine List.mem_cons_of_mem _ (List.mem_append_left _ (mem_weightsAll _ _ ?_ x hx))
              exact List.mem_map.2 ⟨_, List.getElem_mem (by omega), rfl⟩)
            exact ⟨ecs, vs, h2, h4, h5⟩
          rcases Nat.eq_zero_or_pos cap with h0 | h0
          · subst h0
            have hl0 : len = 0 := by omega
            subst hl0
            exact ⟨[.sl .none []], cellOne rfl (.esl A), Nat.zero_le _, j, hj', by simp, fun v hv => by cases hv⟩
          · -- the row lies in a block of cells
            have hfirst : ∃ u, w.cell? A = some u := by
              have hz : ∃ ecs, w.cells? 0 (A.add (0 * P.cellsOf e)) (P.cellsOf e) = some ecs := by
                rcases Nat.eq_zero_or_pos len with hl | hl
                · subst hl
                  have h1 := mapM_some_get hrest 0 0 (by rw [List.getElem?_range (by omega)])
                  have hlen := mapM_some_length hrest
                  rw [List.length_range] at hlen
                  rw [List.getElem?_eq_getElem (by omega)] at h1
                  simp only [Option.bind_eq_some_iff] at h1
                  obtain ⟨ecs, h2, _⟩ := h1
                  exact ⟨ecs, by simpa using h2⟩
                · obtain ⟨ecs, _, h2, _⟩ := hat 0 hl
                  exact ⟨ecs, h2⟩
              obtain ⟨ecs, h2⟩ := hz
              obtain ⟨h3, h4⟩ := cells?_get h2
              have := h4 0 (by omega)
              have h00 : 0 < ecs.length := by omega
              rw [List.getElem?_eq_getElem h00] at this
              exact ⟨_, by simpa [Addr.add] using this⟩
            have hspot : A = ⟨A.block, A.off, none⟩ := by
              obtain ⟨u, hu⟩ := hfirst
              obtain ⟨B, o, sp⟩ := A
              unfold World.cell? at hu
              split at hu
              · split at hu
                · cases hu
                · rename_i hsp
                  simp at hsp
                  simp [hsp]
              · cases hu
            have hadd : ∀ q, A.add q = ⟨A.block, A.off + q, none⟩ := fun q => by
              rw [hspot]; exact Addr.add_lit ..
            have pick : ∀ q, ∃ vs, q < len → (∃ ecs, w.cells? 0 (A.add (q * P.cellsOf e)) (P.cellsOf e) = some ecs ∧ CellsAre w ecs vs) ∧ Fits ty n e vs := fun q => by
              by_cases hq : q < len
              · obtain ⟨ecs, vs, h1, h2, h3⟩ := hat q hq
                exact ⟨vs, fun _ => ⟨⟨ecs, h1, h2⟩, h3⟩⟩
              · exact ⟨[], fun h => absurd h hq⟩
            have ⟨pk, hpk⟩ := Classical.axiomOfChoice pick
            let es : List V := (List.range len).map fun q => if j.agg = true then .agg (pk q) else (pk q).headD .undef
            have hcl : ∀ q, q < len → (pk q).length = j.size := fun q hq => by
              obtain ⟨⟨ecs, h1, h2⟩, _⟩ := hpk q hq
              rw [h2.len, (cells?_get h1).1, hce]
            have hes : ∀ q, q < len → (if j.agg = true then V.agg (pk q) else (pk q).headD .undef).cells = pk q := fun q hq => by
              have hl := hcl q hq
              obtain ⟨⟨ecs, h1, h2⟩, _⟩ := hpk q hq
              split
              · rfl
              · rename_i hna
                have h1s : j.size = 1 := hagg.resolve_left hna
                rw [h1s] at hl
                obtain ⟨x, hx⟩ := List.length_eq_one_iff.1 hl
                rw [hx]
                have := h2.one x (by rw [hx]; simp)
                cases x <;> first | rfl | cases this
            have hmem : ∀ v ∈ es, ∃ q, q < len ∧ v = (if j.agg = true then V.agg (pk q) else (pk q).headD .undef) := fun v hv => by
              obtain ⟨q, hq, rfl⟩ := List.mem_map.1 hv
              exact ⟨q, List.mem_range.1 hq, rfl⟩
            have hlen : es.length = len := by simp [es]
            have hcells : ∀ v ∈ es, v.cells.length = j.size := fun v hv => by
              obtain ⟨q, hq, rfl⟩ := hmem v hv
              rw [hes q hq]; exact hcl q hq
            -- a cell of the row
            have hcell : ∀ z, z < len * j.size → ∃ u, w.cell? ⟨A.block, A.off + z, none⟩ = some u := fun z hz => by
              have hq : z / j.size < len := Nat.div_lt_of_lt_mul (by rw [Nat.mul_comm]; exact hz)
              obtain ⟨⟨ecs, h1, _⟩, _⟩ := hpk _ hq
              obtain ⟨h3, h4⟩ := cells?_get h1
              have hm : z % j.size < P.cellsOf e := by rw [hce]; exact Nat.mod_lt _ hpos
              have := h4 _ hm
              rw [List.getElem?_eq_getElem (by omega), hadd, Addr.add_lit, hce, Nat.add_assoc, Nat.mul_comm, Nat.div_add_mod] at this
              exact ⟨_, this⟩
            refine ⟨[.sl .none es], cellOne rfl ?_, by rw [hlen]; omega, j, hj', by rw [hlen]; exact hbytes, fun v hv => ?_⟩
            · rw [hspot, ← hlen]
              refine .sl .none es A.block A.off cap j.size (fun z => (w.cell? ⟨A.block, A.off + z, none⟩).getD undef) hcells (by omega) (fun z hz => ?_) (fun z v hz => ?_) (fun v hv x hx => ?_) trivial
              · obtain ⟨u, hu⟩ := hcell z (by rw [← hlen]; exact hz)
                rw [hu]
                exact ⟨rfl, by show (w.cell? _).isSome = true; rw [hu]; rfl⟩
              · obtain ⟨v', h1, h2⟩ := flatMap_get' es hcells z v hz
                have hq : z / j.size < len := by rw [← hlen]; exact (List.getElem?_eq_some_iff.1 h1).1
                have hv' : v'.cells = pk (z / j.size) := by
                  have : es[z / j.size]? = some (if j.agg = true then V.agg (pk (z / j.size)) else (pk (z / j.size)).headD .undef) := by
                    simp only [es, List.getElem?_map, List.getElem?_range hq, Option.map_some]
                  rw [this] at h1
                  cases h1
                  exact hes _ hq
                rw [hv'] at h2
                obtain ⟨⟨ecs, h3, h4⟩, _⟩ := hpk _ hq
                obtain ⟨u, h5, h6⟩ := h4.rel _ v h2
                obtain ⟨h7, h8⟩ := cells?_get h3
                have hm : z % j.size < P.cellsOf e := by rw [hce]; exact Nat.mod_lt _ hpos
                have := h8 _ hm
                rw [h5, hadd, Addr.add_lit, hce, Nat.add_assoc, Nat.mul_comm, Nat.div_add_mod] at this
                rw [this]
                exact h6
              · obtain ⟨q, hq, rfl⟩ := hmem v hv
                rw [hes q hq] at hx
                obtain ⟨⟨ecs, _, h4⟩, _⟩ := hpk q hq
                exact h4.one x hx
            · obtain ⟨q, hq, rfl⟩ := hmem v hv
              refine ⟨by rw [hes q hq]; exact hcl q hq, fun ha => by rw [hes q hq, if_pos ha], fun ha => ?_, ?_⟩
              · have hl := hcl q hq
                rw [hes q hq]
                rw [if_neg (by rw [ha]; simp)]
                have h1s : j.size = 1 := hagg.resolve_left (by rw [ha]; simp)
                rw [h1s] at hl
                obtain ⟨x, hx⟩ := List.length_eq_one_iff.1 hl
                rw [hx]; rfl
              rw [hes q hq]
              exact (hpk q hq).2
      case struct fs =>
        simp only [Bool.and_eq_true, beq_iff_eq, List.all_eq_true] at hset
        obtain ⟨htile, hfs⟩ := hset
        split at h
        case isFalse => cases h
        rename_i hcl
        simp only [Option.map_eq_some_iff] at h
        obtain ⟨xs, hxs, hdp⟩ := h
        cases hdp
        have hci := tok_cellsOf tok hi
        obtain ⟨vs, h1, h2⟩ := tile_cells (w := w) (ty := ty) (n := n) fs.toList 0 i.size cs htile (by omega) (fun f hf j hj => by
          obtain ⟨q, hq⟩ := List.getElem?_of_mem hf
          have h1 := mapM_some_get hxs q f hq
          have hlen := mapM_some_length hxs
          have hql := (List.getElem?_eq_some_iff.1 hq).1
          rw [List.getElem?_eq_getElem (by omega)] at h1
          have := ih f.type _ _ _ (List.contains_iff_mem.1 (hfs f hf)) h1 fun x hx => hw x (by
            simp only [DataW.weights, hu, hd]
            refine mem_weightsEach _ _ q f.type _ ?_ ?_ x hx
            · rw [List.getElem?_map, hq]; rfl
            · rw [List.getElem?_map, List.getElem?_eq_getElem (by omega)]; rfl)
          rw [Nat.sub_zero, ← tok_cellsOf tok hj]
          exact this)
        refine ⟨vs, h1, by rw [h1.len]; omega, fun f hf => ?_⟩
        obtain ⟨_, j, hj, h3⟩ := h2 f hf
        exact ⟨j, hj, by simpa using h3⟩

end

end Go.Eng
