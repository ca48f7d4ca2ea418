/- Functions, boxes of an interface, structs, indexes, slices, looks into maps. -/
import Derived.Test.YtjldgekmjnkofaaE9
set_option linter.unusedVariables false
set_option linter.unusedSimpArgs false
namespace Go.Eng
open Go

section
variable {P : Program} {ty : Ty} {B0 : Nat} {o : Oper} {a : Act} {σ : Sto} {g : Gh} {w : World} {v : V}

theorem s_mkFunc (inv : Inv B0 σ g w) {f : FuncId} {caps : Array Operand} (ho : o.op = .makeFunc (.func f) #[] caps) {vs : List V}
    (hvs : (caps.map a.eval).size = vs.length ∧ ∀ (j : Nat) v, vs[j]? = some v → VR g w v ((caps.map a.eval).getD j undef)) : OpVal P B0 o a σ g w (.func f vs) σ := by
  refine .same inv (.func (.func f) #[] (caps.map a.eval)) ?_ (.func f vs _ hvs.1 hvs.2)
  unfold execOp
  simp [ho, Instr.makeFunc]

theorem s_mkIface (tok : TyOk P ty) (inv : Inv B0 σ g w) {x : Operand} {t : TypeId} (ho : o.op = .makeInterface t x) {i : TI} (hi : ty t = some i) (hd : ∀ ms, i.desc ≠ .interface ms)
    {u : V} (hx : VR g w u (a.eval x)) : OpVal P B0 o a σ g w (.iface t u) σ := by
  refine .same inv (.iface t (a.eval x)) ?_ (.iface _ _ _ hx)
  have hu := tok.under t i hi
  unfold execOp
  simp only [ho, Sem.run_bind]
  rw [run_makeInterface w t _ (by
    unfold Program.concrete
    rw [hu]
    cases h : i.desc <;> first | rfl | exact absurd h (hd _))]
  rfl

theorem s_index_str (tok : TyOk P ty) (inv : Inv B0 σ g w) {t : TypeId} {x j : Operand} (ho : o.op = .index t x j) {i : TI} (hi : ty t = some i) (hd : i.desc = .string)
    {k : IntKind} {n : Int} {l : List UInt8} (hx : VR g w (.str l) (a.eval x)) (hj : VR g w (.int k n) (a.eval j)) (h0 : 0 ≤ n) {b : UInt8} (hb : l[n.toNat]? = some b) :
    OpVal P B0 o a σ g w (.int .u8 b.toNat) σ := by
  have hu := tok.under t i hi
  rw [hd] at hu
  obtain ⟨s, e1, e1'⟩ := hx.str_inv
  have e2 := hj.int_inv
  subst e1'
  refine .same inv (.int .u8 b.toNat) ?_ (.int _ _)
  have hs : s[n.toNat]? = some b := by
    have hlt : n.toNat < s.size := by have := (List.getElem?_eq_some_iff.1 hb).1; simpa using this
    rw [ByteArray.getElem?_lt' s _ hlt]
    simp at hb
    obtain ⟨h1, h2⟩ := Array.getElem?_eq_some_iff.1 hb
    rw [← h2]
    rfl
  unfold execOp
  simp [ho, e1, e2, Instr.index, asIntOf, run_underlying hu, h0, hs]

theorem s_index_arr (tok : TyOk P ty) (inv : Inv B0 σ g w) {t et : TypeId} {x j : Operand} (ho : o.op = .index t x j) {i e : TI} (hi : ty t = some i) {len : Nat} (hd : i.desc = .array len et) (he : ty et = some e)
    {k : IntKind} {n : Int} {cs : List V} (hx : VR g w (.agg cs) (a.eval x)) (hj : VR g w (.int k n) (a.eval j)) (h0 : 0 ≤ n) (h1 : n < len) (hv : part cs (n.toNat * e.size) e.n = some v) :
    OpVal P B0 o a σ g w v σ := by
  have hu := tok.under t i hi
  rw [hd] at hu
  have e2 := hj.int_inv
  generalize hz : a.eval x = z at hx
  cases hx with
  | agg cs us hn hr =>
    obtain ⟨y, hy, hvr⟩ := run_part tok he hn hr hv
    refine .same inv y ?_ hvr
    unfold execOp
    simp [ho, hz, e2, Instr.index, asIntOf, run_underlying hu, h0, h1, run_sizeOf tok he, hy]


def BoundIs (x : Option Value) (d n : Nat) : Prop := (x = none ∧ n = d) ∨ ∃ k, x = some (.int k (n : Int))

/-- An operand that may be there. -/
def OptR (g : Gh) (w : World) (a : Act) (x : Option Operand) (u : Option V) : Prop :=
  match x, u with
  | none, none => True
  | some x, some u => VR g w u (a.eval x)
  | _, _ => False

theorem boundV_is {x : Option Operand} {u : Option V} (hx : OptR g w a x u) {d n : Nat} (h : boundV u d = some n) : BoundIs (x.map a.eval) d n := by
  cases u with
  | none =>
    cases x with
    | none => simp only [boundV] at h; cases h; exact Or.inl ⟨rfl, rfl⟩
    | some x => exact hx.elim
  | some u =>
    cases x with
    | none => exact hx.elim
    | some x =>
      cases u <;> simp only [boundV] at h <;> try (cases h; done)
      rename_i k m
      split at h
      · rename_i h0
        cases h
        refine Or.inr ⟨k, ?_⟩
        have := VR.int_inv hx
        simp only [Option.map_some, this]
        congr 2; omega
      · cases h

theorem run_bounds {isSlice : Bool} {len cap l h : Nat} {lo hi : Option Value} (hl : BoundIs lo 0 l) (hh : BoundIs hi len h) (h1 : l ≤ h) (h2 : h ≤ cap) :
    (Instr.sliceBounds isSlice len cap lo hi none).run P w = .ok (l, h, cap) w := by
  rcases hl with ⟨rfl, rfl⟩ | ⟨k, rfl⟩ <;> rcases hh with ⟨rfl, rfl⟩ | ⟨k', rfl⟩ <;>
    simp [Instr.sliceBounds, Instr.sliceBound, asIntOf, h1, h2]

theorem s_slice_str (tok : TyOk P ty) (inv : Inv B0 σ g w) {t : TypeId} {x : Operand} {lo hi : Option Operand} (ho : o.op = .slice t x lo hi none) {i : TI} (hi' : ty t = some i) (hd : i.desc = .string)
    {s : List UInt8} (hx : VR g w (.str s) (a.eval x)) {l h : Nat} (hl : BoundIs (lo.map a.eval) 0 l) (hh : BoundIs (hi.map a.eval) s.length h) (h1 : l ≤ h) (h2 : h ≤ s.length) :
    OpVal P B0 o a σ g w (.str ((s.take h).drop l)) σ := by
  have hu := tok.under t i hi'
  rw [hd] at hu
  obtain ⟨z, e1, e1'⟩ := hx.str_inv
  subst e1'
  have hsz : z.data.toList.length = z.size := by simp
  rw [hsz] at hh h2
  refine .same inv (.string (z.extract l h)) ?_ (.str _ _ ?_)
  · have hr := run_bounds (P := P) (w := w) (isSlice := false) hl hh h1 h2
    unfold execOp
    simp [ho, e1, Instr.sliceAt, Instr.slice, run_underlying hu, hr]
  · have : z = ByteArray.mk z.data.toList.toArray := by simp
    rw [this, ByteArray.extract_mk]
    simp [List.drop_take]

theorem flatMap_mid (s : Nat) (es : List V) (hl : ∀ v ∈ es, v.cells.length = s) (l h : Nat) (j : Nat) (x : V) (hj : (((es.take h).drop l).flatMap V.cells)[j]? = some x) : (es.flatMap V.cells)[l * s + j]? = some x := by
  have hsub : es = es.take l ++ es.drop l := (List.take_append_drop l es).symm
  rw [hsub, List.flatMap_append, List.getElem?_append_right, flatMap_len s _ (fun v hv => hl v (List.mem_of_mem_take hv))]
  · have hd : (es.take h).drop l = (es.drop l).take (h - l) := by rw [List.drop_take]
    rw [hd] at hj
    have hsub2 : es.drop l = (es.drop l).take (h - l) ++ (es.drop l).drop (h - l) := (List.take_append_drop _ _).symm
    have hjl := (List.getElem?_eq_some_iff.1 hj).1
    by_cases hle : l ≤ es.length
    · rw [List.length_take, Nat.min_eq_left hle, Nat.add_sub_cancel_left]
      rw [hsub2, List.flatMap_append, List.getElem?_append_left (by exact hjl)]
      exact hj
    · have : es.drop l = [] := List.drop_eq_nil_of_le (by omega)
      rw [this] at hj
      simp at hj
  · rw [flatMap_len s _ (fun v hv => hl v (List.mem_of_mem_take hv)), List.length_take]
    exact Nat.le_trans (Nat.mul_le_mul_right s (Nat.min_le_left _ _)) (Nat.le_add_right _ _)

theorem s_slice_sl (tok : TyOk P ty) (inv : Inv B0 σ g w) {t et : TypeId} {x : Operand} {lo hi : Option Operand} (ho : o.op = .slice t x lo hi none) {i e : TI} (hi' : ty t = some i) (hd : i.desc = .slice et) (he : ty et = some e)
    {ow : Own} {es : List V} (hx : VR g w (.sl ow es) (a.eval x)) (hsz : ∀ v ∈ es, v.cells.length = e.size) {l h : Nat} (hl : BoundIs (lo.map a.eval) 0 l) (hh : BoundIs (hi.map a.eval) es.length h) (h1 : l ≤ h) (h2 : h ≤ es.length) :
    OpVal P B0 o a σ g w (.sl .none ((es.take h).drop l)) σ := by
  have hu := tok.under t i hi'
  rw [hd] at hu
  generalize hz : a.eval x = z at hx
  cases hx with
  | esl A =>
    have h0 : h = 0 := by simpa using h2
    subst h0
    have l0 : l = 0 := by omega
    subst l0
    have hb := run_bounds (P := P) (w := w) (isSlice := true) (cap := 0) hl hh (Nat.le_refl _) (Nat.le_refl _)
    refine .same inv (.slice (some A) 0 0) ?_ (.esl A)
    unfold execOp
    have hb' : (Instr.sliceBounds true 0 0 (Option.map a.eval lo) (Option.map a.eval hi) none).run P w = .ok (0, 0, 0) w := hb
    simp [ho, hz, Instr.sliceAt, Instr.slice, run_underlying hu, hb', run_sizeOf tok he]
  | sl ow es B of cap s f hls hc hss hr hone hown =>
    have hb := run_bounds (P := P) (w := w) (isSlice := true) (cap := cap) hl hh h1 (by omega)
    have hlen : ((es.take h).drop l).length = h - l := by simp; omega
    by_cases hcl : cap = l
    · subst hcl
      have hnil : (es.take h).drop cap = [] := List.eq_nil_of_length_eq_zero (by omega)
      refine .same inv (.slice (some ⟨B, of, none⟩) (h - cap) (cap - cap)) ?_ ?_
      · unfold execOp
        simp [ho, hz, Instr.sliceAt, Instr.slice, run_underlying hu, hb, run_sizeOf tok he]
      · rw [hnil]
        have e0 : h - cap = ([] : List V).length := by simp only [List.length_nil]; omega
        rw [e0]
        exact .sl .none [] B of (cap - cap) 0 f (fun v hv => by simp at hv) (by simp) (fun j hj => by simp at hj) (fun j v hj => by simp at hj) (fun v hv => by simp at hv) trivial
    · refine .same inv (.slice (some ⟨B, of + l * e.size, none⟩) (h - l) (cap - l)) ?_ ?_
      · unfold execOp
        simp [ho, hz, Instr.sliceAt, Instr.slice, run_underlying hu, hb, run_sizeOf tok he, hcl, Addr.add_lit]
      · rw [← hlen]
        have hsub : ∀ v ∈ (es.take h).drop l, v ∈ es := fun v hv => List.mem_of_mem_take (List.mem_of_mem_drop hv)
        refine .sl .none _ B _ (cap - l) e.size (fun j => f (l * e.size + j)) (fun v hv => hsz v (hsub v hv)) (by omega) (fun j hj => ?_) (fun j v hj => ?_) (fun v hv => hone v (hsub v hv)) trivial
        · rw [hlen] at hj
          by_cases hes : es = []
          · subst hes; simp at h2; subst h2; simp at hj
          · obtain ⟨y, hy⟩ := List.exists_mem_of_ne_nil es hes
            have hse : s = e.size := (hls y hy).symm.trans (hsz y hy)
            rw [hse] at hss
            rw [Nat.add_assoc]
            refine hss _ ?_
            have : l * e.size + (h - l) * e.size ≤ es.length * e.size := by rw [← Nat.add_mul]; exact Nat.mul_le_mul_right _ (by omega)
            omega
        · exact hr _ _ (flatMap_mid e.size es hsz l h j v hj)

theorem s_slice_nil (tok : TyOk P ty) (inv : Inv B0 σ g w) {t et : TypeId} {x : Operand} {lo hi : Option Operand} (ho : o.op = .slice t x lo hi none) {i e : TI} (hi' : ty t = some i) (hd : i.desc = .slice et) (he : ty et = some e)
    (hx : VR g w .nsl (a.eval x)) (hl : BoundIs (lo.map a.eval) 0 0) (hh : BoundIs (hi.map a.eval) 0 0) : OpVal P B0 o a σ g w .nsl σ := by
  have hu := tok.under t i hi'
  rw [hd] at hu
  generalize hz : a.eval x = z at hx
  cases hx
  have hb := run_bounds (P := P) (w := w) (isSlice := true) (cap := 0) hl hh (Nat.le_refl _) (Nat.le_refl _)
  refine .same inv (.slice none 0 0) ?_ .nsl
  unfold execOp
  simp [ho, hz, Instr.sliceAt, Instr.slice, run_underlying hu, hb, run_sizeOf tok he]

end

end Go.Eng
