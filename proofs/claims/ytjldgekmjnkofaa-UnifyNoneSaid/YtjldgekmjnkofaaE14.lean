/- Appends. -/
import Derived.Test.YtjldgekmjnkofaaE13
set_option linter.unusedVariables false
set_option linter.unusedSimpArgs false
namespace Go.Eng
open Go

section
variable {P : Program} {ty : Ty} {B0 : Nat} {o : Oper} {a : Act} {σ : Sto} {g : Gh} {w : World} {v : V}

theorem one_cells {v : V} (h : v.one = true) : v.cells = [v] := by cases v <;> first | rfl | (simp [V.one] at h; done)

theorem flat_range (f : Nat → V) (s : Nat) (L : List V) : ∀ (n : Nat), (∀ i, i < n → (f i).cells = (L.drop (i * s)).take s) → n * s ≤ L.length → ((List.range n).map f).flatMap V.cells = L.take (n * s) := by
  intro n
  induction n with
  | zero => intro _ _; simp
  | succ n ih =>
    intro h hle
    have hm : n * s + s = (n + 1) * s := by rw [Nat.add_mul]; omega
    rw [List.range_succ, List.map_append, List.flatMap_append, ih (fun i hi => h i (by omega)) (by omega)]
    simp only [List.map_cons, List.map_nil, List.flatMap_cons, List.flatMap_nil, List.append_nil]
    rw [h n (by omega), ← hm, List.take_add]

/-- The elements of a slice, in the world. -/
theorem elems_rel (inv : Inv B0 σ g w) {y : V} {uy : Value} (hy : VR g w y uy) {size : Nat} {es : List V} (he : elems σ size y = some es) (hh : headOk size es = true) (hpos : 0 < size) :
    ∃ (A : Option Addr) (cap : Nat) (news : List Value), uy = .slice A es.length cap ∧ es.length ≤ cap ∧ (∀ x ∈ es, x.cells.length = size) ∧ (∀ x ∈ es, ∀ z ∈ x.cells, z.one = true) ∧
      news.length = es.length * size ∧ (cap = 0 ∨ ∃ B o, A = some ⟨B, o, none⟩ ∧ ∀ j u, news[j]? = some u → w.cell? ⟨B, o + j, none⟩ = some u) ∧ (∀ (j : Nat) u, news[j]? = some u → u.oneCell' = true) ∧
        (∀ (j : Nat) v, (es.flatMap V.cells)[j]? = some v → ∃ u, news[j]? = some u ∧ VR g w v u) := by
  cases y <;> simp only [elems] at he <;> try (cases he; done)
  · cases he
    cases hy
    exact ⟨none, 0, [], rfl, Nat.le_refl _, fun x hx => by simp at hx, fun x hx => by simp at hx, by simp, Or.inl rfl, fun j u h => by simp at h, fun j v h => by simp at h⟩
  · rename_i ow es'
    cases he
    cases hy with
    | esl A => exact ⟨some A, 0, [], rfl, Nat.le_refl _, fun x hx => by simp at hx, fun x hx => by simp at hx, by simp, Or.inl rfl, fun j u h => by simp at h, fun j v h => by simp at h⟩
    | sl ow es B of cap s f hl hc hs hr hone hown =>
      by_cases hes : es = []
      · subst hes
        exact ⟨_, cap, [], rfl, hc, fun x hx => by simp at hx, fun x hx => by simp at hx, by simp, Or.inr ⟨B, of, rfl, fun j u h => by simp at h⟩, fun j u h => by simp at h, fun j v h => by simp at h⟩
      · obtain ⟨e0, r0, rfl⟩ : ∃ e r, es = e :: r := List.exists_cons_of_ne_nil hes
        have hse : s = size := by
          have h1 := hl e0 (by simp)
          simp only [headOk, beq_iff_eq] at hh
          omega
        subst hse
        have hnews : ∀ (j : Nat) u, ((List.range ((e0 :: r0).length * s)).map f)[j]? = some u → j < (e0 :: r0).length * s ∧ u = f j := fun j u hj => by
          have hlt : j < (e0 :: r0).length * s := by
            rcases Nat.lt_or_ge j ((e0 :: r0).length * s) with h | h
            · exact h
            · rw [List.getElem?_eq_none (by simpa using h)] at hj; cases hj
          rw [List.getElem?_map, List.getElem?_range hlt] at hj
          exact ⟨hlt, by simpa using hj.symm⟩
        refine ⟨_, cap, (List.range ((e0 :: r0).length * s)).map f, rfl, hc, hl, hone, by simp, Or.inr ⟨B, of, rfl, fun j u hj => ?_⟩, fun j u hj => ?_, fun j v hv => ?_⟩
        · obtain ⟨hlt, rfl⟩ := hnews j u hj
          exact (hs j hlt).1
        · obtain ⟨hlt, rfl⟩ := hnews j u hj
          have hlen := flatMap_len s _ hl
          have hjl : j < ((e0 :: r0).flatMap V.cells).length := by rw [hlen]; exact hlt
          have hv := hr j _ (List.getElem?_eq_getElem hjl)
          obtain ⟨x, hx, hxv⟩ := List.mem_flatMap.1 (List.getElem_mem hjl)
          exact hv.oneCell (hone x hx _ hxv)
        · have hlt := (List.getElem?_eq_some_iff.1 hv).1
          rw [flatMap_len s _ hl] at hlt
          exact ⟨f j, by rw [List.getElem?_map, List.getElem?_range hlt]; rfl, hr j v hv⟩
  · rename_i b off len s
    split at he
    · rename_i cs hb
      split at he
      · rename_i hc
        obtain ⟨hle, rfl⟩ := hc
        cases he
        obtain ⟨B, d, c, el, hι, hheap, hreads, _⟩ := inv.cells hb
        cases hy with
        | msl b off len s B' d' cap h hcap hroom =>
          rw [hι] at h
          cases h
          have hcell : ∀ i, i < len → (if s = 1 then (cs[off + i]?).getD .undef else .agg ((cs.drop (off + i * s)).take s)).cells = ((cs.drop off).drop (i * s)).take s := by
            intro i hi
            split
            · rename_i h1
              subst h1
              have hlt : off + i < cs.length := by omega
              rw [List.getElem?_eq_getElem hlt, Option.getD_some, one_cells (hreads _ _ (List.getElem?_eq_getElem hlt)).1, List.drop_drop, Nat.mul_one]
              rw [List.take_one, List.head?_drop, List.getElem?_eq_getElem hlt]
              rfl
            · rw [List.drop_drop]; rfl
          have hflat := flat_range (fun i => if s = 1 then (cs[off + i]?).getD .undef else .agg ((cs.drop (off + i * s)).take s)) s (cs.drop off) len hcell (by rw [List.length_drop]; omega)
          have hlen1 : ∀ x ∈ (List.range len).map (fun i => if s = 1 then (cs[off + i]?).getD V.undef else .agg ((cs.drop (off + i * s)).take s)), x.cells.length = s := by
            intro x hx
            obtain ⟨i, hi, rfl⟩ := List.mem_map.1 hx
            have hi' : i < len := by simpa using hi
            rw [hcell i hi', List.length_take, List.length_drop, List.length_drop]
            have : i * s + s ≤ len * s := by rw [← Nat.succ_mul]; exact Nat.mul_le_mul_right _ hi'
            omega
          have hread : ∀ (j : Nat) v, (((List.range len).map (fun i => if s = 1 then (cs[off + i]?).getD V.undef else .agg ((cs.drop (off + i * s)).take s))).flatMap V.cells)[j]? = some v → v.one = true ∧ ∃ u, c[d + off + j]? = some u ∧ VR g w v u := by
            intro j v hv
            rw [hflat, List.getElem?_take] at hv
            split at hv
            · rw [List.getElem?_drop] at hv
              obtain ⟨h1, u, h2, h3⟩ := hreads _ _ hv
              exact ⟨h1, u, by rw [Nat.add_assoc]; exact h2, h3⟩
            · cases hv
          have hnews : ∀ (j : Nat) u, ((List.range (len * s)).map fun j => c.getD (d + off + j) undef)[j]? = some u → ∃ v, v.one = true ∧ c[d + off + j]? = some u ∧ VR g w v u := fun j u hj => by
            have hlt : j < len * s := by
              rcases Nat.lt_or_ge j (len * s) with h | h
              · exact h
              · rw [List.getElem?_eq_none (by simpa using h)] at hj; cases hj
            rw [List.getElem?_map, List.getElem?_range hlt] at hj
            simp only [Option.map_some, Option.some.injEq] at hj
            have hjl : j < (((List.range len).map (fun i => if s = 1 then (cs[off + i]?).getD V.undef else .agg ((cs.drop (off + i * s)).take s))).flatMap V.cells).length := by
              rw [hflat, List.length_take, List.length_drop]; omega
            obtain ⟨h1, u', h2, h3⟩ := hread j _ (List.getElem?_eq_getElem hjl)
            have : u = u' := by rw [← hj, Array.getD_eq_getD_getElem?, h2]; rfl
            subst this
            exact ⟨_, h1, h2, h3⟩
          refine ⟨_, cap, (List.range (len * s)).map fun j => c.getD (d + off + j) undef, by simp, by simpa using hcap, hlen1, fun x hx z hz => ?_, by simp, Or.inr ⟨B, d + off, rfl, fun j u hj => ?_⟩, fun j u hj => ?_, fun j v hv => ?_⟩
          · obtain ⟨q, hq⟩ := List.getElem?_of_mem (List.mem_flatMap.2 ⟨x, hx, hz⟩)
            exact (hread q z hq).1
          · obtain ⟨v, h1, h2, h3⟩ := hnews j u hj
            rw [cell?_of_heap hheap]; exact h2
          · obtain ⟨v, h1, h2, h3⟩ := hnews j u hj
            exact h3.oneCell h1
          · obtain ⟨_, u, h2, h3⟩ := hread j v hv
            have hlt := (List.getElem?_eq_some_iff.1 hv).1
            rw [hflat, List.length_take] at hlt
            refine ⟨u, ?_, h3⟩
            rw [List.getElem?_map, List.getElem?_range (by omega)]
            simp only [Option.map_some, Array.getD_eq_getD_getElem?, h2, Option.getD_some]
      · cases he
    · cases he

/-- What a grown row holds. -/
theorem run_grow (tok : TyOk P ty) {s et : TypeId} {i e : TI} (hi : ty s = some i) (hd : i.desc = .slice et) (het : ty et = some e) {z : V} (hz : e.zero = some z) (hone : z.cells.all V.one = true) (hzl : z.cells.length = e.size) (rt : TypeId)
    {A A' : Option Addr} {n cap m cap' : Nat} {olds news : List Value} (ho : olds.length = n * e.size) (hA : cap = 0 ∨ ∃ B o, A = some ⟨B, o, none⟩ ∧ ∀ j u, olds[j]? = some u → w.cell? ⟨B, o + j, none⟩ = some u)
    (hn : news.length = m * e.size) (hA' : ∃ B o, A' = some ⟨B, o, none⟩ ∧ ∀ j u, news[j]? = some u → w.cell? ⟨B, o + j, none⟩ = some u) (h0 : 0 < m) (hle : n ≤ cap) (hg : cap < n + m)
    (hb : (n + m) * e.bytes ≤ 140737488355328) (h63 : n + m ≤ 9223372036854775807) :
    ∃ c C, (Builtin.append_ #[s, s] rt #[.slice A n cap, .slice A' m cap']).run P w = .ok (.slice (some ⟨w.heap.size, 0, none⟩) (n + m) c) (w.drew.alloc (.cells C et)) ∧ n + m ≤ c ∧ C.size = c * e.size ∧
      ∀ (j : Nat) u, (olds ++ news)[j]? = some u → C[j]? = some u := by
  obtain ⟨xi, hxi, hxs, hxb, hxz⟩ := tok.info et e het
  obtain ⟨zu, hzu, hzc⟩ := hxz z hz
  have hzr := ofC_rel ⟨fun _ => none, fun _ _ => False, fun _ => none⟩ w 100 zu z hzc
  have hzs : zu.cells.size = e.size := by rw [(hzr.cells_one hone).1, hzl]
  have hu := tok.under s i hi
  rw [hd] at hu
  obtain ⟨B', o', rfl, hnews⟩ := hA'
  have hnews' : ∀ j u, news[j]? = some u → w.cell? ((⟨B', o', none⟩ : Addr).add j) = some u := fun j u h => by rw [Addr.add_lit]; exact hnews j u h
  rw [← hxs] at ho hn
  rw [← hxb] at hb
  have hsz : ∀ (c : Nat), n + m ≤ c → (olds.toArray ++ news.toArray ++ Builtin.zeroCells zu.cells (c - (n + m))).size = c * e.size := fun c hc => by
    simp only [Array.size_append, List.size_toArray, size_zeroCells, hzs, ho, hn, hxs, ← Nat.add_mul]
    congr 1; omega
  have hget : ∀ (c j : Nat) u, (olds ++ news)[j]? = some u → (olds.toArray ++ news.toArray ++ Builtin.zeroCells zu.cells (c - (n + m)))[j]? = some u := fun c j u h => by
    have hlt := (List.getElem?_eq_some_iff.1 h).1
    rw [Array.getElem?_append_left (by simpa using hlt)]
    simpa using h
  rcases hA with rfl | ⟨B, of, rfl, holds⟩
  · have hn0 : n = 0 := by omega
    subst hn0
    have ho0 : olds = [] := List.eq_nil_of_length_eq_zero (by simpa using ho)
    subst ho0
    cases A with
    | some A0 =>
      have hr := run_append_grow (P := P) w s rt et xi zu hu hxi hzu A0 0 0 [] (by simp) (fun j u h => by simp at h) ⟨B', o', none⟩ m cap' news hn hnews' hg (by omega) (growslice_fits (by omega) hb)
      exact ⟨grownCap w (0 + m) 0 et, _, hr, grownCap_ge w (0 + m) 0 et, hsz _ (grownCap_ge w (0 + m) 0 et), hget _⟩
    | none =>
    have hr := run_append_nil (P := P) w s rt et xi zu hu hxi hzu ⟨B', o', none⟩ m cap' news hn hnews' h0 (by omega) (by simp only [Nat.zero_add] at hb; omega)
    refine ⟨grownCap w m 0 et, _, ?_, by simpa using grownCap_ge w m 0 et, hsz _ (by simpa using grownCap_ge w m 0 et), hget _⟩
    simpa using hr
  · have holds' : ∀ j u, olds[j]? = some u → w.cell? ((⟨B, of, none⟩ : Addr).add j) = some u := fun j u h => by rw [Addr.add_lit]; exact holds j u h
    have hr := run_append_grow (P := P) w s rt et xi zu hu hxi hzu ⟨B, of, none⟩ n cap olds ho holds' ⟨B', o', none⟩ m cap' news hn hnews' hg (by omega) (growslice_fits (by omega) hb)
    exact ⟨grownCap w (n + m) cap et, _, hr, grownCap_ge w (n + m) cap et, hsz _ (grownCap_ge w (n + m) cap et), hget _⟩

/-- An append into the room behind a row. -/
theorem run_room (tok : TyOk P ty) {s et : TypeId} {i e : TI} (hi : ty s = some i) (hd : i.desc = .slice et) (het : ty et = some e) (rt : TypeId)
    {B o n cap m cap' : Nat} {A' : Option Addr} {news : List Value} {c : Array Value} {el : TypeId} {fr : Nat × Nat} (hh : w.heap[B]? = some (Obj.cells c el fr)) (hfr : fr = (0, 0) ∨ c.size ≤ fr.1)
    (hn : news.length = m * e.size) (hA' : ∃ B o, A' = some ⟨B, o, none⟩ ∧ ∀ j u, news[j]? = some u → w.cell? ⟨B, o + j, none⟩ = some u) (h1 : ∀ (j : Nat) u, news[j]? = some u → u.oneCell' = true) (hg : n + m ≤ cap) (hsz : o + cap * e.size ≤ c.size) :
    (Builtin.append_ #[s, s] rt #[.slice (some ⟨B, o, none⟩) n cap, .slice A' m cap']).run P w = .ok (.slice (some ⟨B, o, none⟩) (n + m) cap) (setB w B (.cells (wrow c (o + n * e.size) news) el fr)) := by
  have hu := tok.under s i hi
  rw [hd] at hu
  obtain ⟨B', o', rfl, hnews⟩ := hA'
  obtain ⟨us, hr, hus, hget⟩ := run_loadCells (P := P) B' o' (m * e.size) (fun j => news.getD j undef) w (fun j hj => by
    have hlt : j < news.length := by omega
    rw [hnews j news[j] (List.getElem?_eq_getElem hlt)]
    simp [hlt])
  have hun : us.toList = news := by
    apply List.ext_getElem?
    intro j
    by_cases hj : j < m * e.size
    · have hlt : j < news.length := by omega
      have := hget j hj
      simp [this, hlt]
    · rw [List.getElem?_eq_none (by simp; omega), List.getElem?_eq_none (by omega)]
  have hle : n * e.size + m * e.size ≤ cap * e.size := by rw [← Nat.add_mul]; exact Nat.mul_le_mul_right _ hg
  have hst := run_storeCells (P := P) B (o + n * e.size) el fr news 0 c w hh (by omega) hfr (fun u hu => by
    obtain ⟨j, hj⟩ := List.getElem?_of_mem hu
    exact h1 j u hj)
  simp [Builtin.append_, run_underlying hu, run_sizeOf tok het, Builtin.lenOf, Builtin.firstCells, hg, hr, hun, Addr.add_lit, hst]

theorem s_append (tok : TyOk P ty) (inv : Inv B0 σ g w) {s : TypeId} {x y : Operand} (ho : o.op = .call { callee := .builtin .append, args := #[x, y], argTypes := #[s, s] }) {e : TI} (he : elemOf ty s = some e)
    {z : V} (hz : e.zero = some z) (hone : z.cells.all V.one = true) (hzl : z.cells.length = e.size) (hpos : 0 < e.size) {ux uy : V} (hx : VR g w ux (a.eval x)) (hy : VR g w uy (a.eval y)) {mu : Bool} {σ' : Sto}
    (hv : appendV e.size e.bytes mu σ ux uy = some (v, σ')) : OpVal P B0 o a σ g w v σ' := by
  obtain ⟨i, et, hi, hd, het⟩ := elemOf_inv he
  have hu := tok.under s i hi
  rw [hd] at hu
  have key : ∀ u w', (Builtin.append_ #[s, s] o.type #[a.eval x, a.eval y]).run P w = .ok u w' → (execOp a.eval o).run P w = .ok (.value u) w' := by
    intro u w' h
    unfold execOp
    simp [ho, resolve, invoke, builtin, h]
  unfold appendV at hv
  split at hv
  · cases hv
  · rename_i hey
    obtain ⟨A', cap', news, huy, _, _, _, _, hA', _⟩ := elems_rel inv hy hey rfl hpos
    have hnil : (Builtin.firstCells e.size 0 (.slice A' 0 cap')).run P w = .ok #[] w := by
      rcases hA' with _ | ⟨B, of, rfl, _⟩
      · cases A' with
        | none => rfl
        | some A0 => simp [Builtin.firstCells, loadCells, loadCellsFrom]
      · simp [Builtin.firstCells, loadCells, loadCellsFrom]
    have fin : ∀ A n cap, a.eval x = .slice A n cap → n ≤ cap → (execOp a.eval o).run P w = .ok (.value (a.eval x)) w := fun A n cap hax hle => by
      apply key
      rw [hax, huy]
      have hlen : ([] : List V).length = 0 := rfl
      rw [hlen]
      cases A with
      | none => simp [Builtin.append_, run_underlying hu, run_sizeOf tok het, Builtin.lenOf, hle, hnil]
      | some A => simp [Builtin.append_, run_underlying hu, run_sizeOf tok het, Builtin.lenOf, hle, hnil, storeCells]
    split at hv
    · cases hv
      refine .same inv (a.eval x) ?_ hx
      generalize hzx : a.eval x = zx at hx
      cases hx
      rw [← hzx]; exact fin _ _ _ hzx (Nat.le_refl _)
    · cases hv
      refine .same inv (a.eval x) ?_ hx
      generalize hzx : a.eval x = zx at hx
      cases hx with
      | esl A => rw [← hzx]; exact fin _ _ _ hzx (Nat.le_refl _)
      | sl ow es B of cap s f hl hc hs hr hone hown => rw [← hzx]; exact fin _ _ _ hzx hc
    · cases hv
      refine .same inv (a.eval x) ?_ hx
      generalize hzx : a.eval x = zx at hx
      cases hx with
      | msl b off len s B d cap h hcap hroom => rw [← hzx]; exact fin _ _ _ hzx hcap
    · cases hv
  · rename_i e1 r hey
    split at hv
    · cases hv
    · rename_i es hex
      dsimp only at hv
      split at hv
      case isFalse => cases hv
      rename_i hc
      obtain ⟨c1, c2, c3, c4⟩ := hc
      obtain ⟨A', cap', news, huy, hcy, hly, hoy, hny, hA', h1y, hvy⟩ := elems_rel inv hy hey c4 hpos
      obtain ⟨A, cap, olds, hux, hcx, hlx, hox, hnx, hA, h1x, hvx⟩ := elems_rel inv hx hex c3 hpos
      have hA'' : ∃ B o, A' = some ⟨B, o, none⟩ ∧ ∀ j u, news[j]? = some u → w.cell? ⟨B, o + j, none⟩ = some u := by
        rcases hA' with h0 | h
        · simp at hcy; omega
        · exact h
      have hm : 0 < (e1 :: r).length := by simp
      rw [List.length_append] at c1 c2 hv
      have hall1 : ∀ q ∈ es ++ e1 :: r, q.cells.length = e.size := fun q hq => by
        rcases List.mem_append.1 hq with h | h
        · exact hlx q h
        · exact hly q h
      have hallo : ∀ q ∈ es ++ e1 :: r, ∀ z ∈ q.cells, z.one = true := fun q hq => by
        rcases List.mem_append.1 hq with h | h
        · exact hox q h
        · exact hoy q h
      have hflen : (es.flatMap V.cells).length = es.length * e.size := flatMap_len e.size es hlx
      have hflat : ∀ (j : Nat) v, ((es ++ e1 :: r).flatMap V.cells)[j]? = some v → v.one = true ∧ ∃ u, (olds ++ news)[j]? = some u ∧ VR g w v u := fun j v hj => by
        refine ⟨?_, ?_⟩
        · obtain ⟨q, hq, hqv⟩ := List.mem_flatMap.1 (List.mem_of_getElem? hj)
          exact hallo q hq v hqv
        · rw [List.flatMap_append] at hj
          by_cases hlt : j < (es.flatMap V.cells).length
          · rw [List.getElem?_append_left hlt] at hj
            obtain ⟨u, h1, h2⟩ := hvx j v hj
            exact ⟨u, by rw [List.getElem?_append_left (by omega)]; exact h1, h2⟩
          · rw [List.getElem?_append_right (by omega), hflen, ← hnx] at hj
            obtain ⟨u, h1, h2⟩ := hvy _ v hj
            exact ⟨u, by rw [List.getElem?_append_right (by omega)]; exact h1, h2⟩
      have hflen2 : ((es ++ e1 :: r).flatMap V.cells).length = (es.length + (e1 :: r).length) * e.size := by
        rw [flatMap_len e.size _ hall1, List.length_append]
      -- the row grows
      have grow : cap < es.length + (e1 :: r).length → ∃ c C, (execOp a.eval o).run P w = .ok (.value (.slice (some ⟨w.heap.size, 0, none⟩) (es.length + (e1 :: r).length) c)) (w.drew.alloc (.cells C et)) ∧
          es.length + (e1 :: r).length ≤ c ∧ C.size = c * e.size ∧ Reads g w C 0 ((es ++ e1 :: r).flatMap V.cells) := fun hg => by
        obtain ⟨c, C, h1, h2, h3, h4⟩ := run_grow tok hi hd het hz hone hzl o.type hnx hA hny hA'' hm hcx hg c1 c2
        refine ⟨c, C, key _ _ (by rw [hux, huy]; exact h1), h2, h3, fun j v hj => ?_⟩
        obtain ⟨k1, u, k2, k3⟩ := hflat j v hj
        exact ⟨k1, u, by rw [Nat.zero_add]; exact h4 j u k2, k3⟩
      have hle : ∀ c, es.length + (e1 :: r).length ≤ c → (es.length + (e1 :: r).length) * e.size ≤ c * e.size := fun c h => Nat.mul_le_mul_right _ h
      -- the value of a grown row
      have newsl : ∀ {g' : Gh} {c : Nat} {C : Array Value} {ow : Own}, Mon g w g' (w.drew.alloc (.cells C et)) → es.length + (e1 :: r).length ≤ c → C.size = c * e.size → Reads g w C 0 ((es ++ e1 :: r).flatMap V.cells) →
          (∀ j, j < (es.length + (e1 :: r).length) * e.size → g'.Γ w.heap.size j) → OwnOk g' (w.drew.alloc (.cells C et)) (es ++ e1 :: r).length e.size w.heap.size 0 c ow →
          VR g' (w.drew.alloc (.cells C et)) (.sl ow (es ++ e1 :: r)) (.slice (some ⟨w.heap.size, 0, none⟩) (es.length + (e1 :: r).length) c) := fun {g' c C ow} hmon h2 h3 h4 hΓ hown => by
        have := VR.sl (g := g') (w := w.drew.alloc (.cells C et)) ow (es ++ e1 :: r) w.heap.size 0 c e.size (fun j => C.getD j undef) hall1 (by rw [List.length_append]; exact h2) (fun j hj => by
          rw [List.length_append] at hj
          have hlt : j < C.size := by have := hle c h2; omega
          rw [Nat.zero_add]
          have hnew : (w.drew.alloc (.cells C et)).heap[w.heap.size]? = some (Obj.cells C et (0, 0)) := (WPush.alloc w.drew (.cells C et)).new
          exact ⟨by rw [cell?_of_heap hnew]; simp [hlt], hΓ j hj⟩) (fun j v hj => by
          obtain ⟨_, u, k2, k3⟩ := h4 j v hj
          rw [Nat.zero_add] at k2
          have : C.getD j undef = u := by simp [Array.getD_eq_getD_getElem?, k2]
          rw [this]; exact k3.mono hmon) hallo hown
        rw [List.length_append] at this
        exact this
      have fresh : cap < es.length + (e1 :: r).length → mu = false → v = .sl (.tok σ.next) (es ++ e1 :: r) → σ' = σ.alloc (.tok (es.length + (e1 :: r).length)) → OpVal P B0 o a σ g w v σ' := fun hg _ hv hσ => by
        subst hv hσ
        obtain ⟨c, C, h1, h2, h3, h4⟩ := grow hg
        have p : WPush w (.cells C et) (w.drew.alloc (.cells C et)) := (WPush.alloc w.drew _).ofDrew
        have hst := step_tok inv p ((es.length + (e1 :: r).length) * e.size) (es.length + (e1 :: r).length) (by rw [h3]; exact hle c h2)
        refine ⟨_, _, _, _, h1, Or.inl rfl, hst.2, hst.1, newsl hst.2.toMon h2 h3 h4 (fun j hj => Or.inr ⟨rfl, hj⟩) ?_⟩
        refine ⟨w.heap.size, (es.length + (e1 :: r).length) * e.size, es.length + (e1 :: r).length, by simp [Gh.tokn], by rw [List.length_append]; exact Nat.le_refl _, fun _ => ⟨rfl, by rw [List.length_append, Nat.zero_add], C, et, (0, 0), p.new, by omega⟩⟩
      have freshm : cap < es.length + (e1 :: r).length → v = .msl σ.next 0 (es.length + (e1 :: r).length) e.size → σ' = σ.alloc (.cells ((es ++ e1 :: r).flatMap V.cells)) → OpVal P B0 o a σ g w v σ' := fun hg hv hσ => by
        subst hv hσ
        obtain ⟨c, C, h1, h2, h3, h4⟩ := grow hg
        have p : WPush w (.cells C et) (w.drew.alloc (.cells C et)) := (WPush.alloc w.drew _).ofDrew
        have hst := step_own inv p h4
        exact ⟨_, _, _, _, h1, Or.inl rfl, hst.2, hst.1, .msl _ 0 _ e.size _ 0 c (by simp [Gh.own]) h2 ⟨C, et, (0, 0), p.new, by omega⟩⟩
      have hfull : (ux = .nsl ∨ ∃ q, ux = .sl .full q) → cap < es.length + (e1 :: r).length := fun h => by
        rcases h with rfl | ⟨q, rfl⟩
        · have := hx.nsl_inv
          rw [hux] at this
          injection this
          omega
        · obtain ⟨B, of, cap2, s2, f, hq, _, _, _, _, _, hown⟩ := hx.sl_inv (by simp)
          simp only [elems, Option.some.injEq] at hex
          subst hex
          rw [hux] at hq
          injection hq with h1 h2 h3
          simp only [OwnOk] at hown
          omega
      cases mu with
      | true =>
        simp only [if_true] at hv
        split at hv
        · cases hv; exact freshm (hfull (Or.inl rfl)) rfl rfl
        · cases hv; exact freshm (hfull (Or.inr ⟨_, rfl⟩)) rfl rfl
        · rename_i b off len s'
          cases hv
          simp only [elems] at hex
          split at hex
          · rename_i cs hb
            split at hex
            · rename_i hcs
              obtain ⟨hcs, rfl⟩ := hcs
              by_cases hg : cap < es.length + (e1 :: r).length
              · obtain ⟨c, C, h1, h2, h3, h4⟩ := grow hg
                have p : WPush w (.cells C et) (w.drew.alloc (.cells C et)) := (WPush.alloc w.drew _).ofDrew
                have hdie := step_die inv hb
                have hst := step_own hdie.1 p h4
                refine ⟨_, _, _, _, h1, Or.inl rfl, hdie.2.trans hst.2, hst.1, ?_⟩
                exact .msl _ 0 _ e.size _ 0 c (by simp [Gh.own]) h2 ⟨C, et, (0, 0), p.new, by omega⟩
              · obtain ⟨B, d, c, el, hι, hheap, hreads, hgm⟩ := inv.cells hb
                obtain ⟨B', d', cap2, hq, h, hcap, c', el', fr', hh', hsz⟩ := hx.msl_inv
                rw [hux] at hq
                injection hq with h1 h2 h3
                subst h3
                rw [hι] at h
                cases h
                subst h1
                rw [hheap] at hh'
                cases hh'
                have hroom := run_room tok hi hd het o.type (B := B) (o := d + off) (n := es.length) (cap := cap) (cap' := cap') hheap (Or.inl rfl) hny hA'' h1y (by omega) hsz
                have hholds : ∀ (j : Nat) u, olds[j]? = some u → c[d + off + j]? = some u := fun j u hj => by
                  rcases hA with h | ⟨B2, o2, h, h3⟩
                  · have : 0 < (e1 :: r).length := by simp
                    omega
                  · cases h
                    have := h3 j u hj
                    rw [cell?_of_heap hheap] at this
                    exact this
                have hle2 : es.length * e.size + (e1 :: r).length * e.size ≤ cap * e.size := by rw [← Nat.add_mul]; exact Nat.mul_le_mul_right _ (by omega)
                have hrr : Reads g w (wrow c (d + off + es.length * e.size) news) (d + off) ((es ++ e1 :: r).flatMap V.cells) := fun j v hj => by
                  obtain ⟨k1, u, k2, k3⟩ := hflat j v hj
                  refine ⟨k1, u, ?_, k3⟩
                  by_cases hlt : j < olds.length
                  · rw [List.getElem?_append_left hlt] at k2
                    rw [wrow_out _ _ _ _ (by omega)]
                    exact hholds j u k2
                  · rw [List.getElem?_append_right (by omega)] at k2
                    have := wrow_in news c (d + off + es.length * e.size) (j - olds.length) u (by omega) k2
                    rw [show d + off + es.length * e.size + (j - olds.length) = d + off + j from by omega] at this
                    exact this
                have hst := step_adopt inv hb hι hheap hgm (d + off + es.length * e.size) hrr
                refine ⟨_, _, _, _, key _ _ (by rw [hux, huy]; exact hroom), Or.inl rfl, hst.2, hst.1, ?_⟩
                have := VR.msl (g := g.own σ.next B (d + off)) (w := setB w B (.cells (wrow c (d + off + es.length * e.size) news) el (0, 0))) σ.next 0 (es.length + (e1 :: r).length) e.size B (d + off) cap (by simp [Gh.own]) (by omega)
                  ⟨_, el, (0, 0), (WSet.setB (lt_of_heap hheap) _).same, by simpa using hsz⟩
                exact this
            · cases hex
          · cases hex
        · cases hv
      | false =>
        simp only [Bool.false_eq_true, if_false] at hv
        split at hv
        · cases hv; exact fresh (hfull (Or.inl rfl)) rfl rfl rfl
        · cases hv; exact fresh (hfull (Or.inr ⟨_, rfl⟩)) rfl rfl rfl
        · rename_i k q0 es0
          generalize hes' : q0 :: es0 = es' at *
          split at hv
          · rename_i n hk
            split at hv
            · rename_i hn
              cases hv
              simp only [elems, Option.some.injEq] at hex
              subst hex
              obtain ⟨Bk, mk, ck, elk, frk, hτ, hhk, hfrk, hgmk⟩ := inv.toks hk
              obtain ⟨B, of, cap2, s, f, hq, hl, hc, hs, hr, hone', hown⟩ := hx.sl_inv (by simp)
              rw [hux] at hq
              injection hq with h1 h2 h3
              subst h3
              subst h1
              obtain ⟨B, m2, L2, hτ2, hle2, heq2⟩ := hown
              rw [hτ] at hτ2
              cases hτ2
              obtain ⟨rfl, hm2, c', el', fr', hh', hsz⟩ := heq2 (by omega)
              rw [hhk] at hh'
              cases hh'
              by_cases hg : cap < es'.length + (e1 :: r).length
              · obtain ⟨c, C, h1, h2, h3, h4⟩ := grow hg
                have p : WPush w (.cells C et) (w.drew.alloc (.cells C et)) := (WPush.alloc w.drew _).ofDrew
                have hst := step_tokmove inv p hk ((es'.length + (e1 :: r).length) * e.size) (es'.length + (e1 :: r).length) (by rw [h3]; exact hle c h2) (by omega)
                refine ⟨_, _, _, _, h1, Or.inl rfl, hst.2, hst.1, newsl hst.2.toMon h2 h3 h4 (fun j hj => Or.inr ⟨rfl, hj⟩) ?_⟩
                refine ⟨w.heap.size, (es'.length + (e1 :: r).length) * e.size, es'.length + (e1 :: r).length, by simp [Gh.tokn], by rw [List.length_append]; exact Nat.le_refl _, fun _ => ⟨rfl, by rw [List.length_append, Nat.zero_add], C, et, (0, 0), p.new, by omega⟩⟩
              · have hse : s = e.size := (hl q0 (by rw [← hes']; simp)).symm.trans (hlx q0 (by rw [← hes']; simp))
                subst hse
                have hroom := run_room tok hi hd het o.type (B := Bk) (o := of) (n := es'.length) (cap := cap) (cap' := cap') hhk hfrk hny hA'' h1y (by omega) hsz
                subst hm2
                have hle2 : es'.length * e.size + (e1 :: r).length * e.size ≤ cap * e.size := by rw [← Nat.add_mul]; exact Nat.mul_le_mul_right _ (by omega)
                have hst := step_tokin (us := news) inv hk hτ hhk hfrk hgmk (by omega) (es'.length + (e1 :: r).length) (by omega)
                have hmon := hst.2.toMon
                have p := WSet.setB (lt_of_heap hhk) (.cells (wrow ck (of + es'.length * e.size) news) elk frk)
                refine ⟨_, _, _, _, key _ _ (by rw [hux, huy]; exact hroom), Or.inl rfl, hst.2, hst.1, ?_⟩
                have hfin := VR.sl (g := (g.snap Bk (of + es'.length * e.size + news.length)).tokn k Bk (of + es'.length * e.size + news.length) (es'.length + (e1 :: r).length)) (w := setB w Bk (.cells (wrow ck (of + es'.length * e.size) news) elk frk))
                  (.tok k) (es' ++ e1 :: r) Bk of cap e.size (fun j => (wrow ck (of + es'.length * e.size) news).getD (of + j) undef) hall1 (by rw [List.length_append]; omega) (fun j hj => by
                    rw [List.length_append, Nat.add_mul] at hj
                    have hlt : of + j < ck.size := by omega
                    refine ⟨by rw [cell?_of_heap p.same]; simp [hlt], Or.inr ⟨rfl, by omega⟩⟩) (fun j v hj => by
                    obtain ⟨_, u, k2, k3⟩ := hflat j v hj
                    have : (wrow ck (of + es'.length * e.size) news).getD (of + j) undef = u := by
                      rw [Array.getD_eq_getD_getElem?]
                      by_cases hlt : j < olds.length
                      · rw [List.getElem?_append_left hlt] at k2
                        rw [wrow_out _ _ _ _ (by omega)]
                        rcases hA with h | ⟨B3, o3, h, h3⟩
                        · have : 0 < (e1 :: r).length := by simp
                          omega
                        · cases h
                          have := h3 j u k2
                          rw [cell?_of_heap hhk] at this
                          rw [this]; rfl
                      · rw [List.getElem?_append_right (by omega)] at k2
                        have := wrow_in news ck (of + es'.length * e.size) (j - olds.length) u (by omega) k2
                        rw [show of + es'.length * e.size + (j - olds.length) = of + j from by omega] at this
                        rw [this]; rfl
                    rw [this]; exact k3.mono hmon) hallo
                  ⟨Bk, of + es'.length * e.size + news.length, es'.length + (e1 :: r).length, by simp [Gh.tokn], by rw [List.length_append]; exact Nat.le_refl _, fun _ => ⟨rfl, by rw [List.length_append, Nat.add_mul, hny]; omega, _, elk, frk, p.same, by simpa using hsz⟩⟩
                rw [List.length_append] at hfin
                exact hfin
            · cases hv
          · cases hv
        · cases hv
end

end Go.Eng
