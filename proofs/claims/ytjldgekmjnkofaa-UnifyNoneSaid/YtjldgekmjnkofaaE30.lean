/- Small words, reckoned out by simp. -/
import Derived.Test.YtjldgekmjnkofaaE29
set_option linter.unusedVariables false
set_option linter.unusedSimpArgs false
namespace Go.Eng
open Go

@[simp] theorem gd_tt {o : Option V} : gd (.bool true) true o = o := rfl
@[simp] theorem gd_tf {o : Option V} : gd (.bool true) false o = some .undef := rfl
@[simp] theorem gd_ft {o : Option V} : gd (.bool false) true o = some .undef := rfl
@[simp] theorem gd_ff {o : Option V} : gd (.bool false) false o = o := rfl
@[simp] theorem gd_u {w : Bool} {o : Option V} : gd .undef w o = some .undef := rfl
@[simp] theorem gd2_tt {σ : Sto} {o : Option (V × Sto)} : gd2 (.bool true) true σ o = o := rfl
@[simp] theorem gd2_tf {σ : Sto} {o : Option (V × Sto)} : gd2 (.bool true) false σ o = some (.undef, σ) := rfl
@[simp] theorem gd2_ft {σ : Sto} {o : Option (V × Sto)} : gd2 (.bool false) true σ o = some (.undef, σ) := rfl
@[simp] theorem gd2_ff {σ : Sto} {o : Option (V × Sto)} : gd2 (.bool false) false σ o = o := rfl
@[simp] theorem gd2_u {w : Bool} {σ : Sto} {o : Option (V × Sto)} : gd2 .undef w σ o = some (.undef, σ) := rfl
@[simp] theorem gdR_tt {σ : Sto} {o : R} : gdR (.bool true) true σ o = o := rfl
@[simp] theorem gdR_tf {σ : Sto} {o : R} : gdR (.bool true) false σ o = some (.ret .undef, σ) := rfl
@[simp] theorem gdR_ft {σ : Sto} {o : R} : gdR (.bool false) true σ o = some (.ret .undef, σ) := rfl
@[simp] theorem gdR_ff {σ : Sto} {o : R} : gdR (.bool false) false σ o = o := rfl
@[simp] theorem gdR_u {w : Bool} {σ : Sto} {o : R} : gdR .undef w σ o = some (.ret .undef, σ) := rfl
@[simp] theorem chkB_b {b : Bool} {r : R} : chkB (.bool b) r = r := rfl
@[simp] theorem chkB_u {r : R} : chkB .undef r = r := rfl
@[simp] theorem condV_t {a b : R} : condV (.bool true) a b = a := rfl
@[simp] theorem condV_f {a b : R} : condV (.bool false) a b = b := rfl
@[simp] theorem pickS_t {a b : Option V} : pickS (.bool true) a b = a := rfl
@[simp] theorem pickS_f {a b : Option V} : pickS (.bool false) a b = b := rfl
theorem condV_b {c : Bool} {a b : R} : condV (.bool c) a b = if c = true then a else b := by cases c <;> rfl
@[simp] theorem bindR_ret {v : V} {σ : Sto} {k : V → Sto → R} : bindR (some (.ret v, σ)) k = k v σ := rfl
@[simp] theorem bind2_some {v : V} {σ : Sto} {k : V → Sto → R} : bind2 (some (v, σ)) k = k v σ := rfl
@[simp] theorem alS_eq {x : Blk} {σ : Sto} {k : Nat → Sto → R} : alS x σ k = k σ.next (σ.alloc x) := rfl
@[simp] theorem passK_nil {σ : Sto} {k : Pend → R} : passK [] σ k = k [] := rfl
@[simp] theorem passG_nil {x : V} {w : Bool} {σ : Sto} {k : Pend → R} : passG x w [] σ k = k [] := rfl
@[simp] theorem noteV_vp {n : Nat} {σ : Sto} {cs : List V} {pd : Pend} : noteV n σ (.vp cs) pd = some pd := rfl
@[simp] theorem noteG_vp {n : Nat} {σ : Sto} {x : V} {w : Bool} {cs : List V} {pd : Pend} : noteG n σ x w (.vp cs) pd = some pd := by
  cases x <;> try rfl
  simp only [noteG, noteV_vp]
  split <;> rfl
@[simp] theorem noteG_u {n : Nat} {σ : Sto} {x : V} {w : Bool} {pd : Pend} : noteG n σ x w .undef pd = some pd := by
  cases x <;> try rfl
  simp only [noteG, noteV]
  split <;> rfl

@[simp] theorem boxC_agg {cs : List V} : boxC (.agg cs) = if cs.all V.one = true then some cs else none := rfl
@[simp] theorem part_none {cs : List V} {off : Nat} : part cs off none = cs[off]? := rfl
@[simp] theorem part_some {cs : List V} {off k : Nat} : part cs off (some k) = if off + k ≤ cs.length then some (.agg ((cs.drop off).take k)) else none := rfl
@[simp] theorem V.one_bool {b : Bool} : V.one (.bool b) = true := rfl
@[simp] theorem V.one_int {k : IntKind} {n : Int} : V.one (.int k n) = true := rfl
@[simp] theorem V.one_str {s : List UInt8} : V.one (.str s) = true := rfl
@[simp] theorem V.one_nsl : V.one .nsl = true := rfl
@[simp] theorem V.one_sl {o : Own} {es : List V} : V.one (.sl o es) = true := rfl
@[simp] theorem V.one_nptr : V.one .nptr = true := rfl
@[simp] theorem V.one_ptr {b o : Nat} : V.one (.ptr b o) = true := rfl
@[simp] theorem V.one_vp {cs : List V} : V.one (.vp cs) = true := rfl
@[simp] theorem V.one_func {f : FuncId} {cs : List V} : V.one (.func f cs) = true := rfl
@[simp] theorem V.one_map {b : Nat} : V.one (.map b) = true := rfl
@[simp] theorem V.one_nmap : V.one .nmap = true := rfl
@[simp] theorem V.one_nfunc : V.one .nfunc = true := rfl
@[simp] theorem V.cells_agg {cs : List V} : V.cells (.agg cs) = cs := rfl
@[simp] theorem V.cells_bool {b : Bool} : V.cells (.bool b) = [.bool b] := rfl
@[simp] theorem V.cells_int {k : IntKind} {n : Int} : V.cells (.int k n) = [.int k n] := rfl
@[simp] theorem V.cells_str {s : List UInt8} : V.cells (.str s) = [.str s] := rfl
@[simp] theorem V.cells_nsl : V.cells .nsl = [.nsl] := rfl
@[simp] theorem V.cells_sl {o : Own} {es : List V} : V.cells (.sl o es) = [.sl o es] := rfl
@[simp] theorem V.cells_nptr : V.cells .nptr = [.nptr] := rfl
@[simp] theorem V.cells_ptr {b o : Nat} : V.cells (.ptr b o) = [.ptr b o] := rfl
@[simp] theorem V.cells_vp {cs : List V} : V.cells (.vp cs) = [.vp cs] := rfl
@[simp] theorem V.cells_func {f : FuncId} {cs : List V} : V.cells (.func f cs) = [.func f cs] := rfl
@[simp] theorem V.cells_map {b : Nat} : V.cells (.map b) = [.map b] := rfl
@[simp] theorem fieldAddrV_ptr {off b o : Nat} : fieldAddrV off (.ptr b o) = some (.ptr b (o + off)) := rfl
@[simp] theorem fieldAddrV_vp {off : Nat} {cs : List V} : fieldAddrV off (.vp cs) = if off ≤ cs.length then some (.vp (cs.drop off)) else none := rfl
@[simp] theorem ldV_vp {σ : Sto} {n : Option Nat} {cs : List V} : ldV σ n (.vp cs) = part cs 0 n := rfl
@[simp] theorem binV_str {op : BinOp} {kd : Kd} {a b : List UInt8} : binV op kd (.str a) (.str b) = strBin op a b := rfl
@[simp] theorem binV_int {op : BinOp} {kd : Kd} {k : IntKind} {a b : Int} : binV op kd (.int k a) (.int k b) = intBin op k a b := by simp [binV]
@[simp] theorem binV_beq {a b : Bool} : binV .eql .bool (.bool a) (.bool b) = some (.bool (a == b)) := rfl
@[simp] theorem binV_bne {a b : Bool} : binV .neq .bool (.bool a) (.bool b) = some (.bool (!(a == b))) := rfl
@[simp] theorem strBin_eql {a b : List UInt8} : strBin .eql a b = some (.bool (a == b)) := rfl
@[simp] theorem strBin_neq {a b : List UInt8} : strBin .neq a b = some (.bool (!(a == b))) := rfl
@[simp] theorem intBin_eql {k : IntKind} {a b : Int} : intBin .eql k a b = some (.bool (decide (a = b))) := rfl
@[simp] theorem intBin_neq {k : IntKind} {a b : Int} : intBin .neq k a b = some (.bool (!decide (a = b))) := rfl
@[simp] theorem intBin_lss {k : IntKind} {a b : Int} : intBin .lss k a b = some (.bool (decide (a < b))) := rfl
@[simp] theorem intBin_leq {k : IntKind} {a b : Int} : intBin .leq k a b = some (.bool (decide (a ≤ b))) := rfl
@[simp] theorem intBin_gtr {k : IntKind} {a b : Int} : intBin .gtr k a b = some (.bool (decide (b < a))) := rfl
@[simp] theorem intBin_geq {k : IntKind} {a b : Int} : intBin .geq k a b = some (.bool (decide (b ≤ a))) := rfl
@[simp] theorem intBin_add {k : IntKind} {a b : Int} : intBin .add k a b = some (.int k (wrapI k (a + b))) := rfl
@[simp] theorem intBin_sub {k : IntKind} {a b : Int} : intBin .sub k a b = some (.int k (wrapI k (a - b))) := rfl
@[simp] theorem notV_bool {b : Bool} : notV (.bool b) = some (.bool (!b)) := rfl
@[simp] theorem lenV_nsl {σ : Sto} : lenV .sl σ .nsl = some (.int .i64 0) := rfl
@[simp] theorem lenV_sl {σ : Sto} {o : Own} {es : List V} : lenV .sl σ (.sl o es) = some (.int .i64 es.length) := rfl
@[simp] theorem lenV_str {σ : Sto} {s : List UInt8} : lenV .str σ (.str s) = some (.int .i64 s.length) := rfl
@[simp] theorem fillC_nil {cs : List V} : fillC cs [] = some cs := rfl
@[simp] theorem fillC_cons {cs : List V} {off n : Nat} {v : V} {l : List (Nat × Nat × V)} : fillC cs ((off, n, v) :: l) = if v.cells.length = n ∧ off + n ≤ cs.length ∧ v.cells.all V.one = true then fillC (over cs off v.cells) l else none := rfl
@[simp] theorem fillD_nil {size : Nat} {cs : List V} : fillD size cs [] = some cs := rfl
@[simp] theorem fillD_cons {size : Nat} {cs : List V} {i : Nat} {v : V} {l : List (Nat × V)} : fillD size cs ((i, v) :: l) = if v.cells.length = size ∧ i < cs.length ∧ v.cells.all V.one = true then fillD size (cs.set i v) l else none := rfl
@[simp] theorem stC_eq {cs : List V} {off n : Nat} {x : V} : stC cs off n x = if x.cells.length = n ∧ off + n ≤ cs.length ∧ x.cells.all V.one = true then some (over cs off x.cells) else none := rfl
@[simp] theorem boxN_eq {n : Nat} {x : V} : boxN n x = if x.cells.length = n ∧ x.cells.all V.one = true then some x.cells else none := rfl
@[simp] theorem over_eq {cs new : List V} {off : Nat} : over cs off new = cs.take off ++ new ++ cs.drop (off + new.length) := rfl
@[simp] theorem extractV_tup {i : Nat} {vs : List V} : extractV i (.tup vs) = vs[i]? := rfl

theorem ldV_ptr {σ : Sto} {n : Option Nat} {b off : Nat} {cs : List V} (h : σ.blk b = some (.cells cs)) : ldV σ n (.ptr b off) = part cs off n := by simp [ldV, h]

theorem wrap64 {n : Int} (h : -9223372036854775808 ≤ n ∧ n ≤ 9223372036854775807) : wrapI .i64 n = n := by
  unfold wrapI
  exact if_pos h

end Go.Eng
