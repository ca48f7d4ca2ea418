/-
  NARROWER THAN 'FOR EVERY INPUT', by the rows' own cells (each row's printed sentence says how): SetsMore: loops · SetsTilde: loops · SetsNames: loops · SetsOf: loops · UnifyMore: loops.
  DERIVED. THE GIVEN ROWS OF THIS SEAT. 6 by the template 'for every input the law returns true; each argument reads behind the call as it read before'; 0 by the template 'total and deterministic' (their statements: YtjldgekmjnkofaaTotals.lean).
  GIVEN WITH THE SEED: the statements are not yours to turn. If you find one false, say at which input.
  Laid BY PROGRAM, IN A SANDBOX (cutbox-rows.mjs): the forced cells as the released guide's own fill.sh prints them over the translation a46f6e01ea554021… (all of the seat's roots in one cut). By AI agents, Wed Nov 11 2026. No macro, syntax, notation, axiom, sorry.
-/
import Derived.Test.YtjldgekmjnkofaaChecked
import GoSem.Claim
import GoSem.ClaimJoined
import GoSem.ClaimMapViews
import Derived.JoinedTies
import Derived.KernelRfl
namespace Go.Proofs.Ytjldgekmjnkofaa
/- THE CELL 'sum', in the pinned program and in every row, IS THE sha256 OF THE DUMP (.gsa) THAT YtjldgekmjnkofaaProg.lean LOADS. Nothing in Lean hashes anything: it is a label: what it is worth is what the hold of that sum in a sandbox is worth. -/
noncomputable def Try.pinned : Pinned := { name := "ytjldgekmjnkofaa", sum := "a46f6e01ea5540217a89035514d705181cbfa2efef7e2d096685fb7d0da9627f", checked := Try.checked }
namespace Rows
def none {H : Type} : Left H := { results := [], args := [] }

/-- 'demoticlaw11.SetsMore': WHATEVER THE INPUT: true; the input reads as it did. -/
def setsMoreSpec : ChangeSpec := { name := "setsMore", fn := fun _ => fun
  | [d1, d2, d3] => { results := [.lit (.bool true)], args := [d1, d2, d3] }
  | _ => none }
def setsMoreRow : OpenClaim := { program := "ytjldgekmjnkofaa", sum := "a46f6e01ea5540217a89035514d705181cbfa2efef7e2d096685fb7d0da9627f", func := "demotic/demoticlaw11.SetsMore", spec := "setsMore", unfollowed := true, recurses := true, loops := true, apart := false }
def SetsMoreSaid : Prop := setsMoreRow.holds Try.pinned (OpenSpec.ofChange setsMoreSpec)

/-- ITS FALSE NEIGHBOUR: 'it returns false'. Refute it at one input. -/
def setsMoreWrong : ChangeSpec := { name := "setsMore", fn := fun _ => fun
  | [d1, d2, d3] => { results := [.lit (.bool false)], args := [d1, d2, d3] }
  | _ => none }
def SetsMoreWrongFalsely : Prop := setsMoreRow.holds Try.pinned (OpenSpec.ofChange setsMoreWrong)

/-- 'demoticlaw11.SetsTilde': WHATEVER THE INPUT: true; the input reads as it did. -/
def setsTildeSpec : ChangeSpec := { name := "setsTilde", fn := fun _ => fun
  | [d1, d2, d3] => { results := [.lit (.bool true)], args := [d1, d2, d3] }
  | _ => none }
def setsTildeRow : OpenClaim := { program := "ytjldgekmjnkofaa", sum := "a46f6e01ea5540217a89035514d705181cbfa2efef7e2d096685fb7d0da9627f", func := "demotic/demoticlaw11.SetsTilde", spec := "setsTilde", unfollowed := true, recurses := true, loops := true, apart := false }
def SetsTildeSaid : Prop := setsTildeRow.holds Try.pinned (OpenSpec.ofChange setsTildeSpec)

/-- ITS FALSE NEIGHBOUR: 'it returns false'. Refute it at one input. -/
def setsTildeWrong : ChangeSpec := { name := "setsTilde", fn := fun _ => fun
  | [d1, d2, d3] => { results := [.lit (.bool false)], args := [d1, d2, d3] }
  | _ => none }
def SetsTildeWrongFalsely : Prop := setsTildeRow.holds Try.pinned (OpenSpec.ofChange setsTildeWrong)

/-- 'demoticlaw11.SetsNames': WHATEVER THE INPUT: true; the input reads as it did. -/
def setsNamesSpec : ChangeSpec := { name := "setsNames", fn := fun _ => fun
  | [d1, d2] => { results := [.lit (.bool true)], args := [d1, d2] }
  | _ => none }
def setsNamesRow : OpenClaim := { program := "ytjldgekmjnkofaa", sum := "a46f6e01ea5540217a89035514d705181cbfa2efef7e2d096685fb7d0da9627f", func := "demotic/demoticlaw11.SetsNames", spec := "setsNames", unfollowed := true, recurses := true, loops := true, apart := false }
def SetsNamesSaid : Prop := setsNamesRow.holds Try.pinned (OpenSpec.ofChange setsNamesSpec)

/-- ITS FALSE NEIGHBOUR: 'it returns false'. Refute it at one input. -/
def setsNamesWrong : ChangeSpec := { name := "setsNames", fn := fun _ => fun
  | [d1, d2] => { results := [.lit (.bool false)], args := [d1, d2] }
  | _ => none }
def SetsNamesWrongFalsely : Prop := setsNamesRow.holds Try.pinned (OpenSpec.ofChange setsNamesWrong)

/-- 'demoticlaw11.SetsOf': WHATEVER THE INPUT: true; the input reads as it did. -/
def setsOfSpec : ChangeSpec := { name := "setsOf", fn := fun _ => fun
  | [d1, d2, d3] => { results := [.lit (.bool true)], args := [d1, d2, d3] }
  | _ => none }
def setsOfRow : OpenClaim := { program := "ytjldgekmjnkofaa", sum := "a46f6e01ea5540217a89035514d705181cbfa2efef7e2d096685fb7d0da9627f", func := "demotic/demoticlaw11.SetsOf", spec := "setsOf", unfollowed := true, recurses := true, loops := true, apart := false }
def SetsOfSaid : Prop := setsOfRow.holds Try.pinned (OpenSpec.ofChange setsOfSpec)

/-- ITS FALSE NEIGHBOUR: 'it returns false'. Refute it at one input. -/
def setsOfWrong : ChangeSpec := { name := "setsOf", fn := fun _ => fun
  | [d1, d2, d3] => { results := [.lit (.bool false)], args := [d1, d2, d3] }
  | _ => none }
def SetsOfWrongFalsely : Prop := setsOfRow.holds Try.pinned (OpenSpec.ofChange setsOfWrong)

/-- 'demoticlaw12.UnifyMore': WHATEVER THE INPUT: true; the input reads as it did. -/
def unifyMoreSpec : ChangeSpec := { name := "unifyMore", fn := fun _ => fun
  | [d1, d2] => { results := [.lit (.bool true)], args := [d1, d2] }
  | _ => none }
def unifyMoreRow : OpenClaim := { program := "ytjldgekmjnkofaa", sum := "a46f6e01ea5540217a89035514d705181cbfa2efef7e2d096685fb7d0da9627f", func := "demotic/demoticlaw12.UnifyMore", spec := "unifyMore", unfollowed := true, recurses := true, loops := true, apart := false }
def UnifyMoreSaid : Prop := unifyMoreRow.holds Try.pinned (OpenSpec.ofChange unifyMoreSpec)

/-- ITS FALSE NEIGHBOUR: 'it returns false'. Refute it at one input. -/
def unifyMoreWrong : ChangeSpec := { name := "unifyMore", fn := fun _ => fun
  | [d1, d2] => { results := [.lit (.bool false)], args := [d1, d2] }
  | _ => none }
def UnifyMoreWrongFalsely : Prop := unifyMoreRow.holds Try.pinned (OpenSpec.ofChange unifyMoreWrong)

/-- 'demoticlaw12.UnifyNone': WHATEVER THE INPUT: true; the input reads as it did. -/
def unifyNoneSpec : ChangeSpec := { name := "unifyNone", fn := fun _ => fun
  | [d1, d2] => { results := [.lit (.bool true)], args := [d1, d2] }
  | _ => none }
def unifyNoneRow : OpenClaim := { program := "ytjldgekmjnkofaa", sum := "a46f6e01ea5540217a89035514d705181cbfa2efef7e2d096685fb7d0da9627f", func := "demotic/demoticlaw12.UnifyNone", spec := "unifyNone", unfollowed := true, recurses := true, apart := false }
def UnifyNoneSaid : Prop := unifyNoneRow.holds Try.pinned (OpenSpec.ofChange unifyNoneSpec)

/-- ITS FALSE NEIGHBOUR: 'it returns false'. Refute it at one input. -/
def unifyNoneWrong : ChangeSpec := { name := "unifyNone", fn := fun _ => fun
  | [d1, d2] => { results := [.lit (.bool false)], args := [d1, d2] }
  | _ => none }
def UnifyNoneWrongFalsely : Prop := unifyNoneRow.holds Try.pinned (OpenSpec.ofChange unifyNoneWrong)

/- THE SECOND FORM. 'bulk': how many values and letters a reading holds, each counted each time it is reached (what is shared counts as often as it is met; a slice's spare places count too). A statement '..UptoSaid' is the law's where the arguments, and the package variables that the reading takes, are together of bulk at most 1048576: NARROWER than '..Said'. Prove '..Said' where nothing that the law and all that it calls make is longer than what came in: it says more and counts as full. Else prove '..UptoSaid'. A law counts once. -/
mutual
def uptoBulk {H : Type} : DataW H → Nat
  | .lit (.string bytes) => bytes.length + 1
  | .lit _ => 1
  | .nil => 1
  | .ptr d => uptoBulk d + 1
  | .slice elems spare => uptoBulkAll elems + uptoBulkAll spare + 1
  | .agg parts => uptoBulkAll parts + 1
  | .iface _ d => uptoBulk d + 1
  | .map entries => uptoBulkEntries entries + 1
  | .held _ => 1
def uptoBulkAll {H : Type} : List (DataW H) → Nat
  | [] => 0
  | d :: r => uptoBulk d + uptoBulkAll r
def uptoBulkEntries {H : Type} : List (Lit × DataW H) → Nat
  | [] => 0
  | x :: r => uptoBulkEntry x + uptoBulkEntries r
def uptoBulkEntry {H : Type} : Lit × DataW H → Nat
  | (.string bytes, d) => bytes.length + uptoBulk d + 1
  | (_, d) => uptoBulk d + 1
 end
def uptoSmall : (H : Type) → List (DataW H) → Bool := fun _ ds => decide (uptoBulkAll ds ≤ 1048576)
def OpenSpec.upto (s : _root_.Go.ChangeSpec) : _root_.Go.OpenSpec := { _root_.Go.OpenSpec.ofChange s with cond := some uptoSmall }

/-- 'demoticlaw11.SetsMore', WHERE WHAT IT READS IS OF BULK AT MOST 1048576: true; the input reads as it did. -/
def setsMoreUptoRow : OpenClaim := { program := "ytjldgekmjnkofaa", sum := "a46f6e01ea5540217a89035514d705181cbfa2efef7e2d096685fb7d0da9627f", func := "demotic/demoticlaw11.SetsMore", spec := "setsMore", unfollowed := true, recurses := true, loops := true, apart := false, narrowed := true }
def SetsMoreUptoSaid : Prop := setsMoreUptoRow.holds Try.pinned (OpenSpec.upto setsMoreSpec)

/-- 'demoticlaw11.SetsTilde', WHERE WHAT IT READS IS OF BULK AT MOST 1048576: true; the input reads as it did. -/
def setsTildeUptoRow : OpenClaim := { program := "ytjldgekmjnkofaa", sum := "a46f6e01ea5540217a89035514d705181cbfa2efef7e2d096685fb7d0da9627f", func := "demotic/demoticlaw11.SetsTilde", spec := "setsTilde", unfollowed := true, recurses := true, loops := true, apart := false, narrowed := true }
def SetsTildeUptoSaid : Prop := setsTildeUptoRow.holds Try.pinned (OpenSpec.upto setsTildeSpec)

/-- 'demoticlaw11.SetsNames', WHERE WHAT IT READS IS OF BULK AT MOST 1048576: true; the input reads as it did. -/
def setsNamesUptoRow : OpenClaim := { program := "ytjldgekmjnkofaa", sum := "a46f6e01ea5540217a89035514d705181cbfa2efef7e2d096685fb7d0da9627f", func := "demotic/demoticlaw11.SetsNames", spec := "setsNames", unfollowed := true, recurses := true, loops := true, apart := false, narrowed := true }
def SetsNamesUptoSaid : Prop := setsNamesUptoRow.holds Try.pinned (OpenSpec.upto setsNamesSpec)

/-- 'demoticlaw11.SetsOf', WHERE WHAT IT READS IS OF BULK AT MOST 1048576: true; the input reads as it did. -/
def setsOfUptoRow : OpenClaim := { program := "ytjldgekmjnkofaa", sum := "a46f6e01ea5540217a89035514d705181cbfa2efef7e2d096685fb7d0da9627f", func := "demotic/demoticlaw11.SetsOf", spec := "setsOf", unfollowed := true, recurses := true, loops := true, apart := false, narrowed := true }
def SetsOfUptoSaid : Prop := setsOfUptoRow.holds Try.pinned (OpenSpec.upto setsOfSpec)

/-- 'demoticlaw12.UnifyMore', WHERE WHAT IT READS IS OF BULK AT MOST 1048576: true; the input reads as it did. -/
def unifyMoreUptoRow : OpenClaim := { program := "ytjldgekmjnkofaa", sum := "a46f6e01ea5540217a89035514d705181cbfa2efef7e2d096685fb7d0da9627f", func := "demotic/demoticlaw12.UnifyMore", spec := "unifyMore", unfollowed := true, recurses := true, loops := true, apart := false, narrowed := true }
def UnifyMoreUptoSaid : Prop := unifyMoreUptoRow.holds Try.pinned (OpenSpec.upto unifyMoreSpec)

/-- 'demoticlaw12.UnifyNone', WHERE WHAT IT READS IS OF BULK AT MOST 1048576: true; the input reads as it did. -/
def unifyNoneUptoRow : OpenClaim := { program := "ytjldgekmjnkofaa", sum := "a46f6e01ea5540217a89035514d705181cbfa2efef7e2d096685fb7d0da9627f", func := "demotic/demoticlaw12.UnifyNone", spec := "unifyNone", unfollowed := true, recurses := true, apart := false, narrowed := true }
def UnifyNoneUptoSaid : Prop := unifyNoneUptoRow.holds Try.pinned (OpenSpec.upto unifyNoneSpec)

end Rows
end Go.Proofs.Ytjldgekmjnkofaa
