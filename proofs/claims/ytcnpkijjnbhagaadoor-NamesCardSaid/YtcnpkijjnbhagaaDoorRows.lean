/-
  NARROWER THAN 'FOR EVERY INPUT', by the rows' own cells (each row's printed sentence says how): Names: laid.
  DERIVED. THE GIVEN ROWS OF THIS SEAT. 1 by the template 'for every input the law returns true; each argument reads behind the call as it read before'; 0 by the template 'total and deterministic' (their statements: YtcnpkijjnbhagaaDoorTotals.lean).
  GIVEN WITH THE SEED: the statements are not yours to turn. If you find one false, say at which input.
  Laid BY PROGRAM, IN A SANDBOX (cutbox-rows.mjs): the forced cells as the released guide's own fill.sh prints them over the translation eb29ef249e7523e9… (all of the seat's roots in one cut). By AI agents, Wed Nov 11 2026. No macro, syntax, notation, axiom, sorry.
-/
import Derived.Test.YtcnpkijjnbhagaaDoorChecked
import GoSem.Claim
import GoSem.ClaimJoined
import GoSem.ClaimMapViews
import Derived.JoinedTies
import Derived.KernelRfl
namespace Go.Proofs.YtcnpkijjnbhagaaDoor
/- THE CELL 'sum', in the pinned program and in every row, IS THE sha256 OF THE DUMP (.gsa) THAT YtcnpkijjnbhagaaDoorProg.lean LOADS. Nothing in Lean hashes anything: it is a label: what it is worth is what the hold of that sum in a sandbox is worth. -/
noncomputable def Tryd.pinned : Pinned := { name := "ytcnpkijjnbhagaadoor", sum := "eb29ef249e7523e9a05e5d21f3a524bd079a83226e650ed5733bca74ccea2ac9", checked := Tryd.checked }
namespace Rows
def none {H : Type} : Left H := { results := [], args := [] }

/- WHAT THE LISTED PACKAGE-LEVEL VARIABLES READ AS WHEN THE CALL BEGINS. Each datum BY PROGRAM (the guide's laid-datum.mjs) off the statement by which the dump's own 'gosem.cut.vars' lays the variable. In a bare row this is a premise. The card (YtcnpkijjnbhagaaDoorCards.lean) ties it to the program's text. -/
def laid_bidiguard_guard_ErrLong {H : Type} : DataW H := .iface "*errors.errorString" (.ptr (.agg [.lit (.string [97, 32, 116, 101, 120, 116, 32, 116, 104, 97, 116, 32, 105, 115, 32, 116, 111, 111, 32, 108, 111, 110, 103])]))
def laid_bidiguard_guard_ErrText {H : Type} : DataW H := .iface "*errors.errorString" (.ptr (.agg [.lit (.string [110, 111, 32, 118, 97, 108, 105, 100, 32, 116, 101, 120, 116])]))
def laid_bidiguard_guard_ErrCode {H : Type} : DataW H := .iface "*errors.errorString" (.ptr (.agg [.lit (.string [97, 32, 108, 101, 116, 116, 101, 114, 32, 105, 110, 32, 99, 111, 100, 101, 32, 116, 104, 97, 116, 32, 116, 117, 114, 110, 115, 32, 116, 104, 101, 32, 108, 105, 110, 101])]))

/-- 'bidiguardlaw.Names': WHATEVER THE INPUT: true; the input reads as it did. -/
def namesSpec : ChangeSpec := { name := "names", fn := fun _ => fun
  | [] => { results := [.lit (.bool true)], args := [] }
  | _ => none }
def namesRow : OpenClaim := { program := "ytcnpkijjnbhagaadoor", sum := "eb29ef249e7523e9a05e5d21f3a524bd079a83226e650ed5733bca74ccea2ac9", func := "bidiguard/bidiguardlaw.Names", spec := "names", named := ["bidiguard/guard.ErrLong", "bidiguard/guard.ErrText", "bidiguard/guard.ErrCode"], apart := false, laid := [("bidiguard/guard.ErrLong", laid_bidiguard_guard_ErrLong), ("bidiguard/guard.ErrText", laid_bidiguard_guard_ErrText), ("bidiguard/guard.ErrCode", laid_bidiguard_guard_ErrCode)] }
def NamesSaid : Prop := namesRow.holds Tryd.pinned (OpenSpec.ofChange namesSpec)

/-- ITS FALSE NEIGHBOUR: 'it returns false'. Refute it at one input. -/
def namesWrong : ChangeSpec := { name := "names", fn := fun _ => fun
  | [] => { results := [.lit (.bool false)], args := [] }
  | _ => none }
def NamesWrongFalsely : Prop := namesRow.holds Tryd.pinned (OpenSpec.ofChange namesWrong)

/- THE SECOND FORM. 'bulk': how many values and letters a reading holds, each counted each time it is reached (what is shared counts as often as it is met; a slice's spare places count too). A statement '..UptoSaid' is the law's where the arguments, and the package variables that the reading takes, are together of bulk at most 1048576: NARROWER than '..Said'. Prove '..Said' where nothing that the law and all that it calls make is longer than what came in: it says more and counts as full. Else prove '..UptoSaid'. A law counts once. -/
mutual
def uptoBulk {H : Type} : DataW H → Nat
  | .lit (.string bytes) => bytes.length + 1
  | .lit _ => 1
  | .nil => 1
  | .ptr d => uptoBulk d + 1
  | .slice elems spare => uptoBulkAll elems + uptoBulkAll spare + 1
  | .agg parts => uptoBulkAll parts + 1
  | .iface _ d => uptoBulk d + 1
  | .map entries => uptoBulkEntries entries + 1
  | .held _ => 1
def uptoBulkAll {H : Type} : List (DataW H) → Nat
  | [] => 0
  | d :: r => uptoBulk d + uptoBulkAll r
def uptoBulkEntries {H : Type} : List (Lit × DataW H) → Nat
  | [] => 0
  | x :: r => uptoBulkEntry x + uptoBulkEntries r
def uptoBulkEntry {H : Type} : Lit × DataW H → Nat
  | (.string bytes, d) => bytes.length + uptoBulk d + 1
  | (_, d) => uptoBulk d + 1
 end
def uptoSmall : (H : Type) → List (DataW H) → Bool := fun _ ds => decide (uptoBulkAll ds ≤ 1048576)
def OpenSpec.upto (s : _root_.Go.ChangeSpec) : _root_.Go.OpenSpec := { _root_.Go.OpenSpec.ofChange s with cond := some uptoSmall }

/-- 'bidiguardlaw.Names', WHERE WHAT IT READS IS OF BULK AT MOST 1048576: true; the input reads as it did. -/
def namesUptoRow : OpenClaim := { program := "ytcnpkijjnbhagaadoor", sum := "eb29ef249e7523e9a05e5d21f3a524bd079a83226e650ed5733bca74ccea2ac9", func := "bidiguard/bidiguardlaw.Names", spec := "names", named := ["bidiguard/guard.ErrLong", "bidiguard/guard.ErrText", "bidiguard/guard.ErrCode"], apart := false, laid := [("bidiguard/guard.ErrLong", laid_bidiguard_guard_ErrLong), ("bidiguard/guard.ErrText", laid_bidiguard_guard_ErrText), ("bidiguard/guard.ErrCode", laid_bidiguard_guard_ErrCode)], narrowed := true }
def NamesUptoSaid : Prop := namesUptoRow.holds Tryd.pinned (OpenSpec.upto namesSpec)

end Rows
end Go.Proofs.YtcnpkijjnbhagaaDoor
