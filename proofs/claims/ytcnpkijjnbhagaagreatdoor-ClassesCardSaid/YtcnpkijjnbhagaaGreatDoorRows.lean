/-
  NARROWER THAN 'FOR EVERY INPUT', by the rows' own cells (each row's printed sentence says how): Classes: laid · Parts: laid · Applies: laid.
  DERIVED. THE GIVEN ROWS OF THIS SEAT. 3 by the template 'for every input the law returns true; each argument reads behind the call as it read before'; 0 by the template 'total and deterministic' (their statements: YtcnpkijjnbhagaaGreatDoorTotals.lean).
  GIVEN WITH THE SEED: the statements are not yours to turn. If you find one false, say at which input.
  Laid BY PROGRAM, IN A SANDBOX (cutbox-rows.mjs): the forced cells as the released guide's own fill.sh prints them over the translation a4fed02715086c15… (all of the seat's roots in one cut). By AI agents, Wed Nov 11 2026. No macro, syntax, notation, axiom, sorry.
-/
import Derived.Test.YtcnpkijjnbhagaaGreatDoorChecked
import GoSem.PinnedTables
import GoSem.Claim
import GoSem.ClaimJoined
import GoSem.ClaimMapViews
import Derived.JoinedTies
import Derived.KernelRfl
namespace Go.Proofs.YtcnpkijjnbhagaaGreatDoor
/- THE CELL 'sum', in the pinned program and in every row, IS THE sha256 OF THE DUMP (.gsa) THAT YtcnpkijjnbhagaaGreatDoorProg.lean LOADS. Nothing in Lean hashes anything: it is a label: what it is worth is what the hold of that sum in a sandbox is worth. -/
noncomputable def Tryz.pinned : Pinned := { name := "ytcnpkijjnbhagaagreatdoor", sum := "a4fed02715086c15657fb478987064446e3bd67e156b12f24ed9ba70af03294e", checked := Tryz.checked }
namespace Rows
def none {H : Type} : Left H := { results := [], args := [] }

/- WHAT THE LISTED PACKAGE-LEVEL VARIABLES READ AS WHEN THE CALL BEGINS. Each datum BY PROGRAM (the guide's laid-datum.mjs) off the statement by which the dump's own 'gosem.cut.vars' lays the variable. In a bare row this is a premise. The card (YtcnpkijjnbhagaaGreatDoorCards.lean) ties it to the program's text. -/
def laid_bidiguard_uba_table {H : Type} : DataW H := .slice [.agg [.lit (.int .i32 9), .lit (.int .i32 9), .lit (.int .i64 10)], .agg [.lit (.int .i32 32), .lit (.int .i32 32), .lit (.int .i64 11)], .agg [.lit (.int .i32 33), .lit (.int .i32 34), .lit (.int .i64 12)], .agg [.lit (.int .i32 35), .lit (.int .i32 37), .lit (.int .i64 5)], .agg [.lit (.int .i32 38), .lit (.int .i32 42), .lit (.int .i64 12)], .agg [.lit (.int .i32 43), .lit (.int .i32 43), .lit (.int .i64 4)], .agg [.lit (.int .i32 44), .lit (.int .i32 44), .lit (.int .i64 7)], .agg [.lit (.int .i32 45), .lit (.int .i32 45), .lit (.int .i64 4)], .agg [.lit (.int .i32 46), .lit (.int .i32 47), .lit (.int .i64 7)], .agg [.lit (.int .i32 48), .lit (.int .i32 57), .lit (.int .i64 3)], .agg [.lit (.int .i32 58), .lit (.int .i32 58), .lit (.int .i64 7)], .agg [.lit (.int .i32 59), .lit (.int .i32 64), .lit (.int .i64 12)], .agg [.lit (.int .i32 91), .lit (.int .i32 96), .lit (.int .i64 12)], .agg [.lit (.int .i32 123), .lit (.int .i32 126), .lit (.int .i64 12)], .agg [.lit (.int .i32 173), .lit (.int .i32 173), .lit (.int .i64 9)], .agg [.lit (.int .i32 768), .lit (.int .i32 879), .lit (.int .i64 8)], .agg [.lit (.int .i32 1488), .lit (.int .i32 1514), .lit (.int .i64 1)], .agg [.lit (.int .i32 1564), .lit (.int .i32 1564), .lit (.int .i64 2)], .agg [.lit (.int .i32 1575), .lit (.int .i32 1610), .lit (.int .i64 2)], .agg [.lit (.int .i32 1611), .lit (.int .i32 1618), .lit (.int .i64 8)], .agg [.lit (.int .i32 1632), .lit (.int .i32 1641), .lit (.int .i64 6)], .agg [.lit (.int .i32 8195), .lit (.int .i32 8195), .lit (.int .i64 11)], .agg [.lit (.int .i32 8203), .lit (.int .i32 8203), .lit (.int .i64 9)], .agg [.lit (.int .i32 8207), .lit (.int .i32 8207), .lit (.int .i64 1)], .agg [.lit (.int .i32 8234), .lit (.int .i32 8234), .lit (.int .i64 13)], .agg [.lit (.int .i32 8235), .lit (.int .i32 8235), .lit (.int .i64 14)], .agg [.lit (.int .i32 8236), .lit (.int .i32 8236), .lit (.int .i64 17)], .agg [.lit (.int .i32 8237), .lit (.int .i32 8237), .lit (.int .i64 15)], .agg [.lit (.int .i32 8238), .lit (.int .i32 8238), .lit (.int .i64 16)], .agg [.lit (.int .i32 8294), .lit (.int .i32 8294), .lit (.int .i64 18)], .agg [.lit (.int .i32 8295), .lit (.int .i32 8295), .lit (.int .i64 19)], .agg [.lit (.int .i32 8296), .lit (.int .i32 8296), .lit (.int .i64 20)], .agg [.lit (.int .i32 8297), .lit (.int .i32 8297), .lit (.int .i64 21)], .agg [.lit (.int .i32 8364), .lit (.int .i32 8364), .lit (.int .i64 5)], .agg [.lit (.int .i32 9001), .lit (.int .i32 9002), .lit (.int .i64 12)], .agg [.lit (.int .i32 12296), .lit (.int .i32 12297), .lit (.int .i64 12)]] []
def laid_unicode_utf8_acceptRanges {H : Type} : DataW H := .agg [.agg [.lit (.int .u8 128), .lit (.int .u8 191)], .agg [.lit (.int .u8 160), .lit (.int .u8 191)], .agg [.lit (.int .u8 128), .lit (.int .u8 159)], .agg [.lit (.int .u8 144), .lit (.int .u8 191)], .agg [.lit (.int .u8 128), .lit (.int .u8 143)], .agg [.lit (.int .u8 0), .lit (.int .u8 0)], .agg [.lit (.int .u8 0), .lit (.int .u8 0)], .agg [.lit (.int .u8 0), .lit (.int .u8 0)], .agg [.lit (.int .u8 0), .lit (.int .u8 0)], .agg [.lit (.int .u8 0), .lit (.int .u8 0)], .agg [.lit (.int .u8 0), .lit (.int .u8 0)], .agg [.lit (.int .u8 0), .lit (.int .u8 0)], .agg [.lit (.int .u8 0), .lit (.int .u8 0)], .agg [.lit (.int .u8 0), .lit (.int .u8 0)], .agg [.lit (.int .u8 0), .lit (.int .u8 0)], .agg [.lit (.int .u8 0), .lit (.int .u8 0)]]
def laid_errors_errorType {H : Type} : DataW H := .iface "internal/reflectlite.rtype" (.agg [.ptr (.lit (.string [101, 114, 114, 111, 114]))])
def laid_bidiguard_guard_ErrLong {H : Type} : DataW H := .iface "*errors.errorString" (.ptr (.agg [.lit (.string [97, 32, 116, 101, 120, 116, 32, 116, 104, 97, 116, 32, 105, 115, 32, 116, 111, 111, 32, 108, 111, 110, 103])]))
def laid_bidiguard_guard_ErrText {H : Type} : DataW H := .iface "*errors.errorString" (.ptr (.agg [.lit (.string [110, 111, 32, 118, 97, 108, 105, 100, 32, 116, 101, 120, 116])]))
def laid_bidiguard_guard_ErrCode {H : Type} : DataW H := .iface "*errors.errorString" (.ptr (.agg [.lit (.string [97, 32, 108, 101, 116, 116, 101, 114, 32, 105, 110, 32, 99, 111, 100, 101, 32, 116, 104, 97, 116, 32, 116, 117, 114, 110, 115, 32, 116, 104, 101, 32, 108, 105, 110, 101])]))
/-- One of Go's own tables, pinned by name: the form's constant. -/
def laid_unicode_utf8_first : DataW Unit := Go.Pinned.utf8First

/-- 'bidiguardlaw.Classes': WHATEVER THE INPUT: true; the input reads as it did. -/
def classesSpec : ChangeSpec := { name := "classes", fn := fun _ => fun
  | [d] => { results := [.lit (.bool true)], args := [d] }
  | _ => none }
def classesRow : OpenClaim := { program := "ytcnpkijjnbhagaagreatdoor", sum := "a4fed02715086c15657fb478987064446e3bd67e156b12f24ed9ba70af03294e", func := "bidiguard/bidiguardlaw.Classes", spec := "classes", inPlace := ["internal/bytealg.IndexByteString", "internal/bytealg.IndexString", "internal/reflectlite.ValueOf", "(internal/reflectlite.Value).Type", "(internal/reflectlite.Value).IsNil", "internal/reflectlite.TypeOf", "(internal/reflectlite.Value).Elem", "(internal/reflectlite.Value).Set", "internal/bytealg.CountString", "internal/abi.NoEscape"], unfollowed := true, recurses := true, named := ["bidiguard/guard.ErrLong", "bidiguard/guard.ErrText", "unicode/utf8.first", "unicode/utf8.acceptRanges", "internal/bytealg.MaxLen", "bidiguard/uba.table", "bidiguard/guard.ErrCode", "errors.errorType", "bidiguard/uba.rules"], plainKeys := false, apart := false, laid := [("bidiguard/uba.table", laid_bidiguard_uba_table), ("unicode/utf8.acceptRanges", laid_unicode_utf8_acceptRanges), ("errors.errorType", laid_errors_errorType), ("bidiguard/guard.ErrLong", laid_bidiguard_guard_ErrLong), ("bidiguard/guard.ErrText", laid_bidiguard_guard_ErrText), ("bidiguard/guard.ErrCode", laid_bidiguard_guard_ErrCode), ("unicode/utf8.first", laid_unicode_utf8_first)] }
def ClassesSaid : Prop := classesRow.holds Tryz.pinned (OpenSpec.ofChange classesSpec)

/-- ITS FALSE NEIGHBOUR: 'it returns false'. Refute it at one input. -/
def classesWrong : ChangeSpec := { name := "classes", fn := fun _ => fun
  | [d] => { results := [.lit (.bool false)], args := [d] }
  | _ => none }
def ClassesWrongFalsely : Prop := classesRow.holds Tryz.pinned (OpenSpec.ofChange classesWrong)

/-- 'bidiguardlaw.Parts': WHATEVER THE INPUT: true; the input reads as it did. -/
def partsSpec : ChangeSpec := { name := "parts", fn := fun _ => fun
  | [d] => { results := [.lit (.bool true)], args := [d] }
  | _ => none }
def partsRow : OpenClaim := { program := "ytcnpkijjnbhagaagreatdoor", sum := "a4fed02715086c15657fb478987064446e3bd67e156b12f24ed9ba70af03294e", func := "bidiguard/bidiguardlaw.Parts", spec := "parts", inPlace := ["internal/bytealg.IndexByteString", "internal/bytealg.IndexString", "internal/reflectlite.ValueOf", "(internal/reflectlite.Value).Type", "(internal/reflectlite.Value).IsNil", "internal/reflectlite.TypeOf", "(internal/reflectlite.Value).Elem", "(internal/reflectlite.Value).Set", "internal/bytealg.CountString", "internal/abi.NoEscape"], unfollowed := true, recurses := true, named := ["bidiguard/guard.ErrLong", "bidiguard/guard.ErrText", "unicode/utf8.first", "unicode/utf8.acceptRanges", "internal/bytealg.MaxLen", "bidiguard/uba.table", "bidiguard/guard.ErrCode", "errors.errorType", "bidiguard/uba.rules"], plainKeys := false, apart := false, laid := [("bidiguard/uba.table", laid_bidiguard_uba_table), ("unicode/utf8.acceptRanges", laid_unicode_utf8_acceptRanges), ("errors.errorType", laid_errors_errorType), ("bidiguard/guard.ErrLong", laid_bidiguard_guard_ErrLong), ("bidiguard/guard.ErrText", laid_bidiguard_guard_ErrText), ("bidiguard/guard.ErrCode", laid_bidiguard_guard_ErrCode), ("unicode/utf8.first", laid_unicode_utf8_first)] }
def PartsSaid : Prop := partsRow.holds Tryz.pinned (OpenSpec.ofChange partsSpec)

/-- ITS FALSE NEIGHBOUR: 'it returns false'. Refute it at one input. -/
def partsWrong : ChangeSpec := { name := "parts", fn := fun _ => fun
  | [d] => { results := [.lit (.bool false)], args := [d] }
  | _ => none }
def PartsWrongFalsely : Prop := partsRow.holds Tryz.pinned (OpenSpec.ofChange partsWrong)

/-- 'bidiguardlaw.Applies': WHATEVER THE INPUT: true; the input reads as it did. -/
def appliesSpec : ChangeSpec := { name := "applies", fn := fun _ => fun
  | [d] => { results := [.lit (.bool true)], args := [d] }
  | _ => none }
def appliesRow : OpenClaim := { program := "ytcnpkijjnbhagaagreatdoor", sum := "a4fed02715086c15657fb478987064446e3bd67e156b12f24ed9ba70af03294e", func := "bidiguard/bidiguardlaw.Applies", spec := "applies", inPlace := ["internal/bytealg.IndexByteString", "internal/bytealg.IndexString", "internal/reflectlite.ValueOf", "(internal/reflectlite.Value).Type", "(internal/reflectlite.Value).IsNil", "internal/reflectlite.TypeOf", "(internal/reflectlite.Value).Elem", "(internal/reflectlite.Value).Set", "internal/bytealg.CountString", "internal/abi.NoEscape"], unfollowed := true, recurses := true, named := ["bidiguard/guard.ErrLong", "bidiguard/guard.ErrText", "unicode/utf8.first", "unicode/utf8.acceptRanges", "internal/bytealg.MaxLen", "bidiguard/uba.table", "bidiguard/guard.ErrCode", "errors.errorType", "bidiguard/uba.rules"], plainKeys := false, apart := false, laid := [("bidiguard/uba.table", laid_bidiguard_uba_table), ("unicode/utf8.acceptRanges", laid_unicode_utf8_acceptRanges), ("errors.errorType", laid_errors_errorType), ("bidiguard/guard.ErrLong", laid_bidiguard_guard_ErrLong), ("bidiguard/guard.ErrText", laid_bidiguard_guard_ErrText), ("bidiguard/guard.ErrCode", laid_bidiguard_guard_ErrCode), ("unicode/utf8.first", laid_unicode_utf8_first)] }
def AppliesSaid : Prop := appliesRow.holds Tryz.pinned (OpenSpec.ofChange appliesSpec)

/-- ITS FALSE NEIGHBOUR: 'it returns false'. Refute it at one input. -/
def appliesWrong : ChangeSpec := { name := "applies", fn := fun _ => fun
  | [d] => { results := [.lit (.bool false)], args := [d] }
  | _ => none }
def AppliesWrongFalsely : Prop := appliesRow.holds Tryz.pinned (OpenSpec.ofChange appliesWrong)

/- THE SECOND FORM. 'bulk': how many values and letters a reading holds, each counted each time it is reached (what is shared counts as often as it is met; a slice's spare places count too). A statement '..UptoSaid' is the law's where the arguments, and the package variables that the reading takes, are together of bulk at most 1048576: NARROWER than '..Said'. Prove '..Said' where nothing that the law and all that it calls make is longer than what came in: it says more and counts as full. Else prove '..UptoSaid'. A law counts once. -/
mutual
def uptoBulk {H : Type} : DataW H → Nat
  | .lit (.string bytes) => bytes.length + 1
  | .lit _ => 1
  | .nil => 1
  | .ptr d => uptoBulk d + 1
  | .slice elems spare => uptoBulkAll elems + uptoBulkAll spare + 1
  | .agg parts => uptoBulkAll parts + 1
  | .iface _ d => uptoBulk d + 1
  | .map entries => uptoBulkEntries entries + 1
  | .held _ => 1
def uptoBulkAll {H : Type} : List (DataW H) → Nat
  | [] => 0
  | d :: r => uptoBulk d + uptoBulkAll r
def uptoBulkEntries {H : Type} : List (Lit × DataW H) → Nat
  | [] => 0
  | x :: r => uptoBulkEntry x + uptoBulkEntries r
def uptoBulkEntry {H : Type} : Lit × DataW H → Nat
  | (.string bytes, d) => bytes.length + uptoBulk d + 1
  | (_, d) => uptoBulk d + 1
 end
def uptoSmall : (H : Type) → List (DataW H) → Bool := fun _ ds => decide (uptoBulkAll ds ≤ 1048576)
def OpenSpec.upto (s : _root_.Go.ChangeSpec) : _root_.Go.OpenSpec := { _root_.Go.OpenSpec.ofChange s with cond := some uptoSmall }

/-- 'bidiguardlaw.Classes', WHERE WHAT IT READS IS OF BULK AT MOST 1048576: true; the input reads as it did. -/
def classesUptoRow : OpenClaim := { program := "ytcnpkijjnbhagaagreatdoor", sum := "a4fed02715086c15657fb478987064446e3bd67e156b12f24ed9ba70af03294e", func := "bidiguard/bidiguardlaw.Classes", spec := "classes", inPlace := ["internal/bytealg.IndexByteString", "internal/bytealg.IndexString", "internal/reflectlite.ValueOf", "(internal/reflectlite.Value).Type", "(internal/reflectlite.Value).IsNil", "internal/reflectlite.TypeOf", "(internal/reflectlite.Value).Elem", "(internal/reflectlite.Value).Set", "internal/bytealg.CountString", "internal/abi.NoEscape"], unfollowed := true, recurses := true, named := ["bidiguard/guard.ErrLong", "bidiguard/guard.ErrText", "unicode/utf8.first", "unicode/utf8.acceptRanges", "internal/bytealg.MaxLen", "bidiguard/uba.table", "bidiguard/guard.ErrCode", "errors.errorType", "bidiguard/uba.rules"], plainKeys := false, apart := false, laid := [("bidiguard/uba.table", laid_bidiguard_uba_table), ("unicode/utf8.acceptRanges", laid_unicode_utf8_acceptRanges), ("errors.errorType", laid_errors_errorType), ("bidiguard/guard.ErrLong", laid_bidiguard_guard_ErrLong), ("bidiguard/guard.ErrText", laid_bidiguard_guard_ErrText), ("bidiguard/guard.ErrCode", laid_bidiguard_guard_ErrCode), ("unicode/utf8.first", laid_unicode_utf8_first)], narrowed := true }
def ClassesUptoSaid : Prop := classesUptoRow.holds Tryz.pinned (OpenSpec.upto classesSpec)

/-- 'bidiguardlaw.Parts', WHERE WHAT IT READS IS OF BULK AT MOST 1048576: true; the input reads as it did. -/
def partsUptoRow : OpenClaim := { program := "ytcnpkijjnbhagaagreatdoor", sum := "a4fed02715086c15657fb478987064446e3bd67e156b12f24ed9ba70af03294e", func := "bidiguard/bidiguardlaw.Parts", spec := "parts", inPlace := ["internal/bytealg.IndexByteString", "internal/bytealg.IndexString", "internal/reflectlite.ValueOf", "(internal/reflectlite.Value).Type", "(internal/reflectlite.Value).IsNil", "internal/reflectlite.TypeOf", "(internal/reflectlite.Value).Elem", "(internal/reflectlite.Value).Set", "internal/bytealg.CountString", "internal/abi.NoEscape"], unfollowed := true, recurses := true, named := ["bidiguard/guard.ErrLong", "bidiguard/guard.ErrText", "unicode/utf8.first", "unicode/utf8.acceptRanges", "internal/bytealg.MaxLen", "bidiguard/uba.table", "bidiguard/guard.ErrCode", "errors.errorType", "bidiguard/uba.rules"], plainKeys := false, apart := false, laid := [("bidiguard/uba.table", laid_bidiguard_uba_table), ("unicode/utf8.acceptRanges", laid_unicode_utf8_acceptRanges), ("errors.errorType", laid_errors_errorType), ("bidiguard/guard.ErrLong", laid_bidiguard_guard_ErrLong), ("bidiguard/guard.ErrText", laid_bidiguard_guard_ErrText), ("bidiguard/guard.ErrCode", laid_bidiguard_guard_ErrCode), ("unicode/utf8.first", laid_unicode_utf8_first)], narrowed := true }
def PartsUptoSaid : Prop := partsUptoRow.holds Tryz.pinned (OpenSpec.upto partsSpec)

/-- 'bidiguardlaw.Applies', WHERE WHAT IT READS IS OF BULK AT MOST 1048576: true; the input reads as it did. -/
def appliesUptoRow : OpenClaim := { program := "ytcnpkijjnbhagaagreatdoor", sum := "a4fed02715086c15657fb478987064446e3bd67e156b12f24ed9ba70af03294e", func := "bidiguard/bidiguardlaw.Applies", spec := "applies", inPlace := ["internal/bytealg.IndexByteString", "internal/bytealg.IndexString", "internal/reflectlite.ValueOf", "(internal/reflectlite.Value).Type", "(internal/reflectlite.Value).IsNil", "internal/reflectlite.TypeOf", "(internal/reflectlite.Value).Elem", "(internal/reflectlite.Value).Set", "internal/bytealg.CountString", "internal/abi.NoEscape"], unfollowed := true, recurses := true, named := ["bidiguard/guard.ErrLong", "bidiguard/guard.ErrText", "unicode/utf8.first", "unicode/utf8.acceptRanges", "internal/bytealg.MaxLen", "bidiguard/uba.table", "bidiguard/guard.ErrCode", "errors.errorType", "bidiguard/uba.rules"], plainKeys := false, apart := false, laid := [("bidiguard/uba.table", laid_bidiguard_uba_table), ("unicode/utf8.acceptRanges", laid_unicode_utf8_acceptRanges), ("errors.errorType", laid_errors_errorType), ("bidiguard/guard.ErrLong", laid_bidiguard_guard_ErrLong), ("bidiguard/guard.ErrText", laid_bidiguard_guard_ErrText), ("bidiguard/guard.ErrCode", laid_bidiguard_guard_ErrCode), ("unicode/utf8.first", laid_unicode_utf8_first)], narrowed := true }
def AppliesUptoSaid : Prop := appliesUptoRow.holds Tryz.pinned (OpenSpec.upto appliesSpec)

end Rows
end Go.Proofs.YtcnpkijjnbhagaaGreatDoor
