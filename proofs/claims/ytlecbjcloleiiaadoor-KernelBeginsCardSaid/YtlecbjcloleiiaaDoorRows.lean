/-
  NARROWER THAN 'FOR EVERY INPUT', by the rows' own cells (each row's printed sentence says how): KernelFiles: laid · KernelOwn: laid · KernelRows: laid · KernelMarks: laid · KernelPlays: laid · KernelBegins: laid.
  DERIVED. THE GIVEN ROWS OF THIS SEAT. 6 by the template 'for every input the law returns true; each argument reads behind the call as it read before'; 0 by the template 'total and deterministic' (their statements: YtlecbjcloleiiaaDoorTotals.lean).
  GIVEN WITH THE SEED: the statements are not yours to turn. If you find one false, say at which input.
  Laid BY PROGRAM, IN A SANDBOX (cutbox-rows.mjs): the forced cells as the released guide's own fill.sh prints them over the translation 092061d420afe9cb… (all of the seat's roots in one cut). By AI agents, Wed Nov 11 2026. No macro, syntax, notation, axiom, sorry.
-/
import Derived.Test.YtlecbjcloleiiaaDoorChecked
import GoSem.Claim
import GoSem.ClaimJoined
import GoSem.ClaimMapViews
import Derived.JoinedTies
import Derived.KernelRfl
namespace Go.Proofs.YtlecbjcloleiiaaDoor
/- THE CELL 'sum', in the pinned program and in every row, IS THE sha256 OF THE DUMP (.gsa) THAT YtlecbjcloleiiaaDoorProg.lean LOADS. Nothing in Lean hashes anything: it is a label: what it is worth is what the hold of that sum in a sandbox is worth. -/
noncomputable def Tryd.pinned : Pinned := { name := "ytlecbjcloleiiaadoor", sum := "092061d420afe9cb66f5aa967214d2d5303dc0836d1b46a3f2d0c71f7432c702", checked := Tryd.checked }
namespace Rows
def none {H : Type} : Left H := { results := [], args := [] }

/- WHAT THE LISTED PACKAGE-LEVEL VARIABLES READ AS WHEN THE CALL BEGINS. Each datum BY PROGRAM (the guide's laid-datum.mjs) off the statement by which the dump's own 'gosem.cut.vars' lays the variable. In a bare row this is a premise. The card (YtlecbjcloleiiaaDoorCards.lean) ties it to the program's text. -/
def laid_patois_api_ErrLong {H : Type} : DataW H := .iface "*errors.errorString" (.ptr (.agg [.lit (.string [116, 111, 111, 32, 108, 111, 110, 103])]))
def laid_patois_api_ErrName {H : Type} : DataW H := .iface "*errors.errorString" (.ptr (.agg [.lit (.string [110, 111, 32, 110, 97, 109, 101])]))
def laid_patois_api_ErrMany {H : Type} : DataW H := .iface "*errors.errorString" (.ptr (.agg [.lit (.string [116, 111, 111, 32, 109, 97, 110, 121])]))
def laid_patois_api_ErrBig {H : Type} : DataW H := .iface "*errors.errorString" (.ptr (.agg [.lit (.string [116, 111, 111, 32, 98, 105, 103])]))
def laid_patois_api_ErrNumber {H : Type} : DataW H := .iface "*errors.errorString" (.ptr (.agg [.lit (.string [110, 111, 32, 115, 117, 99, 104, 32, 110, 117, 109, 98, 101, 114])]))
def laid_patois_api_ErrNest {H : Type} : DataW H := .iface "*errors.errorString" (.ptr (.agg [.lit (.string [110, 101, 115, 116, 101, 100, 32, 116, 111, 111, 32, 100, 101, 101, 112])]))
def laid_patois_api_ErrQuote {H : Type} : DataW H := .iface "*errors.errorString" (.ptr (.agg [.lit (.string [97, 32, 113, 117, 111, 116, 101, 32, 116, 104, 97, 116, 32, 100, 111, 101, 115, 32, 110, 111, 116, 32, 101, 110, 100])]))
def laid_patois_api_ErrParen {H : Type} : DataW H := .iface "*errors.errorString" (.ptr (.agg [.lit (.string [97, 32, 98, 114, 97, 99, 107, 101, 116, 32, 116, 104, 97, 116, 32, 100, 111, 101, 115, 32, 110, 111, 116, 32, 101, 110, 100])]))
def laid_patois_api_ErrBrace {H : Type} : DataW H := .iface "*errors.errorString" (.ptr (.agg [.lit (.string [97, 32, 98, 114, 97, 99, 101, 32, 116, 104, 97, 116, 32, 100, 111, 101, 115, 32, 110, 111, 116, 32, 101, 110, 100])]))
def laid_patois_api_ErrToken {H : Type} : DataW H := .iface "*errors.errorString" (.ptr (.agg [.lit (.string [110, 111, 32, 116, 111, 107, 101, 110])]))
def laid_patois_api_ErrForm {H : Type} : DataW H := .iface "*errors.errorString" (.ptr (.agg [.lit (.string [105, 116, 32, 100, 111, 101, 115, 32, 110, 111, 116, 32, 115, 116, 97, 110, 100, 32, 104, 101, 114, 101])]))
def laid_patois_api_ErrEnd {H : Type} : DataW H := .iface "*errors.errorString" (.ptr (.agg [.lit (.string [105, 116, 32, 101, 110, 100, 115, 32, 116, 111, 111, 32, 101, 97, 114, 108, 121])]))
def laid_patois_api_ErrNode {H : Type} : DataW H := .iface "*errors.errorString" (.ptr (.agg [.lit (.string [110, 111, 32, 112, 114, 111, 103, 114, 97, 109])]))
def laid_patois_api_ErrFuel {H : Type} : DataW H := .iface "*errors.errorString" (.ptr (.agg [.lit (.string [116, 111, 111, 32, 109, 97, 110, 121, 32, 115, 116, 101, 112, 115])]))
def laid_patois_api_ErrDeep {H : Type} : DataW H := .iface "*errors.errorString" (.ptr (.agg [.lit (.string [99, 97, 108, 108, 101, 100, 32, 116, 111, 111, 32, 100, 101, 101, 112])]))
def laid_patois_api_ErrSay {H : Type} : DataW H := .iface "*errors.errorString" (.ptr (.agg [.lit (.string [105, 116, 32, 99, 97, 110, 110, 111, 116, 32, 98, 101, 32, 115, 97, 105, 100])]))
def laid_patois_api_ErrCode {H : Type} : DataW H := .iface "*errors.errorString" (.ptr (.agg [.lit (.string [110, 111, 32, 99, 111, 100, 101])]))

/-- 'patoislaw4.KernelFiles': WHATEVER THE INPUT: true; the input reads as it did. -/
def kernelFilesSpec : ChangeSpec := { name := "kernelFiles", fn := fun _ => fun
  | [d1, d2] => { results := [.lit (.bool true)], args := [d1, d2] }
  | _ => none }
def kernelFilesRow : OpenClaim := { program := "ytlecbjcloleiiaadoor", sum := "092061d420afe9cb66f5aa967214d2d5303dc0836d1b46a3f2d0c71f7432c702", func := "patois/patoislaw4.KernelFiles", spec := "kernelFiles", inPlace := ["internal/bytealg.abigen_runtime_cmpstring", "slices.overlaps[patois/api.File]"], unfollowed := true, recurses := true, named := ["patois/api.ErrMany", "patois/api.ErrName", "patois/api.ErrLong", "patois/api.ErrNumber", "patois/api.ErrBig"], apart := false, laid := [("patois/api.ErrLong", laid_patois_api_ErrLong), ("patois/api.ErrName", laid_patois_api_ErrName), ("patois/api.ErrMany", laid_patois_api_ErrMany), ("patois/api.ErrBig", laid_patois_api_ErrBig), ("patois/api.ErrNumber", laid_patois_api_ErrNumber)] }
def KernelFilesSaid : Prop := kernelFilesRow.holds Tryd.pinned (OpenSpec.ofChange kernelFilesSpec)

/-- ITS FALSE NEIGHBOUR: 'it returns false'. Refute it at one input. -/
def kernelFilesWrong : ChangeSpec := { name := "kernelFiles", fn := fun _ => fun
  | [d1, d2] => { results := [.lit (.bool false)], args := [d1, d2] }
  | _ => none }
def KernelFilesWrongFalsely : Prop := kernelFilesRow.holds Tryd.pinned (OpenSpec.ofChange kernelFilesWrong)

/-- 'patoislaw4.KernelOwn': WHATEVER THE INPUT: true; the input reads as it did. -/
def kernelOwnSpec : ChangeSpec := { name := "kernelOwn", fn := fun _ => fun
  | [d1, d2] => { results := [.lit (.bool true)], args := [d1, d2] }
  | _ => none }
def kernelOwnRow : OpenClaim := { program := "ytlecbjcloleiiaadoor", sum := "092061d420afe9cb66f5aa967214d2d5303dc0836d1b46a3f2d0c71f7432c702", func := "patois/patoislaw4.KernelOwn", spec := "kernelOwn", inPlace := ["internal/bytealg.abigen_runtime_cmpstring", "slices.overlaps[patois/api.File]"], unfollowed := true, recurses := true, named := ["patois/api.ErrMany", "patois/api.ErrName", "patois/api.ErrLong", "patois/api.ErrNumber", "patois/api.ErrBig"], apart := false, laid := [("patois/api.ErrLong", laid_patois_api_ErrLong), ("patois/api.ErrName", laid_patois_api_ErrName), ("patois/api.ErrMany", laid_patois_api_ErrMany), ("patois/api.ErrBig", laid_patois_api_ErrBig), ("patois/api.ErrNumber", laid_patois_api_ErrNumber)] }
def KernelOwnSaid : Prop := kernelOwnRow.holds Tryd.pinned (OpenSpec.ofChange kernelOwnSpec)

/-- ITS FALSE NEIGHBOUR: 'it returns false'. Refute it at one input. -/
def kernelOwnWrong : ChangeSpec := { name := "kernelOwn", fn := fun _ => fun
  | [d1, d2] => { results := [.lit (.bool false)], args := [d1, d2] }
  | _ => none }
def KernelOwnWrongFalsely : Prop := kernelOwnRow.holds Tryd.pinned (OpenSpec.ofChange kernelOwnWrong)

/-- 'patoislaw4.KernelRows': WHATEVER THE INPUT: true; the input reads as it did. -/
def kernelRowsSpec : ChangeSpec := { name := "kernelRows", fn := fun _ => fun
  | [d1, d2, d3, d4] => { results := [.lit (.bool true)], args := [d1, d2, d3, d4] }
  | _ => none }
def kernelRowsRow : OpenClaim := { program := "ytlecbjcloleiiaadoor", sum := "092061d420afe9cb66f5aa967214d2d5303dc0836d1b46a3f2d0c71f7432c702", func := "patois/patoislaw4.KernelRows", spec := "kernelRows", inPlace := ["internal/bytealg.abigen_runtime_cmpstring", "slices.overlaps[patois/api.File]"], unfollowed := true, recurses := true, named := ["patois/api.ErrMany", "patois/api.ErrName", "patois/api.ErrLong", "patois/api.ErrNumber", "patois/api.ErrBig"], apart := false, laid := [("patois/api.ErrLong", laid_patois_api_ErrLong), ("patois/api.ErrName", laid_patois_api_ErrName), ("patois/api.ErrMany", laid_patois_api_ErrMany), ("patois/api.ErrBig", laid_patois_api_ErrBig), ("patois/api.ErrNumber", laid_patois_api_ErrNumber)] }
def KernelRowsSaid : Prop := kernelRowsRow.holds Tryd.pinned (OpenSpec.ofChange kernelRowsSpec)

/-- ITS FALSE NEIGHBOUR: 'it returns false'. Refute it at one input. -/
def kernelRowsWrong : ChangeSpec := { name := "kernelRows", fn := fun _ => fun
  | [d1, d2, d3, d4] => { results := [.lit (.bool false)], args := [d1, d2, d3, d4] }
  | _ => none }
def KernelRowsWrongFalsely : Prop := kernelRowsRow.holds Tryd.pinned (OpenSpec.ofChange kernelRowsWrong)

/-- 'patoislaw4.KernelMarks': WHATEVER THE INPUT: true; the input reads as it did. -/
def kernelMarksSpec : ChangeSpec := { name := "kernelMarks", fn := fun _ => fun
  | [d1, d2] => { results := [.lit (.bool true)], args := [d1, d2] }
  | _ => none }
def kernelMarksRow : OpenClaim := { program := "ytlecbjcloleiiaadoor", sum := "092061d420afe9cb66f5aa967214d2d5303dc0836d1b46a3f2d0c71f7432c702", func := "patois/patoislaw4.KernelMarks", spec := "kernelMarks", inPlace := ["internal/bytealg.abigen_runtime_cmpstring", "slices.overlaps[patois/api.File]"], unfollowed := true, recurses := true, named := ["patois/api.ErrMany", "patois/api.ErrName", "patois/api.ErrLong", "patois/api.ErrNumber", "patois/api.ErrBig"], apart := false, laid := [("patois/api.ErrLong", laid_patois_api_ErrLong), ("patois/api.ErrName", laid_patois_api_ErrName), ("patois/api.ErrMany", laid_patois_api_ErrMany), ("patois/api.ErrBig", laid_patois_api_ErrBig), ("patois/api.ErrNumber", laid_patois_api_ErrNumber)] }
def KernelMarksSaid : Prop := kernelMarksRow.holds Tryd.pinned (OpenSpec.ofChange kernelMarksSpec)

/-- ITS FALSE NEIGHBOUR: 'it returns false'. Refute it at one input. -/
def kernelMarksWrong : ChangeSpec := { name := "kernelMarks", fn := fun _ => fun
  | [d1, d2] => { results := [.lit (.bool false)], args := [d1, d2] }
  | _ => none }
def KernelMarksWrongFalsely : Prop := kernelMarksRow.holds Tryd.pinned (OpenSpec.ofChange kernelMarksWrong)

/-- 'patoislaw4.KernelPlays': WHATEVER THE INPUT: true; the input reads as it did. -/
def kernelPlaysSpec : ChangeSpec := { name := "kernelPlays", fn := fun _ => fun
  | [d1, d2] => { results := [.lit (.bool true)], args := [d1, d2] }
  | _ => none }
def kernelPlaysRow : OpenClaim := { program := "ytlecbjcloleiiaadoor", sum := "092061d420afe9cb66f5aa967214d2d5303dc0836d1b46a3f2d0c71f7432c702", func := "patois/patoislaw4.KernelPlays", spec := "kernelPlays", inPlace := ["internal/bytealg.abigen_runtime_cmpstring", "slices.overlaps[patois/api.File]"], unfollowed := true, recurses := true, named := ["patois/api.ErrBig", "patois/api.ErrMany", "patois/api.ErrName", "patois/api.ErrLong", "patois/api.ErrNumber", "patois/api.ErrNest", "patois/api.ErrQuote", "patois/api.ErrParen", "patois/api.ErrBrace", "patois/api.ErrToken", "patois/api.ErrForm", "patois/api.ErrEnd", "patois/api.ErrNode", "patois/api.ErrFuel", "patois/api.ErrDeep", "patois/api.ErrSay", "patois/api.ErrCode"], apart := false, laid := [("patois/api.ErrLong", laid_patois_api_ErrLong), ("patois/api.ErrNest", laid_patois_api_ErrNest), ("patois/api.ErrQuote", laid_patois_api_ErrQuote), ("patois/api.ErrParen", laid_patois_api_ErrParen), ("patois/api.ErrBrace", laid_patois_api_ErrBrace), ("patois/api.ErrName", laid_patois_api_ErrName), ("patois/api.ErrToken", laid_patois_api_ErrToken), ("patois/api.ErrForm", laid_patois_api_ErrForm), ("patois/api.ErrEnd", laid_patois_api_ErrEnd), ("patois/api.ErrNode", laid_patois_api_ErrNode), ("patois/api.ErrMany", laid_patois_api_ErrMany), ("patois/api.ErrFuel", laid_patois_api_ErrFuel), ("patois/api.ErrDeep", laid_patois_api_ErrDeep), ("patois/api.ErrBig", laid_patois_api_ErrBig), ("patois/api.ErrSay", laid_patois_api_ErrSay), ("patois/api.ErrCode", laid_patois_api_ErrCode), ("patois/api.ErrNumber", laid_patois_api_ErrNumber)] }
def KernelPlaysSaid : Prop := kernelPlaysRow.holds Tryd.pinned (OpenSpec.ofChange kernelPlaysSpec)

/-- ITS FALSE NEIGHBOUR: 'it returns false'. Refute it at one input. -/
def kernelPlaysWrong : ChangeSpec := { name := "kernelPlays", fn := fun _ => fun
  | [d1, d2] => { results := [.lit (.bool false)], args := [d1, d2] }
  | _ => none }
def KernelPlaysWrongFalsely : Prop := kernelPlaysRow.holds Tryd.pinned (OpenSpec.ofChange kernelPlaysWrong)

/-- 'patoislaw4.KernelBegins': WHATEVER THE INPUT: true; the input reads as it did. -/
def kernelBeginsSpec : ChangeSpec := { name := "kernelBegins", fn := fun _ => fun
  | [d1, d2, d3] => { results := [.lit (.bool true)], args := [d1, d2, d3] }
  | _ => none }
def kernelBeginsRow : OpenClaim := { program := "ytlecbjcloleiiaadoor", sum := "092061d420afe9cb66f5aa967214d2d5303dc0836d1b46a3f2d0c71f7432c702", func := "patois/patoislaw4.KernelBegins", spec := "kernelBegins", inPlace := ["internal/bytealg.abigen_runtime_cmpstring", "slices.overlaps[patois/api.File]"], unfollowed := true, recurses := true, named := ["patois/api.ErrMany", "patois/api.ErrName", "patois/api.ErrLong", "patois/api.ErrNumber", "patois/api.ErrBig"], apart := false, laid := [("patois/api.ErrLong", laid_patois_api_ErrLong), ("patois/api.ErrName", laid_patois_api_ErrName), ("patois/api.ErrMany", laid_patois_api_ErrMany), ("patois/api.ErrBig", laid_patois_api_ErrBig), ("patois/api.ErrNumber", laid_patois_api_ErrNumber)] }
def KernelBeginsSaid : Prop := kernelBeginsRow.holds Tryd.pinned (OpenSpec.ofChange kernelBeginsSpec)

/-- ITS FALSE NEIGHBOUR: 'it returns false'. Refute it at one input. -/
def kernelBeginsWrong : ChangeSpec := { name := "kernelBegins", fn := fun _ => fun
  | [d1, d2, d3] => { results := [.lit (.bool false)], args := [d1, d2, d3] }
  | _ => none }
def KernelBeginsWrongFalsely : Prop := kernelBeginsRow.holds Tryd.pinned (OpenSpec.ofChange kernelBeginsWrong)

/- THE SECOND FORM. 'bulk': how many values and letters a reading holds, each counted each time it is reached (what is shared counts as often as it is met; a slice's spare places count too). A statement '..UptoSaid' is the law's where the arguments, and the package variables that the reading takes, are together of bulk at most 1048576: NARROWER than '..Said'. Prove '..Said' where nothing that the law and all that it calls make is longer than what came in: it says more and counts as full. Else prove '..UptoSaid'. A law counts once. -/
mutual
def uptoBulk {H : Type} : DataW H → Nat
  | .lit (.string bytes) => bytes.length + 1
  | .lit _ => 1
  | .nil => 1
  | .ptr d => uptoBulk d + 1
  | .slice elems spare => uptoBulkAll elems + uptoBulkAll spare + 1
  | .agg parts => uptoBulkAll parts + 1
  | .iface _ d => uptoBulk d + 1
  | .map entries => uptoBulkEntries entries + 1
  | .held _ => 1
def uptoBulkAll {H : Type} : List (DataW H) → Nat
  | [] => 0
  | d :: r => uptoBulk d + uptoBulkAll r
def uptoBulkEntries {H : Type} : List (Lit × DataW H) → Nat
  | [] => 0
  | x :: r => uptoBulkEntry x + uptoBulkEntries r
def uptoBulkEntry {H : Type} : Lit × DataW H → Nat
  | (.string bytes, d) => bytes.length + uptoBulk d + 1
  | (_, d) => uptoBulk d + 1
 end
def uptoSmall : (H : Type) → List (DataW H) → Bool := fun _ ds => decide (uptoBulkAll ds ≤ 1048576)
def OpenSpec.upto (s : _root_.Go.ChangeSpec) : _root_.Go.OpenSpec := { _root_.Go.OpenSpec.ofChange s with cond := some uptoSmall }

/-- 'patoislaw4.KernelFiles', WHERE WHAT IT READS IS OF BULK AT MOST 1048576: true; the input reads as it did. -/
def kernelFilesUptoRow : OpenClaim := { program := "ytlecbjcloleiiaadoor", sum := "092061d420afe9cb66f5aa967214d2d5303dc0836d1b46a3f2d0c71f7432c702", func := "patois/patoislaw4.KernelFiles", spec := "kernelFiles", inPlace := ["internal/bytealg.abigen_runtime_cmpstring", "slices.overlaps[patois/api.File]"], unfollowed := true, recurses := true, named := ["patois/api.ErrMany", "patois/api.ErrName", "patois/api.ErrLong", "patois/api.ErrNumber", "patois/api.ErrBig"], apart := false, laid := [("patois/api.ErrLong", laid_patois_api_ErrLong), ("patois/api.ErrName", laid_patois_api_ErrName), ("patois/api.ErrMany", laid_patois_api_ErrMany), ("patois/api.ErrBig", laid_patois_api_ErrBig), ("patois/api.ErrNumber", laid_patois_api_ErrNumber)], narrowed := true }
def KernelFilesUptoSaid : Prop := kernelFilesUptoRow.holds Tryd.pinned (OpenSpec.upto kernelFilesSpec)

/-- 'patoislaw4.KernelOwn', WHERE WHAT IT READS IS OF BULK AT MOST 1048576: true; the input reads as it did. -/
def kernelOwnUptoRow : OpenClaim := { program := "ytlecbjcloleiiaadoor", sum := "092061d420afe9cb66f5aa967214d2d5303dc0836d1b46a3f2d0c71f7432c702", func := "patois/patoislaw4.KernelOwn", spec := "kernelOwn", inPlace := ["internal/bytealg.abigen_runtime_cmpstring", "slices.overlaps[patois/api.File]"], unfollowed := true, recurses := true, named := ["patois/api.ErrMany", "patois/api.ErrName", "patois/api.ErrLong", "patois/api.ErrNumber", "patois/api.ErrBig"], apart := false, laid := [("patois/api.ErrLong", laid_patois_api_ErrLong), ("patois/api.ErrName", laid_patois_api_ErrName), ("patois/api.ErrMany", laid_patois_api_ErrMany), ("patois/api.ErrBig", laid_patois_api_ErrBig), ("patois/api.ErrNumber", laid_patois_api_ErrNumber)], narrowed := true }
def KernelOwnUptoSaid : Prop := kernelOwnUptoRow.holds Tryd.pinned (OpenSpec.upto kernelOwnSpec)

/-- 'patoislaw4.KernelRows', WHERE WHAT IT READS IS OF BULK AT MOST 1048576: true; the input reads as it did. -/
def kernelRowsUptoRow : OpenClaim := { program := "ytlecbjcloleiiaadoor", sum := "092061d420afe9cb66f5aa967214d2d5303dc0836d1b46a3f2d0c71f7432c702", func := "patois/patoislaw4.KernelRows", spec := "kernelRows", inPlace := ["internal/bytealg.abigen_runtime_cmpstring", "slices.overlaps[patois/api.File]"], unfollowed := true, recurses := true, named := ["patois/api.ErrMany", "patois/api.ErrName", "patois/api.ErrLong", "patois/api.ErrNumber", "patois/api.ErrBig"], apart := false, laid := [("patois/api.ErrLong", laid_patois_api_ErrLong), ("patois/api.ErrName", laid_patois_api_ErrName), ("patois/api.ErrMany", laid_patois_api_ErrMany), ("patois/api.ErrBig", laid_patois_api_ErrBig), ("patois/api.ErrNumber", laid_patois_api_ErrNumber)], narrowed := true }
def KernelRowsUptoSaid : Prop := kernelRowsUptoRow.holds Tryd.pinned (OpenSpec.upto kernelRowsSpec)

/-- 'patoislaw4.KernelMarks', WHERE WHAT IT READS IS OF BULK AT MOST 1048576: true; the input reads as it did. -/
def kernelMarksUptoRow : OpenClaim := { program := "ytlecbjcloleiiaadoor", sum := "092061d420afe9cb66f5aa967214d2d5303dc0836d1b46a3f2d0c71f7432c702", func := "patois/patoislaw4.KernelMarks", spec := "kernelMarks", inPlace := ["internal/bytealg.abigen_runtime_cmpstring", "slices.overlaps[patois/api.File]"], unfollowed := true, recurses := true, named := ["patois/api.ErrMany", "patois/api.ErrName", "patois/api.ErrLong", "patois/api.ErrNumber", "patois/api.ErrBig"], apart := false, laid := [("patois/api.ErrLong", laid_patois_api_ErrLong), ("patois/api.ErrName", laid_patois_api_ErrName), ("patois/api.ErrMany", laid_patois_api_ErrMany), ("patois/api.ErrBig", laid_patois_api_ErrBig), ("patois/api.ErrNumber", laid_patois_api_ErrNumber)], narrowed := true }
def KernelMarksUptoSaid : Prop := kernelMarksUptoRow.holds Tryd.pinned (OpenSpec.upto kernelMarksSpec)

/-- 'patoislaw4.KernelPlays', WHERE WHAT IT READS IS OF BULK AT MOST 1048576: true; the input reads as it did. -/
def kernelPlaysUptoRow : OpenClaim := { program := "ytlecbjcloleiiaadoor", sum := "092061d420afe9cb66f5aa967214d2d5303dc0836d1b46a3f2d0c71f7432c702", func := "patois/patoislaw4.KernelPlays", spec := "kernelPlays", inPlace := ["internal/bytealg.abigen_runtime_cmpstring", "slices.overlaps[patois/api.File]"], unfollowed := true, recurses := true, named := ["patois/api.ErrBig", "patois/api.ErrMany", "patois/api.ErrName", "patois/api.ErrLong", "patois/api.ErrNumber", "patois/api.ErrNest", "patois/api.ErrQuote", "patois/api.ErrParen", "patois/api.ErrBrace", "patois/api.ErrToken", "patois/api.ErrForm", "patois/api.ErrEnd", "patois/api.ErrNode", "patois/api.ErrFuel", "patois/api.ErrDeep", "patois/api.ErrSay", "patois/api.ErrCode"], apart := false, laid := [("patois/api.ErrLong", laid_patois_api_ErrLong), ("patois/api.ErrNest", laid_patois_api_ErrNest), ("patois/api.ErrQuote", laid_patois_api_ErrQuote), ("patois/api.ErrParen", laid_patois_api_ErrParen), ("patois/api.ErrBrace", laid_patois_api_ErrBrace), ("patois/api.ErrName", laid_patois_api_ErrName), ("patois/api.ErrToken", laid_patois_api_ErrToken), ("patois/api.ErrForm", laid_patois_api_ErrForm), ("patois/api.ErrEnd", laid_patois_api_ErrEnd), ("patois/api.ErrNode", laid_patois_api_ErrNode), ("patois/api.ErrMany", laid_patois_api_ErrMany), ("patois/api.ErrFuel", laid_patois_api_ErrFuel), ("patois/api.ErrDeep", laid_patois_api_ErrDeep), ("patois/api.ErrBig", laid_patois_api_ErrBig), ("patois/api.ErrSay", laid_patois_api_ErrSay), ("patois/api.ErrCode", laid_patois_api_ErrCode), ("patois/api.ErrNumber", laid_patois_api_ErrNumber)], narrowed := true }
def KernelPlaysUptoSaid : Prop := kernelPlaysUptoRow.holds Tryd.pinned (OpenSpec.upto kernelPlaysSpec)

/-- 'patoislaw4.KernelBegins', WHERE WHAT IT READS IS OF BULK AT MOST 1048576: true; the input reads as it did. -/
def kernelBeginsUptoRow : OpenClaim := { program := "ytlecbjcloleiiaadoor", sum := "092061d420afe9cb66f5aa967214d2d5303dc0836d1b46a3f2d0c71f7432c702", func := "patois/patoislaw4.KernelBegins", spec := "kernelBegins", inPlace := ["internal/bytealg.abigen_runtime_cmpstring", "slices.overlaps[patois/api.File]"], unfollowed := true, recurses := true, named := ["patois/api.ErrMany", "patois/api.ErrName", "patois/api.ErrLong", "patois/api.ErrNumber", "patois/api.ErrBig"], apart := false, laid := [("patois/api.ErrLong", laid_patois_api_ErrLong), ("patois/api.ErrName", laid_patois_api_ErrName), ("patois/api.ErrMany", laid_patois_api_ErrMany), ("patois/api.ErrBig", laid_patois_api_ErrBig), ("patois/api.ErrNumber", laid_patois_api_ErrNumber)], narrowed := true }
def KernelBeginsUptoSaid : Prop := kernelBeginsUptoRow.holds Tryd.pinned (OpenSpec.upto kernelBeginsSpec)

end Rows
end Go.Proofs.YtlecbjcloleiiaaDoor
