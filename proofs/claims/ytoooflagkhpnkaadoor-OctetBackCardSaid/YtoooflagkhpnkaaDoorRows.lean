/-
  NARROWER THAN 'FOR EVERY INPUT', by the rows' own cells (each row's printed sentence says how): OctetSums: laid · OctetAdds: laid · OctetLong: laid · OctetFresh: laid · OctetSeals: laid · OctetTold: laid · OctetOne: laid · OctetReads: laid · OctetStays: laid · OctetBack: laid.
  DERIVED. THE GIVEN ROWS OF THIS SEAT. 10 by the template 'for every input the law returns true; each argument reads behind the call as it read before'; 0 by the template 'total and deterministic' (their statements: YtoooflagkhpnkaaDoorTotals.lean).
  GIVEN WITH THE SEED: the statements are not yours to turn. If you find one false, say at which input.
  Laid BY PROGRAM, IN A SANDBOX (cutbox-rows.mjs): the forced cells as the released guide's own fill.sh prints them over the translation 378237beb48b75ae… (all of the seat's roots in one cut). By AI agents, Wed Nov 11 2026. No macro, syntax, notation, axiom, sorry.
-/
import Derived.Test.YtoooflagkhpnkaaDoorChecked
import GoSem.Claim
import GoSem.ClaimJoined
import GoSem.ClaimMapViews
import Derived.JoinedTies
import Derived.KernelRfl
namespace Go.Proofs.YtoooflagkhpnkaaDoor
/- THE CELL 'sum', in the pinned program and in every row, IS THE sha256 OF THE DUMP (.gsa) THAT YtoooflagkhpnkaaDoorProg.lean LOADS. Nothing in Lean hashes anything: it is a label: what it is worth is what the hold of that sum in a sandbox is worth. -/
noncomputable def Tryd.pinned : Pinned := { name := "ytoooflagkhpnkaadoor", sum := "378237beb48b75aee4983047ddd08c67f2863c64478d57e940151b7c0cf65f91", checked := Tryd.checked }
namespace Rows
def none {H : Type} : Left H := { results := [], args := [] }

/- WHAT THE LISTED PACKAGE-LEVEL VARIABLES READ AS WHEN THE CALL BEGINS. Each datum BY PROGRAM (the guide's laid-datum.mjs) off the statement by which the dump's own 'gosem.cut.vars' lays the variable. In a bare row this is a premise. The card (YtoooflagkhpnkaaDoorCards.lean) ties it to the program's text. -/
def laid_jotter_octet_table {H : Type} : DataW H := .agg [.lit (.int .u32 0), .lit (.int .u32 498536548), .lit (.int .u32 997073096), .lit (.int .u32 651767980), .lit (.int .u32 1994146192), .lit (.int .u32 1802195444), .lit (.int .u32 1303535960), .lit (.int .u32 1342533948), .lit (.int .u32 3988292384), .lit (.int .u32 4027552580), .lit (.int .u32 3604390888), .lit (.int .u32 3412177804), .lit (.int .u32 2607071920), .lit (.int .u32 2262029012), .lit (.int .u32 2685067896), .lit (.int .u32 3183342108)]
def laid_errors_errorType {H : Type} : DataW H := .iface "internal/reflectlite.rtype" (.agg [.ptr (.lit (.string [101, 114, 114, 111, 114]))])

/-- 'jotterlaw01.OctetSums': WHATEVER THE INPUT: true; the input reads as it did. -/
def octetSumsSpec : ChangeSpec := { name := "octetSums", fn := fun _ => fun
  | [d] => { results := [.lit (.bool true)], args := [d] }
  | _ => none }
def octetSumsRow : OpenClaim := { program := "ytoooflagkhpnkaadoor", sum := "378237beb48b75aee4983047ddd08c67f2863c64478d57e940151b7c0cf65f91", func := "jotter/jotterlaw01.OctetSums", spec := "octetSums", named := ["jotter/octet.table"], apart := false, laid := [("jotter/octet.table", laid_jotter_octet_table)] }
def OctetSumsSaid : Prop := octetSumsRow.holds Tryd.pinned (OpenSpec.ofChange octetSumsSpec)

/-- ITS FALSE NEIGHBOUR: 'it returns false'. Refute it at one input. -/
def octetSumsWrong : ChangeSpec := { name := "octetSums", fn := fun _ => fun
  | [d] => { results := [.lit (.bool false)], args := [d] }
  | _ => none }
def OctetSumsWrongFalsely : Prop := octetSumsRow.holds Tryd.pinned (OpenSpec.ofChange octetSumsWrong)

/-- 'jotterlaw01.OctetAdds': WHATEVER THE INPUT: true; the input reads as it did. -/
def octetAddsSpec : ChangeSpec := { name := "octetAdds", fn := fun _ => fun
  | [d1, d2, d3] => { results := [.lit (.bool true)], args := [d1, d2, d3] }
  | _ => none }
def octetAddsRow : OpenClaim := { program := "ytoooflagkhpnkaadoor", sum := "378237beb48b75aee4983047ddd08c67f2863c64478d57e940151b7c0cf65f91", func := "jotter/jotterlaw01.OctetAdds", spec := "octetAdds", named := ["jotter/octet.table"], apart := false, laid := [("jotter/octet.table", laid_jotter_octet_table)] }
def OctetAddsSaid : Prop := octetAddsRow.holds Tryd.pinned (OpenSpec.ofChange octetAddsSpec)

/-- ITS FALSE NEIGHBOUR: 'it returns false'. Refute it at one input. -/
def octetAddsWrong : ChangeSpec := { name := "octetAdds", fn := fun _ => fun
  | [d1, d2, d3] => { results := [.lit (.bool false)], args := [d1, d2, d3] }
  | _ => none }
def OctetAddsWrongFalsely : Prop := octetAddsRow.holds Tryd.pinned (OpenSpec.ofChange octetAddsWrong)

/-- 'jotterlaw01.OctetLong': WHATEVER THE INPUT: true; the input reads as it did. -/
def octetLongSpec : ChangeSpec := { name := "octetLong", fn := fun _ => fun
  | [d1, d2] => { results := [.lit (.bool true)], args := [d1, d2] }
  | _ => none }
def octetLongRow : OpenClaim := { program := "ytoooflagkhpnkaadoor", sum := "378237beb48b75aee4983047ddd08c67f2863c64478d57e940151b7c0cf65f91", func := "jotter/jotterlaw01.OctetLong", spec := "octetLong", named := ["jotter/octet.table"], apart := false, laid := [("jotter/octet.table", laid_jotter_octet_table)] }
def OctetLongSaid : Prop := octetLongRow.holds Tryd.pinned (OpenSpec.ofChange octetLongSpec)

/-- ITS FALSE NEIGHBOUR: 'it returns false'. Refute it at one input. -/
def octetLongWrong : ChangeSpec := { name := "octetLong", fn := fun _ => fun
  | [d1, d2] => { results := [.lit (.bool false)], args := [d1, d2] }
  | _ => none }
def OctetLongWrongFalsely : Prop := octetLongRow.holds Tryd.pinned (OpenSpec.ofChange octetLongWrong)

/-- 'jotterlaw01.OctetFresh': WHATEVER THE INPUT: true; the input reads as it did. -/
def octetFreshSpec : ChangeSpec := { name := "octetFresh", fn := fun _ => fun
  | [d1, d2, d3] => { results := [.lit (.bool true)], args := [d1, d2, d3] }
  | _ => none }
def octetFreshRow : OpenClaim := { program := "ytoooflagkhpnkaadoor", sum := "378237beb48b75aee4983047ddd08c67f2863c64478d57e940151b7c0cf65f91", func := "jotter/jotterlaw01.OctetFresh", spec := "octetFresh", named := ["jotter/octet.table"], apart := false, laid := [("jotter/octet.table", laid_jotter_octet_table)] }
def OctetFreshSaid : Prop := octetFreshRow.holds Tryd.pinned (OpenSpec.ofChange octetFreshSpec)

/-- ITS FALSE NEIGHBOUR: 'it returns false'. Refute it at one input. -/
def octetFreshWrong : ChangeSpec := { name := "octetFresh", fn := fun _ => fun
  | [d1, d2, d3] => { results := [.lit (.bool false)], args := [d1, d2, d3] }
  | _ => none }
def OctetFreshWrongFalsely : Prop := octetFreshRow.holds Tryd.pinned (OpenSpec.ofChange octetFreshWrong)

/-- 'jotterlaw01.OctetSeals': WHATEVER THE INPUT: true; the input reads as it did. -/
def octetSealsSpec : ChangeSpec := { name := "octetSeals", fn := fun _ => fun
  | [d] => { results := [.lit (.bool true)], args := [d] }
  | _ => none }
def octetSealsRow : OpenClaim := { program := "ytoooflagkhpnkaadoor", sum := "378237beb48b75aee4983047ddd08c67f2863c64478d57e940151b7c0cf65f91", func := "jotter/jotterlaw01.OctetSeals", spec := "octetSeals", inPlace := ["internal/reflectlite.ValueOf", "(internal/reflectlite.Value).Type", "(internal/reflectlite.Value).IsNil", "internal/reflectlite.TypeOf", "(internal/reflectlite.Value).Elem", "(internal/reflectlite.Value).Set"], unfollowed := true, recurses := true, named := ["jotter/octet.table", "errors.errorType"], apart := false, laid := [("errors.errorType", laid_errors_errorType), ("jotter/octet.table", laid_jotter_octet_table)] }
def OctetSealsSaid : Prop := octetSealsRow.holds Tryd.pinned (OpenSpec.ofChange octetSealsSpec)

/-- ITS FALSE NEIGHBOUR: 'it returns false'. Refute it at one input. -/
def octetSealsWrong : ChangeSpec := { name := "octetSeals", fn := fun _ => fun
  | [d] => { results := [.lit (.bool false)], args := [d] }
  | _ => none }
def OctetSealsWrongFalsely : Prop := octetSealsRow.holds Tryd.pinned (OpenSpec.ofChange octetSealsWrong)

/-- 'jotterlaw01.OctetTold': WHATEVER THE INPUT: true; the input reads as it did. -/
def octetToldSpec : ChangeSpec := { name := "octetTold", fn := fun _ => fun
  | [d1, d2, d3] => { results := [.lit (.bool true)], args := [d1, d2, d3] }
  | _ => none }
def octetToldRow : OpenClaim := { program := "ytoooflagkhpnkaadoor", sum := "378237beb48b75aee4983047ddd08c67f2863c64478d57e940151b7c0cf65f91", func := "jotter/jotterlaw01.OctetTold", spec := "octetTold", inPlace := ["internal/reflectlite.ValueOf", "(internal/reflectlite.Value).Type", "(internal/reflectlite.Value).IsNil", "internal/reflectlite.TypeOf", "(internal/reflectlite.Value).Elem", "(internal/reflectlite.Value).Set"], unfollowed := true, recurses := true, named := ["jotter/octet.table", "errors.errorType"], apart := false, laid := [("errors.errorType", laid_errors_errorType), ("jotter/octet.table", laid_jotter_octet_table)] }
def OctetToldSaid : Prop := octetToldRow.holds Tryd.pinned (OpenSpec.ofChange octetToldSpec)

/-- ITS FALSE NEIGHBOUR: 'it returns false'. Refute it at one input. -/
def octetToldWrong : ChangeSpec := { name := "octetTold", fn := fun _ => fun
  | [d1, d2, d3] => { results := [.lit (.bool false)], args := [d1, d2, d3] }
  | _ => none }
def OctetToldWrongFalsely : Prop := octetToldRow.holds Tryd.pinned (OpenSpec.ofChange octetToldWrong)

/-- 'jotterlaw01.OctetOne': WHATEVER THE INPUT: true; the input reads as it did. -/
def octetOneSpec : ChangeSpec := { name := "octetOne", fn := fun _ => fun
  | [d] => { results := [.lit (.bool true)], args := [d] }
  | _ => none }
def octetOneRow : OpenClaim := { program := "ytoooflagkhpnkaadoor", sum := "378237beb48b75aee4983047ddd08c67f2863c64478d57e940151b7c0cf65f91", func := "jotter/jotterlaw01.OctetOne", spec := "octetOne", inPlace := ["internal/reflectlite.ValueOf", "(internal/reflectlite.Value).Type", "(internal/reflectlite.Value).IsNil", "internal/reflectlite.TypeOf", "(internal/reflectlite.Value).Elem", "(internal/reflectlite.Value).Set"], unfollowed := true, recurses := true, named := ["jotter/octet.table", "errors.errorType"], apart := false, laid := [("errors.errorType", laid_errors_errorType), ("jotter/octet.table", laid_jotter_octet_table)] }
def OctetOneSaid : Prop := octetOneRow.holds Tryd.pinned (OpenSpec.ofChange octetOneSpec)

/-- ITS FALSE NEIGHBOUR: 'it returns false'. Refute it at one input. -/
def octetOneWrong : ChangeSpec := { name := "octetOne", fn := fun _ => fun
  | [d] => { results := [.lit (.bool false)], args := [d] }
  | _ => none }
def OctetOneWrongFalsely : Prop := octetOneRow.holds Tryd.pinned (OpenSpec.ofChange octetOneWrong)

/-- 'jotterlaw01.OctetReads': WHATEVER THE INPUT: true; the input reads as it did. -/
def octetReadsSpec : ChangeSpec := { name := "octetReads", fn := fun _ => fun
  | [d1, d2, d3] => { results := [.lit (.bool true)], args := [d1, d2, d3] }
  | _ => none }
def octetReadsRow : OpenClaim := { program := "ytoooflagkhpnkaadoor", sum := "378237beb48b75aee4983047ddd08c67f2863c64478d57e940151b7c0cf65f91", func := "jotter/jotterlaw01.OctetReads", spec := "octetReads", inPlace := ["internal/reflectlite.ValueOf", "(internal/reflectlite.Value).Type", "(internal/reflectlite.Value).IsNil", "internal/reflectlite.TypeOf", "(internal/reflectlite.Value).Elem", "(internal/reflectlite.Value).Set"], unfollowed := true, recurses := true, named := ["errors.errorType"], apart := false, laid := [("errors.errorType", laid_errors_errorType)] }
def OctetReadsSaid : Prop := octetReadsRow.holds Tryd.pinned (OpenSpec.ofChange octetReadsSpec)

/-- ITS FALSE NEIGHBOUR: 'it returns false'. Refute it at one input. -/
def octetReadsWrong : ChangeSpec := { name := "octetReads", fn := fun _ => fun
  | [d1, d2, d3] => { results := [.lit (.bool false)], args := [d1, d2, d3] }
  | _ => none }
def OctetReadsWrongFalsely : Prop := octetReadsRow.holds Tryd.pinned (OpenSpec.ofChange octetReadsWrong)

/-- 'jotterlaw01.OctetStays': WHATEVER THE INPUT: true; the input reads as it did. -/
def octetStaysSpec : ChangeSpec := { name := "octetStays", fn := fun _ => fun
  | [d1, d2, d3] => { results := [.lit (.bool true)], args := [d1, d2, d3] }
  | _ => none }
def octetStaysRow : OpenClaim := { program := "ytoooflagkhpnkaadoor", sum := "378237beb48b75aee4983047ddd08c67f2863c64478d57e940151b7c0cf65f91", func := "jotter/jotterlaw01.OctetStays", spec := "octetStays", inPlace := ["internal/reflectlite.ValueOf", "(internal/reflectlite.Value).Type", "(internal/reflectlite.Value).IsNil", "internal/reflectlite.TypeOf", "(internal/reflectlite.Value).Elem", "(internal/reflectlite.Value).Set"], unfollowed := true, recurses := true, named := ["errors.errorType"], apart := false, laid := [("errors.errorType", laid_errors_errorType)] }
def OctetStaysSaid : Prop := octetStaysRow.holds Tryd.pinned (OpenSpec.ofChange octetStaysSpec)

/-- ITS FALSE NEIGHBOUR: 'it returns false'. Refute it at one input. -/
def octetStaysWrong : ChangeSpec := { name := "octetStays", fn := fun _ => fun
  | [d1, d2, d3] => { results := [.lit (.bool false)], args := [d1, d2, d3] }
  | _ => none }
def OctetStaysWrongFalsely : Prop := octetStaysRow.holds Tryd.pinned (OpenSpec.ofChange octetStaysWrong)

/-- 'jotterlaw01.OctetBack': WHATEVER THE INPUT: true; the input reads as it did. -/
def octetBackSpec : ChangeSpec := { name := "octetBack", fn := fun _ => fun
  | [d1, d2] => { results := [.lit (.bool true)], args := [d1, d2] }
  | _ => none }
def octetBackRow : OpenClaim := { program := "ytoooflagkhpnkaadoor", sum := "378237beb48b75aee4983047ddd08c67f2863c64478d57e940151b7c0cf65f91", func := "jotter/jotterlaw01.OctetBack", spec := "octetBack", inPlace := ["internal/reflectlite.ValueOf", "(internal/reflectlite.Value).Type", "(internal/reflectlite.Value).IsNil", "internal/reflectlite.TypeOf", "(internal/reflectlite.Value).Elem", "(internal/reflectlite.Value).Set"], unfollowed := true, recurses := true, named := ["errors.errorType"], apart := false, laid := [("errors.errorType", laid_errors_errorType)] }
def OctetBackSaid : Prop := octetBackRow.holds Tryd.pinned (OpenSpec.ofChange octetBackSpec)

/-- ITS FALSE NEIGHBOUR: 'it returns false'. Refute it at one input. -/
def octetBackWrong : ChangeSpec := { name := "octetBack", fn := fun _ => fun
  | [d1, d2] => { results := [.lit (.bool false)], args := [d1, d2] }
  | _ => none }
def OctetBackWrongFalsely : Prop := octetBackRow.holds Tryd.pinned (OpenSpec.ofChange octetBackWrong)

/- THE SECOND FORM. 'bulk': how many values and letters a reading holds, each counted each time it is reached (what is shared counts as often as it is met; a slice's spare places count too). A statement '..UptoSaid' is the law's where the arguments, and the package variables that the reading takes, are together of bulk at most 1048576: NARROWER than '..Said'. Prove '..Said' where nothing that the law and all that it calls make is longer than what came in: it says more and counts as full. Else prove '..UptoSaid'. A law counts once. -/
mutual
def uptoBulk {H : Type} : DataW H → Nat
  | .lit (.string bytes) => bytes.length + 1
  | .lit _ => 1
  | .nil => 1
  | .ptr d => uptoBulk d + 1
  | .slice elems spare => uptoBulkAll elems + uptoBulkAll spare + 1
  | .agg parts => uptoBulkAll parts + 1
  | .iface _ d => uptoBulk d + 1
  | .map entries => uptoBulkEntries entries + 1
  | .held _ => 1
def uptoBulkAll {H : Type} : List (DataW H) → Nat
  | [] => 0
  | d :: r => uptoBulk d + uptoBulkAll r
def uptoBulkEntries {H : Type} : List (Lit × DataW H) → Nat
  | [] => 0
  | x :: r => uptoBulkEntry x + uptoBulkEntries r
def uptoBulkEntry {H : Type} : Lit × DataW H → Nat
  | (.string bytes, d) => bytes.length + uptoBulk d + 1
  | (_, d) => uptoBulk d + 1
 end
def uptoSmall : (H : Type) → List (DataW H) → Bool := fun _ ds => decide (uptoBulkAll ds ≤ 1048576)
def OpenSpec.upto (s : _root_.Go.ChangeSpec) : _root_.Go.OpenSpec := { _root_.Go.OpenSpec.ofChange s with cond := some uptoSmall }

/-- 'jotterlaw01.OctetSums', WHERE WHAT IT READS IS OF BULK AT MOST 1048576: true; the input reads as it did. -/
def octetSumsUptoRow : OpenClaim := { program := "ytoooflagkhpnkaadoor", sum := "378237beb48b75aee4983047ddd08c67f2863c64478d57e940151b7c0cf65f91", func := "jotter/jotterlaw01.OctetSums", spec := "octetSums", named := ["jotter/octet.table"], apart := false, laid := [("jotter/octet.table", laid_jotter_octet_table)], narrowed := true }
def OctetSumsUptoSaid : Prop := octetSumsUptoRow.holds Tryd.pinned (OpenSpec.upto octetSumsSpec)

/-- 'jotterlaw01.OctetAdds', WHERE WHAT IT READS IS OF BULK AT MOST 1048576: true; the input reads as it did. -/
def octetAddsUptoRow : OpenClaim := { program := "ytoooflagkhpnkaadoor", sum := "378237beb48b75aee4983047ddd08c67f2863c64478d57e940151b7c0cf65f91", func := "jotter/jotterlaw01.OctetAdds", spec := "octetAdds", named := ["jotter/octet.table"], apart := false, laid := [("jotter/octet.table", laid_jotter_octet_table)], narrowed := true }
def OctetAddsUptoSaid : Prop := octetAddsUptoRow.holds Tryd.pinned (OpenSpec.upto octetAddsSpec)

/-- 'jotterlaw01.OctetLong', WHERE WHAT IT READS IS OF BULK AT MOST 1048576: true; the input reads as it did. -/
def octetLongUptoRow : OpenClaim := { program := "ytoooflagkhpnkaadoor", sum := "378237beb48b75aee4983047ddd08c67f2863c64478d57e940151b7c0cf65f91", func := "jotter/jotterlaw01.OctetLong", spec := "octetLong", named := ["jotter/octet.table"], apart := false, laid := [("jotter/octet.table", laid_jotter_octet_table)], narrowed := true }
def OctetLongUptoSaid : Prop := octetLongUptoRow.holds Tryd.pinned (OpenSpec.upto octetLongSpec)

/-- 'jotterlaw01.OctetFresh', WHERE WHAT IT READS IS OF BULK AT MOST 1048576: true; the input reads as it did. -/
def octetFreshUptoRow : OpenClaim := { program := "ytoooflagkhpnkaadoor", sum := "378237beb48b75aee4983047ddd08c67f2863c64478d57e940151b7c0cf65f91", func := "jotter/jotterlaw01.OctetFresh", spec := "octetFresh", named := ["jotter/octet.table"], apart := false, laid := [("jotter/octet.table", laid_jotter_octet_table)], narrowed := true }
def OctetFreshUptoSaid : Prop := octetFreshUptoRow.holds Tryd.pinned (OpenSpec.upto octetFreshSpec)

/-- 'jotterlaw01.OctetSeals', WHERE WHAT IT READS IS OF BULK AT MOST 1048576: true; the input reads as it did. -/
def octetSealsUptoRow : OpenClaim := { program := "ytoooflagkhpnkaadoor", sum := "378237beb48b75aee4983047ddd08c67f2863c64478d57e940151b7c0cf65f91", func := "jotter/jotterlaw01.OctetSeals", spec := "octetSeals", inPlace := ["internal/reflectlite.ValueOf", "(internal/reflectlite.Value).Type", "(internal/reflectlite.Value).IsNil", "internal/reflectlite.TypeOf", "(internal/reflectlite.Value).Elem", "(internal/reflectlite.Value).Set"], unfollowed := true, recurses := true, named := ["jotter/octet.table", "errors.errorType"], apart := false, laid := [("errors.errorType", laid_errors_errorType), ("jotter/octet.table", laid_jotter_octet_table)], narrowed := true }
def OctetSealsUptoSaid : Prop := octetSealsUptoRow.holds Tryd.pinned (OpenSpec.upto octetSealsSpec)

/-- 'jotterlaw01.OctetTold', WHERE WHAT IT READS IS OF BULK AT MOST 1048576: true; the input reads as it did. -/
def octetToldUptoRow : OpenClaim := { program := "ytoooflagkhpnkaadoor", sum := "378237beb48b75aee4983047ddd08c67f2863c64478d57e940151b7c0cf65f91", func := "jotter/jotterlaw01.OctetTold", spec := "octetTold", inPlace := ["internal/reflectlite.ValueOf", "(internal/reflectlite.Value).Type", "(internal/reflectlite.Value).IsNil", "internal/reflectlite.TypeOf", "(internal/reflectlite.Value).Elem", "(internal/reflectlite.Value).Set"], unfollowed := true, recurses := true, named := ["jotter/octet.table", "errors.errorType"], apart := false, laid := [("errors.errorType", laid_errors_errorType), ("jotter/octet.table", laid_jotter_octet_table)], narrowed := true }
def OctetToldUptoSaid : Prop := octetToldUptoRow.holds Tryd.pinned (OpenSpec.upto octetToldSpec)

/-- 'jotterlaw01.OctetOne', WHERE WHAT IT READS IS OF BULK AT MOST 1048576: true; the input reads as it did. -/
def octetOneUptoRow : OpenClaim := { program := "ytoooflagkhpnkaadoor", sum := "378237beb48b75aee4983047ddd08c67f2863c64478d57e940151b7c0cf65f91", func := "jotter/jotterlaw01.OctetOne", spec := "octetOne", inPlace := ["internal/reflectlite.ValueOf", "(internal/reflectlite.Value).Type", "(internal/reflectlite.Value).IsNil", "internal/reflectlite.TypeOf", "(internal/reflectlite.Value).Elem", "(internal/reflectlite.Value).Set"], unfollowed := true, recurses := true, named := ["jotter/octet.table", "errors.errorType"], apart := false, laid := [("errors.errorType", laid_errors_errorType), ("jotter/octet.table", laid_jotter_octet_table)], narrowed := true }
def OctetOneUptoSaid : Prop := octetOneUptoRow.holds Tryd.pinned (OpenSpec.upto octetOneSpec)

/-- 'jotterlaw01.OctetReads', WHERE WHAT IT READS IS OF BULK AT MOST 1048576: true; the input reads as it did. -/
def octetReadsUptoRow : OpenClaim := { program := "ytoooflagkhpnkaadoor", sum := "378237beb48b75aee4983047ddd08c67f2863c64478d57e940151b7c0cf65f91", func := "jotter/jotterlaw01.OctetReads", spec := "octetReads", inPlace := ["internal/reflectlite.ValueOf", "(internal/reflectlite.Value).Type", "(internal/reflectlite.Value).IsNil", "internal/reflectlite.TypeOf", "(internal/reflectlite.Value).Elem", "(internal/reflectlite.Value).Set"], unfollowed := true, recurses := true, named := ["errors.errorType"], apart := false, laid := [("errors.errorType", laid_errors_errorType)], narrowed := true }
def OctetReadsUptoSaid : Prop := octetReadsUptoRow.holds Tryd.pinned (OpenSpec.upto octetReadsSpec)

/-- 'jotterlaw01.OctetStays', WHERE WHAT IT READS IS OF BULK AT MOST 1048576: true; the input reads as it did. -/
def octetStaysUptoRow : OpenClaim := { program := "ytoooflagkhpnkaadoor", sum := "378237beb48b75aee4983047ddd08c67f2863c64478d57e940151b7c0cf65f91", func := "jotter/jotterlaw01.OctetStays", spec := "octetStays", inPlace := ["internal/reflectlite.ValueOf", "(internal/reflectlite.Value).Type", "(internal/reflectlite.Value).IsNil", "internal/reflectlite.TypeOf", "(internal/reflectlite.Value).Elem", "(internal/reflectlite.Value).Set"], unfollowed := true, recurses := true, named := ["errors.errorType"], apart := false, laid := [("errors.errorType", laid_errors_errorType)], narrowed := true }
def OctetStaysUptoSaid : Prop := octetStaysUptoRow.holds Tryd.pinned (OpenSpec.upto octetStaysSpec)

/-- 'jotterlaw01.OctetBack', WHERE WHAT IT READS IS OF BULK AT MOST 1048576: true; the input reads as it did. -/
def octetBackUptoRow : OpenClaim := { program := "ytoooflagkhpnkaadoor", sum := "378237beb48b75aee4983047ddd08c67f2863c64478d57e940151b7c0cf65f91", func := "jotter/jotterlaw01.OctetBack", spec := "octetBack", inPlace := ["internal/reflectlite.ValueOf", "(internal/reflectlite.Value).Type", "(internal/reflectlite.Value).IsNil", "internal/reflectlite.TypeOf", "(internal/reflectlite.Value).Elem", "(internal/reflectlite.Value).Set"], unfollowed := true, recurses := true, named := ["errors.errorType"], apart := false, laid := [("errors.errorType", laid_errors_errorType)], narrowed := true }
def OctetBackUptoSaid : Prop := octetBackUptoRow.holds Tryd.pinned (OpenSpec.upto octetBackSpec)

end Rows
end Go.Proofs.YtoooflagkhpnkaaDoor
