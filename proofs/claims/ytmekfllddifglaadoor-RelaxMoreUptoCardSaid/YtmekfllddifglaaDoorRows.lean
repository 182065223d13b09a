/-
  NARROWER THAN 'FOR EVERY INPUT', by the rows' own cells (each row's printed sentence says how): RelaxEnds: laid · RelaxLeast: laid · RelaxMore: laid · RelaxPlays: laid.
  DERIVED. THE GIVEN ROWS OF THIS SEAT. 4 by the template 'for every input the law returns true; each argument reads behind the call as it read before'; 0 by the template 'total and deterministic' (their statements: YtmekfllddifglaaDoorTotals.lean).
  GIVEN WITH THE SEED: the statements are not yours to turn. If you find one false, say at which input.
  Laid BY PROGRAM, IN A SANDBOX (cutbox-rows.mjs): the forced cells as the released guide's own fill.sh prints them over the translation 62c6be78d4f35765… (all of the seat's roots in one cut). By AI agents, Wed Nov 11 2026. No macro, syntax, notation, axiom, sorry.
-/
import Derived.Test.YtmekfllddifglaaDoorChecked
import GoSem.Claim
import GoSem.ClaimJoined
import GoSem.ClaimMapViews
import Derived.JoinedTies
import Derived.KernelRfl
namespace Go.Proofs.YtmekfllddifglaaDoor
/- THE CELL 'sum', in the pinned program and in every row, IS THE sha256 OF THE DUMP (.gsa) THAT YtmekfllddifglaaDoorProg.lean LOADS. Nothing in Lean hashes anything: it is a label: what it is worth is what the hold of that sum in a sandbox is worth. -/
noncomputable def Tryd.pinned : Pinned := { name := "ytmekfllddifglaadoor", sum := "62c6be78d4f357656ad2ff5964a99e8b796e0c7cbccb0018d100d572f8682215", checked := Tryd.checked }
namespace Rows
def none {H : Type} : Left H := { results := [], args := [] }

/- WHAT THE LISTED PACKAGE-LEVEL VARIABLES READ AS WHEN THE CALL BEGINS. Each datum BY PROGRAM (the guide's laid-datum.mjs) off the statement by which the dump's own 'gosem.cut.vars' lays the variable. In a bare row this is a premise. The card (YtmekfllddifglaaDoorCards.lean) ties it to the program's text. -/
def laid_errors_errorType {H : Type} : DataW H := .iface "internal/reflectlite.rtype" (.agg [.ptr (.lit (.string [101, 114, 114, 111, 114]))])

/-- 'typecaselaw20.RelaxEnds': WHATEVER THE INPUT: true; the input reads as it did. -/
def relaxEndsSpec : ChangeSpec := { name := "relaxEnds", fn := fun _ => fun
  | [d1, d2, d3] => { results := [.lit (.bool true)], args := [d1, d2, d3] }
  | _ => none }
def relaxEndsRow : OpenClaim := { program := "ytmekfllddifglaadoor", sum := "62c6be78d4f357656ad2ff5964a99e8b796e0c7cbccb0018d100d572f8682215", func := "typecase/typecaselaw20.RelaxEnds", spec := "relaxEnds", inPlace := ["internal/reflectlite.ValueOf", "(internal/reflectlite.Value).Type", "(internal/reflectlite.Value).IsNil", "internal/reflectlite.TypeOf", "(internal/reflectlite.Value).Elem", "(internal/reflectlite.Value).Set"], unfollowed := true, recurses := true, named := ["errors.errorType"], apart := false, laid := [("errors.errorType", laid_errors_errorType)] }
def RelaxEndsSaid : Prop := relaxEndsRow.holds Tryd.pinned (OpenSpec.ofChange relaxEndsSpec)

/-- ITS FALSE NEIGHBOUR: 'it returns false'. Refute it at one input. -/
def relaxEndsWrong : ChangeSpec := { name := "relaxEnds", fn := fun _ => fun
  | [d1, d2, d3] => { results := [.lit (.bool false)], args := [d1, d2, d3] }
  | _ => none }
def RelaxEndsWrongFalsely : Prop := relaxEndsRow.holds Tryd.pinned (OpenSpec.ofChange relaxEndsWrong)

/-- 'typecaselaw20.RelaxLeast': WHATEVER THE INPUT: true; the input reads as it did. -/
def relaxLeastSpec : ChangeSpec := { name := "relaxLeast", fn := fun _ => fun
  | [d1, d2, d3] => { results := [.lit (.bool true)], args := [d1, d2, d3] }
  | _ => none }
def relaxLeastRow : OpenClaim := { program := "ytmekfllddifglaadoor", sum := "62c6be78d4f357656ad2ff5964a99e8b796e0c7cbccb0018d100d572f8682215", func := "typecase/typecaselaw20.RelaxLeast", spec := "relaxLeast", inPlace := ["internal/reflectlite.ValueOf", "(internal/reflectlite.Value).Type", "(internal/reflectlite.Value).IsNil", "internal/reflectlite.TypeOf", "(internal/reflectlite.Value).Elem", "(internal/reflectlite.Value).Set"], unfollowed := true, recurses := true, named := ["errors.errorType"], apart := false, laid := [("errors.errorType", laid_errors_errorType)] }
def RelaxLeastSaid : Prop := relaxLeastRow.holds Tryd.pinned (OpenSpec.ofChange relaxLeastSpec)

/-- ITS FALSE NEIGHBOUR: 'it returns false'. Refute it at one input. -/
def relaxLeastWrong : ChangeSpec := { name := "relaxLeast", fn := fun _ => fun
  | [d1, d2, d3] => { results := [.lit (.bool false)], args := [d1, d2, d3] }
  | _ => none }
def RelaxLeastWrongFalsely : Prop := relaxLeastRow.holds Tryd.pinned (OpenSpec.ofChange relaxLeastWrong)

/-- 'typecaselaw20.RelaxMore': WHATEVER THE INPUT: true; the input reads as it did. -/
def relaxMoreSpec : ChangeSpec := { name := "relaxMore", fn := fun _ => fun
  | [d1, d2, d3, d4] => { results := [.lit (.bool true)], args := [d1, d2, d3, d4] }
  | _ => none }
def relaxMoreRow : OpenClaim := { program := "ytmekfllddifglaadoor", sum := "62c6be78d4f357656ad2ff5964a99e8b796e0c7cbccb0018d100d572f8682215", func := "typecase/typecaselaw20.RelaxMore", spec := "relaxMore", inPlace := ["internal/reflectlite.ValueOf", "(internal/reflectlite.Value).Type", "(internal/reflectlite.Value).IsNil", "internal/reflectlite.TypeOf", "(internal/reflectlite.Value).Elem", "(internal/reflectlite.Value).Set"], unfollowed := true, recurses := true, named := ["errors.errorType"], apart := false, laid := [("errors.errorType", laid_errors_errorType)] }
def RelaxMoreSaid : Prop := relaxMoreRow.holds Tryd.pinned (OpenSpec.ofChange relaxMoreSpec)

/-- ITS FALSE NEIGHBOUR: 'it returns false'. Refute it at one input. -/
def relaxMoreWrong : ChangeSpec := { name := "relaxMore", fn := fun _ => fun
  | [d1, d2, d3, d4] => { results := [.lit (.bool false)], args := [d1, d2, d3, d4] }
  | _ => none }
def RelaxMoreWrongFalsely : Prop := relaxMoreRow.holds Tryd.pinned (OpenSpec.ofChange relaxMoreWrong)

/-- 'typecaselaw20.RelaxPlays': WHATEVER THE INPUT: true; the input reads as it did. -/
def relaxPlaysSpec : ChangeSpec := { name := "relaxPlays", fn := fun _ => fun
  | [d1, d2, d3] => { results := [.lit (.bool true)], args := [d1, d2, d3] }
  | _ => none }
def relaxPlaysRow : OpenClaim := { program := "ytmekfllddifglaadoor", sum := "62c6be78d4f357656ad2ff5964a99e8b796e0c7cbccb0018d100d572f8682215", func := "typecase/typecaselaw20.RelaxPlays", spec := "relaxPlays", inPlace := ["internal/reflectlite.ValueOf", "(internal/reflectlite.Value).Type", "(internal/reflectlite.Value).IsNil", "internal/reflectlite.TypeOf", "(internal/reflectlite.Value).Elem", "(internal/reflectlite.Value).Set"], unfollowed := true, recurses := true, named := ["errors.errorType"], apart := false, laid := [("errors.errorType", laid_errors_errorType)] }
def RelaxPlaysSaid : Prop := relaxPlaysRow.holds Tryd.pinned (OpenSpec.ofChange relaxPlaysSpec)

/-- ITS FALSE NEIGHBOUR: 'it returns false'. Refute it at one input. -/
def relaxPlaysWrong : ChangeSpec := { name := "relaxPlays", fn := fun _ => fun
  | [d1, d2, d3] => { results := [.lit (.bool false)], args := [d1, d2, d3] }
  | _ => none }
def RelaxPlaysWrongFalsely : Prop := relaxPlaysRow.holds Tryd.pinned (OpenSpec.ofChange relaxPlaysWrong)

/- THE SECOND FORM. 'bulk': how many values and letters a reading holds, each counted each time it is reached (what is shared counts as often as it is met; a slice's spare places count too). A statement '..UptoSaid' is the law's where the arguments, and the package variables that the reading takes, are together of bulk at most 1048576: NARROWER than '..Said'. Prove '..Said' where nothing that the law and all that it calls make is longer than what came in: it says more and counts as full. Else prove '..UptoSaid'. A law counts once. -/
mutual
def uptoBulk {H : Type} : DataW H → Nat
  | .lit (.string bytes) => bytes.length + 1
  | .lit _ => 1
  | .nil => 1
  | .ptr d => uptoBulk d + 1
  | .slice elems spare => uptoBulkAll elems + uptoBulkAll spare + 1
  | .agg parts => uptoBulkAll parts + 1
  | .iface _ d => uptoBulk d + 1
  | .map entries => uptoBulkEntries entries + 1
  | .held _ => 1
def uptoBulkAll {H : Type} : List (DataW H) → Nat
  | [] => 0
  | d :: r => uptoBulk d + uptoBulkAll r
def uptoBulkEntries {H : Type} : List (Lit × DataW H) → Nat
  | [] => 0
  | x :: r => uptoBulkEntry x + uptoBulkEntries r
def uptoBulkEntry {H : Type} : Lit × DataW H → Nat
  | (.string bytes, d) => bytes.length + uptoBulk d + 1
  | (_, d) => uptoBulk d + 1
 end
def uptoSmall : (H : Type) → List (DataW H) → Bool := fun _ ds => decide (uptoBulkAll ds ≤ 1048576)
def OpenSpec.upto (s : _root_.Go.ChangeSpec) : _root_.Go.OpenSpec := { _root_.Go.OpenSpec.ofChange s with cond := some uptoSmall }

/-- 'typecaselaw20.RelaxEnds', WHERE WHAT IT READS IS OF BULK AT MOST 1048576: true; the input reads as it did. -/
def relaxEndsUptoRow : OpenClaim := { program := "ytmekfllddifglaadoor", sum := "62c6be78d4f357656ad2ff5964a99e8b796e0c7cbccb0018d100d572f8682215", func := "typecase/typecaselaw20.RelaxEnds", spec := "relaxEnds", inPlace := ["internal/reflectlite.ValueOf", "(internal/reflectlite.Value).Type", "(internal/reflectlite.Value).IsNil", "internal/reflectlite.TypeOf", "(internal/reflectlite.Value).Elem", "(internal/reflectlite.Value).Set"], unfollowed := true, recurses := true, named := ["errors.errorType"], apart := false, laid := [("errors.errorType", laid_errors_errorType)], narrowed := true }
def RelaxEndsUptoSaid : Prop := relaxEndsUptoRow.holds Tryd.pinned (OpenSpec.upto relaxEndsSpec)

/-- 'typecaselaw20.RelaxLeast', WHERE WHAT IT READS IS OF BULK AT MOST 1048576: true; the input reads as it did. -/
def relaxLeastUptoRow : OpenClaim := { program := "ytmekfllddifglaadoor", sum := "62c6be78d4f357656ad2ff5964a99e8b796e0c7cbccb0018d100d572f8682215", func := "typecase/typecaselaw20.RelaxLeast", spec := "relaxLeast", inPlace := ["internal/reflectlite.ValueOf", "(internal/reflectlite.Value).Type", "(internal/reflectlite.Value).IsNil", "internal/reflectlite.TypeOf", "(internal/reflectlite.Value).Elem", "(internal/reflectlite.Value).Set"], unfollowed := true, recurses := true, named := ["errors.errorType"], apart := false, laid := [("errors.errorType", laid_errors_errorType)], narrowed := true }
def RelaxLeastUptoSaid : Prop := relaxLeastUptoRow.holds Tryd.pinned (OpenSpec.upto relaxLeastSpec)

/-- 'typecaselaw20.RelaxMore', WHERE WHAT IT READS IS OF BULK AT MOST 1048576: true; the input reads as it did. -/
def relaxMoreUptoRow : OpenClaim := { program := "ytmekfllddifglaadoor", sum := "62c6be78d4f357656ad2ff5964a99e8b796e0c7cbccb0018d100d572f8682215", func := "typecase/typecaselaw20.RelaxMore", spec := "relaxMore", inPlace := ["internal/reflectlite.ValueOf", "(internal/reflectlite.Value).Type", "(internal/reflectlite.Value).IsNil", "internal/reflectlite.TypeOf", "(internal/reflectlite.Value).Elem", "(internal/reflectlite.Value).Set"], unfollowed := true, recurses := true, named := ["errors.errorType"], apart := false, laid := [("errors.errorType", laid_errors_errorType)], narrowed := true }
def RelaxMoreUptoSaid : Prop := relaxMoreUptoRow.holds Tryd.pinned (OpenSpec.upto relaxMoreSpec)

/-- 'typecaselaw20.RelaxPlays', WHERE WHAT IT READS IS OF BULK AT MOST 1048576: true; the input reads as it did. -/
def relaxPlaysUptoRow : OpenClaim := { program := "ytmekfllddifglaadoor", sum := "62c6be78d4f357656ad2ff5964a99e8b796e0c7cbccb0018d100d572f8682215", func := "typecase/typecaselaw20.RelaxPlays", spec := "relaxPlays", inPlace := ["internal/reflectlite.ValueOf", "(internal/reflectlite.Value).Type", "(internal/reflectlite.Value).IsNil", "internal/reflectlite.TypeOf", "(internal/reflectlite.Value).Elem", "(internal/reflectlite.Value).Set"], unfollowed := true, recurses := true, named := ["errors.errorType"], apart := false, laid := [("errors.errorType", laid_errors_errorType)], narrowed := true }
def RelaxPlaysUptoSaid : Prop := relaxPlaysUptoRow.holds Tryd.pinned (OpenSpec.upto relaxPlaysSpec)

end Rows
end Go.Proofs.YtmekfllddifglaaDoor
