/-
  DERIVED. GIVEN WITH THE SEED: THE CARDS: each row of YtmekfllddifglaaDoorRows.lean that lists a variable, with what it lists TIED to the program's text (the seventh form; the later family's looks); each row that meets fmt, with fmt's text TOLD by the authors' own Lean function (tested against real Go, not proved from fmt's source: count such statements apart). THE CARD IS WHAT COUNTS. Prove the row's statement (the work); the ties are given (YtmekfllddifglaaDoorTie.lean); close each card by the builder's one call (the guide's Derived/Test/ToyasCard.lean, 'card_holds'). Laid BY PROGRAM, IN A SANDBOX (cutbox-door.mjs). By AI agents, Wed Nov 11 2026. No macro, syntax, notation, axiom, sorry.
-/
import Derived.Test.YtmekfllddifglaaDoorRows
import GoSem.ClaimSeven
namespace Go.Proofs.YtmekfllddifglaaDoor
namespace Rows

/-- THE TIED CARD OF 'typecaselaw20.RelaxEnds'. -/
def relaxEndsCard : Claim7 := { stood := { row := relaxEndsRow, standIns := [], harness := (true, "6714ba83040e518295f82c2a6f168fb3bed92ecec105c48dbab8026efa85bd7d"), looks := true }, kinds := [], alts := [], laidByText := true, laidKinds := [.handle], laidTests := true, laidLooks := .later }
def RelaxEndsCardSaid : Prop := Claim7.holds Tryd.pinned (.plain (OpenSpec.ofChange relaxEndsSpec)) relaxEndsCard

/-- THE TIED CARD OF 'typecaselaw20.RelaxLeast'. -/
def relaxLeastCard : Claim7 := { stood := { row := relaxLeastRow, standIns := [], harness := (true, "6714ba83040e518295f82c2a6f168fb3bed92ecec105c48dbab8026efa85bd7d"), looks := true }, kinds := [], alts := [], laidByText := true, laidKinds := [.handle], laidTests := true, laidLooks := .later }
def RelaxLeastCardSaid : Prop := Claim7.holds Tryd.pinned (.plain (OpenSpec.ofChange relaxLeastSpec)) relaxLeastCard

/-- THE TIED CARD OF 'typecaselaw20.RelaxMore'. -/
def relaxMoreCard : Claim7 := { stood := { row := relaxMoreRow, standIns := [], harness := (true, "6714ba83040e518295f82c2a6f168fb3bed92ecec105c48dbab8026efa85bd7d"), looks := true }, kinds := [], alts := [], laidByText := true, laidKinds := [.handle], laidTests := true, laidLooks := .later }
def RelaxMoreCardSaid : Prop := Claim7.holds Tryd.pinned (.plain (OpenSpec.ofChange relaxMoreSpec)) relaxMoreCard

/-- THE TIED CARD OF 'typecaselaw20.RelaxPlays'. -/
def relaxPlaysCard : Claim7 := { stood := { row := relaxPlaysRow, standIns := [], harness := (true, "6714ba83040e518295f82c2a6f168fb3bed92ecec105c48dbab8026efa85bd7d"), looks := true }, kinds := [], alts := [], laidByText := true, laidKinds := [.handle], laidTests := true, laidLooks := .later }
def RelaxPlaysCardSaid : Prop := Claim7.holds Tryd.pinned (.plain (OpenSpec.ofChange relaxPlaysSpec)) relaxPlaysCard

/-- THE SECOND FORM's CARD OF 'typecaselaw20.RelaxEnds'. -/
def relaxEndsUptoCard : Claim7 := { stood := { row := relaxEndsUptoRow, standIns := [], harness := (true, "6714ba83040e518295f82c2a6f168fb3bed92ecec105c48dbab8026efa85bd7d"), looks := true }, kinds := [], alts := [], laidByText := true, laidKinds := [.handle], laidTests := true, laidLooks := .later }
def RelaxEndsUptoCardSaid : Prop := Claim7.holds Tryd.pinned (.plain (OpenSpec.upto relaxEndsSpec)) relaxEndsUptoCard

/-- THE SECOND FORM's CARD OF 'typecaselaw20.RelaxLeast'. -/
def relaxLeastUptoCard : Claim7 := { stood := { row := relaxLeastUptoRow, standIns := [], harness := (true, "6714ba83040e518295f82c2a6f168fb3bed92ecec105c48dbab8026efa85bd7d"), looks := true }, kinds := [], alts := [], laidByText := true, laidKinds := [.handle], laidTests := true, laidLooks := .later }
def RelaxLeastUptoCardSaid : Prop := Claim7.holds Tryd.pinned (.plain (OpenSpec.upto relaxLeastSpec)) relaxLeastUptoCard

/-- THE SECOND FORM's CARD OF 'typecaselaw20.RelaxMore'. -/
def relaxMoreUptoCard : Claim7 := { stood := { row := relaxMoreUptoRow, standIns := [], harness := (true, "6714ba83040e518295f82c2a6f168fb3bed92ecec105c48dbab8026efa85bd7d"), looks := true }, kinds := [], alts := [], laidByText := true, laidKinds := [.handle], laidTests := true, laidLooks := .later }
def RelaxMoreUptoCardSaid : Prop := Claim7.holds Tryd.pinned (.plain (OpenSpec.upto relaxMoreSpec)) relaxMoreUptoCard

/-- THE SECOND FORM's CARD OF 'typecaselaw20.RelaxPlays'. -/
def relaxPlaysUptoCard : Claim7 := { stood := { row := relaxPlaysUptoRow, standIns := [], harness := (true, "6714ba83040e518295f82c2a6f168fb3bed92ecec105c48dbab8026efa85bd7d"), looks := true }, kinds := [], alts := [], laidByText := true, laidKinds := [.handle], laidTests := true, laidLooks := .later }
def RelaxPlaysUptoCardSaid : Prop := Claim7.holds Tryd.pinned (.plain (OpenSpec.upto relaxPlaysSpec)) relaxPlaysUptoCard
end Rows
end Go.Proofs.YtmekfllddifglaaDoor
