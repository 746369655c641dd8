/-
  DERIVED. GIVEN WITH THE SEED: THE CARDS: each row of YtbjcghnhhgdopaaGreatDoorRows.lean that lists a variable, with what it lists TIED to the program's text (the seventh form; the later family's looks); each row that meets fmt, with fmt's text TOLD by the authors' own Lean function (tested against real Go, not proved from fmt's source: count such statements apart). THE CARD IS WHAT COUNTS. Prove the row's statement (the work); the ties are given (YtbjcghnhhgdopaaGreatDoorTie.lean); close each card by the builder's one call (the guide's Derived/Test/ToyasCard.lean, 'card_holds'). Laid BY PROGRAM, IN A SANDBOX (cutbox-door.mjs). By AI agents, Wed Nov 11 2026. No macro, syntax, notation, axiom, sorry.
-/
import Derived.Test.YtbjcghnhhgdopaaGreatDoorRows
import GoSem.ClaimSeven
namespace Go.Proofs.YtbjcghnhhgdopaaGreatDoor
namespace Rows

/-- THE TIED CARD OF 'watchglasslaw24.BackPlays'. -/
def backPlaysCard : Claim7 := { stood := { row := backPlaysRow, standIns := [], harness := (true, "7c11ddd020edb67780a6659a8563f46d3291eb9b129ac0ca10284e0b04c58d2e"), looks := false }, kinds := [], alts := [], laidByText := true, laidKinds := [.data], laidTests := true, laidLooks := .later }
def BackPlaysCardSaid : Prop := Claim7.holds Tryz.pinned (.plain (OpenSpec.ofChange backPlaysSpec)) backPlaysCard

/-- THE TIED CARD OF 'watchglasslaw24.BackRate'. -/
def backRateCard : Claim7 := { stood := { row := backRateRow, standIns := [], harness := (true, "7c11ddd020edb67780a6659a8563f46d3291eb9b129ac0ca10284e0b04c58d2e"), looks := false }, kinds := [], alts := [], laidByText := true, laidKinds := [.data], laidTests := true, laidLooks := .later }
def BackRateCardSaid : Prop := Claim7.holds Tryz.pinned (.plain (OpenSpec.ofChange backRateSpec)) backRateCard

/-- THE TIED CARD OF 'watchglasslaw24.BackCopy'. -/
def backCopyCard : Claim7 := { stood := { row := backCopyRow, standIns := [], harness := (true, "7c11ddd020edb67780a6659a8563f46d3291eb9b129ac0ca10284e0b04c58d2e"), looks := false }, kinds := [], alts := [], laidByText := true, laidKinds := [.data], laidTests := true, laidLooks := .later }
def BackCopyCardSaid : Prop := Claim7.holds Tryz.pinned (.plain (OpenSpec.ofChange backCopySpec)) backCopyCard

/-- THE TIED CARD OF 'watchglasslaw24.BackNil'. -/
def backNilCard : Claim7 := { stood := { row := backNilRow, standIns := [], harness := (true, "7c11ddd020edb67780a6659a8563f46d3291eb9b129ac0ca10284e0b04c58d2e"), looks := false }, kinds := [], alts := [], laidByText := true, laidKinds := [.data], laidTests := true, laidLooks := .later }
def BackNilCardSaid : Prop := Claim7.holds Tryz.pinned (.plain (OpenSpec.ofChange backNilSpec)) backNilCard

/-- THE TIED CARD OF 'watchglasslaw24.BackReach'. -/
def backReachCard : Claim7 := { stood := { row := backReachRow, standIns := [], harness := (true, "7c11ddd020edb67780a6659a8563f46d3291eb9b129ac0ca10284e0b04c58d2e"), looks := false }, kinds := [], alts := [], laidByText := true, laidKinds := [.data], laidTests := true, laidLooks := .later }
def BackReachCardSaid : Prop := Claim7.holds Tryz.pinned (.plain (OpenSpec.ofChange backReachSpec)) backReachCard

/-- THE TIED CARD OF 'watchglasslaw16.SugarSize'. -/
def sugarSizeCard : Claim7 := { stood := { row := sugarSizeRow, standIns := [], harness := (true, "7c11ddd020edb67780a6659a8563f46d3291eb9b129ac0ca10284e0b04c58d2e"), looks := false }, kinds := [], alts := [], laidByText := true, laidKinds := [.data, .data, .data], laidTests := true, laidLooks := .later }
def SugarSizeCardSaid : Prop := Claim7.holds Tryz.pinned (.plain (OpenSpec.ofChange sugarSizeSpec)) sugarSizeCard

/-- THE TIED CARD OF 'watchglasslaw17.NormOnce'. -/
def normOnceCard : Claim7 := { stood := { row := normOnceRow, standIns := [], harness := (true, "7c11ddd020edb67780a6659a8563f46d3291eb9b129ac0ca10284e0b04c58d2e"), looks := false }, kinds := [], alts := [], laidByText := true, laidKinds := [.data, .data, .data], laidTests := true, laidLooks := .later }
def NormOnceCardSaid : Prop := Claim7.holds Tryz.pinned (.plain (OpenSpec.ofChange normOnceSpec)) normOnceCard

/-- THE TIED CARD OF 'watchglasslaw16.SugarSame'. -/
def sugarSameCard : Claim7 := { stood := { row := sugarSameRow, standIns := [], harness := (true, "7c11ddd020edb67780a6659a8563f46d3291eb9b129ac0ca10284e0b04c58d2e"), looks := false }, kinds := [], alts := [], laidByText := true, laidKinds := [.data, .data, .data], laidTests := true, laidLooks := .later }
def SugarSameCardSaid : Prop := Claim7.holds Tryz.pinned (.plain (OpenSpec.ofChange sugarSameSpec)) sugarSameCard

/-- THE TIED CARD OF 'watchglasslaw17.NormSame'. -/
def normSameCard : Claim7 := { stood := { row := normSameRow, standIns := [], harness := (true, "7c11ddd020edb67780a6659a8563f46d3291eb9b129ac0ca10284e0b04c58d2e"), looks := false }, kinds := [], alts := [], laidByText := true, laidKinds := [.data, .data, .data], laidTests := true, laidLooks := .later }
def NormSameCardSaid : Prop := Claim7.holds Tryz.pinned (.plain (OpenSpec.ofChange normSameSpec)) normSameCard

/-- THE SECOND FORM's CARD OF 'watchglasslaw24.BackPlays'. -/
def backPlaysUptoCard : Claim7 := { stood := { row := backPlaysUptoRow, standIns := [], harness := (true, "7c11ddd020edb67780a6659a8563f46d3291eb9b129ac0ca10284e0b04c58d2e"), looks := false }, kinds := [], alts := [], laidByText := true, laidKinds := [.data], laidTests := true, laidLooks := .later }
def BackPlaysUptoCardSaid : Prop := Claim7.holds Tryz.pinned (.plain (OpenSpec.upto backPlaysSpec)) backPlaysUptoCard

/-- THE SECOND FORM's CARD OF 'watchglasslaw24.BackRate'. -/
def backRateUptoCard : Claim7 := { stood := { row := backRateUptoRow, standIns := [], harness := (true, "7c11ddd020edb67780a6659a8563f46d3291eb9b129ac0ca10284e0b04c58d2e"), looks := false }, kinds := [], alts := [], laidByText := true, laidKinds := [.data], laidTests := true, laidLooks := .later }
def BackRateUptoCardSaid : Prop := Claim7.holds Tryz.pinned (.plain (OpenSpec.upto backRateSpec)) backRateUptoCard

/-- THE SECOND FORM's CARD OF 'watchglasslaw24.BackCopy'. -/
def backCopyUptoCard : Claim7 := { stood := { row := backCopyUptoRow, standIns := [], harness := (true, "7c11ddd020edb67780a6659a8563f46d3291eb9b129ac0ca10284e0b04c58d2e"), looks := false }, kinds := [], alts := [], laidByText := true, laidKinds := [.data], laidTests := true, laidLooks := .later }
def BackCopyUptoCardSaid : Prop := Claim7.holds Tryz.pinned (.plain (OpenSpec.upto backCopySpec)) backCopyUptoCard

/-- THE SECOND FORM's CARD OF 'watchglasslaw24.BackNil'. -/
def backNilUptoCard : Claim7 := { stood := { row := backNilUptoRow, standIns := [], harness := (true, "7c11ddd020edb67780a6659a8563f46d3291eb9b129ac0ca10284e0b04c58d2e"), looks := false }, kinds := [], alts := [], laidByText := true, laidKinds := [.data], laidTests := true, laidLooks := .later }
def BackNilUptoCardSaid : Prop := Claim7.holds Tryz.pinned (.plain (OpenSpec.upto backNilSpec)) backNilUptoCard

/-- THE SECOND FORM's CARD OF 'watchglasslaw24.BackReach'. -/
def backReachUptoCard : Claim7 := { stood := { row := backReachUptoRow, standIns := [], harness := (true, "7c11ddd020edb67780a6659a8563f46d3291eb9b129ac0ca10284e0b04c58d2e"), looks := false }, kinds := [], alts := [], laidByText := true, laidKinds := [.data], laidTests := true, laidLooks := .later }
def BackReachUptoCardSaid : Prop := Claim7.holds Tryz.pinned (.plain (OpenSpec.upto backReachSpec)) backReachUptoCard

/-- THE SECOND FORM's CARD OF 'watchglasslaw16.SugarSize'. -/
def sugarSizeUptoCard : Claim7 := { stood := { row := sugarSizeUptoRow, standIns := [], harness := (true, "7c11ddd020edb67780a6659a8563f46d3291eb9b129ac0ca10284e0b04c58d2e"), looks := false }, kinds := [], alts := [], laidByText := true, laidKinds := [.data, .data, .data], laidTests := true, laidLooks := .later }
def SugarSizeUptoCardSaid : Prop := Claim7.holds Tryz.pinned (.plain (OpenSpec.upto sugarSizeSpec)) sugarSizeUptoCard

/-- THE SECOND FORM's CARD OF 'watchglasslaw17.NormOnce'. -/
def normOnceUptoCard : Claim7 := { stood := { row := normOnceUptoRow, standIns := [], harness := (true, "7c11ddd020edb67780a6659a8563f46d3291eb9b129ac0ca10284e0b04c58d2e"), looks := false }, kinds := [], alts := [], laidByText := true, laidKinds := [.data, .data, .data], laidTests := true, laidLooks := .later }
def NormOnceUptoCardSaid : Prop := Claim7.holds Tryz.pinned (.plain (OpenSpec.upto normOnceSpec)) normOnceUptoCard

/-- THE SECOND FORM's CARD OF 'watchglasslaw16.SugarSame'. -/
def sugarSameUptoCard : Claim7 := { stood := { row := sugarSameUptoRow, standIns := [], harness := (true, "7c11ddd020edb67780a6659a8563f46d3291eb9b129ac0ca10284e0b04c58d2e"), looks := false }, kinds := [], alts := [], laidByText := true, laidKinds := [.data, .data, .data], laidTests := true, laidLooks := .later }
def SugarSameUptoCardSaid : Prop := Claim7.holds Tryz.pinned (.plain (OpenSpec.upto sugarSameSpec)) sugarSameUptoCard

/-- THE SECOND FORM's CARD OF 'watchglasslaw17.NormSame'. -/
def normSameUptoCard : Claim7 := { stood := { row := normSameUptoRow, standIns := [], harness := (true, "7c11ddd020edb67780a6659a8563f46d3291eb9b129ac0ca10284e0b04c58d2e"), looks := false }, kinds := [], alts := [], laidByText := true, laidKinds := [.data, .data, .data], laidTests := true, laidLooks := .later }
def NormSameUptoCardSaid : Prop := Claim7.holds Tryz.pinned (.plain (OpenSpec.upto normSameSpec)) normSameUptoCard
end Rows
end Go.Proofs.YtbjcghnhhgdopaaGreatDoor
