/-
  DERIVED. GIVEN WITH THE SEED: THE CARDS: each row of YtjfimhfnpbaicaaGreatDoorRows.lean that lists a variable, with what it lists TIED to the program's text (the seventh form; the later family's looks); each row that meets fmt, with fmt's text TOLD by the authors' own Lean function (tested against real Go, not proved from fmt's source: count such statements apart). THE CARD IS WHAT COUNTS. Prove the row's statement (the work); the ties are given (YtjfimhfnpbaicaaGreatDoorTie.lean); close each card by the builder's one call (the guide's Derived/Test/ToyasCard.lean, 'card_holds'). Laid BY PROGRAM, IN A SANDBOX (cutbox-door.mjs). By AI agents, Wed Nov 11 2026. No macro, syntax, notation, axiom, sorry.
-/
import Derived.Test.YtjfimhfnpbaicaaGreatDoorRows
import GoSem.ClaimSeven
namespace Go.Proofs.YtjfimhfnpbaicaaGreatDoor
namespace Rows

/-- THE TIED CARD OF 'pendulelaw06.SugarPlain'. -/
def sugarPlainCard : Claim7 := { stood := { row := sugarPlainRow, standIns := [], harness := (true, "1ea3b071c19bd006a445f0363219cfc56b0fb523ac0dad364328bf2066b8d506"), looks := true }, kinds := [], alts := [], laidByText := true, laidKinds := [.data, .data, .data, .sentinel, .sentinel], laidTests := true, laidLooks := .later }
def SugarPlainCardSaid : Prop := Claim7.holds Tryz.pinned (.plain (OpenSpec.ofChange sugarPlainSpec)) sugarPlainCard

/-- THE TIED CARD OF 'pendulelaw06.SugarSamples'. -/
def sugarSamplesCard : Claim7 := { stood := { row := sugarSamplesRow, standIns := [], harness := (true, "1ea3b071c19bd006a445f0363219cfc56b0fb523ac0dad364328bf2066b8d506"), looks := true }, kinds := [], alts := [], laidByText := true, laidKinds := [.data, .data, .data, .sentinel, .sentinel], laidTests := true, laidLooks := .later }
def SugarSamplesCardSaid : Prop := Claim7.holds Tryz.pinned (.plain (OpenSpec.ofChange sugarSamplesSpec)) sugarSamplesCard

/-- THE TIED CARD OF 'pendulelaw06.SugarWell'. -/
def sugarWellCard : Claim7 := { stood := { row := sugarWellRow, standIns := [], harness := (true, "1ea3b071c19bd006a445f0363219cfc56b0fb523ac0dad364328bf2066b8d506"), looks := true }, kinds := [], alts := [], laidByText := true, laidKinds := [.data, .data, .data, .sentinel, .sentinel], laidTests := true, laidLooks := .later }
def SugarWellCardSaid : Prop := Claim7.holds Tryz.pinned (.plain (OpenSpec.ofChange sugarWellSpec)) sugarWellCard

/-- THE TIED CARD OF 'pendulelaw06.SugarEnums'. -/
def sugarEnumsCard : Claim7 := { stood := { row := sugarEnumsRow, standIns := [], harness := (true, "1ea3b071c19bd006a445f0363219cfc56b0fb523ac0dad364328bf2066b8d506"), looks := true }, kinds := [], alts := [], laidByText := true, laidKinds := [.data, .data, .data, .sentinel, .sentinel], laidTests := true, laidLooks := .later }
def SugarEnumsCardSaid : Prop := Claim7.holds Tryz.pinned (.plain (OpenSpec.ofChange sugarEnumsSpec)) sugarEnumsCard

/-- THE TIED CARD OF 'pendulelaw06.SugarMatch'. -/
def sugarMatchCard : Claim7 := { stood := { row := sugarMatchRow, standIns := [], harness := (true, "1ea3b071c19bd006a445f0363219cfc56b0fb523ac0dad364328bf2066b8d506"), looks := true }, kinds := [], alts := [], laidByText := true, laidKinds := [.data, .data, .data, .sentinel, .sentinel], laidTests := true, laidLooks := .later }
def SugarMatchCardSaid : Prop := Claim7.holds Tryz.pinned (.plain (OpenSpec.ofChange sugarMatchSpec)) sugarMatchCard

/-- THE TIED CARD OF 'pendulelaw06.SugarKeeps'. -/
def sugarKeepsCard : Claim7 := { stood := { row := sugarKeepsRow, standIns := [], harness := (true, "1ea3b071c19bd006a445f0363219cfc56b0fb523ac0dad364328bf2066b8d506"), looks := true }, kinds := [], alts := [], laidByText := true, laidKinds := [.data, .data, .data, .sentinel, .sentinel], laidTests := true, laidLooks := .later }
def SugarKeepsCardSaid : Prop := Claim7.holds Tryz.pinned (.plain (OpenSpec.ofChange sugarKeepsSpec)) sugarKeepsCard

/-- THE SECOND FORM's CARD OF 'pendulelaw06.SugarPlain'. -/
def sugarPlainUptoCard : Claim7 := { stood := { row := sugarPlainUptoRow, standIns := [], harness := (true, "1ea3b071c19bd006a445f0363219cfc56b0fb523ac0dad364328bf2066b8d506"), looks := true }, kinds := [], alts := [], laidByText := true, laidKinds := [.data, .data, .data, .sentinel, .sentinel], laidTests := true, laidLooks := .later }
def SugarPlainUptoCardSaid : Prop := Claim7.holds Tryz.pinned (.plain (OpenSpec.upto sugarPlainSpec)) sugarPlainUptoCard

/-- THE SECOND FORM's CARD OF 'pendulelaw06.SugarSamples'. -/
def sugarSamplesUptoCard : Claim7 := { stood := { row := sugarSamplesUptoRow, standIns := [], harness := (true, "1ea3b071c19bd006a445f0363219cfc56b0fb523ac0dad364328bf2066b8d506"), looks := true }, kinds := [], alts := [], laidByText := true, laidKinds := [.data, .data, .data, .sentinel, .sentinel], laidTests := true, laidLooks := .later }
def SugarSamplesUptoCardSaid : Prop := Claim7.holds Tryz.pinned (.plain (OpenSpec.upto sugarSamplesSpec)) sugarSamplesUptoCard

/-- THE SECOND FORM's CARD OF 'pendulelaw06.SugarWell'. -/
def sugarWellUptoCard : Claim7 := { stood := { row := sugarWellUptoRow, standIns := [], harness := (true, "1ea3b071c19bd006a445f0363219cfc56b0fb523ac0dad364328bf2066b8d506"), looks := true }, kinds := [], alts := [], laidByText := true, laidKinds := [.data, .data, .data, .sentinel, .sentinel], laidTests := true, laidLooks := .later }
def SugarWellUptoCardSaid : Prop := Claim7.holds Tryz.pinned (.plain (OpenSpec.upto sugarWellSpec)) sugarWellUptoCard

/-- THE SECOND FORM's CARD OF 'pendulelaw06.SugarEnums'. -/
def sugarEnumsUptoCard : Claim7 := { stood := { row := sugarEnumsUptoRow, standIns := [], harness := (true, "1ea3b071c19bd006a445f0363219cfc56b0fb523ac0dad364328bf2066b8d506"), looks := true }, kinds := [], alts := [], laidByText := true, laidKinds := [.data, .data, .data, .sentinel, .sentinel], laidTests := true, laidLooks := .later }
def SugarEnumsUptoCardSaid : Prop := Claim7.holds Tryz.pinned (.plain (OpenSpec.upto sugarEnumsSpec)) sugarEnumsUptoCard

/-- THE SECOND FORM's CARD OF 'pendulelaw06.SugarMatch'. -/
def sugarMatchUptoCard : Claim7 := { stood := { row := sugarMatchUptoRow, standIns := [], harness := (true, "1ea3b071c19bd006a445f0363219cfc56b0fb523ac0dad364328bf2066b8d506"), looks := true }, kinds := [], alts := [], laidByText := true, laidKinds := [.data, .data, .data, .sentinel, .sentinel], laidTests := true, laidLooks := .later }
def SugarMatchUptoCardSaid : Prop := Claim7.holds Tryz.pinned (.plain (OpenSpec.upto sugarMatchSpec)) sugarMatchUptoCard

/-- THE SECOND FORM's CARD OF 'pendulelaw06.SugarKeeps'. -/
def sugarKeepsUptoCard : Claim7 := { stood := { row := sugarKeepsUptoRow, standIns := [], harness := (true, "1ea3b071c19bd006a445f0363219cfc56b0fb523ac0dad364328bf2066b8d506"), looks := true }, kinds := [], alts := [], laidByText := true, laidKinds := [.data, .data, .data, .sentinel, .sentinel], laidTests := true, laidLooks := .later }
def SugarKeepsUptoCardSaid : Prop := Claim7.holds Tryz.pinned (.plain (OpenSpec.upto sugarKeepsSpec)) sugarKeepsUptoCard
end Rows
end Go.Proofs.YtjfimhfnpbaicaaGreatDoor
