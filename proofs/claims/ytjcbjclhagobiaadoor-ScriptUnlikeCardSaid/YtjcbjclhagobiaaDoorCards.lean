/-
  DERIVED. GIVEN WITH THE SEED: THE CARDS: each row of YtjcbjclhagobiaaDoorRows.lean that lists a variable, with what it lists TIED to the program's text (the seventh form; the later family's looks); each row that meets fmt, with fmt's text TOLD by the authors' own Lean function (tested against real Go, not proved from fmt's source: count such statements apart). THE CARD IS WHAT COUNTS. Prove the row's statement (the work); the ties are given (YtjcbjclhagobiaaDoorTie.lean); close each card by the builder's one call (the guide's Derived/Test/ToyasCard.lean, 'card_holds'). Laid BY PROGRAM, IN A SANDBOX (cutbox-door.mjs). By AI agents, Wed Nov 11 2026. No macro, syntax, notation, axiom, sorry.
-/
import Derived.Test.YtjcbjclhagobiaaDoorRows
import GoSem.ClaimSeven
namespace Go.Proofs.YtjcbjclhagobiaaDoor
namespace Rows

/-- THE TIED CARD OF 'kedgelaw23.ScriptWhole'. -/
def scriptWholeCard : Claim7 := { stood := { row := scriptWholeRow, standIns := [], harness := (true, "ff89507b535297d578085254aeb94aabe51a20c56c27869548c132a3762ca294"), looks := false }, kinds := [], alts := [], laidByText := true, laidKinds := [.listed, .data], laidTests := true, laidLooks := .later }
def ScriptWholeCardSaid : Prop := Claim7.holds Tryd.pinned (.plain (OpenSpec.ofChange scriptWholeSpec)) scriptWholeCard

/-- THE TIED CARD OF 'kedgelaw23.ScriptUnlike'. -/
def scriptUnlikeCard : Claim7 := { stood := { row := scriptUnlikeRow, standIns := [], harness := (true, "ff89507b535297d578085254aeb94aabe51a20c56c27869548c132a3762ca294"), looks := false }, kinds := [], alts := [], laidByText := true, laidKinds := [.listed, .data], laidTests := true, laidLooks := .later }
def ScriptUnlikeCardSaid : Prop := Claim7.holds Tryd.pinned (.plain (OpenSpec.ofChange scriptUnlikeSpec)) scriptUnlikeCard

/-- THE SECOND FORM's CARD OF 'kedgelaw23.ScriptWhole'. -/
def scriptWholeUptoCard : Claim7 := { stood := { row := scriptWholeUptoRow, standIns := [], harness := (true, "ff89507b535297d578085254aeb94aabe51a20c56c27869548c132a3762ca294"), looks := false }, kinds := [], alts := [], laidByText := true, laidKinds := [.listed, .data], laidTests := true, laidLooks := .later }
def ScriptWholeUptoCardSaid : Prop := Claim7.holds Tryd.pinned (.plain (OpenSpec.upto scriptWholeSpec)) scriptWholeUptoCard

/-- THE SECOND FORM's CARD OF 'kedgelaw23.ScriptUnlike'. -/
def scriptUnlikeUptoCard : Claim7 := { stood := { row := scriptUnlikeUptoRow, standIns := [], harness := (true, "ff89507b535297d578085254aeb94aabe51a20c56c27869548c132a3762ca294"), looks := false }, kinds := [], alts := [], laidByText := true, laidKinds := [.listed, .data], laidTests := true, laidLooks := .later }
def ScriptUnlikeUptoCardSaid : Prop := Claim7.holds Tryd.pinned (.plain (OpenSpec.upto scriptUnlikeSpec)) scriptUnlikeUptoCard
end Rows
end Go.Proofs.YtjcbjclhagobiaaDoor
