/-
  No cell of these rows narrows 'for every input' (looked for: loops, veiled, ifaces, maps, wideKeys, modest, calm, conditions, laid).
  DERIVED. THE GIVEN ROWS OF THIS SEAT. 8 by the template 'for every input the law returns true; each argument reads behind the call as it read before'; 0 by the template 'total and deterministic' (their statements: YtjcbjclhagobiaaGreatTotals.lean).
  GIVEN WITH THE SEED: the statements are not yours to turn. If you find one false, say at which input.
  Laid BY PROGRAM, IN A SANDBOX (cutbox-rows.mjs): the forced cells as the released guide's own fill.sh prints them over the translation 57bbcdd16371425e… (all of the seat's roots in one cut). By AI agents, Wed Nov 11 2026. No macro, syntax, notation, axiom, sorry.
-/
import Derived.Test.YtjcbjclhagobiaaGreatChecked
import GoSem.Claim
import GoSem.ClaimJoined
import GoSem.ClaimMapViews
import Derived.JoinedTies
import Derived.KernelRfl
namespace Go.Proofs.YtjcbjclhagobiaaGreat
/- THE CELL 'sum', in the pinned program and in every row, IS THE sha256 OF THE DUMP (.gsa) THAT YtjcbjclhagobiaaGreatProg.lean LOADS. Nothing in Lean hashes anything: it is a label: what it is worth is what the hold of that sum in a sandbox is worth. -/
noncomputable def Tryz.pinned : Pinned := { name := "ytjcbjclhagobiaagreat", sum := "57bbcdd16371425e5067adf8e905e532657342ce7ce6ee3f2dddccb984c23b27", checked := Tryz.checked }
namespace Rows
def none {H : Type} : Left H := { results := [], args := [] }

/-- 'kedgetop.TopAnswers': WHATEVER THE INPUT: true; the input reads as it did. -/
def topAnswersSpec : ChangeSpec := { name := "topAnswers", fn := fun _ => fun
  | [d] => { results := [.lit (.bool true)], args := [d] }
  | _ => none }
def topAnswersRow : OpenClaim := { program := "ytjcbjclhagobiaagreat", sum := "57bbcdd16371425e5067adf8e905e532657342ce7ce6ee3f2dddccb984c23b27", func := "kedge/kedgetop.TopAnswers", spec := "topAnswers", inPlace := ["math/bits.Add64", "slices.overlaps[kedge/forward.Port]"], unfollowed := true, recurses := true, leaving := true, apart := false }
def TopAnswersSaid : Prop := topAnswersRow.holds Tryz.pinned (OpenSpec.ofChange topAnswersSpec)

/-- ITS FALSE NEIGHBOUR: 'it returns false'. Refute it at one input. -/
def topAnswersWrong : ChangeSpec := { name := "topAnswers", fn := fun _ => fun
  | [d] => { results := [.lit (.bool false)], args := [d] }
  | _ => none }
def TopAnswersWrongFalsely : Prop := topAnswersRow.holds Tryz.pinned (OpenSpec.ofChange topAnswersWrong)

/-- 'kedgetop.TopChecks': WHATEVER THE INPUT: true; the input reads as it did. -/
def topChecksSpec : ChangeSpec := { name := "topChecks", fn := fun _ => fun
  | [d1, d2] => { results := [.lit (.bool true)], args := [d1, d2] }
  | _ => none }
def topChecksRow : OpenClaim := { program := "ytjcbjclhagobiaagreat", sum := "57bbcdd16371425e5067adf8e905e532657342ce7ce6ee3f2dddccb984c23b27", func := "kedge/kedgetop.TopChecks", spec := "topChecks", inPlace := ["math/bits.Add64", "slices.overlaps[kedge/forward.Port]"], unfollowed := true, recurses := true, leaving := true, apart := false }
def TopChecksSaid : Prop := topChecksRow.holds Tryz.pinned (OpenSpec.ofChange topChecksSpec)

/-- ITS FALSE NEIGHBOUR: 'it returns false'. Refute it at one input. -/
def topChecksWrong : ChangeSpec := { name := "topChecks", fn := fun _ => fun
  | [d1, d2] => { results := [.lit (.bool false)], args := [d1, d2] }
  | _ => none }
def TopChecksWrongFalsely : Prop := topChecksRow.holds Tryz.pinned (OpenSpec.ofChange topChecksWrong)

/-- 'kedgetop.TopErrors': WHATEVER THE INPUT: true; the input reads as it did. -/
def topErrorsSpec : ChangeSpec := { name := "topErrors", fn := fun _ => fun
  | [d1, d2] => { results := [.lit (.bool true)], args := [d1, d2] }
  | _ => none }
def topErrorsRow : OpenClaim := { program := "ytjcbjclhagobiaagreat", sum := "57bbcdd16371425e5067adf8e905e532657342ce7ce6ee3f2dddccb984c23b27", func := "kedge/kedgetop.TopErrors", spec := "topErrors", inPlace := ["math/bits.Add64", "slices.overlaps[kedge/forward.Port]"], unfollowed := true, recurses := true, leaving := true, apart := false }
def TopErrorsSaid : Prop := topErrorsRow.holds Tryz.pinned (OpenSpec.ofChange topErrorsSpec)

/-- ITS FALSE NEIGHBOUR: 'it returns false'. Refute it at one input. -/
def topErrorsWrong : ChangeSpec := { name := "topErrors", fn := fun _ => fun
  | [d1, d2] => { results := [.lit (.bool false)], args := [d1, d2] }
  | _ => none }
def TopErrorsWrongFalsely : Prop := topErrorsRow.holds Tryz.pinned (OpenSpec.ofChange topErrorsWrong)

/-- 'kedgelaw24.EngineRuns': WHATEVER THE INPUT: true; the input reads as it did. -/
def engineRunsSpec : ChangeSpec := { name := "engineRuns", fn := fun _ => fun
  | [d] => { results := [.lit (.bool true)], args := [d] }
  | _ => none }
def engineRunsRow : OpenClaim := { program := "ytjcbjclhagobiaagreat", sum := "57bbcdd16371425e5067adf8e905e532657342ce7ce6ee3f2dddccb984c23b27", func := "kedge/kedgelaw24.EngineRuns", spec := "engineRuns", inPlace := ["math/bits.Add64", "slices.overlaps[kedge/forward.Port]"], unfollowed := true, recurses := true, leaving := true, apart := false }
def EngineRunsSaid : Prop := engineRunsRow.holds Tryz.pinned (OpenSpec.ofChange engineRunsSpec)

/-- ITS FALSE NEIGHBOUR: 'it returns false'. Refute it at one input. -/
def engineRunsWrong : ChangeSpec := { name := "engineRuns", fn := fun _ => fun
  | [d] => { results := [.lit (.bool false)], args := [d] }
  | _ => none }
def EngineRunsWrongFalsely : Prop := engineRunsRow.holds Tryz.pinned (OpenSpec.ofChange engineRunsWrong)

/-- 'kedgetop.TopFills': WHATEVER THE INPUT: true; the input reads as it did. -/
def topFillsSpec : ChangeSpec := { name := "topFills", fn := fun _ => fun
  | [d1, d2, d3, d4] => { results := [.lit (.bool true)], args := [d1, d2, d3, d4] }
  | _ => none }
def topFillsRow : OpenClaim := { program := "ytjcbjclhagobiaagreat", sum := "57bbcdd16371425e5067adf8e905e532657342ce7ce6ee3f2dddccb984c23b27", func := "kedge/kedgetop.TopFills", spec := "topFills", inPlace := ["math/bits.Add64", "slices.overlaps[kedge/forward.Port]"], unfollowed := true, recurses := true, leaving := true, apart := false }
def TopFillsSaid : Prop := topFillsRow.holds Tryz.pinned (OpenSpec.ofChange topFillsSpec)

/-- ITS FALSE NEIGHBOUR: 'it returns false'. Refute it at one input. -/
def topFillsWrong : ChangeSpec := { name := "topFills", fn := fun _ => fun
  | [d1, d2, d3, d4] => { results := [.lit (.bool false)], args := [d1, d2, d3, d4] }
  | _ => none }
def TopFillsWrongFalsely : Prop := topFillsRow.holds Tryz.pinned (OpenSpec.ofChange topFillsWrong)

/-- 'kedgetop.TopModel': WHATEVER THE INPUT: true; the input reads as it did. -/
def topModelSpec : ChangeSpec := { name := "topModel", fn := fun _ => fun
  | [d1, d2] => { results := [.lit (.bool true)], args := [d1, d2] }
  | _ => none }
def topModelRow : OpenClaim := { program := "ytjcbjclhagobiaagreat", sum := "57bbcdd16371425e5067adf8e905e532657342ce7ce6ee3f2dddccb984c23b27", func := "kedge/kedgetop.TopModel", spec := "topModel", inPlace := ["math/bits.Add64", "slices.overlaps[kedge/forward.Port]"], unfollowed := true, recurses := true, leaving := true, apart := false }
def TopModelSaid : Prop := topModelRow.holds Tryz.pinned (OpenSpec.ofChange topModelSpec)

/-- ITS FALSE NEIGHBOUR: 'it returns false'. Refute it at one input. -/
def topModelWrong : ChangeSpec := { name := "topModel", fn := fun _ => fun
  | [d1, d2] => { results := [.lit (.bool false)], args := [d1, d2] }
  | _ => none }
def TopModelWrongFalsely : Prop := topModelRow.holds Tryz.pinned (OpenSpec.ofChange topModelWrong)

/-- 'kedgetop.TopGood': WHATEVER THE INPUT: true; the input reads as it did. -/
def topGoodSpec : ChangeSpec := { name := "topGood", fn := fun _ => fun
  | [d1, d2] => { results := [.lit (.bool true)], args := [d1, d2] }
  | _ => none }
def topGoodRow : OpenClaim := { program := "ytjcbjclhagobiaagreat", sum := "57bbcdd16371425e5067adf8e905e532657342ce7ce6ee3f2dddccb984c23b27", func := "kedge/kedgetop.TopGood", spec := "topGood", inPlace := ["math/bits.Add64", "slices.overlaps[kedge/forward.Port]"], unfollowed := true, recurses := true, leaving := true, apart := false }
def TopGoodSaid : Prop := topGoodRow.holds Tryz.pinned (OpenSpec.ofChange topGoodSpec)

/-- ITS FALSE NEIGHBOUR: 'it returns false'. Refute it at one input. -/
def topGoodWrong : ChangeSpec := { name := "topGood", fn := fun _ => fun
  | [d1, d2] => { results := [.lit (.bool false)], args := [d1, d2] }
  | _ => none }
def TopGoodWrongFalsely : Prop := topGoodRow.holds Tryz.pinned (OpenSpec.ofChange topGoodWrong)

/-- 'kedgetop.TopBounds': WHATEVER THE INPUT: true; the input reads as it did. -/
def topBoundsSpec : ChangeSpec := { name := "topBounds", fn := fun _ => fun
  | [d1, d2] => { results := [.lit (.bool true)], args := [d1, d2] }
  | _ => none }
def topBoundsRow : OpenClaim := { program := "ytjcbjclhagobiaagreat", sum := "57bbcdd16371425e5067adf8e905e532657342ce7ce6ee3f2dddccb984c23b27", func := "kedge/kedgetop.TopBounds", spec := "topBounds", inPlace := ["math/bits.Add64", "slices.overlaps[kedge/forward.Port]"], unfollowed := true, recurses := true, leaving := true, apart := false }
def TopBoundsSaid : Prop := topBoundsRow.holds Tryz.pinned (OpenSpec.ofChange topBoundsSpec)

/-- ITS FALSE NEIGHBOUR: 'it returns false'. Refute it at one input. -/
def topBoundsWrong : ChangeSpec := { name := "topBounds", fn := fun _ => fun
  | [d1, d2] => { results := [.lit (.bool false)], args := [d1, d2] }
  | _ => none }
def TopBoundsWrongFalsely : Prop := topBoundsRow.holds Tryz.pinned (OpenSpec.ofChange topBoundsWrong)

/- THE SECOND FORM. 'bulk': how many values and letters a reading holds, each counted each time it is reached (what is shared counts as often as it is met; a slice's spare places count too). A statement '..UptoSaid' is the law's where the arguments, and the package variables that the reading takes, are together of bulk at most 1048576: NARROWER than '..Said'. Prove '..Said' where nothing that the law and all that it calls make is longer than what came in: it says more and counts as full. Else prove '..UptoSaid'. A law counts once. -/
mutual
def uptoBulk {H : Type} : DataW H → Nat
  | .lit (.string bytes) => bytes.length + 1
  | .lit _ => 1
  | .nil => 1
  | .ptr d => uptoBulk d + 1
  | .slice elems spare => uptoBulkAll elems + uptoBulkAll spare + 1
  | .agg parts => uptoBulkAll parts + 1
  | .iface _ d => uptoBulk d + 1
  | .map entries => uptoBulkEntries entries + 1
  | .held _ => 1
def uptoBulkAll {H : Type} : List (DataW H) → Nat
  | [] => 0
  | d :: r => uptoBulk d + uptoBulkAll r
def uptoBulkEntries {H : Type} : List (Lit × DataW H) → Nat
  | [] => 0
  | x :: r => uptoBulkEntry x + uptoBulkEntries r
def uptoBulkEntry {H : Type} : Lit × DataW H → Nat
  | (.string bytes, d) => bytes.length + uptoBulk d + 1
  | (_, d) => uptoBulk d + 1
 end
def uptoSmall : (H : Type) → List (DataW H) → Bool := fun _ ds => decide (uptoBulkAll ds ≤ 1048576)
def OpenSpec.upto (s : _root_.Go.ChangeSpec) : _root_.Go.OpenSpec := { _root_.Go.OpenSpec.ofChange s with cond := some uptoSmall }

/-- 'kedgetop.TopAnswers', WHERE WHAT IT READS IS OF BULK AT MOST 1048576: true; the input reads as it did. -/
def topAnswersUptoRow : OpenClaim := { program := "ytjcbjclhagobiaagreat", sum := "57bbcdd16371425e5067adf8e905e532657342ce7ce6ee3f2dddccb984c23b27", func := "kedge/kedgetop.TopAnswers", spec := "topAnswers", inPlace := ["math/bits.Add64", "slices.overlaps[kedge/forward.Port]"], unfollowed := true, recurses := true, leaving := true, apart := false, narrowed := true }
def TopAnswersUptoSaid : Prop := topAnswersUptoRow.holds Tryz.pinned (OpenSpec.upto topAnswersSpec)

/-- 'kedgetop.TopChecks', WHERE WHAT IT READS IS OF BULK AT MOST 1048576: true; the input reads as it did. -/
def topChecksUptoRow : OpenClaim := { program := "ytjcbjclhagobiaagreat", sum := "57bbcdd16371425e5067adf8e905e532657342ce7ce6ee3f2dddccb984c23b27", func := "kedge/kedgetop.TopChecks", spec := "topChecks", inPlace := ["math/bits.Add64", "slices.overlaps[kedge/forward.Port]"], unfollowed := true, recurses := true, leaving := true, apart := false, narrowed := true }
def TopChecksUptoSaid : Prop := topChecksUptoRow.holds Tryz.pinned (OpenSpec.upto topChecksSpec)

/-- 'kedgetop.TopErrors', WHERE WHAT IT READS IS OF BULK AT MOST 1048576: true; the input reads as it did. -/
def topErrorsUptoRow : OpenClaim := { program := "ytjcbjclhagobiaagreat", sum := "57bbcdd16371425e5067adf8e905e532657342ce7ce6ee3f2dddccb984c23b27", func := "kedge/kedgetop.TopErrors", spec := "topErrors", inPlace := ["math/bits.Add64", "slices.overlaps[kedge/forward.Port]"], unfollowed := true, recurses := true, leaving := true, apart := false, narrowed := true }
def TopErrorsUptoSaid : Prop := topErrorsUptoRow.holds Tryz.pinned (OpenSpec.upto topErrorsSpec)

/-- 'kedgelaw24.EngineRuns', WHERE WHAT IT READS IS OF BULK AT MOST 1048576: true; the input reads as it did. -/
def engineRunsUptoRow : OpenClaim := { program := "ytjcbjclhagobiaagreat", sum := "57bbcdd16371425e5067adf8e905e532657342ce7ce6ee3f2dddccb984c23b27", func := "kedge/kedgelaw24.EngineRuns", spec := "engineRuns", inPlace := ["math/bits.Add64", "slices.overlaps[kedge/forward.Port]"], unfollowed := true, recurses := true, leaving := true, apart := false, narrowed := true }
def EngineRunsUptoSaid : Prop := engineRunsUptoRow.holds Tryz.pinned (OpenSpec.upto engineRunsSpec)

/-- 'kedgetop.TopFills', WHERE WHAT IT READS IS OF BULK AT MOST 1048576: true; the input reads as it did. -/
def topFillsUptoRow : OpenClaim := { program := "ytjcbjclhagobiaagreat", sum := "57bbcdd16371425e5067adf8e905e532657342ce7ce6ee3f2dddccb984c23b27", func := "kedge/kedgetop.TopFills", spec := "topFills", inPlace := ["math/bits.Add64", "slices.overlaps[kedge/forward.Port]"], unfollowed := true, recurses := true, leaving := true, apart := false, narrowed := true }
def TopFillsUptoSaid : Prop := topFillsUptoRow.holds Tryz.pinned (OpenSpec.upto topFillsSpec)

/-- 'kedgetop.TopModel', WHERE WHAT IT READS IS OF BULK AT MOST 1048576: true; the input reads as it did. -/
def topModelUptoRow : OpenClaim := { program := "ytjcbjclhagobiaagreat", sum := "57bbcdd16371425e5067adf8e905e532657342ce7ce6ee3f2dddccb984c23b27", func := "kedge/kedgetop.TopModel", spec := "topModel", inPlace := ["math/bits.Add64", "slices.overlaps[kedge/forward.Port]"], unfollowed := true, recurses := true, leaving := true, apart := false, narrowed := true }
def TopModelUptoSaid : Prop := topModelUptoRow.holds Tryz.pinned (OpenSpec.upto topModelSpec)

/-- 'kedgetop.TopGood', WHERE WHAT IT READS IS OF BULK AT MOST 1048576: true; the input reads as it did. -/
def topGoodUptoRow : OpenClaim := { program := "ytjcbjclhagobiaagreat", sum := "57bbcdd16371425e5067adf8e905e532657342ce7ce6ee3f2dddccb984c23b27", func := "kedge/kedgetop.TopGood", spec := "topGood", inPlace := ["math/bits.Add64", "slices.overlaps[kedge/forward.Port]"], unfollowed := true, recurses := true, leaving := true, apart := false, narrowed := true }
def TopGoodUptoSaid : Prop := topGoodUptoRow.holds Tryz.pinned (OpenSpec.upto topGoodSpec)

/-- 'kedgetop.TopBounds', WHERE WHAT IT READS IS OF BULK AT MOST 1048576: true; the input reads as it did. -/
def topBoundsUptoRow : OpenClaim := { program := "ytjcbjclhagobiaagreat", sum := "57bbcdd16371425e5067adf8e905e532657342ce7ce6ee3f2dddccb984c23b27", func := "kedge/kedgetop.TopBounds", spec := "topBounds", inPlace := ["math/bits.Add64", "slices.overlaps[kedge/forward.Port]"], unfollowed := true, recurses := true, leaving := true, apart := false, narrowed := true }
def TopBoundsUptoSaid : Prop := topBoundsUptoRow.holds Tryz.pinned (OpenSpec.upto topBoundsSpec)

end Rows
end Go.Proofs.YtjcbjclhagobiaaGreat
