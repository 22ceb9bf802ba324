/- What the listed variables hold, in the words of the program logic; a witness. -/
import Derived.Test.YtjcbjclhagobiaaDoorPa
import Derived.Test.YtjcbjclhagobiaaDoorCf
import Derived.Test.YtjcbjclhagobiaaDoorRows
import Derived.Test.YtjcbjclhagobiaaDoorTie
import Derived.Test.YtjcbjclhagobiaaDoorCards
import Derived.LaidMore
import Derived.OpenShut
import Derived.Stop.Joined
import Derived.SevenTiedAt
namespace Go.Proofs.YtjcbjclhagobiaaDoor
open Go Go.KL Go.KM Go.ChangeShapes Go.WideShapes Go.RowKit

abbrev laidV : List (String × DataW Unit) := [("unicode.White_Space", Rows.laid_unicode_White_Space), ("strings.asciiSpace", Rows.laid_strings_asciiSpace)]
theorem own : ownKnob Tryd.prog.godebug = none := by kernel_rfl
theorem laidOut : laidOutB Tryd.prog = true := by kernel_rfl
theorem gAscii : Tryd.prog.globalNamed "strings.asciiSpace" = some 0 := by kernel_rfl
theorem gWhite : Tryd.prog.globalNamed "unicode.White_Space" = some 1 := by kernel_rfl
theorem tAscii : (Tryd.prog.globals[0]?).map (·.type) = some 69 := by kernel_rfl
theorem door_met (os : Os) (args : Array Value) : laidMetH Tryd.prog laidV ((World.doorLaid Tryd.prog 400 os).forCall (fun _ _ => 0) ⟨#[], args, []⟩).memory :=
  laidMetH_of_parts3 (fuel := 8) (laidMet_of_run' 8 (by kernel_rfl) (by kernel_rfl)) (by kernel_rfl) (by kernel_rfl)
theorem cells1 : Tryd.prog.cellsOf 5 = 1 := by kernel_rfl
theorem uAscii : Tryd.prog.underlying 69 = some (.array 256 5) := by kernel_rfl
theorem uU8 : Tryd.prog.underlying 5 = some (.int .u8) := by kernel_rfl
theorem aspD : ((Rows.laid_strings_asciiSpace : DataW Unit)) = .agg ((List.range 256).map fun c => .lit (.int .u8 (isSp c : Nat))) := by kernel_rfl
set_option maxRecDepth 100000 in
theorem of_laid {W : World} (h : laidMetH Tryd.prog laidV W) : ∀ f, (rbox 0 aspC).p W.hp f := by
  rw [MakeChecks.laidMetH_plain _ _ _ (by kernel_rfl)] at h
  obtain ⟨ps, ⟨g0, t0, cs0, f0, p0, q0, hg0, ht0, hv0, hd0, ⟨g1, t1, cs1, f1, p1, q1, hg1, ht1, hv1, hd1, _, _⟩, _⟩, _, _⟩ := h
  obtain rfl := Option.some.inj (gAscii.symm.trans hg1)
  obtain rfl := Option.some.inj (tAscii.symm.trans ht1)
  intro f i v hi
  obtain ⟨xs, m1, rfl, hx1, hlen, hn3, hel⟩ := DataW.trod_array uAscii hd1
  have hi' : i < 256 := by
    have := (List.getElem?_eq_some_iff.1 hi).1
    simpa [aspC] using this
  have hv : v = .int .u8 (isSp i : Nat) := by
    simp [aspC, hi'] at hi; exact hi.symm
  have h0 := hel i hi'
  simp only [Prod.mk.injEq] at hx1
  have hx2 := hx1.1
  rw [aspD] at hx2
  have hx3 : (List.range 256).map (fun c => (DataW.lit (.int .u8 (isSp c : Nat)) : DataW Unit)) = xs.map (·.1) := by injection hx2
  have hxi := congrArg (·[i]?) hx3
  simp only [List.getElem?_map] at hxi
  rw [List.getElem?_range hi'] at hxi
  cases hx : xs[i]? with
  | none => rw [hx] at hxi; cases hxi
  | some y =>
    rw [hx] at hxi h0
    simp only [Option.map_some, Option.some.injEq] at hxi
    obtain ⟨n, e1, e2, _⟩ := DataW.trod_int uU8 h0
    rw [cells1, Nat.mul_one] at e1
    have e3 : y.1 = .lit (.int .u8 n) := by rw [e2]
    rw [← hxi] at e3
    have e4 : (isSp i : Int) = n := by injection e3 with e; injection e with _ e
    subst hv
    rw [e4]
    show W.cell? ⟨_, i, none⟩ = _
    have := World.var?_cell hg1 hv1 i
    rw [this]
    have e5 : cs1.toList[i]? = some (.int .u8 n) := by
      have := congrArg (·[0]?) e1
      simpa using this
    simpa using e5
end Go.Proofs.YtjcbjclhagobiaaDoor
