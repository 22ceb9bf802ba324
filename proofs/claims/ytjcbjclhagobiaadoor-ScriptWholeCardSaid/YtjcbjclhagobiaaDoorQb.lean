/- ScriptWhole: every text of bytes is a script: proved of the program for every input; the listed variables are tied to the program's text (the card's own conditions). -/
import Derived.Test.YtjcbjclhagobiaaDoorLa
import Derived.Test.YtjcbjclhagobiaaDoorQa
namespace Go.Proofs.YtjcbjclhagobiaaDoor
open Go Go.KL Go.KM Go.ChangeShapes Go.WideShapes Go.RowKit

theorem uBytes : Tryd.prog.underlying 22 = some (.slice 5) := by kernel_rfl
theorem uBool : Tryd.prog.underlying 4 = some .bool := by kernel_rfl
theorem paramsWhole : Tryd.f3.params = #[22, 22] := by kernel_rfl
set_option maxRecDepth 100000 in
theorem whole_lifted (os : Os) (started : os.Started) (H : Type) (enc : TypeId × Value → H) :
    ReturnsInHanded {} Tryd.checked os 3 .any (fun w args => (Rows.scriptWholeSpec.pre enc Tryd.prog Tryd.f3 [] false w args ∧ laidMetH Tryd.prog laidV w) ∧ sizedMet enc Tryd.prog Tryd.f3 (OpenSpec.ofChange Rows.scriptWholeSpec) false w args)
      (Rows.scriptWholeSpec.post enc Tryd.prog Tryd.f3 false true false false) := by
  refine returnsInHanded_of_change_and (C := Tryd.checked) (X := fun w _ => laidMetH Tryd.prog laidV w) (fun _ _ _ hh h => h.of_heap hh) own started (by kernel_rfl) (by kernel_rfl)
    (ChangeSpec.witness_shaped (enc := enc) (C := Tryd.checked) (os := os) (X := fun w _ => laidMetH Tryd.prog laidV w) false (World.doorLaid Tryd.prog 400 os) #[.slice none 0 0, .slice none 0 0] 8 rfl (World.shaped_of_RefB (by kernel_rfl) (by kernel_rfl)) (by kernel_rfl) (by kernel_rfl) (by kernel_rfl) (door_met os _)) ?_
  intro W base args ds gs before hval0 hW _ _ hL _
  have hval : ∀ (j : Nat) t v, Tryd.f3.params[j]? = some t → args[j]? = some v → Value.okWide Tryd.prog W .any base t v := hval0
  have hW' := hW
  obtain ⟨p, q, hA0, hV, rfl, hfz, hnd⟩ := hW
  have hA : DataW.TrodAll enc Tryd.prog W 0 (fun _ => true) true Tryd.f3.params.toList args.toList ds p := hA0
  rw [paramsWhole] at hA hval
  obtain ⟨v1, v2, d1, d2, p1, p2, rfl, rfl, rfl, h1, h2⟩ := trodAll_two hA
  obtain ⟨rfl, rfl⟩ := trodVars_none hV
  obtain ⟨f1, g1⟩ := h1
  obtain ⟨f2, g2⟩ := h2
  obtain ⟨b1, c1, l1, e1, hl1, r1⟩ := read_bytes uBytes uU8 cells1 g1
  obtain ⟨b2, c2, l2, e2, hl2, r2⟩ := read_bytes uBytes uU8 cells1 g2
  have w1 : v1 = .slice b1 l1.length c1 := by
    obtain ⟨a, n, c, rfl⟩ := okWide_slice uBytes (hval 0 _ v1 rfl rfl)
    simpa [Value.cells] using e1
  have w2 : v2 = .slice b2 l2.length c2 := by
    obtain ⟨a, n, c, rfl⟩ := okWide_slice uBytes (hval 1 _ v2 rfl rfl)
    simpa [Value.cells] using e2
  subst w1
  subst w2
  have hc := (whole_spec (E := ⟨W.os, W.output, W.tape⟩) (X := NoX) l1 l2 hl1 hl2 b1 b2 c1 c2).calls (W := W) ?_
  · refine hc.mono fun e W' ⟨v, he, ⟨t, r, g, ⟨hv, _⟩, _, hsat⟩, hran⟩ => ?_
    subst hv
    refine ⟨_, he, ?_⟩
    exact post_true laidOut (by kernel_rfl) rfl (t := 4) (by kernel_rfl) uBool hW' rfl (hran.below hsat rfl rfl rfl)
  · exact ⟨Hp.emp, Hp.emp, Hp.emp_disj _, Hp.emp_le _, Hp.emp_le _, r1 _, Hp.emp, Hp.emp, Hp.emp_disj _, Hp.emp_le _, Hp.emp_le _, r2 _, Hp.emp, Hp.emp, Hp.emp_disj _, Hp.emp_le _, Hp.emp_le _, of_laid hL _, trivial⟩
theorem whole_holds : Rows.ScriptWholeSaid :=
  OpenClaim.holds_of_wide 3 Tryd.f3 rfl rfl rfl rfl rfl rfl rfl ⟨rfl, rfl, rfl, rfl, rfl⟩ rfl rfl rfl rfl rfl (by kernel_rfl) (by kernel_rfl) (by kernel_rfl)
    (of_decide_eq_true (by kernel_rfl)) (by unfold Func.isWrapper; first | (rw [if_pos (by decide +kernel)]; kernel_rfl) | (rw [if_neg (by decide +kernel)]; exact ⟨rfl, rfl⟩))
    (fun os started H enc _ => whole_lifted os started H enc)
/-- The tied card. -/
theorem whole_card : Rows.ScriptWholeCardSaid :=
  Claim7.holds_tied_plain_at .later [] [.listed, .data] true Rows.scriptWholeCard.stood.harness false
    whole_holds (fun _ h => by cases h) (by kernel_rfl) (fun _ h => by cases h) scriptWhole_row_tie rfl ⟨rfl, rfl⟩ (by kernel_rfl) rfl
    (fun f fn hf hfn => by
      obtain rfl : f = 3 := Option.some.inj ((show Tryd.prog.funcNamed "kedge/kedgelaw23.ScriptWhole" = some 3 by kernel_rfl).symm.trans hf) |>.symm
      obtain rfl : fn = Tryd.f3 := (Option.some.inj ((show Tryd.prog.funcs[3]? = some Tryd.f3 by kernel_rfl).symm.trans hfn)).symm
      exact ⟨by kernel_rfl, fun j t ht => by
        rw [paramsWhole] at ht
        have hm : t ∈ [22] := by
          have := Array.mem_of_getElem? ht
          simpa using this
        have hall : ([22].all fun u => !Tryd.prog.wantsStandIn u) = true := by kernel_rfl
        exact (show Tryd.prog.wantsStandIn t = false by simpa using List.all_eq_true.1 hall t hm)⟩)
    (by kernel_rfl)
#print axioms whole_card
end Go.Proofs.YtjcbjclhagobiaaDoor
