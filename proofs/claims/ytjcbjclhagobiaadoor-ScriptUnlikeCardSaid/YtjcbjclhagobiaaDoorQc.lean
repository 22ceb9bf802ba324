/- ScriptUnlike: unlike scripts have unlike bytes: proved of the program for every input; the listed variables are tied to the program's text (the card's own conditions). -/
import Derived.Test.YtjcbjclhagobiaaDoorLb
import Derived.Test.YtjcbjclhagobiaaDoorPb
import Derived.Test.YtjcbjclhagobiaaDoorQa
namespace Go.Proofs.YtjcbjclhagobiaaDoor
open Go Go.KL Go.KM Go.ChangeShapes Go.WideShapes Go.RowKit

theorem uBool : Tryd.prog.underlying 4 = some .bool := by kernel_rfl
theorem paramsUnlike : Tryd.f4.params = #[38, 39, 38, 39] := by kernel_rfl
set_option maxRecDepth 100000 in
theorem unlike_lifted (os : Os) (started : os.Started) (H : Type) (enc : TypeId × Value → H) :
    ReturnsInHanded {} Tryd.checked os 4 .any (fun w args => (Rows.scriptUnlikeSpec.pre enc Tryd.prog Tryd.f4 [] false w args ∧ laidMetH Tryd.prog laidV w) ∧ sizedMet enc Tryd.prog Tryd.f4 (OpenSpec.ofChange Rows.scriptUnlikeSpec) false w args)
      (Rows.scriptUnlikeSpec.post enc Tryd.prog Tryd.f4 false true false false) := by
  refine returnsInHanded_of_change_and (C := Tryd.checked) (X := fun w _ => laidMetH Tryd.prog laidV w) (fun _ _ _ hh h => h.of_heap hh) own started (by kernel_rfl) (by kernel_rfl)
    (ChangeSpec.witness_shaped (enc := enc) (C := Tryd.checked) (os := os) (X := fun w _ => laidMetH Tryd.prog laidV w) false (World.doorLaid Tryd.prog 400 os) #[.agg #[.int .i64 0, .int .i64 0, .int .i64 0, .int .i64 0, .int .i64 0, .int .i64 0, .slice none 0 0], .slice none 0 0, .agg #[.int .i64 0, .int .i64 0, .int .i64 0, .int .i64 0, .int .i64 0, .int .i64 0, .slice none 0 0], .slice none 0 0] 8 rfl (World.shaped_of_RefB (by kernel_rfl) (by kernel_rfl)) (by kernel_rfl) (by kernel_rfl) (by kernel_rfl) (door_met os _)) ?_
  intro W base args ds gs before hval0 hW _ _ hL _
  have hval : ∀ (j : Nat) t v, Tryd.f4.params[j]? = some t → args[j]? = some v → Value.okWide Tryd.prog W .any base t v := hval0
  have hW' := hW
  obtain ⟨p, q, hA0, hV, rfl, hfz, hnd⟩ := hW
  have hA : DataW.TrodAll enc Tryd.prog W 0 (fun _ => true) true Tryd.f4.params.toList args.toList ds p := hA0
  rw [paramsUnlike] at hA hval
  obtain ⟨v1, v2, v3, v4, d1, d2, d3, d4, p1, p2, p3, p4, rfl, rfl, rfl, h1, h2, h3, h4⟩ := trodAll_four hA
  obtain ⟨rfl, rfl⟩ := trodVars_none hV
  obtain ⟨f1, g1⟩ := h1
  obtain ⟨f2, g2⟩ := h2
  obtain ⟨f3, g3⟩ := h3
  obtain ⟨f4, g4⟩ := h4
  obtain ⟨c, pb, pc, e1, hpc, r1⟩ := read_cfg g1
  obtain ⟨b2, c2, vs, e2, hvs, r2, q2⟩ := read_steps g2
  obtain ⟨d, pb2, pc2, e3, hpd, r3⟩ := read_cfg g3
  obtain ⟨b4, c4, us, e4, hus, r4, q4⟩ := read_steps g4
  have w1 : v1 = .agg (c.cells pb pc).toArray := by
    obtain ⟨fs, _, _, hfs, _⟩ := KL.TyF.h (P := Tryd.prog) (t := 38) (i := 0)
    obtain ⟨cs, rfl, _⟩ := okWide_struct hfs (hval 0 _ v1 rfl rfl)
    have e1 : cs.toList = c.cells pb pc := e1
    rw [← e1]
  have w2 : v2 = .slice b2 vs.length c2 := by
    obtain ⟨a, n, c, rfl⟩ := okWide_slice (KL.TyU.h (P := Tryd.prog) (t := 39)) (hval 1 _ v2 rfl rfl)
    simpa [Value.cells] using e2
  have w3 : v3 = .agg (d.cells pb2 pc2).toArray := by
    obtain ⟨fs, _, _, hfs, _⟩ := KL.TyF.h (P := Tryd.prog) (t := 38) (i := 0)
    obtain ⟨cs, rfl, _⟩ := okWide_struct hfs (hval 2 _ v3 rfl rfl)
    have e3 : cs.toList = d.cells pb2 pc2 := e3
    rw [← e3]
  have w4 : v4 = .slice b4 us.length c4 := by
    obtain ⟨a, n, c, rfl⟩ := okWide_slice (KL.TyU.h (P := Tryd.prog) (t := 39)) (hval 3 _ v4 rfl rfl)
    simpa [Value.cells] using e4
  subst w1 w2 w3 w4
  have hc := (unlike_spec (E := ⟨W.os, W.output, W.tape⟩) (X := NoX) c d pb pb2 pc pc2 vs us (fun s hs => (hvs s hs).ok) (fun s hs => (hus s hs).ok) hpc hpd (fun s hs => (hvs s hs).packet) (fun s hs => (hus s hs).packet) b2 b4 c2 c4).calls (W := W) ?_
  · refine hc.mono fun e W' ⟨v, he, ⟨t, r, g, ⟨hv, _⟩, _, hsat⟩, hran⟩ => ?_
    subst hv
    refine ⟨_, he, ?_⟩
    exact post_true laidOut (by kernel_rfl) rfl (t := 4) (by kernel_rfl) uBool hW' rfl (hran.below hsat rfl rfl rfl)
  · exact seps (r1 _) (seps (r2 _) (seps (q2 _) (seps (r3 _) (seps (r4 _) (seps (q4 _) (seps (of_laid hL _) trivial))))))
theorem unlike_holds : Rows.ScriptUnlikeSaid :=
  OpenClaim.holds_of_wide 4 Tryd.f4 rfl rfl rfl rfl rfl rfl rfl ⟨rfl, rfl, rfl, rfl, rfl⟩ rfl rfl rfl rfl rfl (by kernel_rfl) (by kernel_rfl) (by kernel_rfl)
    (of_decide_eq_true (by kernel_rfl)) (by unfold Func.isWrapper; first | (rw [if_pos (by decide +kernel)]; kernel_rfl) | (rw [if_neg (by decide +kernel)]; exact ⟨rfl, rfl⟩))
    (fun os started H enc _ => unlike_lifted os started H enc)
/-- The tied card. -/
theorem unlike_card : Rows.ScriptUnlikeCardSaid :=
  Claim7.holds_tied_plain_at .later [] [.listed, .data] true Rows.scriptUnlikeCard.stood.harness false
    unlike_holds (fun _ h => by cases h) (by kernel_rfl) (fun _ h => by cases h) scriptUnlike_row_tie rfl ⟨rfl, rfl⟩ (by kernel_rfl) rfl
    (fun f fn hf hfn => by
      obtain rfl : f = 4 := Option.some.inj ((show Tryd.prog.funcNamed "kedge/kedgelaw23.ScriptUnlike" = some 4 by kernel_rfl).symm.trans hf) |>.symm
      obtain rfl : fn = Tryd.f4 := (Option.some.inj ((show Tryd.prog.funcs[4]? = some Tryd.f4 by kernel_rfl).symm.trans hfn)).symm
      exact ⟨by kernel_rfl, fun j t ht => by
        rw [paramsUnlike] at ht
        have hm : t ∈ [38, 39, 38, 39] := by
          have := Array.mem_of_getElem? ht
          rw [← Array.mem_toList_iff] at this
          exact this
        have hall : ([38, 39, 38, 39].all fun u => !Tryd.prog.wantsStandIn u) = true := by kernel_rfl
        exact (show Tryd.prog.wantsStandIn t = false by simpa using List.all_eq_true.1 hall t hm)⟩)
    (by kernel_rfl)
#print axioms unlike_card
end Go.Proofs.YtjcbjclhagobiaaDoor
