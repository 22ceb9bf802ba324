/- The name of a kind; a script of two steps. -/
import Derived.Test.YtjcbjclhagobiaaDoorCe
import Derived.Test.YtjcbjclhagobiaaDoorCf
namespace Go.Proofs.YtjcbjclhagobiaaDoor
open Go Go.KL Go.KM
variable {E : Env} {X : Xs}

theorem name_spec : Does PR E X 11 [.int .i64 5] [rbox 0 aspC] (fun v t => v = .string ⟨#[112, 105, 99, 107]⟩ ∧ t = []) := by
  refine Does.of 10 inferInstance rfl (by decide) rfl ?_
  refine auto ?_
  refine call (below_spec _ _) ?_
  rintro _ _ ⟨rfl, rfl⟩
  refine auto ?_
  refine no ?_
  refine auto ?_
  refine call fields_spec ?_
  rintro _ _ ⟨base, cap, es, h1, h2, rfl, rfl⟩
  refine auto ?_
  have h2' : es[(5 : Int).toNat]? = some [.string ⟨#[112, 105, 99, 107]⟩] := h2
  refine auto ?_
  refine ret ?_
  exact ends (t := []) ⟨rfl, rfl⟩
def awakeL : List Nat := [35, 3, 1, 9, 9, 0, 0, 13, 5, 7]
theorem awake_cfg : rdCfg awakeL = ⟨3, 1, 1, 9, 9, 0, []⟩ := by rfl
theorem awake_steps : rdScript awakeL = [⟨3, 0, 0, false, 0, 0, 0, []⟩, ⟨5, 0, 0, false, 0, 0, 7, []⟩] := by rfl
theorem awake_spec : Does PR E X 5 [] [rbox 0 aspC] (fun v t => v = .bool true ∧ t = []) := by
  refine Does.of 46 inferInstance rfl (by decide) rfl ?_
  refine auto ?_
  refine buildSlice fun b1 => ?_
  refine ghostOL (some ⟨b1, 0, none⟩) ?_
  refine auto ?_
  refine call (decode_spec awakeL (by decide) (some ⟨b1, 0, none⟩) 10) ?_
  rintro _ _ ⟨b2, c2, b3, c3, vs, hvs, rfl, rfl⟩
  rw [awake_cfg]
  rw [awake_steps] at hvs
  obtain ⟨s1, s2, rfl, e1, e2⟩ : ∃ s1 s2 : StepV, vs = [s1, s2] ∧ s1.1 = ⟨3, 0, 0, false, 0, 0, 0, []⟩ ∧ s2.1 = ⟨5, 0, 0, false, 0, 0, 7, []⟩ := by
    have hl := congrArg List.length hvs
    match vs, hl, hvs with
    | [s1, s2], _, h => simp at h; exact ⟨s1, s2, rfl, h.1, h.2⟩
  obtain ⟨_, p1, q1⟩ := s1
  obtain ⟨_, p2, q2⟩ := s2
  subst e1
  subst e2
  refine auto ?_
  refine alloc fun b4 => ?_
  refine auto ?_
  refine WL.andG (y := true) rfl rfl rfl (fun h gk => ?_) (fun h gk => ?_) ?_
  · refine auto ?_
    refine call name_spec ?_
    rintro _ _ ⟨rfl, rfl⟩
    refine auto ?_
    simp only [beq_self_eq_true]
    refine ret ?_
    exact ends (t := []) ⟨rfl, rfl⟩
  · exact absurd h (by simp)
  · refine auto ?_
    refine ret ?_
    exact ends (t := []) ⟨rfl, rfl⟩
end Go.Proofs.YtjcbjclhagobiaaDoor
