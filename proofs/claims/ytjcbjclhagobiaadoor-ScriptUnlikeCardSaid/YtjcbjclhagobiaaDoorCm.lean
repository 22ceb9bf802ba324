/- Scripts as the program has them; are scripts the same. -/
import Derived.Test.YtjcbjclhagobiaaDoorCl
namespace Go.Proofs.YtjcbjclhagobiaaDoor
open Go Go.KL Go.KM
variable {E : Env} {X : Xs}

abbrev fOurs : Nat := 7
theorem ours_spec (c : CfgM) (pb : Option Addr) (pc : Nat) (vs : List StepV) (hn : vs.length ≤ 1000000) (base : Option Addr) (cap : Nat) : Does PR E X fOurs [.agg (c.cells pb pc).toArray, .slice base vs.length cap] [rsl base cap 8 (vs.map StepV.cells)]
    (fun v t => ∃ b2 c2, v = .tuple #[.agg (c.cells pb pc).toArray, .slice b2 vs.length c2] ∧ t = [osl b2 c2 36 8 (vs.map StepV.cells)]) := by
  refine Does.of 59 inferInstance rfl (by decide) rfl ?_
  obtain ⟨ccap, policy, bound, cn, ch, fetch, presets⟩ := c
  refine auto ?_
  refine box_ fun b2 => ?_
  refine auto ?_
  refine alloc fun b4 => ?_
  refine auto ?_
  refine into (Into.nilO (T := 36) (sz := 8)) ?_
  refine loop (ι := Nat × Option Addr × Nat) (fun i => vs.length - i.1) (fun i => i.1 ≤ vs.length) (fun i => [(1, .slice base vs.length cap), (2, .pointer (some ⟨b2, 0, none⟩)), (4, .pointer (some ⟨b4, 0, none⟩)), (6, .slice i.2.1 i.1 i.2.2), (7, .int .i64 (i.1 : Nat))])
    (fun i => [osl i.2.1 i.2.2 36 8 ((vs.take i.1).map StepV.cells), rsl base cap 8 (vs.map StepV.cells), box b2 [.int .i64 ccap, .int .i64 policy, .int .i64 bound, .int .i64 cn, .int .i64 ch, .int .i64 fetch, .slice pb presets.length pc] 38, box b4 [.int .i64 0, .int .i64 0, .int .i64 0, .int .i64 0, .int .i64 0, .int .i64 0, .slice none 0 0] 26]) (0, none, 0) (by simp) ?_
  rintro ⟨i, b5, c5⟩ hi ih
  (try dsimp only at hi ih ⊢)
  refine auto ?_
  refine branch (fun h => ?_) (fun h => ?_)
  · have hi' : i < vs.length := by have := of_decide_eq_true h; omega
    obtain ⟨s, hs⟩ : ∃ s, vs[i]? = some s := ⟨vs[i], List.getElem?_eq_getElem hi'⟩
    have hs1 : (vs.map StepV.cells)[((i : Nat) : Int).toNat]? = some (StepV.cells s) := by simp [hs]
    have hml : ((vs.take i).map StepV.cells).length = i := by simp; omega
    refine auto ?_
    refine draw [0, 0, 0, 6, 14, 30, 0, 0, 192, 448, 960, 0, 0, 6144, 14336, 30720, 0, 0, 196608, 458752, 983040, 0, 0, 6291456, 14680064, 31457280, 67108862, 134217726, 268435455, 536870911] [27, 28, 29] [3, 5, 8, 10, 13, 15, 18, 20, 23, 25] [0, 1, 2, 3, 4, 5, 6, 7, 8, 9, 10, 11, 12, 13, 14, 15, 16, 17, 18, 19, 20, 21, 22, 23, 24, 25, 26, 27, 28, 29] ?_
    refine dauto ?_
    refine dbuildSlice fun b6 => ?_
    refine dauto ?_
    refine dappendO fun b7 c7 => ?_
    refine dauto ?_
    refine auto ?_
    have e1 : (vs.take i).map StepV.cells ++ [StepV.cells s] = (vs.take (i + 1)).map StepV.cells := by
      rw [List.take_add_one, hs, List.map_append]; rfl
    have g := ih (i + 1, b7, c7) (by dsimp only; omega) (by dsimp only; omega)
    dsimp only at g
    rw [← e1] at g
    exact next g
  · have hi' : i = vs.length := by have := of_decide_eq_false h; omega
    subst hi'
    rw [List.take_length]
    refine auto ?_
    refine ret ?_
    exact ends (t := [osl b5 c5 36 8 (vs.map StepV.cells)]) ⟨b5, c5, rfl, rfl⟩
end Go.Proofs.YtjcbjclhagobiaaDoor
