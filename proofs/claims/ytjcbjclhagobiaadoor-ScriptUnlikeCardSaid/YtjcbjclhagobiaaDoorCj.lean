/- Whether a script may be told. -/
import Derived.Test.YtjcbjclhagobiaaDoorCi
namespace Go.Proofs.YtjcbjclhagobiaaDoor
open Go Go.KL Go.KM
variable {E : Env} {X : Xs}

def toldB (hi lo : Nat) (v6 : Bool) (n : Int) : Bool := (decide (0 ≤ n) && decide (n < 256)) && saneB hi lo v6 && (decide (hi = topN (min (longN v6 n.toNat * 8) 64) hi) && decide (lo = topN (longN v6 n.toNat * 8 - 64) lo))
theorem told_spec (hi lo : Nat) (v6 : Bool) (n : Int) (h1 : hi < 18446744073709551616) (h2 : lo < 18446744073709551616) : Does PR E X 27 [.agg #[u64 hi, u64 lo, .bool v6, .int .i64 n]] [] (fun v t => v = .bool (toldB hi lo v6 n) ∧ t = []) := by
  refine Does.of 26 inferInstance rfl (by decide) rfl ?_
  refine auto ?_
  refine box_ fun b1 => ?_
  refine auto ?_
  refine call (below_spec _ _) ?_
  rintro _ _ ⟨rfl, rfl⟩
  refine auto ?_
  refine orc (y := !saneB hi lo v6) (fun h gk => ?_) ?_
  · refine auto ?_
    refine call (sane_spec hi lo v6 h1 h2) ?_
    rintro _ _ ⟨rfl, rfl⟩
    exact autoG
  refine auto ?_
  refine branch (fun h => ?_) (fun h => ?_)
  · refine auto ?_
    refine ret ?_
    refine ends ⟨?_, rfl⟩
    rw [pack_one, toldB]
    congr 1
    generalize (decide (hi = topN (min (longN v6 n.toNat * 8) 64) hi) && decide (lo = topN (longN v6 n.toNat * 8 - 64) lo)) = z
    revert h
    cases (decide (0 ≤ n) && decide (n < 256)) <;> cases saneB hi lo v6 <;> cases z <;> simp
  · have hn : 0 ≤ n ∧ n < 256 ∧ saneB hi lo v6 = true := by
      simp at h; exact ⟨by omega, by omega, h.2⟩
    refine auto ?_
    refine draw [0, 1, 0, 4, 0, 16, 48, 0, 128, 496, 1008, 2044, 4095, 8191] [9, 11, 13] [1, 3, 6, 8] [0, 1, 2, 3, 4, 5, 6, 7, 8, 9, 10, 11, 12, 13] ?_
    refine dauto ?_
    refine call (long_spec v6 n (by omega) (by omega)) ?_
    rintro _ _ ⟨rfl, rfl⟩
    refine pdok ?_
    have hlg : longN v6 n.toNat ≤ 16 := by
      have := @longN_le v6 n.toNat
      have hw : width v6 ≤ 128 := by cases v6 <;> decide
      omega
    refine dauto ?_
    refine call (mask_spec hi lo v6 _ h1 h2) ?_
    rintro _ _ ⟨rfl, rfl⟩
    refine pdok ?_
    have hc : cutN ((longN v6 n.toNat : Nat) * 8 : Int) v6 = longN v6 n.toNat * 8 := by
      have := @longN_le v6 n.toNat
      unfold cutN; omega
    refine dauto ?_
    refine auto ?_
    refine ret ?_
    refine ends ⟨?_, rfl⟩
    simp [toldB, hn, hc, castEq]
end Go.Proofs.YtjcbjclhagobiaaDoor
