/- What the functions of package addr do. -/
import Derived.Test.YtjcbjclhagobiaaDoorKt
import Derived.Test.YtjcbjclhagobiaaDoorKq
import Derived.Test.YtjcbjclhagobiaaDoorMa
namespace Go.Proofs.YtjcbjclhagobiaaDoor
open Go Go.KL Go.KM
variable {E : Env} {X : Xs}
noncomputable abbrev PR := Tryd.prog
abbrev u64 (x : Nat) : Value := .int .u64 (x : Int)
def width (v6 : Bool) : Nat := if v6 then 128 else 32

theorem width_spec (q : Bool) : Does PR E X 38 [.bool q] [] (fun v t => v = .int .i64 (width q : Int) ∧ t = []) := by
  refine Does.of 4 inferInstance rfl (by decide) rfl ?_
  refine auto ?_
  refine branch (fun h => ?_) (fun h => ?_)
  · refine auto ?_
    refine ret ?_
    exact ends ⟨by subst h; rfl, rfl⟩
  · refine auto ?_
    refine ret ?_
    exact ends ⟨by subst h; rfl, rfl⟩
theorem shl_high {n : Nat} (h : n ≤ 64) (h0 : n ≠ 0) : shlI .u64 18446744073709551615 (64 - (n : Int)) = (highN n : Int) := by
  unfold shlI
  have e : min (64 - (n : Int)).toNat IntKind.u64.bits = 64 - n := by
    show min (64 - (n : Int)).toNat 64 = _
    omega
  rw [e]
  have : (18446744073709551615 * 2 ^ (64 - n) : Int) = ((18446744073709551615 * 2 ^ (64 - n) : Nat) : Int) := by simp
  rw [this]
  show ((18446744073709551615 * 2 ^ (64 - n) : Nat) : Int) % 18446744073709551616 = _
  have key : 18446744073709551615 * 2 ^ (64 - n) % 18446744073709551616 = highN n := by
    apply Nat.eq_of_testBit_eq
    intro i
    rw [highN_bit, show (18446744073709551616 : Nat) = 2 ^ 64 from rfl, Nat.testBit_mod_two_pow, ← Nat.shiftLeft_eq, Nat.testBit_shiftLeft, ones_bit]
    by_cases g : i < 64 <;> by_cases e : 64 - n ≤ i <;> simp [g, e]; omega
  rw [← key]; rfl
theorem high_spec (z : Int) (h0 : 0 ≤ z) (h1 : z ≤ 64) : Does PR E X 47 [.int .i64 z] [] (fun v t => v = u64 (highN z.toNat) ∧ t = []) := by
  obtain ⟨n, rfl⟩ := Int.eq_ofNat_of_zero_le h0
  refine Does.of 9 inferInstance rfl (by decide) rfl ?_
  refine auto ?_
  refine branch (fun h0 => ?_) (fun h0 => ?_)
  · refine auto ?_
    refine ret ?_
    exact ends ⟨by simp at h0; simp [h0, highN_zero], rfl⟩
  · refine auto ?_
    refine ret ?_
    exact ends ⟨by simp at h0; simp [shl_high (n := n) (by omega) h0], rfl⟩
def onesN (x y : Nat) : Nat := andNotN (highN (min y 64)) (highN (min x 64))
theorem onesN_lt {x y : Nat} : onesN x y < 18446744073709551616 := andNotN_lt
theorem ones_spec (x y : Int) (hx : 0 ≤ x ∧ x ≤ 1000) (hy : 0 ≤ y ∧ y ≤ 1000) : Does PR E X 46 [.int .i64 x, .int .i64 y] [] (fun v t => v = .agg #[u64 (onesN x.toNat y.toNat), u64 (onesN (x.toNat - 64) (y.toNat - 64))] ∧ t = []) := by
  refine Does.of 33 inferInstance rfl (by decide) rfl ?_
  refine auto ?_
  refine alloc fun b4 => ?_
  refine auto ?_
  refine alloc fun b5 => ?_
  refine auto ?_
  refine unroll ?_
  refine auto ?_
  refine yes ?_
  refine auto ?_
  refine call (high_spec _ (by omega) (by omega)) ?_
  rintro _ _ ⟨rfl, rfl⟩
  refine auto ?_
  refine call (high_spec _ (by omega) (by omega)) ?_
  rintro _ _ ⟨rfl, rfl⟩
  refine auto ?_
  refine again ?_
  refine auto ?_
  refine yes ?_
  refine auto ?_
  refine call (high_spec _ (by omega) (by omega)) ?_
  rintro _ _ ⟨rfl, rfl⟩
  refine auto ?_
  refine call (high_spec _ (by omega) (by omega)) ?_
  rintro _ _ ⟨rfl, rfl⟩
  refine auto ?_
  refine again ?_
  refine auto ?_
  refine no ?_
  refine auto ?_
  refine ret ?_
  refine ends ⟨?_, rfl⟩
  have e1 : (max 0 (min (y - 0 * 64) 64)).toNat = min y.toNat 64 := by omega
  have e2 : (max 0 (min (x - 0 * 64) 64)).toNat = min x.toNat 64 := by omega
  have e3 : (max 0 (min (y - (0 + 1) * 64) 64)).toNat = min (y.toNat - 64) 64 := by omega
  have e4 : (max 0 (min (x - (0 + 1) * 64) 64)).toNat = min (x.toNat - 64) 64 := by omega
  simp only [pack_one, onesN, andNotI64, e1, e2, e3, e4, u64]
/-- The first c digits of two words. -/
def cutA (c hi lo : Nat) (v6 : Bool) : Value := .agg #[u64 (topN (min c 64) hi), u64 (topN (c - 64) lo), .bool v6]
theorem ones0 {w : Nat} : onesN 0 w = highN (min w 64) := by unfold onesN; rw [show min 0 64 = 0 from rfl, highN_zero, andNotN_zero highN_lt]
theorem read_spec (hi lo : Nat) (v6 : Bool) (h1 : hi < 18446744073709551616) (h2 : lo < 18446744073709551616) : Does PR E X 41 [.agg #[u64 hi, u64 lo, .bool v6]] [] (fun v t => v = .agg #[u64 (topN (min (width v6) 64) hi), u64 (topN (width v6 - 64) lo)] ∧ t = []) := by
  refine Does.of 27 inferInstance rfl (by decide) rfl ?_
  have hw : width v6 ≤ 128 := by cases v6 <;> decide
  refine auto ?_
  refine box_ fun b1 => ?_
  refine auto ?_
  refine alloc fun b2 => ?_
  refine auto ?_
  refine alloc fun b3 => ?_
  refine auto ?_
  refine call (width_spec _) ?_
  rintro _ _ ⟨rfl, rfl⟩
  refine auto ?_
  refine call (ones_spec _ _ (by omega) (by omega)) ?_
  rintro _ _ ⟨rfl, rfl⟩
  refine auto ?_
  refine unroll ?_
  refine auto ?_
  refine yes ?_
  refine auto ?_
  refine again ?_
  refine auto ?_
  refine yes ?_
  refine auto ?_
  refine again ?_
  refine auto ?_
  refine no ?_
  refine auto ?_
  refine ret ?_
  refine ends ⟨?_, rfl⟩
  simp only [pack_one, Int.toNat_zero, Int.toNat_natCast, ones0, Nat.zero_sub, u64]
  rw [andI64 h1, andI64 h2, Nat.mod_eq_of_lt highN_lt, Nat.mod_eq_of_lt highN_lt, and_high h1, and_high h2]
  have e1 : min (width v6 - 64) 64 = width v6 - 64 := by omega
  rw [e1]
theorem of_spec (x y : Nat) (q : Bool) : Does PR E X 42 [.agg #[u64 x, u64 y], .bool q] [] (fun v t => v = .agg #[u64 x, u64 y, .bool q] ∧ t = []) := by
  refine Does.of 11 inferInstance rfl (by decide) rfl ?_
  refine auto ?_
  refine box_ fun b1 => ?_
  refine auto ?_
  refine alloc fun b2 => ?_
  refine auto ?_
  refine ret ?_
  exact ends ⟨rfl, rfl⟩
def saneB (hi lo : Nat) (v6 : Bool) : Bool := decide (topN (min (width v6) 64) hi = hi) && decide (topN (width v6 - 64) lo = lo)
theorem sane_spec (hi lo : Nat) (v6 : Bool) (h1 : hi < 18446744073709551616) (h2 : lo < 18446744073709551616) : Does PR E X 33 [.agg #[u64 hi, u64 lo, .bool v6]] [] (fun v t => v = .bool (saneB hi lo v6) ∧ t = []) := by
  refine Does.of 10 inferInstance rfl (by decide) rfl ?_
  refine auto ?_
  refine box_ fun b1 => ?_
  refine auto ?_
  refine draw [0, 1, 0, 4, 15, 0, 63, 127] [1, 4, 7] [0, 3, 5] [0, 2, 3, 5, 1, 4, 6, 7] ?_
  refine dauto ?_
  refine call (read_spec hi lo v6 h1 h2) ?_
  rintro _ _ ⟨rfl, rfl⟩
  refine pdok ?_
  refine dauto ?_
  refine call (of_spec _ _ _) ?_
  rintro _ _ ⟨rfl, rfl⟩
  refine pdok ?_
  refine dauto ?_
  refine auto ?_
  refine ret ?_
  refine ends ⟨?_, rfl⟩
  simp [castEq, saneB]
/-- How many first digits there are left. -/
def cutN (n : Int) (v6 : Bool) : Nat := (max 0 (min n (width v6 : Int))).toNat
theorem tail_spec (x y : Nat) (v6 : Bool) (n : Int) : Does PR E X 43 [.agg #[u64 x, u64 y, .bool v6], .int .i64 n] [] (fun v t => v = .agg #[u64 (onesN (cutN n v6) (width v6)), u64 (onesN (cutN n v6 - 64) (width v6 - 64))] ∧ t = []) := by
  refine Does.of 15 inferInstance rfl (by decide) rfl ?_
  have hw : width v6 ≤ 128 := by cases v6 <;> decide
  refine auto ?_
  refine box_ fun b1 => ?_
  refine auto ?_
  refine alloc fun b2 => ?_
  refine auto ?_
  refine call (width_spec _) ?_
  rintro _ _ ⟨rfl, rfl⟩
  refine auto ?_
  refine call (ones_spec _ _ (by omega) (by omega)) ?_
  rintro _ _ ⟨rfl, rfl⟩
  refine auto ?_
  refine ret ?_
  exact ends ⟨by simp [cutN], rfl⟩
theorem onesN_min {a b : Nat} : onesN (a - 64) (b - 64) = andNotN (highN (min (b - 64) 64)) (highN (min (a - 64) 64)) := rfl
theorem mask_spec (hi lo : Nat) (v6 : Bool) (n : Int) (h1 : hi < 18446744073709551616) (h2 : lo < 18446744073709551616) : Does PR E X 34 [.agg #[u64 hi, u64 lo, .bool v6], .int .i64 n] [] (fun v t => v = cutA (cutN n v6) hi lo v6 ∧ t = []) := by
  refine Does.of 28 inferInstance rfl (by decide) rfl ?_
  have hw : width v6 ≤ 128 := by cases v6 <;> decide
  refine auto ?_
  refine box_ fun b1 => ?_
  refine auto ?_
  refine alloc fun b2 => ?_
  refine auto ?_
  refine call (read_spec hi lo v6 h1 h2) ?_
  rintro _ _ ⟨rfl, rfl⟩
  refine auto ?_
  refine alloc fun b5 => ?_
  refine auto ?_
  refine call (tail_spec hi lo v6 n) ?_
  rintro _ _ ⟨rfl, rfl⟩
  refine auto ?_
  refine unroll ?_
  refine auto ?_
  refine yes ?_
  refine auto ?_
  refine again ?_
  refine auto ?_
  refine yes ?_
  refine auto ?_
  refine again ?_
  refine auto ?_
  refine no ?_
  refine auto ?_
  rw [andNotI64, andNotI64]
  refine call (of_spec _ _ _) ?_
  rintro _ _ ⟨rfl, rfl⟩
  refine auto ?_
  refine ret ?_
  refine ends ⟨?_, rfl⟩
  have hc : cutN n v6 ≤ width v6 := by unfold cutN; omega
  simp only [pack_one, cutA]
  have k1 : andNotN (topN (min (width v6) 64) hi) (onesN (cutN n v6) (width v6)) = topN (min (cutN n v6) 64) hi := andNot_ones h1 (by omega)
  have k2 : andNotN (topN (width v6 - 64) lo) (onesN (cutN n v6 - 64) (width v6 - 64)) = topN (cutN n v6 - 64) lo := by
    have e1 : min (width v6 - 64) 64 = width v6 - 64 := by omega
    have e2 : min (cutN n v6 - 64) 64 = cutN n v6 - 64 := by omega
    rw [onesN_min, e1, e2]
    exact andNot_ones h2 (by omega)
  rw [k1, k2]
/-- How many bytes of an address are told. -/
def longN (v6 : Bool) (n : Nat) : Nat := min ((n + 7) / 8) (width v6 / 8)
theorem long_spec (v6 : Bool) (n : Int) (h0 : 0 ≤ n) (h1 : n ≤ 1000000) : Does PR E X 35 [.bool v6, .int .i64 n] [] (fun v t => v = .int .i64 (longN v6 n.toNat : Int) ∧ t = []) := by
  refine Does.of 13 inferInstance rfl (by decide) rfl ?_
  have hw : width v6 ≤ 128 := by cases v6 <;> decide
  refine auto ?_
  refine call (width_spec _) ?_
  rintro _ _ ⟨rfl, rfl⟩
  refine auto ?_
  refine ret ?_
  refine ends ⟨?_, rfl⟩
  simp only [pack_one, longN]
  congr 1
  omega
theorem prefixOf_spec (hi lo : Nat) (v6 : Bool) (n : Int) (h1 : hi < 18446744073709551616) (h2 : lo < 18446744073709551616) : Does PR E X 40 [.agg #[u64 hi, u64 lo, .bool v6], .int .i64 n] [] (fun v t => v = .agg #[u64 (topN (min (cutN n v6) 64) hi), u64 (topN (cutN n v6 - 64) lo), .bool v6, .int .i64 (cutN n v6 : Int)] ∧ t = []) := by
  refine Does.of 16 inferInstance rfl (by decide) rfl ?_
  refine auto ?_
  refine box_ fun b1 => ?_
  refine auto ?_
  refine alloc fun b2 => ?_
  refine auto ?_
  refine call (width_spec _) ?_
  rintro _ _ ⟨rfl, rfl⟩
  refine auto ?_
  refine call (mask_spec hi lo v6 _ h1 h2) ?_
  rintro _ _ ⟨rfl, rfl⟩
  refine auto ?_
  refine ret ?_
  refine ends ⟨?_, rfl⟩
  have hc : cutN ((cutN n v6 : Nat) : Int) v6 = cutN n v6 := by unfold cutN; omega
  have hd : max 0 (min n (width v6 : Int)) = (cutN n v6 : Int) := by unfold cutN; omega
  simp only [pack_one, hd, hc]
end Go.Proofs.YtjcbjclhagobiaaDoor
