/- Plain law: words of 64 digits of two. -/
import Derived.Test.YtjcbjclhagobiaaDoorKj
namespace Go.KM
open Go Go.KL

theorem wrapU {x : Nat} (h : x < 18446744073709551616) : IntKind.u64.wrap (x : Int) = x := wrap_u64 (by omega)
theorem ofIntN {a : Nat} : BitVec.ofInt 64 (a : Int) = BitVec.ofNat 64 a := by simp
theorem andI64 {a b : Nat} (ha : a < 18446744073709551616) : andI .u64 a b = ((a &&& b % 18446744073709551616 : Nat) : Int) := by
  unfold andI
  show IntKind.u64.wrap ((BitVec.ofInt 64 (a : Int) &&& BitVec.ofInt 64 (b : Int)).toNat : Int) = _
  rw [ofIntN, ofIntN, wrapU]
  · simp [BitVec.toNat_and, BitVec.toNat_ofNat, Nat.mod_eq_of_lt ha]
  · exact (BitVec.ofNat 64 a &&& BitVec.ofNat 64 b).isLt
theorem orI64 {a b : Nat} (ha : a < 18446744073709551616) (hb : b < 18446744073709551616) : orI .u64 a b = ((a ||| b : Nat) : Int) := by
  unfold orI
  show IntKind.u64.wrap ((BitVec.ofInt 64 (a : Int) ||| BitVec.ofInt 64 (b : Int)).toNat : Int) = _
  rw [ofIntN, ofIntN, wrapU]
  · simp [BitVec.toNat_or, BitVec.toNat_ofNat, Nat.mod_eq_of_lt ha, Nat.mod_eq_of_lt hb]
  · exact (BitVec.ofNat 64 a ||| BitVec.ofNat 64 b).isLt
def andNotN (a b : Nat) : Nat := (BitVec.ofNat 64 a &&& ~~~BitVec.ofNat 64 b).toNat
theorem andNotN_lt {a b : Nat} : andNotN a b < 18446744073709551616 := (BitVec.ofNat 64 a &&& ~~~BitVec.ofNat 64 b).isLt
theorem andNotI64 {a b : Nat} : andNotI .u64 a b = (andNotN a b : Int) := by
  unfold andNotI andNotN
  show IntKind.u64.wrap ((BitVec.ofInt 64 (a : Int) &&& ~~~BitVec.ofInt 64 (b : Int)).toNat : Int) = _
  rw [ofIntN, ofIntN, wrapU]
  exact (BitVec.ofNat 64 a &&& ~~~BitVec.ofNat 64 b).isLt
theorem andNotN_bit {a b i : Nat} : (andNotN a b).testBit i = (decide (i < 64) && a.testBit i && !b.testBit i) := by
  unfold andNotN
  rw [BitVec.testBit_toNat]
  simp only [BitVec.getLsbD_and, BitVec.getLsbD_not, BitVec.getLsbD_ofNat]
  by_cases h : i < 64 <;> simp [h]
/-- The first k digits. -/
def topN (k x : Nat) : Nat := x / 2 ^ (64 - k) * 2 ^ (64 - k)
theorem topN_bit {k x i : Nat} : (topN k x).testBit i = (x.testBit i && decide (64 - k ≤ i)) := by
  unfold topN
  rw [← Nat.shiftLeft_eq, ← Nat.shiftRight_eq_div_pow, Nat.testBit_shiftLeft, Nat.testBit_shiftRight]
  by_cases h : 64 - k ≤ i
  · simp only [ge_iff_le, h, decide_true, Bool.true_and, Bool.and_true]
    congr 1; omega
  · simp [h]
theorem topN_le {k x : Nat} : topN k x ≤ x := Nat.div_mul_le_self x _
theorem topN_lt {k x : Nat} (h : x < 18446744073709551616) : topN k x < 18446744073709551616 := Nat.lt_of_le_of_lt topN_le h
def highN (n : Nat) : Nat := topN n 18446744073709551615
theorem ones_bit {i : Nat} : (18446744073709551615 : Nat).testBit i = decide (i < 64) := by
  have := Nat.testBit_two_pow_sub_one 64 i
  exact this
theorem highN_bit {n i : Nat} : (highN n).testBit i = (decide (i < 64) && decide (64 - n ≤ i)) := by
  unfold highN; rw [topN_bit, ones_bit]
theorem highN_lt {n : Nat} : highN n < 18446744073709551616 := topN_lt (by decide)
theorem bit_lt {x i : Nat} (h : x < 18446744073709551616) (hi : ¬ i < 64) : x.testBit i = false := by
  apply Nat.testBit_lt_two_pow
  refine Nat.lt_of_lt_of_le h ?_
  show 2 ^ 64 ≤ _
  exact Nat.pow_le_pow_right (by omega) (by omega)
theorem topN_top {j k x : Nat} : topN j (topN k x) = topN (min j k) x := by
  apply Nat.eq_of_testBit_eq
  intro i
  rw [topN_bit, topN_bit, topN_bit]
  by_cases h : 64 - k ≤ i <;> by_cases g : 64 - j ≤ i <;> by_cases e : 64 - min j k ≤ i <;> simp [h, g, e] <;> (try omega)
theorem topN_all {k x : Nat} (h : 64 ≤ k) : topN k x = x := by
  apply Nat.eq_of_testBit_eq
  intro i
  rw [topN_bit]; simp; (try omega)
theorem topN_zero {x : Nat} (h : x < 18446744073709551616) : topN 0 x = 0 := by
  unfold topN; rw [Nat.div_eq_of_lt h]
/-- With a mask of first digits. -/
theorem and_high {x n : Nat} (h : x < 18446744073709551616) : x &&& highN n = topN n x := by
  apply Nat.eq_of_testBit_eq
  intro i
  rw [Nat.testBit_and, highN_bit, topN_bit]
  by_cases g : i < 64
  · simp [g]
  · simp [bit_lt h g]
theorem andNot_ones {x a b : Nat} (h : x < 18446744073709551616) (hab : a ≤ b) : andNotN (topN b x) (andNotN (highN b) (highN a)) = topN a x := by
  apply Nat.eq_of_testBit_eq
  intro i
  rw [andNotN_bit, andNotN_bit, highN_bit, highN_bit, topN_bit, topN_bit]
  by_cases g : i < 64
  · by_cases e : 64 - a ≤ i <;> by_cases f : 64 - b ≤ i <;> simp [g, e, f] <;> (try omega)
  · simp [bit_lt h g]
theorem andNotN_zero {a : Nat} (h : a < 18446744073709551616) : andNotN a 0 = a := by
  apply Nat.eq_of_testBit_eq
  intro i
  rw [andNotN_bit]
  by_cases g : i < 64
  · simp [g]
  · simp [g, bit_lt h g]
theorem castEq {a b : Nat} : decide ((a : Int) = (b : Int)) = decide (a = b) := by
  by_cases h : a = b
  · simp [h]
  · have : ¬ (a : Int) = (b : Int) := by omega
    simp [h, this]
theorem highN_zero : highN 0 = 0 := by decide
/-- The word of n bytes, the highest first. -/
def wrd : List Nat → Nat → Nat
  | _, 0 => 0
  | l, n + 1 => wrd l n + (l.drop n).headD 0 * 2 ^ (56 - 8 * n)
theorem wrd_lt {l : List Nat} (hl : ∀ x ∈ l, x < 256) : ∀ {n : Nat}, n ≤ 8 → ∃ q, wrd l n = q * 2 ^ (64 - 8 * n) ∧ q < 2 ^ (8 * n)
  | 0, _ => ⟨0, by simp [wrd], by simp⟩
  | n + 1, h => by
    obtain ⟨q, h1, h2⟩ := wrd_lt hl (n := n) (by omega)
    have hb : (l.drop n).headD 0 < 256 := by
      cases h' : l.drop n with
      | nil => simp
      | cons a m => exact hl a (List.mem_of_mem_drop (i := n) (by rw [h']; simp))
    refine ⟨q * 256 + (l.drop n).headD 0, ?_, ?_⟩
    · rw [wrd, h1, show 64 - 8 * n = 8 + (56 - 8 * n) by omega, show 64 - 8 * (n + 1) = 56 - 8 * n by omega, Nat.pow_add, Nat.add_mul, Nat.mul_assoc]
    · rw [show 8 * (n + 1) = 8 * n + 8 by omega, Nat.pow_add]
      have : q + 1 ≤ 2 ^ (8 * n) := h2
      have := Nat.mul_le_mul_right 256 this
      omega
theorem wrd_or {l : List Nat} (hl : ∀ x ∈ l, x < 256) {n : Nat} (h : n < 8) : wrd l n ||| (l.drop n).headD 0 * 2 ^ (56 - 8 * n) = wrd l (n + 1) := by
  obtain ⟨q, h1, h2⟩ := wrd_lt hl (n := n) (by omega)
  have hb : (l.drop n).headD 0 < 256 := by
    cases h' : l.drop n with
    | nil => simp
    | cons a m => exact hl a (List.mem_of_mem_drop (i := n) (by rw [h']; simp))
  rw [wrd, h1, show 64 - 8 * n = 8 + (56 - 8 * n) by omega, Nat.pow_add, ← Nat.mul_assoc, ← Nat.add_mul]
  generalize (l.drop n).headD 0 = c at hb
  have hk : (q * 2 ^ 8 ||| c) = q * 2 ^ 8 + c := by
    rw [← Nat.shiftLeft_eq]; exact (Nat.shiftLeft_add_eq_or_of_lt hb q).symm
  rw [← hk]
  simp only [← Nat.shiftLeft_eq]
  rw [Nat.shiftLeft_or_distrib]
theorem headD_get {l : List Nat} {i : Nat} (h : i < l.length) : l[i]? = some ((l.drop i).headD 0) := by
  have : (l.drop i)[0]? = l[i]? := by simp
  rw [← this]
  cases h' : l.drop i with
  | nil => rw [List.drop_eq_nil_iff] at h'; omega
  | cons a m => simp
theorem headD_lt {l : List Nat} (hl : ∀ x ∈ l, x < 256) (i : Nat) : (l.drop i).headD 0 < 256 := by
  cases h' : l.drop i with
  | nil => simp
  | cons a m => exact hl a (List.mem_of_mem_drop (i := i) (by rw [h']; simp))
theorem shl_byte {b : Nat} {k : Int} {e : Nat} (hb : b < 256) (he : e ≤ 56) (hk : k = e) : shlI .u64 (b : Int) k = ((b * 2 ^ e : Nat) : Int) := by
  subst hk
  unfold shlI
  rw [show min ((e : Int).toNat) IntKind.u64.bits = e by show min ((e : Int).toNat) 64 = e; omega]
  have h1 : (b : Int) * 2 ^ e = ((b * 2 ^ e : Nat) : Int) := by simp
  rw [h1, wrapU]
  have := Nat.pow_le_pow_right (n := 2) (by omega) he
  have h2 : b * 2 ^ e < 256 * 2 ^ 56 := Nat.lt_of_lt_of_le (Nat.mul_lt_mul_of_pos_right hb (Nat.two_pow_pos e)) (Nat.mul_le_mul_left 256 this)
  exact h2
theorem wrd_lt64 {l : List Nat} (hl : ∀ x ∈ l, x < 256) {n : Nat} (h : n ≤ 8) : wrd l n < 18446744073709551616 := by
  obtain ⟨q, h1, h2⟩ := wrd_lt hl h
  rw [h1]
  have : q * 2 ^ (64 - 8 * n) < 2 ^ (8 * n) * 2 ^ (64 - 8 * n) := Nat.mul_lt_mul_of_pos_right h2 (Nat.two_pow_pos _)
  rw [← Nat.pow_add, show 8 * n + (64 - 8 * n) = 64 by omega] at this
  exact this
end Go.KM
