/- What the functions of package script that take parts of steps do. -/
import Derived.Test.YtjcbjclhagobiaaDoorCb
namespace Go.Proofs.YtjcbjclhagobiaaDoor
open Go Go.KL Go.KM
variable {E : Env} {X : Xs}

theorem below_spec (a b : Int) : Does PR E X 16 [.int .i64 a, .int .i64 b] [] (fun v t => v = .bool (decide (0 ≤ a) && decide (a < b)) ∧ t = []) := by
  refine Does.of 12 inferInstance rfl (by decide) rfl ?_
  refine auto ?_
  refine ret ?_
  exact ends ⟨rfl, rfl⟩
/-- n bytes off a list, 0 where there is none. -/
def takeZ (l : List Nat) : Nat → List Nat
  | 0 => []
  | n + 1 => takeZ l n ++ [(l.drop n).headD 0]
@[simp] theorem takeZ_len {l : List Nat} : ∀ {n : Nat}, (takeZ l n).length = n
  | 0 => rfl
  | n + 1 => by simp [takeZ, takeZ_len (n := n)]
theorem takeZ_lt {l : List Nat} (hl : ∀ x ∈ l, x < 256) : ∀ {n : Nat}, ∀ x ∈ takeZ l n, x < 256
  | 0, x, h => by simp [takeZ] at h
  | n + 1, x, h => by
    rw [takeZ] at h
    rcases List.mem_append.1 h with h | h
    · exact takeZ_lt hl x h
    · simp at h; subst h; simpa using headD_lt hl n
theorem and1F : ∀ k : Fin 256, andI .i64 ((k.val : Nat) : Int) 1 = ((k.val % 2 : Nat) : Int) := by decide +kernel
theorem and2F : ∀ k : Fin 256, andI .i64 ((k.val : Nat) : Int) 2 = ((k.val / 2 % 2 * 2 : Nat) : Int) := by decide +kernel
theorem and1 {k : Nat} (h : k < 256) : andI .i64 (k : Int) 1 = ((k % 2 : Nat) : Int) := and1F ⟨k, h⟩
theorem and2 {k : Nat} (h : k < 256) : andI .i64 (k : Int) 2 = ((k / 2 % 2 * 2 : Nat) : Int) := and2F ⟨k, h⟩
/-- What a prefix's bytes say. -/
structure Pfx where
  hi : Nat
  lo : Nat
  v6 : Bool
  n : Nat
def Pfx.cells (p : Pfx) : List Value := [u64 p.hi, u64 p.lo, .bool p.v6, .int .i64 (p.n : Int)]
def isV6 (k : Nat) : Bool := k % 2 != 0
def wholeOf (v6 : Bool) (k : Nat) (l : List Nat) : List Nat := takeZ l k ++ List.replicate (width v6 / 8 - k) 0
def rdPfx (l : List Nat) : Pfx × List Nat :=
  let kind := l.headD 0
  let n := l.tail.headD 0
  let v6 := isV6 kind
  let k := longN v6 n
  let w := wholeOf v6 k (l.drop 2)
  let hi := wrd w (min (width v6 / 8) 8)
  let lo := wrd (w.drop 8) (width v6 / 8 - 8)
  (if kind / 2 % 2 = 1 then ⟨topN (min (cutN n v6) 64) hi, topN (cutN n v6 - 64) lo, v6, cutN n v6⟩ else ⟨hi, lo, v6, n⟩, (l.drop 2).drop k)
theorem longN_le {v6 : Bool} {n : Nat} : longN v6 n ≤ width v6 / 8 := by unfold longN; omega
theorem fillZ_get {l : List Nat} {i m : Nat} (h : i < m) : (takeZ l i ++ List.replicate (m - i) 0)[i]? = some 0 := by
  rw [List.getElem?_append_right (by rw [takeZ_len]; omega), takeZ_len, Nat.sub_self, List.getElem?_replicate]
  simp; omega
theorem fillZ_set {l : List Nat} {i m : Nat} (h : i < m) : ((takeZ l i ++ List.replicate (m - i) 0).map u8e).set i [.int .u8 (((l.drop i).headD 0 : Nat) : Int)] = (takeZ l (i + 1) ++ List.replicate (m - (i + 1)) 0).map u8e := by
  have e : ([.int .u8 (((l.drop i).headD 0 : Nat) : Int)] : List Value) = u8e ((l.drop i).headD 0) := rfl
  rw [e, ← List.map_set]
  congr 1
  rw [List.set_append, if_neg (by rw [takeZ_len]; omega), takeZ_len, Nat.sub_self, takeZ, List.append_assoc]
  congr 1
  rw [show m - i = (m - (i + 1)) + 1 by omega, List.replicate_succ]
  rfl
theorem prefix_spec (rb : Nat) (T : TypeId) (l : List Nat) (hl : ∀ x ∈ l, x < 256) (base : Option Addr) (cap : Nat) : Does PR E X 32 [.pointer (some ⟨rb, 0, none⟩)] [box rb [.slice base l.length cap] T, rsl base cap 1 (l.map u8e)]
    (fun v t => ∃ base' cap', v = .agg (rdPfx l).1.cells.toArray ∧ t = [box rb [.slice base' (rdPfx l).2.length cap'] T, rsl base' cap' 1 ((rdPfx l).2.map u8e)]) := by
  refine Does.of 48 inferInstance rfl (by decide) rfl ?_
  have hk : l.headD 0 < 256 := by simpa using headD_lt hl 0
  have hn : l.tail.headD 0 < 256 := by simpa using headD_lt hl 1
  refine auto ?_
  refine alloc fun b2 => ?_
  refine auto ?_
  refine call (one_spec rb T l hl base cap) ?_
  rintro _ _ ⟨b3, c3, rfl, rfl⟩
  refine auto ?_
  refine call (one_spec rb T l.tail (fun x hx => hl x (List.mem_of_mem_tail hx)) b3 c3) ?_
  rintro _ _ ⟨b4, c4, rfl, rfl⟩
  refine auto ?_
  simp only [and1 hk]
  refine call (width_spec _) ?_
  rintro _ _ ⟨rfl, rfl⟩
  have hv : (!decide (((l.headD 0 % 2 : Nat) : Int) = 0)) = isV6 (l.headD 0) := by
    unfold isV6
    rcases Nat.mod_two_eq_zero_or_one (l.headD 0) with h | h <;> rw [h] <;> rfl
  simp only [hv]
  generalize hv6 : isV6 (l.headD 0) = v6
  have hw : width v6 = 128 ∨ width v6 = 32 := by cases v6 <;> simp [width]
  refine auto ?_
  refine makeSlice fun b6 => ?_
  refine auto ?_
  refine call (long_spec _ _ (by omega) (by omega)) ?_
  rintro _ _ ⟨rfl, rfl⟩
  refine auto ?_
  have em : ((width v6 : Int) / 8).toNat = width v6 / 8 := by omega
  have er : List.replicate (width v6 / 8) [Value.int IntKind.u8 0] = (takeZ (l.drop 2) 0 ++ List.replicate (width v6 / 8 - 0) 0).map u8e := by simp [takeZ, u8e]
  have ed : l.tail.tail = (l.drop 2).drop 0 := by simp [← List.drop_one, List.drop_drop]
  simp only [em, er, ed, Int.toNat_natCast]
  generalize hkk : longN v6 (l.tail.headD 0) = kk
  have hkm : kk ≤ width v6 / 8 := by rw [← hkk]; exact longN_le
  refine loop (ι := Nat × Option Addr × Nat) (fun i => kk - i.1) (fun i => i.1 ≤ kk) (fun i => [(0, .pointer (some ⟨rb, 0, none⟩)), (2, .pointer (some ⟨b2, 0, none⟩)), (3, .int .i64 ((l.headD 0 : Nat) : Int)), (4, .int .i64 ((l.tail.headD 0 : Nat) : Int)), (6, .slice (some ⟨b6, 0, none⟩) (width v6 / 8) (width v6 / 8)), (23, .int .i64 (kk : Int)), (24, .int .i64 (i.1 : Int))])
    (fun i => [osl (some ⟨b6, 0, none⟩) (width v6 / 8) 5 1 ((takeZ (l.drop 2) i.1 ++ List.replicate (width v6 / 8 - i.1) 0).map u8e), box rb [.slice i.2.1 ((l.drop 2).drop i.1).length i.2.2] T, rsl i.2.1 i.2.2 1 (((l.drop 2).drop i.1).map u8e), box b2 [u64 0, u64 0, .bool false, .int .i64 0] 34]) (0, b4, c4) (by simp) ?_
  rintro ⟨i, ba, ca⟩ hi ih
  (try dsimp only at hi ih ⊢)
  have hl2 : ∀ x ∈ l.drop 2, x < 256 := fun x hx => hl x (List.mem_of_mem_drop hx)
  refine auto ?_
  refine branch (fun h => ?_) (fun h => ?_)
  · have hi' : i < kk := by have := of_decide_eq_true h; omega
    refine auto ?_
    refine call (one_spec rb T ((l.drop 2).drop i) (fun x hx => hl2 x (List.mem_of_mem_drop hx)) ba ca) ?_
    rintro _ _ ⟨b7, c7, rfl, rfl⟩
    have hb := headD_lt hl2 i
    have hx := fillZ_get (l := l.drop 2) (i := i) (m := width v6 / 8) (by omega)
    refine auto ?_
    simp only [Int.toNat_natCast, fillZ_set (l := l.drop 2) (i := i) (m := width v6 / 8) (by omega), show ((l.drop 2).drop i).tail = (l.drop 2).drop (i + 1) from List.tail_drop]
    exact next (ih (i + 1, b7, c7) (by dsimp only; omega) (by dsimp only; omega))
  · have hi' : i = kk := by have := of_decide_eq_false h; omega
    subst hi'
    refine auto ?_
    have hwl : ∀ x ∈ wholeOf v6 i (l.drop 2), x < 256 := fun x hx => by
      rcases List.mem_append.1 hx with hx | hx
      · exact takeZ_lt hl2 x hx
      · rw [List.eq_of_mem_replicate hx]; decide
    refine call (from_spec (wholeOf v6 i (l.drop 2)) hwl v6 (by simp [wholeOf]; omega) _ _ _) ?_
    rintro _ _ ⟨rfl, rfl⟩
    refine auto ?_
    refine alloc fun b8 => ?_
    refine auto ?_
    simp only [and2 hk]
    have hrd : rdPfx l = (if l.headD 0 / 2 % 2 = 1 then ⟨topN (min (cutN (l.tail.headD 0 : Nat) v6) 64) (wrd (wholeOf v6 i (l.drop 2)) (min (width v6 / 8) 8)), topN (cutN (l.tail.headD 0 : Nat) v6 - 64) (wrd ((wholeOf v6 i (l.drop 2)).drop 8) (width v6 / 8 - 8)), v6, cutN (l.tail.headD 0 : Nat) v6⟩ else ⟨wrd (wholeOf v6 i (l.drop 2)) (min (width v6 / 8) 8), wrd ((wholeOf v6 i (l.drop 2)).drop 8) (width v6 / 8 - 8), v6, l.tail.headD 0⟩, (l.drop 2).drop i) := by
      unfold rdPfx
      simp only [hv6, hkk]
    have hw1 : wrd (wholeOf v6 i (l.drop 2)) (min (width v6 / 8) 8) < 18446744073709551616 := wrd_lt64 hwl (by omega)
    have hw2 : wrd ((wholeOf v6 i (l.drop 2)).drop 8) (width v6 / 8 - 8) < 18446744073709551616 := wrd_lt64 (fun x hx => hwl x (List.mem_of_mem_drop hx)) (by omega)
    refine branch (fun h2 => ?_) (fun h2 => ?_)
    · have h3 : ¬ (((l.headD 0 / 2 % 2 * 2 : Nat) : Int) = 0) := by simpa only [Bool.not_eq_true', decide_eq_false_iff_not] using h2
      have hc : l.headD 0 / 2 % 2 = 1 := by omega
      rw [if_pos hc] at hrd
      simp only [hrd]
      refine auto ?_
      refine call (prefixOf_spec _ _ _ _ hw1 hw2) ?_
      rintro _ _ ⟨rfl, rfl⟩
      refine auto ?_
      refine ret ?_
      exact ends ⟨ba, ca, rfl, rfl⟩
    · have h3 : ((l.headD 0 / 2 % 2 * 2 : Nat) : Int) = 0 := by simpa only [Bool.not_eq_false', decide_eq_true_eq] using h2
      have hc : ¬ l.headD 0 / 2 % 2 = 1 := by omega
      rw [if_neg hc] at hrd
      simp only [hrd]
      refine auto ?_
      refine ret ?_
      exact ends ⟨ba, ca, rfl, rfl⟩
end Go.Proofs.YtjcbjclhagobiaaDoor
