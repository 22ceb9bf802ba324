/- What the functions that lay bytes do. -/
import Derived.Test.YtjcbjclhagobiaaDoorCe
namespace Go.Proofs.YtjcbjclhagobiaaDoor
open Go Go.KL Go.KM
variable {E : Env} {X : Xs}

/-- A byte of a word. -/
def byteW (h k : Nat) : Nat := h / 2 ^ (56 - 8 * k) % 256
theorem byteW_lt {h k : Nat} : byteW h k < 256 := Nat.mod_lt _ (by decide)
def bytesA (hi lo : Nat) (v6 : Bool) : List Nat := (List.range (width v6 / 8)).map fun k => if k < 8 then byteW hi k else byteW lo (k - 8)
theorem bytesA_len {hi lo : Nat} {v6 : Bool} : (bytesA hi lo v6).length = width v6 / 8 := by simp [bytesA]
theorem bytesA_lt {hi lo : Nat} {v6 : Bool} : ∀ x ∈ bytesA hi lo v6, x < 256 := fun x hx => by
  obtain ⟨k, _, rfl⟩ := List.mem_map.1 hx
  split <;> exact byteW_lt
theorem shr_byte {h : Nat} {y : Int} {k : Nat} (hy : y = ((56 - 8 * k : Nat) : Int)) : IntKind.u8.wrap (shrI .u64 (h : Int) y) = (byteW h k : Int) := by
  subst hy
  unfold shrI byteW
  have e : min (((56 - 8 * k : Nat) : Int)).toNat IntKind.u64.bits = 56 - 8 * k := by
    show min (((56 - 8 * k : Nat) : Int)).toNat 64 = _
    omega
  rw [e, Int.fdiv_eq_ediv_of_nonneg _ (by exact Int.le_of_lt (Int.pow_pos (by decide)))]
  show ((h : Int) / 2 ^ (56 - 8 * k)) % 256 = _
  have e2 : ((2 : Int) ^ (56 - 8 * k)) = ((2 ^ (56 - 8 * k) : Nat) : Int) := by simp
  rw [e2]; omega
theorem zeros_set {f : Nat → Nat} {i m : Nat} (h : i < m) : (((List.range i).map f ++ List.replicate (m - i) 0).map u8e).set i [.int .u8 ((f i : Nat) : Int)] = ((List.range (i + 1)).map f ++ List.replicate (m - (i + 1)) 0).map u8e := by
  have e : ([.int .u8 ((f i : Nat) : Int)] : List Value) = u8e (f i) := rfl
  rw [e, ← List.map_set]
  congr 1
  rw [List.set_append, if_neg (by simp), List.length_map, List.length_range, Nat.sub_self, List.range_succ, List.map_append, List.append_assoc]
  congr 1
  rw [show m - i = (m - (i + 1)) + 1 by omega, List.replicate_succ]
  rfl
theorem zeros_get {f : Nat → Nat} {i m : Nat} (h : i < m) : (((List.range i).map f ++ List.replicate (m - i) 0).map u8e)[((i : Nat) : Int).toNat]? = some [.int .u8 0] := by
  rw [Int.toNat_natCast, List.getElem?_map, List.getElem?_append_right (by simp), List.length_map, List.length_range, Nat.sub_self, List.getElem?_replicate]
  simp [u8e]; omega
theorem bytes_spec (hi lo : Nat) (v6 : Bool) (h1 : hi < 18446744073709551616) (h2 : lo < 18446744073709551616) : Does PR E X 36 [.agg #[u64 hi, u64 lo, .bool v6]] [] (fun v t => ∃ b, v = .slice (some ⟨b, 0, none⟩) (width v6 / 8) (width v6 / 8) ∧ t = [rsl (some ⟨b, 0, none⟩) (width v6 / 8) 1 ((bytesA (topN (min (width v6) 64) hi) (topN (width v6 - 64) lo) v6).map u8e)]) := by
  refine Does.of 36 inferInstance rfl (by decide) rfl ?_
  have hw : width v6 = 128 ∨ width v6 = 32 := by cases v6 <;> simp [width]
  refine auto ?_
  refine box_ fun b1 => ?_
  refine auto ?_
  refine call (read_spec hi lo v6 h1 h2) ?_
  rintro _ _ ⟨rfl, rfl⟩
  refine auto ?_
  refine alloc fun b3 => ?_
  refine auto ?_
  refine call (width_spec _) ?_
  rintro _ _ ⟨rfl, rfl⟩
  refine auto ?_
  refine makeSlice fun b4 => ?_
  refine auto ?_
  generalize topN (min (width v6) 64) hi = HI
  generalize topN (width v6 - 64) lo = LO
  have em : ((width v6 : Int) / 8).toNat = width v6 / 8 := by omega
  simp only [em]
  have er : List.replicate (width v6 / 8) [Value.int IntKind.u8 0] = ((List.range 0).map (fun k => if k < 8 then byteW HI k else byteW LO (k - 8)) ++ List.replicate (width v6 / 8 - 0) 0).map u8e := by simp [u8e]
  rw [er]
  refine loop (ι := Nat) (fun i => width v6 / 8 - i) (fun i => i ≤ width v6 / 8) (fun i => [(3, .pointer (some ⟨b3, 0, none⟩)), (4, .slice (some ⟨b4, 0, none⟩) (width v6 / 8) (width v6 / 8)), (15, .int .i64 ((width v6 / 8 : Nat) : Int)), (16, .int .i64 (i : Nat))]) (fun i => [osl (some ⟨b4, 0, none⟩) (width v6 / 8) 5 1 (((List.range i).map (fun k => if k < 8 then byteW HI k else byteW LO (k - 8)) ++ List.replicate (width v6 / 8 - i) 0).map u8e), box b3 [u64 HI, u64 LO] 90]) 0 (by simp) ?_
  intro i hi ih
  (try dsimp only at hi ih ⊢)
  refine auto ?_
  refine branch (fun h => ?_) (fun h => ?_)
  · have hi' : i < width v6 / 8 := by have := of_decide_eq_true h; omega
    have hlen : (((List.range i).map (fun k => if k < 8 then byteW HI k else byteW LO (k - 8)) ++ List.replicate (width v6 / 8 - i) 0).map u8e).length = width v6 / 8 := by simp; omega
    have hz := zeros_get (f := fun k => if k < 8 then byteW HI k else byteW LO (k - 8)) hi'
    have hzs := zeros_set (f := fun k => if k < 8 then byteW HI k else byteW LO (k - 8)) hi'
    have hit : ((i : Nat) : Int).toNat = i := Int.toNat_natCast i
    rcases Nat.lt_or_ge i 8 with h8 | h8
    · have hd : ((i : Int) * 8 / 64) = 0 := by omega
      refine auto ?_
      simp only [hd]
      refine auto ?_
      have e1 := shr_byte (h := HI) (y := 56 - (i : Int) * 8 % 64) (k := i) (by omega)
      simp only [if_pos h8] at hzs
      simp only [e1, hit, hzs]
      exact next (ih (i + 1) (by omega) (by omega))
    · have hd : ((i : Int) * 8 / 64) = 1 := by omega
      refine auto ?_
      simp only [hd]
      refine auto ?_
      have e1 := shr_byte (h := LO) (y := 56 - (i : Int) * 8 % 64) (k := i - 8) (by omega)
      simp only [if_neg (show ¬ i < 8 by omega)] at hzs
      simp only [e1, hit, hzs]
      exact next (ih (i + 1) (by omega) (by omega))
  · have hi' : i = width v6 / 8 := by have := of_decide_eq_false h; omega
    subst hi'
    refine auto ?_
    refine ghostO (some ⟨b4, 0, none⟩) ?_
    refine ret ?_
    rw [Nat.sub_self, List.replicate_zero, List.append_nil]
    exact ends (t := [rsl (some ⟨b4, 0, none⟩) (width v6 / 8) 1 ((bytesA HI LO v6).map u8e)]) ⟨b4, rfl, rfl⟩
/-- A number's lower bytes, the greatest first. -/
def encN (x : Nat) : Nat → List Nat
  | 0 => []
  | k + 1 => x / 2 ^ (8 * k) % 256 :: encN x k
@[simp] theorem encN_len {x : Nat} : ∀ {n : Nat}, (encN x n).length = n
  | 0 => rfl
  | n + 1 => by simp [encN, encN_len (n := n)]
theorem encN_get {x : Nat} : ∀ {n j : Nat}, j < n → (encN x n)[n - (j + 1)]? = some (x / 2 ^ (8 * j) % 256)
  | n + 1, j, h => by
    rcases Nat.lt_or_ge j n with g | g
    · rw [show n + 1 - (j + 1) = (n - (j + 1)) + 1 by omega, encN, List.getElem?_cons_succ]
      exact encN_get g
    · have : j = n := by omega
      subst this
      rw [Nat.sub_self]; rfl
theorem encN_take {x n j : Nat} (h : j < n) : (encN x n).take (n - j) = (encN x n).take (n - (j + 1)) ++ [x / 2 ^ (8 * j) % 256] := by
  rw [show n - j = (n - (j + 1)) + 1 by omega, List.take_add_one, encN_get h]; rfl
theorem encN_lt {x : Nat} : ∀ {n : Nat}, ∀ y ∈ encN x n, y < 256
  | 0, y, h => by simp [encN] at h
  | n + 1, y, h => by
    rw [encN] at h
    rcases List.mem_cons.1 h with rfl | h
    · exact Nat.mod_lt _ (by decide)
    · exact encN_lt y h
theorem shr_num {x : Nat} {y : Int} {k : Nat} (hk : k ≤ 7) (hy : y = ((8 * k : Nat) : Int)) : IntKind.u8.wrap (shrI .u64 (x : Int) y) = ((x / 2 ^ (8 * k) % 256 : Nat) : Int) := by
  subst hy
  unfold shrI
  have e : min (((8 * k : Nat) : Int)).toNat IntKind.u64.bits = 8 * k := by
    show min (((8 * k : Nat) : Int)).toNat 64 = _
    omega
  rw [e, Int.fdiv_eq_ediv_of_nonneg _ (by exact Int.le_of_lt (Int.pow_pos (by decide)))]
  show ((x : Int) / 2 ^ (8 * k)) % 256 = _
  have e2 : ((2 : Int) ^ (8 * k)) = ((2 ^ (8 * k) : Nat) : Int) := by simp
  rw [e2, ← Int.natCast_ediv]; omega
theorem wnumber_spec (wb : Nat) (T : TypeId) (l : List Nat) (base : Option Addr) (cap x n : Nat) (hn : n ≤ 8) (hl : l.length ≤ 1000000000) : Does PR E X 17 [.pointer (some ⟨wb, 0, none⟩), u64 x, .int .i64 (n : Int)] [box wb [.slice base l.length cap] T, osl base cap 5 1 (l.map u8e)]
    (fun v t => ∃ base' cap', t = [box wb [.slice base' (l ++ encN x n).length cap'] T, osl base' cap' 5 1 ((l ++ encN x n).map u8e)]) := by
  refine Does.of 28 inferInstance rfl (by decide) rfl ?_
  refine auto ?_
  refine loop (ι := Nat × Option Addr × Nat) (fun i => i.1) (fun i => i.1 ≤ n) (fun i => [(0, .pointer (some ⟨wb, 0, none⟩)), (1, u64 x), (6, .int .i64 ((i.1 : Int) - 1))]) (fun i => [box wb [.slice i.2.1 (l ++ (encN x n).take (n - i.1)).length i.2.2] T, osl i.2.1 i.2.2 5 1 ((l ++ (encN x n).take (n - i.1)).map u8e)]) (n, base, cap) (by simp) ?_ (hs := ⟨fun r f h => by simpa using h⟩)
  rintro ⟨j, bs, cs⟩ hj ih
  (try dsimp only at hj ih ⊢)
  refine auto ?_
  refine branch (fun h => ?_) (fun h => ?_)
  · have hj' : 0 < j := by have := of_decide_eq_true h; omega
    obtain ⟨j, rfl⟩ : ∃ k, j = k + 1 := ⟨j - 1, by omega⟩
    have ej : (((j + 1 : Nat) : Int) - 1) = (j : Int) := by omega
    rw [ej]
    have hlen : (l ++ (encN x n).take (n - (j + 1))).length ≤ 1000000008 := by simp; omega
    refine auto ?_
    refine buildSlice fun b9 => ?_
    refine auto ?_
    refine appendO fun b10 c10 => ?_
    refine auto ?_
    have e1 := shr_num (x := x) (y := (j : Int) * 8) (k := j) (by omega) (by omega)
    have e2 : List.map u8e (l ++ (encN x n).take (n - (j + 1))) ++ [valC (.int .u8 ((x / 2 ^ (8 * j) % 256 : Nat) : Int))] = List.map u8e (l ++ (encN x n).take (n - j)) := by
      rw [encN_take (n := n) (j := j) (by omega), ← List.append_assoc, List.map_append (l₂ := [_])]; rfl
    have e3 : (l ++ (encN x n).take (n - (j + 1))).length + 1 = (l ++ (encN x n).take (n - j)).length := by
      rw [encN_take (n := n) (j := j) (by omega)]; simp; omega
    simp only [e1, e2, e3]
    exact next (ih (j, b10, c10) (by dsimp only; omega) (by dsimp only; omega))
  · have hj' : j = 0 := by have := of_decide_eq_false h; omega
    subst hj'
    refine auto ?_
    refine fall ?_
    have e1 : (encN x n).take (n - 0) = encN x n := by rw [Nat.sub_zero]; exact List.take_of_length_le (by simp)
    rw [e1]
    exact ends ⟨bs, cs, rfl⟩
/-- A prefix's bytes. -/
def encPfx (hi lo : Nat) (v6 : Bool) (n : Nat) : List Nat := [if v6 then 1 else 0, n] ++ (bytesA hi lo v6).take (longN v6 n)
theorem wprefix_spec (wb : Nat) (T : TypeId) (l : List Nat) (base : Option Addr) (cap hi lo : Nat) (v6 : Bool) (n : Nat) (h1 : hi < 18446744073709551616) (h2 : lo < 18446744073709551616) (hn : n < 256) (hl : l.length ≤ 1000000000) :
    Does PR E X 28 [.pointer (some ⟨wb, 0, none⟩), .agg #[u64 hi, u64 lo, .bool v6, .int .i64 (n : Int)]] [box wb [.slice base l.length cap] T, osl base cap 5 1 (l.map u8e)]
    (fun v t => ∃ base' cap', t = [box wb [.slice base' (l ++ encPfx (topN (min (width v6) 64) hi) (topN (width v6 - 64) lo) v6 n).length cap'] T, osl base' cap' 5 1 ((l ++ encPfx (topN (min (width v6) 64) hi) (topN (width v6 - 64) lo) v6 n).map u8e)]) := by
  refine Does.of 39 inferInstance rfl (by decide) rfl ?_
  have hL : longN v6 (n : Int).toNat ≤ width v6 / 8 := longN_le
  have hw : width v6 ≤ 128 := by cases v6 <;> decide
  refine auto ?_
  refine box_ fun b3 => ?_
  refine auto ?_
  refine branch (fun h => ?_) (fun h => ?_)
  all_goals
    refine auto ?_
    refine draw [0, 0, 2, 6, 14, 0, 0, 64, 192, 480, 1022, 2047, 4095, 8191] [9, 10, 13] [4, 7, 8] [0, 1, 2, 3, 4, 5, 6, 7, 8, 9, 10, 11, 12, 13] ?_
    refine dauto ?_
    refine dbuildSlice fun b4 => ?_
    refine dauto ?_
    refine dappendO fun b5 c5 => ?_
    refine dauto ?_
    refine draw [0, 0, 2, 6, 14, 0, 32, 96, 0, 256, 768, 0, 2048, 8160, 16352, 32766, 65535, 131071, 262143] [7, 13, 15, 18] [4, 6, 10, 12, 14] [0, 1, 2, 3, 4, 5, 6, 8, 9, 10, 11, 12, 7, 13, 14, 15, 16, 17, 18] ?_
    refine dauto ?_
    refine call (bytes_spec hi lo v6 h1 h2) ?_
    rintro _ _ ⟨b6, rfl, rfl⟩
    refine pdok ?_
    refine dauto ?_
    refine call (long_spec _ _ (by omega) (by omega)) ?_
    rintro _ _ ⟨rfl, rfl⟩
    refine pdok ?_
    refine dauto ?_
    simp only [Int.toNat_natCast, slB0, Nat.sub_zero] at hL ⊢
    refine DA.intoC (rslE (some ⟨b6, 0, none⟩) (cap := width v6 / 8) (sz := 1) 0 (longN v6 n) (by omega) (es' := ((bytesA (topN (min (width v6) 64) hi) (topN (width v6 - 64) lo) v6).take (longN v6 n)).map u8e) (by rw [List.drop_zero, List.map_take])) ?_
    simp only [slB0, Nat.sub_zero]
    have hlen : (List.map u8e (List.take (longN v6 n) (bytesA (topN (min (width v6) 64) hi) (topN (width v6 - 64) lo) v6))).length = longN v6 n := by
      rw [List.length_map, List.length_take, bytesA_len]; omega
    have hlen2 : ∀ x : Int, (List.map u8e l ++ [valC (.int .u8 x), valC (.int .u8 (n : Int))]).length = l.length + 2 := fun x => by simp
    refine dappendR fun b7 c7 => ?_
    refine dauto ?_
    refine auto ?_
    refine fall ?_
    have e1 : (l ++ encPfx (topN (min (width v6) 64) hi) (topN (width v6 - 64) lo) v6 n).length = l.length + 2 + longN v6 n := by
      simp [encPfx, bytesA_len]; omega
    rw [e1, encPfx]
    simp only [h, Bool.false_eq_true, if_true, if_false, List.map_append, List.append_assoc]
    exact ends ⟨b7, c7, rfl⟩
end Go.Proofs.YtjcbjclhagobiaaDoor
