/- What strings.Fields does with the names of the kinds of steps. -/
import Derived.Test.YtjcbjclhagobiaaDoorCa
import Derived.KernelRfl
namespace Go.Proofs.YtjcbjclhagobiaaDoor
open Go Go.KL Go.KM
variable {E : Env} {X : Xs}

def namesL : List Nat := [112, 97, 99, 107, 101, 116, 32, 97, 100, 100, 32, 119, 105, 116, 104, 100, 114, 97, 119, 32, 100, 117, 109, 112, 32, 114, 101, 97, 100, 32, 112, 105, 99, 107, 32, 101, 118, 105, 99, 116, 32, 102, 101, 116, 99, 104, 32, 116, 105, 99, 107, 32, 112, 111, 114, 116, 115]
def namesB : ByteArray := ⟨#[112, 97, 99, 107, 101, 116, 32, 97, 100, 100, 32, 119, 105, 116, 104, 100, 114, 97, 119, 32, 100, 117, 109, 112, 32, 114, 101, 97, 100, 32, 112, 105, 99, 107, 32, 101, 118, 105, 99, 116, 32, 102, 101, 116, 99, 104, 32, 116, 105, 99, 107, 32, 112, 111, 114, 116, 115]⟩
def isSp (c : Nat) : Nat := if c = 9 ∨ c = 10 ∨ c = 11 ∨ c = 12 ∨ c = 13 ∨ c = 32 then 1 else 0
def aspC : List Value := (List.range 256).map fun c => .int .u8 (isSp c : Nat)
theorem namesB_size : namesB.size = 57 := rfl
@[irreducible] def nC (i : Nat) : UInt8 := namesB.data.getD i 0
theorem nC_get {i : Nat} (h : i < 57) : namesB[((i : Nat) : Int).toNat]? = some (nC i) := by
  rw [Int.toNat_natCast]
  have h : i < namesB.data.size := h
  have e : namesB[i]? = some (namesB[i]'h) := getElem?_pos namesB i h
  rw [e]
  congr 1
  unfold nC
  show namesB.data[i] = namesB.data.getD i 0
  rw [Array.getD_eq_getD_getElem?, Array.getElem?_eq_getElem h]; rfl
theorem aspC_get {c : Nat} (h : c < 256) : aspC[0 + ((c : Nat) : Int).toNat * 1]? = some (.int .u8 (isSp c : Nat)) := by
  simp [aspC, h]
theorem isSp_le {c : Nat} : isSp c ≤ 1 := by unfold isSp; split <;> omega
def complW (s : Nat) : Int := IntKind.i64.wrap ((BitVec.ofInt IntKind.i64.bits (if IntKind.i64.signed = true then -1 else IntKind.i64.max) ^^^ BitVec.ofInt IntKind.i64.bits (IntKind.i64.wrap (s : Int))).toNat : Int)
def st1 : Nat → Int × Int × Int
  | 0 => (0, 1, 0)
  | i + 1 => (IntKind.i64.wrap ((st1 i).1 + andI .i64 (st1 i).2.1 (complW (isSp (nC i).toNat))), IntKind.i64.wrap (isSp (nC i).toNat : Nat), orI .u8 (st1 i).2.2 (nC i).toNat)
def fs1 : Nat → Nat × Nat × List (List Value)
  | 0 => (0, 0, List.replicate 10 [.string ByteArray.empty])
  | i + 1 => if isSp (nC i).toNat = 1 then (i + 1, (fs1 i).2.1 + 1, (fs1 i).2.2.set (fs1 i).2.1 [.string (namesB.extract (fs1 i).1 i)]) else fs1 i
theorem st1_end : st1 57 = (10, 0, 127) := by decide +kernel
theorem fs1_len : ∀ i, (fs1 i).2.2.length = 10
  | 0 => by simp [fs1]
  | i + 1 => by
    rw [fs1]; split
    · rw [List.length_set]; exact fs1_len i
    · exact fs1_len i
theorem fs1_one : ∀ i, ∀ e ∈ (fs1 i).2.2, ∃ x, e = [x]
  | 0, e, h => by
    have h : e ∈ List.replicate 10 [Value.string ByteArray.empty] := h
    rw [List.mem_replicate] at h; exact ⟨_, h.2⟩
  | i + 1, e, h => by
    rw [fs1] at h; split at h
    · rcases List.mem_or_eq_of_mem_set h with h | h
      · exact fs1_one i e h
      · exact ⟨_, h⟩
    · exact fs1_one i e h
theorem fs1_get {i n : Nat} (h : n < 10) : ∃ x, (fs1 i).2.2[((n : Nat) : Int).toNat]? = some [x] := by
  have hl := fs1_len i
  have hn : n < (fs1 i).2.2.length := by omega
  obtain ⟨x, hx⟩ := fs1_one i _ (List.getElem_mem hn)
  exact ⟨x, by rw [Int.toNat_natCast, List.getElem?_eq_getElem hn, hx]⟩
theorem fs1_a : ∀ i : Fin 57, (fs1 i.val).1 ≤ i.val ∧ (fs1 i.val).2.1 < 10 := by decide +kernel
theorem fs1_b : ∀ i : Fin 57, isSp (nC i.val).toNat = 1 → i.val + 1 < 57 ∧ isSp (nC (i.val + 1)).toNat = 0 := by decide +kernel
theorem fs1_end : (fs1 57).1 = 52 ∧ (fs1 57).2.1 = 9 := by decide +kernel
theorem fs1_pick : (fs1 57).2.2[5]? = some [.string ⟨#[112, 105, 99, 107]⟩] := by kernel_rfl
set_option maxHeartbeats 400000 in
theorem fields_spec : Does PR E X 19 [.string namesB] [rbox 0 aspC] (fun v t => ∃ base cap es, es.length = 10 ∧ es[5]? = some [.string ⟨#[112, 105, 99, 107]⟩] ∧ v = .slice base 10 cap ∧ t = [osl base cap 9 1 es]) := by
  refine Does.of 106 inferInstance rfl (by decide) rfl ?_
  refine auto ?_
  refine loop (ι := Nat) (fun i => 57 - i) (fun i => i ≤ 57) (fun i => [(0, .string namesB), (3, .int .i64 (st1 i).1), (4, .int .i64 (st1 i).2.1), (5, .int .u8 (st1 i).2.2), (6, .int .i64 (i : Nat))]) (fun i => [rbox 0 aspC]) 0 (by simp) ?_
  intro i hi ih
  (try dsimp only at hi ih ⊢)
  refine auto ?_
  rw [namesB_size]
  refine branch (fun h => ?_) (fun h => ?_)
  · have hi' : i < 57 := by have := of_decide_eq_true h; omega
    have hg := nC_get hi'
    have hc := (nC i).toNat_lt
    have ha := aspC_get hc
    refine auto ?_
    exact next (ih (i + 1) (by omega) (by omega))
  · have hi' : i = 57 := by have := of_decide_eq_false h; omega
    subst hi'
    rw [st1_end]
    refine auto ?_
    refine no ?_
    refine auto ?_
    refine makeSlice fun b9 => ?_
    refine auto ?_
    have hg0 : namesB[(0 : Int).toNat]? = some (nC 0) := nC_get (i := 0) (by decide)
    have hc0 := (nC 0).toNat_lt
    have ha0 := aspC_get hc0
    refine unroll ?_
    refine auto ?_
    refine no ?_ rfl (by decide +kernel)
    refine auto ?_
    refine loop (ι := Nat) (fun i => 57 - i) (fun i => i ≤ 57) (fun i => [(0, .string namesB), (9, .slice (some ⟨b9, 0, none⟩) 10 10), (10, .int .i64 ((fs1 i).2.1 : Nat)), (11, .int .i64 ((fs1 i).1 : Nat)), (12, .int .i64 (i : Nat))]) (fun i => [rbox 0 aspC, osl (some ⟨b9, 0, none⟩) 10 9 1 (fs1 i).2.2]) 0 (by simp) ?_
    intro i hi ih
    (try dsimp only at hi ih ⊢)
    refine auto ?_
    rw [namesB_size]
    refine branch (fun h => ?_) (fun h => ?_)
    · have hi' : i < 57 := by have := of_decide_eq_true h; omega
      have hg := nC_get hi'
      have hc := (nC i).toNat_lt
      have ha := aspC_get hc
      have hf := fs1_a ⟨i, hi'⟩
      have hb := fs1_b ⟨i, hi'⟩
      have hl := fs1_len i
      simp only at hf hb
      refine auto ?_
      refine branch (fun h2 => ?_) (fun h2 => ?_)
      · have h2' : isSp (nC i).toNat = 0 := by have := of_decide_eq_true h2; omega
        refine auto ?_
        have e : fs1 (i + 1) = fs1 i := by rw [fs1, if_neg (by omega)]
        rw [← e]
        exact next (ih (i + 1) (by omega) (by omega))
      · have h2' : isSp (nC i).toNat = 1 := by have := of_decide_eq_false h2; have := @isSp_le (nC i).toNat; omega
        obtain ⟨hb1, hb2⟩ := hb h2'
        have hel : ∃ x, (fs1 i).2.2[((fs1 i).2.1 : Int).toNat]? = some [x] := fs1_get hf.2
        obtain ⟨x, hel⟩ := hel
        have hsz : namesB.size = 57 := rfl
        refine auto ?_
        have e : fs1 (i + 1) = (i + 1, (fs1 i).2.1 + 1, (fs1 i).2.2.set (fs1 i).2.1 [.string (namesB.extract (fs1 i).1 i)]) := by rw [fs1, if_pos h2']
        have hg1 := nC_get hb1
        have hc1 := (nC (i + 1)).toNat_lt
        have ha1 := aspC_get hc1
        have ei : ((i : Nat) : Int) + 1 = ((i + 1 : Nat) : Int) := by omega
        have en : (((fs1 i).2.1 : Nat) : Int) + 1 = (((fs1 i).2.1 + 1 : Nat) : Int) := by omega
        rw [ei, en]
        have hj0 : i < i + 1 := Nat.lt_succ_self i
        generalize hj : i + 1 = j at hg1 hc1 ha1 hb1 hb2 e hj0 ⊢
        clear hg hc ha hg0 hc0 ha0 hel hf hl hb
        refine unroll ?_
        refine auto ?_
        refine no ?_ rfl (by simp [hb2])
        refine auto ?_
        have g := ih j (by omega) (by omega)
        simp only [e] at g
        simp only [Int.toNat_natCast]
        exact next g
    · have hi' : i = 57 := by have := of_decide_eq_false h; omega
      subst hi'
      refine auto ?_
      rw [namesB_size, fs1_end.1, fs1_end.2]
      have hsz : namesB.size = 57 := rfl
      refine yes ?_
      obtain ⟨x, hel⟩ := fs1_get (i := 57) (n := 9) (by decide)
      have hl := fs1_len 57
      refine auto ?_
      refine ret ?_
      refine ends (t := [osl (some ⟨b9, 0, none⟩) 10 9 1 ((fs1 57).2.2.set ((9 : Nat) : Int).toNat [.string (namesB.extract ((52 : Nat) : Int).toNat namesB.size)])]) ⟨_, _, _, ?_, ?_, rfl, rfl⟩
      · rw [List.length_set]; exact fs1_len 57
      · rw [List.getElem?_set_ne (by decide)]; exact fs1_pick
end Go.Proofs.YtjcbjclhagobiaaDoor
