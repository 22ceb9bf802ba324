/- What laying a step does. -/
import Derived.Test.YtjcbjclhagobiaaDoorCh
namespace Go.Proofs.YtjcbjclhagobiaaDoor
open Go Go.KL Go.KM
variable {E : Env} {X : Xs}

/-- May it be told? -/
structure StepM.Fits (s : StepM) : Prop where
  what : 0 ≤ s.what ∧ s.what < 10
  hi : s.hi < 18446744073709551616
  lo : s.lo < 18446744073709551616
  pn : 0 ≤ s.pn ∧ s.pn < 256
  hop : 0 ≤ s.hop ∧ s.hop ≤ 65535
  n : 0 ≤ s.n ∧ s.n < 256
  packet : s.packet.length < 256
def StepM.pfx (s : StepM) : List Nat := encPfx (topN (min (width s.v6) 64) s.hi) (topN (width s.v6 - 64) s.lo) s.v6 s.pn.toNat
def encBody (s : StepM) : Nat → List Nat
  | 0 => s.packet.length :: s.packet
  | 1 => s.pfx ++ encN s.hop.toNat 2
  | 2 => s.pfx
  | 5 => [s.n.toNat]
  | 6 => s.pfx
  | 7 => s.pfx ++ [s.n.toNat]
  | _ => []
def encStep (s : StepM) : List Nat := s.what.toNat :: encBody s s.what.toNat
theorem pfx_len {s : StepM} : s.pfx.length ≤ 18 := by
  have hw : width s.v6 ≤ 128 := by cases s.v6 <;> decide
  unfold StepM.pfx encPfx
  simp [bytesA_len]; omega
theorem encStep_len {s : StepM} (h : s.packet.length < 256) : (encStep s).length ≤ 300 := by
  have := @pfx_len s
  unfold encStep encBody
  split <;> simp <;> omega
theorem wstep_spec (wb : Nat) (T : TypeId) (l : List Nat) (base : Option Addr) (cap : Nat) (s : StepV) (hs : s.1.Fits) (hl : l.length ≤ 900000000) :
    Does PR E X 18 [.pointer (some ⟨wb, 0, none⟩), .agg (StepV.cells s).toArray] [box wb [.slice base l.length cap] T, osl base cap 5 1 (l.map u8e), rsl s.2.1 s.2.2 1 (s.1.packet.map u8e)]
    (fun v t => ∃ base' cap', t = [box wb [.slice base' (l ++ encStep s.1).length cap'] T, osl base' cap' 5 1 ((l ++ encStep s.1).map u8e)]) := by
  obtain ⟨⟨what, hi, lo, v6, pn, hop, n, packet⟩, pb, pc⟩ := s
  obtain ⟨hwhat, hhi, hlo, hpn, hhop, hn, hpk⟩ := hs
  dsimp only at hwhat hhi hlo hpn hhop hn hpk
  obtain ⟨w, rfl⟩ := Int.eq_ofNat_of_zero_le hwhat.1
  obtain ⟨pn, rfl⟩ := Int.eq_ofNat_of_zero_le hpn.1
  obtain ⟨hop, rfl⟩ := Int.eq_ofNat_of_zero_le hhop.1
  obtain ⟨n, rfl⟩ := Int.eq_ofNat_of_zero_le hn.1
  have hw : w < 10 := by omega
  refine Does.of 69 inferInstance rfl (by decide) rfl ?_
  refine auto ?_
  refine box_ fun b3 => ?_
  refine auto ?_
  refine draw [0, 0, 2, 6, 14, 0, 32, 96, 224, 510, 1023, 2047, 4095] [8, 9, 12] [4, 6, 7] [0, 1, 2, 3, 4, 5, 6, 7, 8, 9, 10, 11, 12] ?_
  refine dauto ?_
  refine dbuildSlice fun b4 => ?_
  refine dauto ?_
  refine dappendO fun b5 c5 => ?_
  refine dauto ?_
  have e5 : List.map u8e l ++ [valC (.int .u8 (w : Int))] = (l ++ [w]).map u8e := by simp [u8e, valC]
  have n5 : l.length + 1 = (l ++ [w]).length := by simp
  have l5 : (l ++ [w]).length ≤ 900000001 := by simp; omega
  rw [e5, n5]
  have eL : ∀ m : List Nat, l ++ (w :: m) = (l ++ [w]) ++ m := fun m => by simp
  have eS : encStep ⟨w, hi, lo, v6, pn, hop, n, packet⟩ = w :: encBody ⟨w, hi, lo, v6, pn, hop, n, packet⟩ w := rfl
  rw [eS, eL]
  have hpf : (StepM.mk (w : Int) hi lo v6 pn hop n packet).pfx = encPfx (topN (min (width v6) 64) hi) (topN (width v6 - 64) lo) v6 pn := rfl
  generalize hl1 : l ++ [w] = l1 at l5
  have hlp := @pfx_len (StepM.mk (w : Int) hi lo v6 pn hop n packet)
  obtain rfl | rfl | rfl | rfl | rfl | rfl | rfl | rfl | rfl | rfl : w = 0 ∨ w = 1 ∨ w = 2 ∨ w = 3 ∨ w = 4 ∨ w = 5 ∨ w = 6 ∨ w = 7 ∨ w = 8 ∨ w = 9 := by omega
  · refine autoc ?_
    refine draw [0, 0, 2, 6, 14, 0, 32, 96, 224, 480, 1022, 0, 2048, 8190, 16383, 32767, 65535] [9, 10, 13, 16] [4, 6, 8, 12] [0, 1, 2, 3, 4, 5, 6, 7, 8, 11, 12, 9, 10, 13, 14, 15, 16] ?_
    refine dauto ?_
    refine dbuildSlice fun b6 => ?_
    refine dauto ?_
    refine dappendO fun b7 c7 => ?_
    refine dauto ?_
    refine dappendR fun b8 c8 => ?_
    refine dauto ?_
    refine autoc ?_
    refine fall ?_
    have e6 : l1.map u8e ++ [valC (.int .u8 ((packet.length : Nat) : Int))] ++ packet.map u8e = (l1 ++ packet.length :: packet).map u8e := by simp [u8e, valC]
    have n6 : l1.length + 1 + packet.length = (l1 ++ packet.length :: packet).length := by simp; omega
    (try dsimp only)
    rw [e6, n6]
    exact ends ⟨b8, c8, rfl⟩
  · refine autoc ?_
    rw [encBody, hpf]
    refine call (wprefix_spec wb T l1 b5 c5 hi lo v6 pn hhi hlo (by omega) (by omega)) ?_
    rintro _ _ ⟨b7, c7, rfl⟩
    refine autoc ?_
    have hl7 : (l1 ++ encPfx (topN (min (width v6) 64) hi) (topN (width v6 - 64) lo) v6 pn).length ≤ 1000000000 := by
      rw [hpf] at hlp; simp at hlp ⊢; omega
    refine call (wnumber_spec wb T (l1 ++ encPfx (topN (min (width v6) 64) hi) (topN (width v6 - 64) lo) v6 pn) b7 c7 hop 2 (by omega) hl7) ?_
    rintro _ _ ⟨b8, c8, rfl⟩
    refine autoc ?_
    refine fall ?_
    rw [List.append_assoc]
    exact ends ⟨b8, c8, rfl⟩
  · refine autoc ?_
    rw [encBody, hpf]
    refine call (wprefix_spec wb T l1 b5 c5 hi lo v6 pn hhi hlo (by omega) (by omega)) ?_
    rintro _ _ ⟨b7, c7, rfl⟩
    refine autoc ?_
    refine fall ?_
    exact ends ⟨b7, c7, rfl⟩
  · refine autoc ?_
    refine fall ?_
    simp only [encBody, List.append_nil]
    exact ends ⟨b5, c5, rfl⟩
  · refine autoc ?_
    refine fall ?_
    simp only [encBody, List.append_nil]
    exact ends ⟨b5, c5, rfl⟩
  · refine autoc ?_
    refine draw [0, 0, 2, 6, 14, 0, 32, 96, 224, 510, 1023, 2047, 4095] [8, 9, 12] [4, 6, 7] [0, 1, 2, 3, 4, 5, 6, 7, 8, 9, 10, 11, 12] ?_
    refine dauto ?_
    refine dbuildSlice fun b6 => ?_
    refine dauto ?_
    refine dappendO fun b7 c7 => ?_
    refine dauto ?_
    refine autoc ?_
    refine fall ?_
    have e6 : l1.map u8e ++ [valC (.int .u8 ((n : Nat) : Int))] = (l1 ++ [n]).map u8e := by simp [u8e, valC]
    have n6 : l1.length + 1 = (l1 ++ [n]).length := by simp
    rw [e6, n6]
    exact ends ⟨b7, c7, rfl⟩
  · refine autoc ?_
    rw [encBody, hpf]
    refine call (wprefix_spec wb T l1 b5 c5 hi lo v6 pn hhi hlo (by omega) (by omega)) ?_
    rintro _ _ ⟨b7, c7, rfl⟩
    refine autoc ?_
    refine fall ?_
    exact ends ⟨b7, c7, rfl⟩
  · refine autoc ?_
    rw [encBody, hpf]
    refine call (wprefix_spec wb T l1 b5 c5 hi lo v6 pn hhi hlo (by omega) (by omega)) ?_
    rintro _ _ ⟨b7, c7, rfl⟩
    refine autoc ?_
    have hl7 : (l1 ++ encPfx (topN (min (width v6) 64) hi) (topN (width v6 - 64) lo) v6 pn).length ≤ 1000000000 := by
      rw [hpf] at hlp; simp at hlp ⊢; omega
    generalize hl2 : l1 ++ encPfx (topN (min (width v6) 64) hi) (topN (width v6 - 64) lo) v6 pn = l2 at hl7
    rw [← List.append_assoc, hl2]
    refine draw [0, 0, 2, 6, 14, 0, 32, 96, 224, 510, 1023, 2047, 4095] [8, 9, 12] [4, 6, 7] [0, 1, 2, 3, 4, 5, 6, 7, 8, 9, 10, 11, 12] ?_
    refine dauto ?_
    refine dbuildSlice fun b6 => ?_
    refine dauto ?_
    refine dappendO fun b8 c8 => ?_
    refine dauto ?_
    refine autoc ?_
    refine fall ?_
    have e6 : l2.map u8e ++ [valC (.int .u8 ((n : Nat) : Int))] = (l2 ++ [n]).map u8e := by simp [u8e, valC]
    have n6 : l2.length + 1 = (l2 ++ [n]).length := by simp
    (try dsimp only)
    rw [e6, n6]
    exact ends ⟨b8, c8, rfl⟩
  · refine autoc ?_
    refine fall ?_
    simp only [encBody, List.append_nil]
    exact ends ⟨b5, c5, rfl⟩
  · refine autoc ?_
    refine fall ?_
    simp only [encBody, List.append_nil]
    exact ends ⟨b5, c5, rfl⟩
end Go.Proofs.YtjcbjclhagobiaaDoor
