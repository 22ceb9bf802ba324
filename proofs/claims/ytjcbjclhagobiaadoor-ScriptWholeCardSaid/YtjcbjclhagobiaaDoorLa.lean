/- ScriptWhole: the walk. -/
import Derived.Test.YtjcbjclhagobiaaDoorCg
import Derived.Test.YtjcbjclhagobiaaDoorMb
namespace Go.Proofs.YtjcbjclhagobiaaDoor
open Go Go.KL Go.KM
variable {E : Env} {X : Xs}

theorem into2 {s t u : List HP} (h : Into s t) (g : Into t u) : Into s u := ⟨fun r f x => g.h r f (h.h r f x)⟩
set_option maxHeartbeats 4000000 in
theorem whole_spec (l m : List Nat) (hl : ∀ x ∈ l, x < 256) (hm : ∀ x ∈ m, x < 256) (base base2 : Option Addr) (cap cap2 : Nat) :
    Does PR E X 3 [.slice base l.length cap, .slice base2 m.length cap2] [rsl base cap 1 (l.map u8e), rsl base2 cap2 1 (m.map u8e), rbox 0 aspC] (fun v t => v = .bool true ∧ t = []) := by
  refine Does.of 195 inferInstance rfl (by decide) rfl ?_
  refine auto ?_
  refine call awake_spec ?_
  rintro _ _ ⟨rfl, rfl⟩
  refine auto ?_
  refine branch (fun h => ?_) (fun h => ?_)
  · refine auto ?_
    refine ret ?_
    exact ends (t := []) ⟨rfl, rfl⟩
  · simp only [Bool.or_eq_false_iff, decide_eq_false_iff_not] at h
    refine auto ?_
    refine call (decode_spec l hl base cap) ?_
    rintro _ _ ⟨b1, c1, b2, c2, vs, hvs, rfl, rfl⟩
    refine auto ?_
    refine alloc fun b3 => ?_
    refine auto ?_
    refine buildSlice fun b4 => ?_
    refine auto ?_
    refine appendR fun b5 c5 => ?_
    refine auto ?_
    refine appendR fun b6 c6 => ?_
    have hlm : ∀ x ∈ l ++ m, x < 256 := fun x hx => (List.mem_append.1 hx).elim (hl x) (hm x)
    have e1 : l.map u8e ++ m.map u8e = (l ++ m).map u8e := by simp
    have e2 : 0 + l.length + m.length = (l ++ m).length := by simp
    simp only [List.nil_append, e1, e2]
    refine ghostOL b6 ?_
    refine auto ?_
    refine call (decode_spec (l ++ m) hlm b6 c6) ?_
    rintro _ _ ⟨b7, c7, b8, c8, vs2, hvs2, rfl, rfl⟩
    refine auto ?_
    refine alloc fun b9 => ?_
    have hlen : vs.length = (rdScript l).length := by rw [← hvs, List.length_map]
    have hle := rdScript_len l
    have hb0 : byteAt l 0 % 32 < 32 := Nat.mod_lt _ (by decide)
    have hb2 : byteAt l 2 % 32 < 32 := Nat.mod_lt _ (by decide)
    have hb6 : byteAt l 6 % 18 < 18 := Nat.mod_lt _ (by decide)
    refine auto ?_
    refine no ?_ rfl (by
      simp only [Bool.or_eq_false_iff, decide_eq_false_iff_not]
      have e3 : (rdCfg l).cap = (byteAt l 0 % 32 : Nat) := rfl
      have e4 : (rdCfg l).bound = (byteAt l 2 % 32 : Nat) := rfl
      have e5 : (rdCfg l).presets.length = byteAt l 6 % 18 := rdNums_len
      rw [e3, e4, e5]
      omega)
    refine auto ?_
    have hfine := rdSteps_fine 4096 _ (fun x hx => hl x (List.mem_of_mem_drop (i := 7 + 8 * (byteAt l 6 % 18)) hx))
    refine loop (ι := Nat) (fun i => vs.length - i) (fun i => i ≤ vs.length) (fun i => [(5, .bool true), (7, .slice b2 vs.length c2), (10, .slice b8 vs2.length c8), (11, .int .i64 (i : Nat))]) (fun i => [osl b2 c2 36 8 (vs.map StepV.cells), osl b8 c8 36 8 (vs2.map StepV.cells), rall (vs.map StepV.row), rall (vs2.map StepV.row)]) 0 (by simp) ?_
    intro i hi ih
    (try dsimp only at hi ih ⊢)
    refine auto ?_
    refine branch (fun h => ?_) (fun h => ?_)
    · have hi' : i < vs.length := by have := of_decide_eq_true h; omega
      obtain ⟨s, hs⟩ : ∃ s, vs[i]? = some s := ⟨vs[i], List.getElem?_eq_getElem hi'⟩
      have hs1 : (vs.map StepV.cells)[((i : Nat) : Int).toNat]? = some (StepV.cells s) := by simp [hs]
      have hsm : s ∈ vs := List.mem_of_getElem? hs
      have hsf : s.1.fine := hfine s.1 (by
        have := List.mem_map_of_mem (f := (·.1)) hsm
        rw [hvs] at this; exact this)
      obtain ⟨f1, f2, f3, f4, f5⟩ := hsf
      refine auto ?_
      refine no ?_ rfl (by simp only [Bool.or_eq_false_iff, decide_eq_false_iff_not]; omega)
      refine auto ?_
      rcases Nat.lt_or_ge (i + 1) vs.length with hlt | hge
      · have hap := rdScript_app (l := l) (m := m) (i := i) (by omega)
        rw [← hvs, ← hvs2, List.getElem?_map, List.getElem?_map, hs] at hap
        obtain ⟨s2, hs2, hss⟩ : ∃ s2, vs2[i]? = some s2 ∧ s2.1 = s.1 := by
          cases h2 : vs2[i]? with
          | none => rw [h2] at hap; simp at hap
          | some s2 => rw [h2] at hap; exact ⟨s2, rfl, by simpa using hap⟩
        have hi2 : i < vs2.length := by
          have := List.getElem?_eq_some_iff.1 hs2; exact this.1
        have hs21 : (vs2.map StepV.cells)[((i : Nat) : Int).toNat]? = some (StepV.cells s2) := by simp [hs2]
        have hsm2 : s2 ∈ vs2 := List.mem_of_getElem? hs2
        refine into (Into.rallGet (l := vs.map StepV.row) (b := s.2.1) (c := s.2.2) (m := s.1.packet) (List.mem_map_of_mem (f := StepV.row) hsm) (by repeat (first | (with_reducible exact Sel.here) | (with_reducible apply Sel.there)))) ?_
        refine into (Into.rallGet (l := vs2.map StepV.row) (b := s2.2.1) (c := s2.2.2) (m := s2.1.packet) (List.mem_map_of_mem (f := StepV.row) hsm2) (by repeat (first | (with_reducible exact Sel.here) | (with_reducible apply Sel.there)))) ?_
        obtain ⟨s1, p1, q1⟩ := s
        obtain ⟨s2, p2, q2⟩ := s2
        (try dsimp only at hss)
        subst hss
        refine draw [0, 0, 2, 6, 15, 31, 63, 63, 191, 511, 1023, 2047, 2047, 8191, 16383, 32767, 2047, 2047, 198655, 460799, 985087, 2097151, 4194303, 8388607, 16777215, 16777215, 67108863, 134217727, 268435455, 16777215, 16777215, 1627389951, 3774873599, 8069840895, 17179869183, 34359738367, 68719476735, 137438953471, 137438953471, 549755813887, 1099511627775, 2199023255551, 137438953471, 137438953471, 13331578486783, 30923764531199, 66108136620031, 140737488355327, 281474976710655, 562949953421311, 1125899906842623, 1125899906842623, 4503599627370495, 9007199254740991, 18014398509481983, 1125899906842623, 1125899906842623, 109212290963734527, 253327479039590399, 541557855191302143, 1152921504606846975, 2305843009213693951, 4611686018427387903, 9223372036854775807, 9223372036854775807, 36893488147419103231, 73786976294838206463, 147573952589676412927, 295147905179352825855, 9223372036854775807, 9223372036854775807, 1780110803112971730943, 4141294044547794337791, 8863660527417439551487, 18308393493156729978879, 37778931862957161709567, 75557863725914323419135, 151115727451828646838271] [] [13, 15, 18, 20, 26, 28, 31, 33, 39, 41, 44, 46, 52, 54, 57, 59, 65, 67, 68, 71, 73, 74] [0, 1, 2, 3, 4, 5, 6, 7, 8, 9, 10, 11, 12, 13, 14, 15, 16, 17, 18, 19, 20, 21, 22, 23, 24, 25, 26, 27, 28, 29, 30, 31, 32, 33, 34, 35, 36, 37, 38, 39, 40, 41, 42, 43, 44, 45, 46, 47, 48, 49, 50, 51, 52, 53, 54, 55, 56, 57, 58, 59, 60, 61, 62, 63, 64, 65, 66, 67, 68, 69, 70, 71, 72, 73, 74, 75, 76, 77] ?_
        refine dauto ?_
        refine no ?_ rfl (by simp; omega)
        refine auto ?_
        exact next (ih (i + 1) (by omega) (by omega))
      · have hB : decide ((i : Int) < (vs.length : Int) - 1) = false := by simp; omega
        refine draw [0, 0, 2, 6, 15, 31, 63, 63, 191, 511, 1023, 2047, 2047, 8191, 16383, 32767, 2047, 2047, 198655, 460799, 985087, 2097151, 4194303, 8388607, 16777215, 16777215, 67108863, 134217727, 268435455, 16777215, 16777215, 1627389951, 3774873599, 8069840895, 17179869183, 34359738367, 68719476735, 137438953471, 137438953471, 549755813887, 1099511627775, 2199023255551, 137438953471, 137438953471, 13331578486783, 30923764531199, 66108136620031, 140737488355327, 281474976710655, 562949953421311, 1125899906842623, 1125899906842623, 4503599627370495, 9007199254740991, 18014398509481983, 1125899906842623, 1125899906842623, 109212290963734527, 253327479039590399, 541557855191302143, 1152921504606846975, 2305843009213693951, 4611686018427387903, 9223372036854775807, 9223372036854775807, 36893488147419103231, 73786976294838206463, 147573952589676412927, 295147905179352825855, 9223372036854775807, 9223372036854775807, 1780110803112971730943, 4141294044547794337791, 8863660527417439551487, 18308393493156729978879, 37778931862957161709567, 75557863725914323419135, 151115727451828646838271] [] [13, 15, 18, 20, 26, 28, 31, 33, 39, 41, 44, 46, 52, 54, 57, 59, 65, 67, 68, 71, 73, 74] [0, 1, 2, 3, 4, 5, 6, 7, 8, 9, 10, 11, 12, 13, 14, 15, 16, 17, 18, 19, 20, 21, 22, 23, 24, 25, 26, 27, 28, 29, 30, 31, 32, 33, 34, 35, 36, 37, 38, 39, 40, 41, 42, 43, 44, 45, 46, 47, 48, 49, 50, 51, 52, 53, 54, 55, 56, 57, 58, 59, 60, 61, 62, 63, 64, 65, 66, 67, 68, 69, 70, 71, 72, 73, 74, 75, 76, 77] ?_
        refine dauto ?_
        refine no ?_
        refine auto ?_
        exact next (ih (i + 1) (by omega) (by omega))
    · refine auto ?_
      refine ret ?_
      exact ends (t := []) ⟨rfl, rfl⟩
end Go.Proofs.YtjcbjclhagobiaaDoor
