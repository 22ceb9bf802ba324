/- ScriptUnlike: the walk. -/
import Derived.Test.YtjcbjclhagobiaaDoorCn
import Derived.Test.YtjcbjclhagobiaaDoorMc
import Derived.Test.YtjcbjclhagobiaaDoorCg
namespace Go.Proofs.YtjcbjclhagobiaaDoor
open Go Go.KL Go.KM
variable {E : Env} {X : Xs}

set_option maxHeartbeats 4000000 in
theorem unlike_spec (c d : CfgM) (pb pb2 : Option Addr) (pc pc2 : Nat) (vs us : List StepV) (ov : ∀ s ∈ vs, s.1.Ok) (ou : ∀ s ∈ us, s.1.Ok) (hpc : ∀ x ∈ c.presets, x < 18446744073709551616) (hpd : ∀ x ∈ d.presets, x < 18446744073709551616)
    (hv : ∀ s ∈ vs, ∀ x ∈ s.1.packet, x < 256) (hu : ∀ s ∈ us, ∀ x ∈ s.1.packet, x < 256) (base base2 : Option Addr) (cap cap2 : Nat) :
    Does PR E X 4 [.agg (c.cells pb pc).toArray, .slice base vs.length cap, .agg (d.cells pb2 pc2).toArray, .slice base2 us.length cap2]
    [rsl pb pc 1 (c.presets.map u64e), rsl base cap 8 (vs.map StepV.cells), rall (vs.map StepV.row), rsl pb2 pc2 1 (d.presets.map u64e), rsl base2 cap2 8 (us.map StepV.cells), rall (us.map StepV.row), rbox 0 aspC]
    (fun v t => v = .bool true ∧ t = []) := by
  refine Does.of 77 inferInstance rfl (by decide) rfl ?_
  refine auto ?_
  refine box_ fun b4 => ?_
  refine auto ?_
  refine box_ fun b6 => ?_
  refine auto ?_
  refine call awake_spec ?_
  rintro _ _ ⟨rfl, rfl⟩
  have c6 : (CfgM.cells c pb pc)[0 + 6]? = some (.slice pb c.presets.length pc) := rfl
  refine auto ?_
  refine branch (fun h => ?_) (fun h => ?_)
  · refine auto ?_
    refine ret ?_
    exact ends (t := []) ⟨rfl, rfl⟩
  · simp only [Bool.or_eq_false_iff, decide_eq_false_iff_not] at h
    obtain ⟨⟨⟨h1, h2⟩, h3⟩, h4⟩ := h
    refine auto ?_
    refine call (ours_spec c pb pc vs (by omega) base cap) ?_
    rintro _ _ ⟨b7, c7, rfl, rfl⟩
    refine ghostOL b7 ?_
    refine auto ?_
    refine alloc fun b10 => ?_
    refine auto ?_
    refine call (ours_spec d pb2 pc2 us (by omega) base2 cap2) ?_
    rintro _ _ ⟨b8, c8, rfl, rfl⟩
    refine ghostOL b8 ?_
    refine auto ?_
    refine alloc fun b12 => ?_
    refine auto ?_
    refine call (Fits_spec c pb pc vs ov (by omega) b7 c7) ?_
    rintro _ _ ⟨rfl, rfl⟩
    refine auto ?_
    refine orc (y := !scriptB d (us.map (·.1))) (fun h gk => ?_) ?_
    · refine auto ?_
      refine call (Fits_spec d pb2 pc2 us ou (by omega) b8 c8) ?_
      rintro _ _ ⟨rfl, rfl⟩
      exact autoG
    refine auto ?_
    refine branch (fun h => ?_) (fun h => ?_)
    · refine auto ?_
      refine ret ?_
      exact ends (t := []) ⟨rfl, rfl⟩
    · simp only [Bool.or_eq_false_iff, Bool.not_eq_false'] at h
      obtain ⟨s1, s2⟩ := h
      refine auto ?_
      refine draw [0, 1, 3, 3, 15, 31, 3, 3, 223, 479, 1023, 3, 3, 3, 3, 31199, 65535, 131071, 262143] [4, 8, 15, 18] [2, 5, 6, 9, 11, 13] [0, 1, 2, 3, 6, 7, 11, 12, 13, 14, 4, 5, 8, 9, 10, 15, 16, 17, 18] ?_
      have ht : true = true := rfl
      refine dauto ?_
      refine call (encode_spec c pb pc vs ov hpc (by omega) b7 c7) ?_
      rintro _ _ ⟨b13, c13, rfl, rfl⟩
      refine pdok ?_
      refine dauto ?_
      refine call (encode_spec d pb2 pc2 us ou hpd (by omega) b8 c8) ?_
      rintro _ _ ⟨b14, c14, rfl, rfl⟩
      refine pdok ?_
      refine dauto ?_
      refine call (same_spec c d pb pb2 pc pc2 vs us (by omega) (by omega) hv hu base base2 cap cap2) ?_
      rintro _ _ ⟨q, rfl, hq, rfl⟩
      refine pdok ?_
      refine dauto ?_
      refine ret ?_
      refine ends (t := []) ⟨?_, rfl⟩
      have ovm : ∀ s ∈ vs.map (·.1), s.Ok := fun s hs => by obtain ⟨y, hy, rfl⟩ := List.mem_map.1 hs; exact ov y hy
      have oum : ∀ s ∈ us.map (·.1), s.Ok := fun s hs => by obtain ⟨y, hy, rfl⟩ := List.mem_map.1 hs; exact ou y hy
      have hvm : ∀ s ∈ vs.map (·.1), ∀ x ∈ s.packet, x < 256 := fun s hs => by obtain ⟨y, hy, rfl⟩ := List.mem_map.1 hs; exact hv y hy
      have hum : ∀ s ∈ us.map (·.1), ∀ x ∈ s.packet, x < 256 := fun s hs => by obtain ⟨y, hy, rfl⟩ := List.mem_map.1 hs; exact hu y hy
      rw [pack_one, strOf_inj (encOf_lt ovm hvm) (encOf_lt oum hum)]
      congr 1
      rw [beq_iff_eq, Bool.eq_iff_iff, hq, decide_eq_true_eq]
      constructor
      · intro he
        unfold encOf at he
        rw [s1, s2] at he
        exact encScript_inj s1 s2 ovm oum hpc hpd he
      · rintro ⟨rfl, e2⟩
        rw [e2]
end Go.Proofs.YtjcbjclhagobiaaDoor
