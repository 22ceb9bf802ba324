/- Are scripts the same: kedgeref23.Same. -/
import Derived.Test.YtjcbjclhagobiaaDoorCm
namespace Go.Proofs.YtjcbjclhagobiaaDoor
open Go Go.KL Go.KM
variable {E : Env} {X : Xs}

set_option maxHeartbeats 4000000 in
theorem same_spec (c d : CfgM) (pb pb2 : Option Addr) (pc pc2 : Nat) (vs us : List StepV) (hn : vs.length ≤ 1000000) (hn2 : c.presets.length ≤ 1000000)
    (hv : ∀ s ∈ vs, ∀ x ∈ s.1.packet, x < 256) (hu : ∀ s ∈ us, ∀ x ∈ s.1.packet, x < 256) (base base2 : Option Addr) (cap cap2 : Nat) :
    Does PR E X 10 [.agg (c.cells pb pc).toArray, .slice base vs.length cap, .agg (d.cells pb2 pc2).toArray, .slice base2 us.length cap2]
    [rsl pb pc 1 (c.presets.map u64e), rsl pb2 pc2 1 (d.presets.map u64e), rsl base cap 8 (vs.map StepV.cells), rsl base2 cap2 8 (us.map StepV.cells), rall (vs.map StepV.row), rall (us.map StepV.row)]
    (fun v t => ∃ q, v = .bool q ∧ (q = true ↔ c = d ∧ vs.map (·.1) = us.map (·.1)) ∧ t = []) := by
  refine Does.of 156 inferInstance rfl (by decide) rfl ?_
  obtain ⟨c1, c2, c3, c4, c5, c6, pr⟩ := c
  obtain ⟨d1, d2, d3, d4, d5, d6, qr⟩ := d
  (try dsimp only at hn2)
  refine auto ?_
  refine box_ fun b4 => ?_
  refine auto ?_
  refine box_ fun b6 => ?_
  refine auto ?_
  refine branch (fun h => ?_) (fun h => ?_)
  · refine auto ?_
    refine ret ?_
    refine ends ⟨false, rfl, ?_, rfl⟩
    constructor
    · intro h; cases h
    · rintro ⟨e1, e2⟩
      have e3 := congrArg List.length e2
      simp only [List.length_map] at e3
      cases e1
      simp [e3] at h
  · simp only [Bool.or_eq_false_iff, Bool.not_eq_false', decide_eq_true_eq] at h
    obtain ⟨⟨⟨⟨⟨⟨⟨k1, k2⟩, k3⟩, k4⟩, k5⟩, k6⟩, k7⟩, k8⟩ := h
    subst k1 k2 k3 k4 k5 k6
    have k7 : pr.length = qr.length := by
      have : ((pr.length : Nat) : Int) = qr.length := by simpa [CfgM.cells] using k7
      omega
    have k8 : vs.length = us.length := by omega
    refine auto ?_
    refine loop (ι := Nat) (fun i => pr.length - i) (fun i => i ≤ pr.length ∧ pr.take i = qr.take i) (fun i => [(1, .slice base vs.length cap), (3, .slice base2 us.length cap2), (4, .pointer (some ⟨b4, 0, none⟩)), (6, .pointer (some ⟨b6, 0, none⟩)), (9, .int .i64 (i : Nat))])
      (fun i => [rsl pb pc 1 (pr.map u64e), rsl pb2 pc2 1 (qr.map u64e), rsl base cap 8 (vs.map StepV.cells), rsl base2 cap2 8 (us.map StepV.cells), rall (vs.map StepV.row), rall (us.map StepV.row), box b4 [.int .i64 c1, .int .i64 c2, .int .i64 c3, .int .i64 c4, .int .i64 c5, .int .i64 c6, .slice pb pr.length pc] 38, box b6 [.int .i64 c1, .int .i64 c2, .int .i64 c3, .int .i64 c4, .int .i64 c5, .int .i64 c6, .slice pb2 qr.length pc2] 38]) 0 (by simp) ?_
    rintro i ⟨hi, hq⟩ ih
    (try dsimp only at hi hq ih ⊢)
    refine auto ?_
    refine branch (fun h => ?_) (fun h => ?_)
    · have hi' : i < pr.length := by have := of_decide_eq_true h; omega
      obtain ⟨x, hx⟩ : ∃ x, pr[i]? = some x := ⟨pr[i], List.getElem?_eq_getElem hi'⟩
      obtain ⟨y, hy⟩ : ∃ y, qr[i]? = some y := ⟨qr[i]'(by omega), List.getElem?_eq_getElem (by omega)⟩
      have hx1 : (pr.map u64e)[((i : Nat) : Int).toNat]? = some [u64 x] := by simp [hx, u64e]
      have hy1 : (qr.map u64e)[((i : Nat) : Int).toNat]? = some [u64 y] := by simp [hy, u64e]
      refine auto ?_
      refine draw [0, 1, 0, 7, 15, 0, 32, 0, 224, 480, 1023] [] [1, 3, 4, 6, 8, 9] [0, 1, 2, 3, 4, 5, 6, 7, 8, 9, 10] ?_
      refine dauto ?_
      refine branch (fun h2 => ?_) (fun h2 => ?_)
      · refine auto ?_
        refine ret ?_
        refine ends ⟨false, rfl, ⟨(fun h => by cases h), ?_⟩, rfl⟩
        rintro ⟨e1, _⟩
        injection e1 with _ _ _ _ _ _ e
        subst e
        rw [hx] at hy; cases hy
        simp at h2
      · have h2 : x = y := by simp at h2; omega
        subst h2
        refine auto ?_
        exact next (ih (i + 1) ⟨by omega, by rw [List.take_add_one, List.take_add_one, hq, hx, hy]⟩ (by omega))
    · have hi' : i = pr.length := by have := of_decide_eq_false h; omega
      subst hi'
      have epq : pr = qr := by
        rw [List.take_length] at hq
        rw [hq, k7, List.take_length]
      refine auto ?_
      refine loop (ι := Nat) (fun i => vs.length - i) (fun i => i ≤ vs.length ∧ (vs.take i).map (·.1) = (us.take i).map (·.1)) (fun i => [(1, .slice base vs.length cap), (3, .slice base2 us.length cap2), (10, .int .i64 (i : Nat))])
        (fun i => [rsl base cap 8 (vs.map StepV.cells), rsl base2 cap2 8 (us.map StepV.cells), rall (vs.map StepV.row), rall (us.map StepV.row)]) 0 (by simp) ?_
      rintro i ⟨hi, hq2⟩ ih2
      (try dsimp only at hi hq2 ih2 ⊢)
      refine auto ?_
      refine branch (fun h => ?_) (fun h => ?_)
      · have hi' : i < vs.length := by have := of_decide_eq_true h; omega
        obtain ⟨s, hs⟩ : ∃ s, vs[i]? = some s := ⟨vs[i], List.getElem?_eq_getElem hi'⟩
        obtain ⟨u, hus⟩ : ∃ u, us[i]? = some u := ⟨us[i]'(by omega), List.getElem?_eq_getElem (by omega)⟩
        have hs1 : (vs.map StepV.cells)[((i : Nat) : Int).toNat]? = some (StepV.cells s) := by simp [hs]
        have hu1 : (us.map StepV.cells)[((i : Nat) : Int).toNat]? = some (StepV.cells u) := by simp [hus]
        have hsm := List.mem_of_getElem? hs
        have hum := List.mem_of_getElem? hus
        refine into (Into.rallGet (l := vs.map StepV.row) (b := s.2.1) (c := s.2.2) (m := s.1.packet) (List.mem_map_of_mem (f := StepV.row) hsm) (by repeat (first | (with_reducible exact Sel.here) | (with_reducible apply Sel.there)))) ?_
        refine into (Into.rallGet (l := us.map StepV.row) (b := u.2.1) (c := u.2.2) (m := u.1.packet) (List.mem_map_of_mem (f := StepV.row) hum) (by repeat (first | (with_reducible exact Sel.here) | (with_reducible apply Sel.there)))) ?_
        have hsp := hv s hsm
        have hup := hu u hum
        obtain ⟨⟨what, hi1, lo, v6, pn, hop, n, packet⟩, pb1, pc1⟩ := s
        obtain ⟨⟨what', hi2, lo', v6', pn', hop', n', packet'⟩, pb1', pc1'⟩ := u
        refine auto ?_
        refine draw [0, 0, 3, 7, 15, 0, 0, 96, 224, 480, 1023, 2047, 4095, 4095, 16383, 32767, 65535, 4095, 4095, 397311, 921599, 1970175, 4194303, 8388607, 16777215, 33554431, 33554431, 134217727, 268435455, 536870911, 33554431, 33554431, 3254779903, 7549747199, 16139681791, 34359738367, 68719476735, 137438953471, 274877906943, 274877906943, 1099511627775, 2199023255551, 4398046511103, 274877906943, 274877906943, 26663156973567, 61847529062399, 132216273240063, 281474976710655, 562949953421311, 1125899906842623, 2251799813685247, 2251799813685247, 9007199254740991, 18014398509481983, 36028797018963967, 72057594037927935, 2251799813685247, 2251799813685247, 434597364041252863, 1011058116344676351, 2163979620951523327, 4469822630165217279, 9223372036854775807, 18446744073709551615] [] [2, 4, 7, 9, 14, 16, 19, 21, 27, 29, 32, 34, 40, 42, 45, 47, 53, 55, 56, 59, 61, 62] [0, 1, 2, 3, 4, 5, 6, 7, 8, 9, 10, 11, 12, 13, 14, 15, 16, 17, 18, 19, 20, 21, 22, 23, 24, 25, 26, 27, 28, 29, 30, 31, 32, 33, 34, 35, 36, 37, 38, 39, 40, 41, 42, 43, 44, 45, 46, 47, 48, 49, 50, 51, 52, 53, 54, 55, 56, 57, 58, 59, 60, 61, 62, 63, 64] ?_
        refine dauto ?_
        refine branch (fun h2 => ?_) (fun h2 => ?_)
        · refine auto ?_
          refine ret ?_
          refine ends ⟨false, rfl, ⟨(fun h => by cases h), ?_⟩, rfl⟩
          rintro ⟨_, e2⟩
          have e3 := congrArg (·[i]?) e2
          simp only [List.getElem?_map, hs, hus, Option.map_some, Option.some.injEq] at e3
          cases e3
          simp at h2
        · simp only [Bool.or_eq_false_iff, Bool.not_eq_false', strOf_inj hsp hup, decide_eq_true_eq, Bool.and_eq_true, beq_iff_eq] at h2
          obtain ⟨⟨⟨⟨q1, q2, q3, q4, q5, _⟩, q6⟩, q7⟩, q8⟩ := h2
          have es : (⟨what, hi1, lo, v6, pn, hop, n, packet⟩ : StepM) = ⟨what', hi2, lo', v6', pn', hop', n', packet'⟩ := by
            rw [q1, q4, q5, q6, q7, q8, show hi1 = hi2 by omega, show lo = lo' by omega]
          refine auto ?_
          refine next (ih2 (i + 1) ⟨by omega, ?_⟩ (by omega))
          rw [List.take_add_one, List.take_add_one, hs, hus, List.map_append, List.map_append, hq2]
          simp [es]
      · have hi' : i = vs.length := by have := of_decide_eq_false h; omega
        subst hi'
        refine auto ?_
        refine ret ?_
        refine ends ⟨true, rfl, ⟨fun _ => ⟨by rw [epq], ?_⟩, fun _ => rfl⟩, rfl⟩
        rw [List.take_length] at hq2
        rw [hq2, k8, List.take_length]
end Go.Proofs.YtjcbjclhagobiaaDoor
