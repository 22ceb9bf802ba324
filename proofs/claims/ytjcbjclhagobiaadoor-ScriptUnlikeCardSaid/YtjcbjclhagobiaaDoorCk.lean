/- Whether a step may be told. -/
import Derived.Test.YtjcbjclhagobiaaDoorCj
namespace Go.Proofs.YtjcbjclhagobiaaDoor
open Go Go.KL Go.KM
variable {E : Env} {X : Xs}

/-- A step with no part but those of its kind. -/
def bareV (s : StepV) : StepV :=
  if s.1.what = 0 then (⟨s.1.what, 0, 0, false, 0, 0, 0, s.1.packet⟩, s.2.1, s.2.2)
  else if s.1.what = 1 then (⟨s.1.what, s.1.hi, s.1.lo, s.1.v6, s.1.pn, s.1.hop, 0, []⟩, none, 0)
  else if s.1.what = 2 ∨ s.1.what = 6 then (⟨s.1.what, s.1.hi, s.1.lo, s.1.v6, s.1.pn, 0, 0, []⟩, none, 0)
  else if s.1.what = 5 then (⟨s.1.what, 0, 0, false, 0, 0, s.1.n, []⟩, none, 0)
  else if s.1.what = 7 then (⟨s.1.what, s.1.hi, s.1.lo, s.1.v6, s.1.pn, 0, s.1.n, []⟩, none, 0)
  else (⟨s.1.what, 0, 0, false, 0, 0, 0, []⟩, none, 0)
theorem bare_spec (s : StepV) : Does PR E X 26 [.agg (StepV.cells s).toArray] [] (fun v t => v = .agg (StepV.cells (bareV s)).toArray ∧ t = []) := by
  refine Does.of 42 inferInstance rfl (by decide) rfl ?_
  obtain ⟨⟨what, hi, lo, v6, pn, hop, n, packet⟩, pb, pc⟩ := s
  refine auto ?_
  refine box_ fun b1 => ?_
  refine auto ?_
  refine alloc fun b2 => ?_
  refine auto ?_
  refine alloc fun b3 => ?_
  refine auto ?_
  have no : ∀ k : Int, what ≠ k → decide (what = k) = false := fun k h => by simp [h]
  by_cases h0 : what = 0
  · subst h0
    refine autoc ?_
    refine ret ?_
    exact ends ⟨rfl, rfl⟩
  have n0 := no _ h0
  by_cases h1 : what = 1
  · subst h1
    refine autoc ?_
    refine draw [0, 1, 0, 4, 3, 19, 63, 127] [5, 7] [1, 3] [0, 1, 2, 3, 4, 5, 6, 7] ?_
    refine dauto ?_
    refine autoc ?_
    refine ret ?_
    exact ends ⟨rfl, rfl⟩
  have n1 := no _ h1
  by_cases h2 : what = 2
  · subst h2
    refine autoc ?_
    refine ret ?_
    exact ends ⟨rfl, rfl⟩
  have n2 := no _ h2
  by_cases h6 : what = 6
  · subst h6
    refine autoc ?_
    refine ret ?_
    exact ends ⟨rfl, rfl⟩
  have n6 := no _ h6
  by_cases h5 : what = 5
  · subst h5
    refine autoc ?_
    refine ret ?_
    exact ends ⟨rfl, rfl⟩
  have n5 := no _ h5
  by_cases h7 : what = 7
  · subst h7
    refine autoc ?_
    refine draw [0, 1, 0, 4, 3, 19, 63, 127] [5, 7] [1, 3] [0, 1, 2, 3, 4, 5, 6, 7] ?_
    refine dauto ?_
    refine autoc ?_
    refine ret ?_
    exact ends ⟨rfl, rfl⟩
  have n7 := no _ h7
  refine autoc ?_
  refine ret ?_
  refine ends ⟨?_, rfl⟩
  simp only [pack_one, bareV, h0, h1, h2, h6, h5, h7, if_false, or_self]
  rfl
def belowB (a b : Int) : Bool := decide (0 ≤ a) && decide (a < b)
def unfitB (s x : StepM) : Bool := !(belowB s.what 10) || !(decide ((x.hi : Int) = s.hi) && (decide ((x.lo : Int) = s.lo) && ((x.v6 == s.v6) && (decide (x.pn = s.pn) && true)))) || !(decide (x.hop = s.hop)) || !(decide (x.n = s.n)) || !(decide ((x.packet.length : Int) = s.packet.length))
def fitsB (s : StepM) : Bool := !(unfitB s (bareV (s, none, 0)).1) && (decide ((s.packet.length : Int) ≤ 255) && belowB s.hop 65536 && belowB s.n 256 && toldB s.hi s.lo s.v6 s.pn)
theorem bareV_fst (s : StepV) : (bareV s).1 = (bareV (s.1, none, 0)).1 := by
  unfold bareV; split <;> (try split) <;> (try split) <;> (try split) <;> (try split) <;> rfl
theorem below_spec' (a b : Int) : Does PR E X 16 [.int .i64 a, .int .i64 b] [] (fun v t => v = .bool (belowB a b) ∧ t = []) := below_spec a b
theorem fits_spec (s : StepV) (h1 : s.1.hi < 18446744073709551616) (h2 : s.1.lo < 18446744073709551616) : Does PR E X 15 [.agg (StepV.cells s).toArray] [] (fun v t => v = .bool (fitsB s.1) ∧ t = []) := by
  refine Does.of 59 inferInstance rfl (by decide) rfl ?_
  have hb := bare_spec (E := E) (X := X) s
  have hx := bareV_fst s
  unfold fitsB
  rw [← hx]
  generalize bareV s = x at hb
  obtain ⟨⟨what, hi, lo, v6, pn, hop, n, packet⟩, pb, pc⟩ := s
  obtain ⟨⟨what', hi', lo', v6', pn', hop', n', packet'⟩, pb', pc'⟩ := x
  (try dsimp only at h1 h2)
  refine auto ?_
  refine box_ fun b1 => ?_
  refine auto ?_
  refine call hb ?_
  rintro _ _ ⟨rfl, rfl⟩
  refine auto ?_
  refine alloc fun b3 => ?_
  refine auto ?_
  refine call (below_spec' _ _) ?_
  rintro _ _ ⟨rfl, rfl⟩
  refine auto ?_
  refine branch (fun h => ?_) (fun h => ?_)
  · have h : unfitB ⟨what, hi, lo, v6, pn, hop, n, packet⟩ ⟨what', hi', lo', v6', pn', hop', n', packet'⟩ = true := h
    refine auto ?_
    refine ret ?_
    exact ends ⟨by rw [pack_one, h]; rfl, rfl⟩
  · have h : unfitB ⟨what, hi, lo, v6, pn, hop, n, packet⟩ ⟨what', hi', lo', v6', pn', hop', n', packet'⟩ = false := h
    rw [h]
    refine auto ?_
    refine andc (y := belowB hop 65536) (fun h gk => ?_) ?_
    · refine auto ?_
      refine call (below_spec' _ _) ?_
      rintro _ _ ⟨rfl, rfl⟩
      exact autoG
    refine auto ?_
    refine andc (y := belowB n 256) (fun h gk => ?_) ?_
    · refine auto ?_
      refine call (below_spec' _ _) ?_
      rintro _ _ ⟨rfl, rfl⟩
      exact autoG
    refine auto ?_
    refine andc (y := toldB hi lo v6 pn) (fun h gk => ?_) ?_
    · refine auto ?_
      refine call (told_spec _ _ _ _ h1 h2) ?_
      rintro _ _ ⟨rfl, rfl⟩
      exact autoG
    refine auto ?_
    refine ret ?_
    exact ends ⟨by rw [pack_one, Bool.not_false, Bool.true_and], rfl⟩
/-- May a config be told? -/
def cfgB (c : CfgM) (k : Nat) : Bool := belowB c.cap 32 && belowB c.policy 2 && belowB c.bound 32 && belowB c.n 256 && belowB c.h 256 && belowB c.fetch 9 && decide ((c.presets.length : Int) < 18) && decide ((k : Int) ≤ 4096)
def scriptB (c : CfgM) (l : List StepM) : Bool := l.all fitsB && cfgB c l.length
def StepM.Ok (s : StepM) : Prop := s.hi < 18446744073709551616 ∧ s.lo < 18446744073709551616
theorem Fits_spec (c : CfgM) (pb : Option Addr) (pc : Nat) (vs : List StepV) (hvs : ∀ s ∈ vs, s.1.Ok) (hn : vs.length ≤ 1000000000) (base : Option Addr) (cap : Nat) : Does PR E X 8 [.agg (c.cells pb pc).toArray, .slice base vs.length cap] [rsl base cap 8 (vs.map StepV.cells)] (fun v t => v = .bool (scriptB c (vs.map (·.1))) ∧ t = []) := by
  refine Does.of 56 inferInstance rfl (by decide) rfl ?_
  obtain ⟨ccap, policy, bound, cn, ch, fetch, presets⟩ := c
  refine auto ?_
  refine box_ fun b2 => ?_
  refine auto ?_
  refine loop (ι := Nat) (fun i => vs.length - i) (fun i => i ≤ vs.length ∧ ∀ j < i, ∀ s, vs[j]? = some s → fitsB s.1 = true) (fun i => [(1, .slice base vs.length cap), (2, .pointer (some ⟨b2, 0, none⟩)), (7, .slice base vs.length cap), (8, .int .i64 (vs.length : Nat)), (9, .int .i64 (i : Nat))]) (fun i => [rsl base cap 8 (vs.map StepV.cells), box b2 [.int .i64 ccap, .int .i64 policy, .int .i64 bound, .int .i64 cn, .int .i64 ch, .int .i64 fetch, .slice pb presets.length pc] 26]) 0 (by simp) ?_
  rintro i ⟨hi, hf⟩ ih
  (try dsimp only at hi ih ⊢)
  refine auto ?_
  refine branch (fun h => ?_) (fun h => ?_)
  · have hi' : i < vs.length := by have := of_decide_eq_true h; omega
    obtain ⟨s, hs⟩ : ∃ s, vs[i]? = some s := ⟨vs[i], List.getElem?_eq_getElem hi'⟩
    have hs1 : (vs.map StepV.cells)[((i : Nat) : Int).toNat]? = some (StepV.cells s) := by simp [hs]
    have hok := hvs s (List.mem_of_getElem? hs)
    refine auto ?_
    refine alloc fun b6 => ?_
    refine auto ?_
    refine call (fits_spec s hok.1 hok.2) ?_
    rintro _ _ ⟨rfl, rfl⟩
    refine auto ?_
    refine branch (fun h2 => ?_) (fun h2 => ?_)
    · refine auto ?_
      refine ret ?_
      refine ends ⟨?_, rfl⟩
      have : scriptB ⟨ccap, policy, bound, cn, ch, fetch, presets⟩ (vs.map (·.1)) = false := by
        unfold scriptB
        rw [Bool.and_eq_false_iff]; left
        rw [List.all_eq_false]
        exact ⟨s.1, List.mem_map_of_mem (List.mem_of_getElem? hs), by simpa using h2⟩
      rw [pack_one, this]
    · refine auto ?_
      refine next (ih (i + 1) ⟨by omega, fun j hj s' hs' => ?_⟩ (by omega))
      rcases Nat.lt_or_ge j i with g | g
      · exact hf j g s' hs'
      · have : j = i := by omega
        subst this
        rw [hs] at hs'; cases hs'; simpa using h2
  · have hi' : i = vs.length := by have := of_decide_eq_false h; omega
    subst hi'
    have hall : (vs.map (·.1)).all fitsB = true := by
      rw [List.all_eq_true]
      intro x hx
      obtain ⟨s, hs, rfl⟩ := List.mem_map.1 hx
      obtain ⟨j, hj⟩ := List.getElem?_of_mem hs
      exact hf j (List.getElem?_eq_some_iff.1 hj).1 s hj
    refine auto ?_
    refine call (below_spec' _ _) ?_
    rintro _ _ ⟨rfl, rfl⟩
    refine auto ?_
    refine andc (y := belowB policy 2) (fun h gk => ?_) ?_
    · refine auto ?_
      refine call (below_spec' _ _) ?_
      rintro _ _ ⟨rfl, rfl⟩
      exact autoG
    refine auto ?_
    refine andc (y := belowB bound 32) (fun h gk => ?_) ?_
    · refine auto ?_
      refine call (below_spec' _ _) ?_
      rintro _ _ ⟨rfl, rfl⟩
      exact autoG
    refine auto ?_
    refine andc (y := belowB cn 256) (fun h gk => ?_) ?_
    · refine auto ?_
      refine call (below_spec' _ _) ?_
      rintro _ _ ⟨rfl, rfl⟩
      exact autoG
    refine auto ?_
    refine andc (y := belowB ch 256) (fun h gk => ?_) ?_
    · refine auto ?_
      refine call (below_spec' _ _) ?_
      rintro _ _ ⟨rfl, rfl⟩
      exact autoG
    refine auto ?_
    refine andc (y := belowB fetch 9) (fun h gk => ?_) ?_
    · refine auto ?_
      refine call (below_spec' _ _) ?_
      rintro _ _ ⟨rfl, rfl⟩
      exact autoG
    refine auto ?_
    refine ret ?_
    refine ends ⟨?_, rfl⟩
    rw [pack_one, scriptB, hall, Bool.true_and, List.length_map]
    rfl
end Go.Proofs.YtjcbjclhagobiaaDoor
