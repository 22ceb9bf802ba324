/- What Encode does. -/
import Derived.Test.YtjcbjclhagobiaaDoorCk
namespace Go.Proofs.YtjcbjclhagobiaaDoor
open Go Go.KL Go.KM
variable {E : Env} {X : Xs}

theorem below_is {a b : Int} (h : belowB a b = true) : 0 ≤ a ∧ a < b := by simpa [belowB] using h
theorem fitsB_fits {s : StepM} (h : fitsB s = true) (hok : s.Ok) : s.Fits := by
  unfold fitsB at h
  simp only [Bool.and_eq_true, Bool.not_eq_true', decide_eq_true_eq] at h
  obtain ⟨h1, ⟨⟨h2, h3⟩, h4⟩, h5⟩ := h
  have hw : belowB s.what 10 = true := by
    unfold unfitB at h1
    simp only [Bool.or_eq_false_iff, Bool.not_eq_false'] at h1
    exact h1.1.1.1.1
  have hp : 0 ≤ s.pn ∧ s.pn < 256 := by
    unfold toldB at h5
    simp only [Bool.and_eq_true, decide_eq_true_eq] at h5
    exact h5.1.1
  have k3 := below_is h3
  have k4 := below_is h4
  exact ⟨below_is hw, hok.1, hok.2, hp, ⟨k3.1, by omega⟩, k4, by omega⟩
def cfgL (c : CfgM) : List Nat := [c.cap.toNat, c.policy.toNat, c.bound.toNat, c.n.toNat, c.h.toNat, c.fetch.toNat, c.presets.length]
def encNums (l : List Nat) : List Nat := l.flatMap fun x => encN x 8
def encSteps (l : List StepM) : List Nat := l.flatMap encStep
def encScript (c : CfgM) (l : List StepM) : List Nat := cfgL c ++ encNums c.presets ++ encSteps l
def encOf (c : CfgM) (l : List StepM) : List Nat := if scriptB c l then encScript c l else []
theorem encNums_len {l : List Nat} : (encNums l).length = 8 * l.length := by
  induction l with
  | nil => rfl
  | cons a l ih => simp only [encNums, List.flatMap_cons, List.length_append, encN_len, List.length_cons] at ih ⊢; omega
theorem encSteps_len : ∀ {l : List StepM}, (∀ s ∈ l, s.packet.length < 256) → (encSteps l).length ≤ 300 * l.length
  | [], _ => by simp [encSteps]
  | s :: l, h => by
    have h1 := encStep_len (h s (by simp))
    have h2 := encSteps_len (l := l) (fun x hx => h x (by simp [hx]))
    simp only [encSteps, List.flatMap_cons, List.length_append, List.length_cons] at h2 ⊢; omega
theorem flatMap_snoc {α β : Type} (f : α → List β) {l : List α} {i : Nat} {x : α} (h : l[i]? = some x) : (l.take (i + 1)).flatMap f = (l.take i).flatMap f ++ f x := by
  rw [List.take_add_one, h]; simp
def i64e (x : Nat) : List Value := [.int .i64 (x : Int)]
theorem encode_spec (c : CfgM) (pb : Option Addr) (pc : Nat) (vs : List StepV) (hvs : ∀ s ∈ vs, s.1.Ok) (hpr : ∀ x ∈ c.presets, x < 18446744073709551616) (hn : vs.length ≤ 1000000) (base : Option Addr) (cap : Nat) :
    Does PR E X 9 [.agg (c.cells pb pc).toArray, .slice base vs.length cap] [rsl pb pc 1 (c.presets.map u64e), rsl base cap 8 (vs.map StepV.cells), rall (vs.map StepV.row)]
    (fun v t => ∃ b cc, v = .slice b (encOf c (vs.map (·.1))).length cc ∧ t = [osl b cc 5 1 ((encOf c (vs.map (·.1))).map u8e)]) := by
  refine Does.of 76 inferInstance rfl (by decide) rfl ?_
  refine auto ?_
  refine box_ fun b2 => ?_
  refine auto ?_
  refine call (Fits_spec c pb pc vs hvs (by omega) base cap) ?_
  rintro _ _ ⟨rfl, rfl⟩
  refine auto ?_
  refine branch (fun h => ?_) (fun h => ?_)
  · have h : scriptB c (vs.map (·.1)) = false := by simpa using h
    refine auto ?_
    refine into (Into.nilO (T := 5) (sz := 1)) ?_
    refine ret ?_
    have e : encOf c (vs.map (·.1)) = [] := by rw [encOf, h]; rfl
    rw [e]
    exact ends ⟨none, 0, rfl, rfl⟩
  · have h : scriptB c (vs.map (·.1)) = true := by simpa using h
    have e : encOf c (vs.map (·.1)) = encScript c (vs.map (·.1)) := by rw [encOf, h]; rfl
    rw [e]
    have hfit : ∀ s ∈ vs, s.1.Fits := fun s hs => by
      have := (Bool.and_eq_true_iff.1 h).1
      rw [List.all_eq_true] at this
      exact fitsB_fits (this s.1 (List.mem_map_of_mem hs)) (hvs s hs)
    have hcfg : cfgB c (vs.map (·.1)).length = true := (Bool.and_eq_true_iff.1 h).2
    obtain ⟨ccap, policy, bound, cn, ch, fetch, presets⟩ := c
    simp only [cfgB, Bool.and_eq_true, decide_eq_true_eq, List.length_map] at hcfg
    obtain ⟨⟨⟨⟨⟨⟨⟨k1, k2⟩, k3⟩, k4⟩, k5⟩, k6⟩, k7⟩, k8⟩ := hcfg
    have k1 := below_is k1
    have k2 := below_is k2
    have k3 := below_is k3
    have k4 := below_is k4
    have k5 := below_is k5
    have k6 := below_is k6
    obtain ⟨ccap, rfl⟩ := Int.eq_ofNat_of_zero_le k1.1
    obtain ⟨policy, rfl⟩ := Int.eq_ofNat_of_zero_le k2.1
    obtain ⟨bound, rfl⟩ := Int.eq_ofNat_of_zero_le k3.1
    obtain ⟨cn, rfl⟩ := Int.eq_ofNat_of_zero_le k4.1
    obtain ⟨ch, rfl⟩ := Int.eq_ofNat_of_zero_le k5.1
    obtain ⟨fetch, rfl⟩ := Int.eq_ofNat_of_zero_le k6.1
    (try dsimp only at hpr)
    refine auto ?_
    refine box_ fun b5 => ?_
    refine auto ?_
    refine buildSlice fun b6 => ?_
    refine auto ?_
    obtain ⟨hdr, hhdr⟩ : ∃ hdr : List Nat, hdr = [ccap, policy, bound, cn, ch, fetch, presets.length] := ⟨_, rfl⟩
    have hh7 : hdr.length = 7 := by rw [hhdr]; rfl
    have hhlt : ∀ x ∈ hdr, x < 256 := by
      intro x hx; rw [hhdr] at hx; simp at hx; omega
    have ehd : ([valC (.int .i64 (ccap : Int)), valC (.int .i64 (policy : Int)), valC (.int .i64 (bound : Int)), valC (.int .i64 (cn : Int)), valC (.int .i64 (ch : Int)), valC (.int .i64 (fetch : Int)), valC (.int .i64 (presets.length : Int))] : List (List Value)) = hdr.map i64e := by rw [hhdr]; rfl
    have ecf : cfgL ⟨ccap, policy, bound, cn, ch, fetch, presets⟩ = hdr := by rw [hhdr]; rfl
    have esc : encScript ⟨ccap, policy, bound, cn, ch, fetch, presets⟩ (vs.map (·.1)) = hdr ++ encNums presets ++ encSteps (vs.map (·.1)) := by rw [encScript, ecf]
    rw [ehd, esc]
    clear esc ecf ehd e h
    refine into (Into.nilO (T := 5) (sz := 1)) ?_
    refine loop (ι := Nat × Option Addr × Nat) (fun i => 7 - i.1) (fun i => i.1 ≤ 7) (fun i => [(1, .slice base vs.length cap), (2, .pointer (some ⟨b2, 0, none⟩)), (5, .pointer (some ⟨b5, 0, none⟩)), (33, .slice (some ⟨b6, 0, none⟩) 7 7), (34, .int .i64 ((7 : Nat) : Int)), (35, .int .i64 (i.1 : Nat))])
      (fun i => [box b5 [.slice i.2.1 i.1 i.2.2] 58, osl i.2.1 i.2.2 5 1 ((hdr.take i.1).map u8e), osl (some ⟨b6, 0, none⟩) 7 3 1 (hdr.map i64e), box b2 [.int .i64 (ccap : Int), .int .i64 (policy : Int), .int .i64 (bound : Int), .int .i64 (cn : Int), .int .i64 (ch : Int), .int .i64 (fetch : Int), .slice pb presets.length pc] 26, rsl pb pc 1 (presets.map u64e), rsl base cap 8 (vs.map StepV.cells), rall (vs.map StepV.row)]) (0, none, 0) (by simp) ?_
    rintro ⟨j, b7, c7⟩ hj ih
    (try dsimp only at hj ih ⊢)
    refine auto ?_
    refine branch (fun h => ?_) (fun h => ?_)
    · have hj' : j < 7 := by have := of_decide_eq_true h; omega
      obtain ⟨x, hx⟩ : ∃ x, hdr[j]? = some x := ⟨hdr[j], List.getElem?_eq_getElem (by omega)⟩
      have hx1 : (hdr.map i64e)[((j : Nat) : Int).toNat]? = some [.int .i64 (x : Int)] := by simp [hx, i64e]
      have hx256 := hhlt x (List.mem_of_getElem? hx)
      have hml : (hdr.map i64e).length = 7 := by simpa using hh7
      have hml2 : ((hdr.take j).map u8e).length = j := by simp; omega
      refine auto ?_
      refine buildSlice fun b8 => ?_
      refine auto ?_
      refine appendO fun b9 c9 => ?_
      refine auto ?_
      have e1 : (hdr.take j).map u8e ++ [valC (.int .u8 (x : Int))] = (hdr.take (j + 1)).map u8e := by
        rw [List.take_add_one, hx, List.map_append]; rfl
      rw [e1]
      exact next (ih (j + 1, b9, c9) (by dsimp only; omega) (by dsimp only; omega))
    · have hj' : j = 7 := by have := of_decide_eq_false h; omega
      subst hj'
      have et : hdr.take 7 = hdr := List.take_of_length_le (by omega)
      rw [et]
      refine auto ?_
      have hpn : presets.length < 18 := by omega
      have e7 : Value.slice b7 7 c7 = .slice b7 (hdr ++ encNums (presets.take 0)).length c7 := by simp [hh7, encNums]
      have e8 : hdr.map u8e = (hdr ++ encNums (presets.take 0)).map u8e := by simp [encNums]
      rw [e7, e8]
      refine loop (ι := Nat × Option Addr × Nat) (fun i => presets.length - i.1) (fun i => i.1 ≤ presets.length) (fun i => [(1, .slice base vs.length cap), (5, .pointer (some ⟨b5, 0, none⟩)), (52, .slice pb presets.length pc), (53, .int .i64 (presets.length : Nat)), (54, .int .i64 (i.1 : Nat))])
        (fun i => [box b5 [.slice i.2.1 (hdr ++ encNums (presets.take i.1)).length i.2.2] 58, osl i.2.1 i.2.2 5 1 ((hdr ++ encNums (presets.take i.1)).map u8e), rsl pb pc 1 (presets.map u64e), rsl base cap 8 (vs.map StepV.cells), rall (vs.map StepV.row)]) (0, b7, c7) (by simp) ?_
      rintro ⟨i, b8, c8⟩ hi ih2
      (try dsimp only at hi ih2 ⊢)
      refine auto ?_
      refine branch (fun h => ?_) (fun h => ?_)
      · have hi' : i < presets.length := by have := of_decide_eq_true h; omega
        obtain ⟨x, hx⟩ : ∃ x, presets[i]? = some x := ⟨presets[i], List.getElem?_eq_getElem hi'⟩
        have hx1 : (presets.map u64e)[((i : Nat) : Int).toNat]? = some [u64 x] := by simp [hx, u64e]
        have hll : (hdr ++ encNums (presets.take i)).length ≤ 1000000000 := by simp [encNums_len]; omega
        refine auto ?_
        refine call (wnumber_spec b5 _ (hdr ++ encNums (presets.take i)) b8 c8 x 8 (by omega) hll) ?_
        rintro _ _ ⟨b9, c9, rfl⟩
        refine auto ?_
        have e1 : hdr ++ encNums (presets.take i) ++ encN x 8 = hdr ++ encNums (presets.take (i + 1)) := by
          rw [List.append_assoc, encNums, encNums, flatMap_snoc _ hx]
        rw [e1]
        exact next (ih2 (i + 1, b9, c9) (by dsimp only; omega) (by dsimp only; omega))
      · have hi' : i = presets.length := by have := of_decide_eq_false h; omega
        subst hi'
        rw [List.take_length]
        refine auto ?_
        generalize hG : hdr ++ encNums presets = G
        have hGl : G.length ≤ 200 := by rw [← hG]; simp [encNums_len]; omega
        have e9 : Value.slice b8 G.length c8 = .slice b8 (G ++ encSteps ((vs.take 0).map (·.1))).length c8 := by simp [encSteps]
        have e10 : G.map u8e = (G ++ encSteps ((vs.take 0).map (·.1))).map u8e := by simp [encSteps]
        rw [e9, e10]
        refine loop (ι := Nat × Option Addr × Nat) (fun i => vs.length - i.1) (fun i => i.1 ≤ vs.length) (fun i => [(5, .pointer (some ⟨b5, 0, none⟩)), (62, .slice base vs.length cap), (63, .int .i64 (vs.length : Nat)), (64, .int .i64 (i.1 : Nat))])
          (fun i => [box b5 [.slice i.2.1 (G ++ encSteps ((vs.take i.1).map (·.1))).length i.2.2] 58, osl i.2.1 i.2.2 5 1 ((G ++ encSteps ((vs.take i.1).map (·.1))).map u8e), rsl base cap 8 (vs.map StepV.cells), rall (vs.map StepV.row)]) (0, b8, c8) (by simp) ?_
        rintro ⟨i, b9, c9⟩ hi ih3
        (try dsimp only at hi ih3 ⊢)
        refine auto ?_
        refine branch (fun h => ?_) (fun h => ?_)
        · have hi' : i < vs.length := by have := of_decide_eq_true h; omega
          obtain ⟨s, hs⟩ : ∃ s, vs[i]? = some s := ⟨vs[i], List.getElem?_eq_getElem hi'⟩
          have hs1 : (vs.map StepV.cells)[((i : Nat) : Int).toNat]? = some (StepV.cells s) := by simp [hs]
          have hsm := List.mem_of_getElem? hs
          have hss := encSteps_len (l := (vs.take i).map (·.1)) (fun x hx => by
            obtain ⟨y, hy, rfl⟩ := List.mem_map.1 hx
            exact (hfit y (List.mem_of_mem_take hy)).packet)
          have hll : (G ++ encSteps ((vs.take i).map (·.1))).length ≤ 900000000 := by simp at hss ⊢; omega
          refine auto ?_
          refine alloc fun b10 => ?_
          refine auto ?_
          refine cinto (Into.rallGet (l := vs.map StepV.row) (b := s.2.1) (c := s.2.2) (m := s.1.packet) (List.mem_map_of_mem (f := StepV.row) hsm) (by repeat (first | (with_reducible exact Sel.here) | (with_reducible apply Sel.there)))) ?_
          refine call (wstep_spec b5 _ (G ++ encSteps ((vs.take i).map (·.1))) b9 c9 s (hfit s hsm) hll) ?_
          rintro _ _ ⟨b11, c11, rfl⟩
          refine auto ?_
          have e1 : G ++ encSteps ((vs.take i).map (·.1)) ++ encStep s.1 = G ++ encSteps ((vs.take (i + 1)).map (·.1)) := by
            rw [List.append_assoc, encSteps, encSteps, List.take_add_one, hs, List.map_append, List.flatMap_append]; simp
          rw [e1]
          exact next (ih3 (i + 1, b11, c11) (by dsimp only; omega) (by dsimp only; omega))
        · have hi' : i = vs.length := by have := of_decide_eq_false h; omega
          subst hi'
          rw [List.take_length]
          refine auto ?_
          refine ret ?_
          exact ends ⟨b9, c9, rfl, rfl⟩
end Go.Proofs.YtjcbjclhagobiaaDoor
