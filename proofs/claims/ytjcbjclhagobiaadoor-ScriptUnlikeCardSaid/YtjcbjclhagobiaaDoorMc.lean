/- Plain law: of scripts that may be told the bytes are unlike, if they are. -/
import Derived.Test.YtjcbjclhagobiaaDoorCl
namespace Go.Proofs.YtjcbjclhagobiaaDoor
open Go Go.KL Go.KM

theorem encN_mod {x y : Nat} : ∀ {n : Nat}, encN x n = encN y n → x % 256 ^ n = y % 256 ^ n
  | 0, _ => by simp [Nat.mod_one]
  | n + 1, h => by
    rw [encN, encN] at h
    injection h with h1 h2
    have ih := encN_mod h2
    have e : (2 : Nat) ^ (8 * n) = 256 ^ n := by rw [Nat.pow_mul]
    rw [e] at h1
    rw [Nat.mod_pow_succ, Nat.mod_pow_succ, h1, ih]
theorem app_inj {α : Type} {a b r s : List α} (h : a ++ r = b ++ s) (hl : a.length = b.length) : a = b ∧ r = s := List.append_inj h hl
theorem encNums_inj : ∀ {p q r s : List Nat}, p.length = q.length → (∀ x ∈ p, x < 18446744073709551616) → (∀ x ∈ q, x < 18446744073709551616) → encNums p ++ r = encNums q ++ s → p = q ∧ r = s
  | [], [], _, _, _, _, _, h => ⟨rfl, h⟩
  | [], _ :: _, _, _, hl, _, _, _ => by simp at hl
  | _ :: _, [], _, _, hl, _, _, _ => by simp at hl
  | x :: p, y :: q, r, s, hl, hp, hq, h => by
    have h : encN x 8 ++ (encNums p ++ r) = encN y 8 ++ (encNums q ++ s) := by simpa [encNums] using h
    obtain ⟨h1, h2⟩ := app_inj h (by simp)
    have e := encN_mod h1
    have hx := hp x (by simp)
    have hy := hq y (by simp)
    have e8 : (256 : Nat) ^ 8 = 18446744073709551616 := by decide
    rw [e8, Nat.mod_eq_of_lt hx, Nat.mod_eq_of_lt hy] at e
    obtain ⟨e2, e3⟩ := encNums_inj (by simpa using hl) (fun z hz => hp z (by simp [hz])) (fun z hz => hq z (by simp [hz])) h2
    exact ⟨by rw [e, e2], e3⟩
theorem top_bytes {h g : Nat} (hh : h < 18446744073709551616) (hg : g < 18446744073709551616) : ∀ {j : Nat}, j ≤ 8 → (∀ i < j, byteW h i = byteW g i) → h / 2 ^ (64 - 8 * j) = g / 2 ^ (64 - 8 * j)
  | 0, _, _ => by
    have e : (2 : Nat) ^ (64 - 8 * 0) = 18446744073709551616 := by decide
    rw [e, Nat.div_eq_of_lt hh, Nat.div_eq_of_lt hg]
  | j + 1, hj, hb => by
    have ih := top_bytes hh hg (j := j) (by omega) (fun i hi => hb i (by omega))
    have h1 := hb j (by omega)
    unfold byteW at h1
    have e : 64 - 8 * (j + 1) = 56 - 8 * j := by omega
    have e2 : (2 : Nat) ^ (64 - 8 * j) = 2 ^ (56 - 8 * j) * 256 := by
      rw [show (256 : Nat) = 2 ^ 8 by decide, ← Nat.pow_add]; congr 1; omega
    rw [e]
    rw [e2, ← Nat.div_div_eq_div_mul, ← Nat.div_div_eq_div_mul] at ih
    generalize h / 2 ^ (56 - 8 * j) = a at *
    generalize g / 2 ^ (56 - 8 * j) = b at *
    omega
theorem topN_bytes {h g k : Nat} (hh : h < 18446744073709551616) (hg : g < 18446744073709551616) (hk : k ≤ 8) (hb : ∀ i < k, byteW h i = byteW g i) : topN (8 * k) h = topN (8 * k) g := by
  unfold topN; rw [top_bytes hh hg hk hb]
theorem bytesA_get {hi lo : Nat} {v6 : Bool} {i : Nat} (h : i < width v6 / 8) : (bytesA hi lo v6)[i]? = some (if i < 8 then byteW hi i else byteW lo (i - 8)) := by
  simp [bytesA, h]
/-- What fits has no part but those of its kind. -/
theorem fit_parts {s : StepM} (h : fitsB s = true) : belowB s.what 10 = true ∧ (s.hi = (bareV (s, none, 0)).1.hi ∧ s.lo = (bareV (s, none, 0)).1.lo ∧ s.v6 = (bareV (s, none, 0)).1.v6 ∧ s.pn = (bareV (s, none, 0)).1.pn) ∧ s.hop = (bareV (s, none, 0)).1.hop ∧ s.n = (bareV (s, none, 0)).1.n ∧ s.packet.length = (bareV (s, none, 0)).1.packet.length ∧ toldB s.hi s.lo s.v6 s.pn = true := by
  unfold fitsB at h
  simp only [Bool.and_eq_true, Bool.not_eq_true', unfitB, Bool.or_eq_false_iff, Bool.not_eq_false', decide_eq_true_eq, beq_iff_eq] at h
  obtain ⟨⟨⟨⟨⟨h1, h2, h3, h4, h5, _⟩, h6⟩, h7⟩, h8⟩, ⟨⟨_, _⟩, _⟩, h9⟩ := h
  exact ⟨h1, ⟨by omega, by omega, h4.symm, h5.symm⟩, h6.symm, h7.symm, by omega, h9⟩
theorem pfx_inj {s u : StepM} {r r' : List Nat} (hs : s.Fits) (hu : u.Fits) (ts : toldB s.hi s.lo s.v6 s.pn = true) (tu : toldB u.hi u.lo u.v6 u.pn = true) (h : s.pfx ++ r = u.pfx ++ r') : s.hi = u.hi ∧ s.lo = u.lo ∧ s.v6 = u.v6 ∧ s.pn = u.pn ∧ r = r' := by
  obtain ⟨_, hi1, lo1, pn1, _, _, _⟩ := hs
  obtain ⟨_, hi2, lo2, pn2, _, _, _⟩ := hu
  unfold StepM.pfx encPfx at h
  simp only [List.cons_append, List.nil_append, List.append_assoc, List.cons.injEq] at h
  obtain ⟨h1, h2, h3⟩ := h
  have hv : s.v6 = u.v6 := by
    cases hs6 : s.v6 <;> cases hu6 : u.v6 <;> simp [hs6, hu6] at h1 ⊢
  have hpn : s.pn = u.pn := by omega
  unfold toldB saneB at ts tu
  simp only [Bool.and_eq_true, decide_eq_true_eq] at ts tu
  obtain ⟨⟨_, s1, s2⟩, s3, s4⟩ := ts
  obtain ⟨⟨_, u1, u2⟩, u3, u4⟩ := tu
  rw [s1, s2, u1, u2, ← hv, ← hpn] at h3
  have hk : longN s.v6 s.pn.toNat ≤ width s.v6 / 8 := longN_le
  have hw : width s.v6 ≤ 128 := by cases s.v6 <;> decide
  obtain ⟨h4, h5⟩ := app_inj h3 (by simp [bytesA_len])
  rw [← hv, ← hpn] at u3 u4
  generalize longN s.v6 s.pn.toNat = k at *
  have hget : ∀ i < k, (if i < 8 then byteW s.hi i else byteW s.lo (i - 8)) = (if i < 8 then byteW u.hi i else byteW u.lo (i - 8)) := fun i hi => by
    have e := congrArg (·[i]?) h4
    simp only [List.getElem?_take, hi, if_true] at e
    rw [bytesA_get (by omega), bytesA_get (by omega)] at e
    exact Option.some.inj e
  refine ⟨?_, ?_, hv, hpn, h5⟩
  · rw [s3, u3]
    have e : min (k * 8) 64 = 8 * min k 8 := by omega
    rw [e]
    exact topN_bytes hi1 hi2 (by omega) (fun i hi => by
      have := hget i (by omega)
      rwa [if_pos (by omega), if_pos (by omega)] at this)
  · rw [s4, u4]
    have e : k * 8 - 64 = 8 * (k - 8) := by omega
    rw [e]
    exact topN_bytes lo1 lo2 (by omega) (fun i hi => by
      have := hget (i + 8) (by omega)
      rwa [if_neg (by omega), if_neg (by omega), Nat.add_sub_cancel] at this)
theorem len_nil' {α : Type} {l : List α} (h : l.length = ([] : List α).length) : l = [] := List.eq_nil_of_length_eq_zero h
theorem StepM.ext' {s u : StepM} (h1 : s.what = u.what) (h2 : s.hi = u.hi) (h3 : s.lo = u.lo) (h4 : s.v6 = u.v6) (h5 : s.pn = u.pn) (h6 : s.hop = u.hop) (h7 : s.n = u.n) (h8 : s.packet = u.packet) : s = u := by
  cases s; cases u; simp_all
theorem hop_inj {x y : Int} (hx : 0 ≤ x ∧ x ≤ 65535) (hy : 0 ≤ y ∧ y ≤ 65535) (h : encN x.toNat 2 = encN y.toNat 2) : x = y := by
  have e := encN_mod h
  have e8 : (256 : Nat) ^ 2 = 65536 := by decide
  rw [e8, Nat.mod_eq_of_lt (by omega), Nat.mod_eq_of_lt (by omega)] at e
  omega
theorem encStep_inj {s u : StepM} {r r' : List Nat} (hs : fitsB s = true) (hu : fitsB u = true) (os : s.Ok) (ou : u.Ok) (h : encStep s ++ r = encStep u ++ r') : s = u ∧ r = r' := by
  have fs := fitsB_fits hs os
  have fu := fitsB_fits hu ou
  obtain ⟨a1, ⟨a2, a3, a4, a5⟩, a6, a7, a8, ta⟩ := fit_parts hs
  obtain ⟨b1, ⟨b2, b3, b4, b5⟩, b6, b7, b8, tb⟩ := fit_parts hu
  have wa := fs.what
  have wb := fu.what
  unfold encStep at h
  simp only [List.cons_append, List.cons.injEq] at h
  obtain ⟨h1, h2⟩ := h
  have hw : s.what = u.what := by omega
  have hww : s.what = (u.what.toNat : Int) := by omega
  have huw : u.what = (u.what.toNat : Int) := by omega
  rw [h1] at h2
  have hlt : u.what.toNat < 10 := by omega
  generalize u.what.toNat = w at *
  unfold bareV at a2 a3 a4 a5 a6 a7 a8 b2 b3 b4 b5 b6 b7 b8
  simp only [hww] at a2 a3 a4 a5 a6 a7 a8
  simp only [huw] at b2 b3 b4 b5 b6 b7 b8
  obtain rfl | rfl | rfl | rfl | rfl | rfl | rfl | rfl | rfl | rfl : w = 0 ∨ w = 1 ∨ w = 2 ∨ w = 3 ∨ w = 4 ∨ w = 5 ∨ w = 6 ∨ w = 7 ∨ w = 8 ∨ w = 9 := by omega
  · simp at a2 a3 a4 a5 a6 a7 b2 b3 b4 b5 b6 b7
    simp only [encBody, List.cons_append, List.cons.injEq] at h2
    obtain ⟨h3, h4⟩ := app_inj h2.2 h2.1
    exact ⟨StepM.ext' hw (by omega) (by omega) (by rw [a4, b4]) (by omega) (by omega) (by omega) h3, h4⟩
  · simp at a6 a7 a8 b6 b7 b8
    simp only [encBody, List.append_assoc] at h2
    obtain ⟨e1, e2, e3, e4, e5⟩ := pfx_inj fs fu ta tb h2
    obtain ⟨e6, e7⟩ := app_inj e5 (by simp)
    exact ⟨StepM.ext' hw e1 e2 e3 e4 (hop_inj fs.hop fu.hop e6) (by omega) (by rw [a8, b8]), e7⟩
  · simp at a6 a7 a8 b6 b7 b8
    simp only [encBody] at h2
    obtain ⟨e1, e2, e3, e4, e5⟩ := pfx_inj fs fu ta tb h2
    exact ⟨StepM.ext' hw e1 e2 e3 e4 (by omega) (by omega) (by rw [a8, b8]), e5⟩
  · simp at a2 a3 a4 a5 a6 a7 a8 b2 b3 b4 b5 b6 b7 b8
    exact ⟨StepM.ext' hw (by omega) (by omega) (by rw [a4, b4]) (by omega) (by omega) (by omega) (by rw [a8, b8]), h2⟩
  · simp at a2 a3 a4 a5 a6 a7 a8 b2 b3 b4 b5 b6 b7 b8
    exact ⟨StepM.ext' hw (by omega) (by omega) (by rw [a4, b4]) (by omega) (by omega) (by omega) (by rw [a8, b8]), h2⟩
  · simp at a2 a3 a4 a5 a6 a8 b2 b3 b4 b5 b6 b8
    simp only [encBody, List.cons_append, List.nil_append, List.cons.injEq] at h2
    have ka := fs.n
    have kb := fu.n
    exact ⟨StepM.ext' hw (by omega) (by omega) (by rw [a4, b4]) (by omega) (by omega) (by omega) (by rw [a8, b8]), h2.2⟩
  · simp at a6 a7 a8 b6 b7 b8
    simp only [encBody] at h2
    obtain ⟨e1, e2, e3, e4, e5⟩ := pfx_inj fs fu ta tb h2
    exact ⟨StepM.ext' hw e1 e2 e3 e4 (by omega) (by omega) (by rw [a8, b8]), e5⟩
  · simp at a6 a8 b6 b8
    simp only [encBody, List.append_assoc] at h2
    obtain ⟨e1, e2, e3, e4, e5⟩ := pfx_inj fs fu ta tb h2
    simp only [List.cons_append, List.nil_append, List.cons.injEq] at e5
    have ka := fs.n
    have kb := fu.n
    exact ⟨StepM.ext' hw e1 e2 e3 e4 (by omega) (by omega) (by rw [a8, b8]), e5.2⟩
  · simp at a2 a3 a4 a5 a6 a7 a8 b2 b3 b4 b5 b6 b7 b8
    exact ⟨StepM.ext' hw (by omega) (by omega) (by rw [a4, b4]) (by omega) (by omega) (by omega) (by rw [a8, b8]), h2⟩
  · simp at a2 a3 a4 a5 a6 a7 a8 b2 b3 b4 b5 b6 b7 b8
    exact ⟨StepM.ext' hw (by omega) (by omega) (by rw [a4, b4]) (by omega) (by omega) (by omega) (by rw [a8, b8]), h2⟩
theorem encSteps_inj : ∀ {l m : List StepM}, (∀ s ∈ l, fitsB s = true ∧ s.Ok) → (∀ s ∈ m, fitsB s = true ∧ s.Ok) → encSteps l = encSteps m → l = m
  | [], [], _, _, _ => rfl
  | [], u :: m, _, _, h => by simp [encSteps, encStep] at h
  | s :: l, [], _, _, h => by simp [encSteps, encStep] at h
  | s :: l, u :: m, hl, hm, h => by
    have h : encStep s ++ encSteps l = encStep u ++ encSteps m := by simpa [encSteps] using h
    have k1 := hl s (by simp)
    have k2 := hm u (by simp)
    obtain ⟨e1, e2⟩ := encStep_inj k1.1 k2.1 k1.2 k2.2 h
    rw [e1, encSteps_inj (fun x hx => hl x (by simp [hx])) (fun x hx => hm x (by simp [hx])) e2]
theorem encScript_inj {c d : CfgM} {l m : List StepM} (hc : scriptB c l = true) (hd : scriptB d m = true) (ol : ∀ s ∈ l, s.Ok) (om : ∀ s ∈ m, s.Ok) (pc : ∀ x ∈ c.presets, x < 18446744073709551616) (pd : ∀ x ∈ d.presets, x < 18446744073709551616) (h : encScript c l = encScript d m) : c = d ∧ l = m := by
  simp only [scriptB, Bool.and_eq_true, List.all_eq_true, cfgB, decide_eq_true_eq] at hc hd
  obtain ⟨fl, ⟨⟨⟨⟨⟨⟨⟨a1, a2⟩, a3⟩, a4⟩, a5⟩, a6⟩, a7⟩, a8⟩⟩ := hc
  obtain ⟨fm, ⟨⟨⟨⟨⟨⟨⟨b1, b2⟩, b3⟩, b4⟩, b5⟩, b6⟩, b7⟩, b8⟩⟩ := hd
  have a1 := below_is a1
  have a2 := below_is a2
  have a3 := below_is a3
  have a4 := below_is a4
  have a5 := below_is a5
  have a6 := below_is a6
  have b1 := below_is b1
  have b2 := below_is b2
  have b3 := below_is b3
  have b4 := below_is b4
  have b5 := below_is b5
  have b6 := below_is b6
  unfold encScript at h
  rw [List.append_assoc, List.append_assoc] at h
  obtain ⟨h1, h2⟩ := app_inj h rfl
  simp only [cfgL, List.cons.injEq, and_true] at h1
  obtain ⟨e1, e2, e3, e4, e5, e6, e7⟩ := h1
  obtain ⟨e8, e9⟩ := encNums_inj e7 pc pd h2
  refine ⟨?_, encSteps_inj (fun s hs => ⟨fl s hs, ol s hs⟩) (fun s hs => ⟨fm s hs, om s hs⟩) e9⟩
  cases c; cases d
  simp only [CfgM.mk.injEq]
  simp only at e1 e2 e3 e4 e5 e6 e8 a1 a2 a3 a4 a5 a6 b1 b2 b3 b4 b5 b6
  exact ⟨by omega, by omega, by omega, by omega, by omega, by omega, e8⟩
theorem encStep_lt {s : StepM} (h : s.Fits) (hp : ∀ x ∈ s.packet, x < 256) : ∀ x ∈ encStep s, x < 256 := by
  have hpf : ∀ x ∈ s.pfx, x < 256 := by
    intro x hx
    unfold StepM.pfx encPfx at hx
    have := h.pn
    simp only [List.cons_append, List.nil_append, List.mem_cons] at hx
    rcases hx with rfl | rfl | hx
    · split <;> omega
    · omega
    · exact bytesA_lt x (List.mem_of_mem_take hx)
  have hw := h.what
  have hn := h.n
  have hl := h.packet
  intro x hx
  unfold encStep at hx
  rcases List.mem_cons.1 hx with rfl | hx
  · omega
  · unfold encBody at hx
    split at hx
    · rcases List.mem_cons.1 hx with rfl | hx
      · exact hl
      · exact hp x hx
    · rcases List.mem_append.1 hx with hx | hx
      · exact hpf x hx
      · exact encN_lt x hx
    · exact hpf x hx
    · simp at hx; omega
    · exact hpf x hx
    · rcases List.mem_append.1 hx with hx | hx
      · exact hpf x hx
      · simp at hx; omega
    · cases hx
theorem encOf_lt {c : CfgM} {l : List StepM} (ol : ∀ s ∈ l, s.Ok) (hp : ∀ s ∈ l, ∀ x ∈ s.packet, x < 256) : ∀ x ∈ encOf c l, x < 256 := by
  intro x hx
  unfold encOf at hx
  split at hx
  · rename_i hc
    simp only [scriptB, Bool.and_eq_true, List.all_eq_true, cfgB, decide_eq_true_eq] at hc
    obtain ⟨fl, ⟨⟨⟨⟨⟨⟨⟨a1, a2⟩, a3⟩, a4⟩, a5⟩, a6⟩, a7⟩, a8⟩⟩ := hc
    have a1 := below_is a1
    have a2 := below_is a2
    have a3 := below_is a3
    have a4 := below_is a4
    have a5 := below_is a5
    have a6 := below_is a6
    unfold encScript at hx
    rcases List.mem_append.1 hx with hx | hx
    · rcases List.mem_append.1 hx with hx | hx
      · simp [cfgL] at hx; omega
      · obtain ⟨y, _, hy⟩ := List.mem_flatMap.1 hx
        exact encN_lt x hy
    · obtain ⟨s, hs, hy⟩ := List.mem_flatMap.1 hx
      exact encStep_lt (fitsB_fits (fl s hs) (ol s hs)) (hp s hs) x hy
  · cases hx
end Go.Proofs.YtjcbjclhagobiaaDoor
