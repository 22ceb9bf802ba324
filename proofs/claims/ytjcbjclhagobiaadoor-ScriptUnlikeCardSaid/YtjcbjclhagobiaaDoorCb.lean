/- What the functions of package script that take bytes do. -/
import Derived.Test.YtjcbjclhagobiaaDoorCa
namespace Go.Proofs.YtjcbjclhagobiaaDoor
open Go Go.KL Go.KM
variable {E : Env} {X : Xs}

/-- A reader's one byte. -/
theorem one_spec (rb : Nat) (T : TypeId) (l : List Nat) (hl : ∀ x ∈ l, x < 256) (base : Option Addr) (cap : Nat) : Does PR E X 12 [.pointer (some ⟨rb, 0, none⟩)] [box rb [.slice base l.length cap] T, rsl base cap 1 (l.map u8e)]
    (fun v t => ∃ base' cap', v = .int .i64 (l.headD 0 : Int) ∧ t = [box rb [.slice base' l.tail.length cap'] T, rsl base' cap' 1 (l.tail.map u8e)]) := by
  refine Does.of 26 inferInstance rfl (by decide) rfl ?_
  refine capR base fun hcap => ?_
  simp only [List.length_map] at hcap
  refine auto ?_
  refine branch (fun h => ?_) (fun h => ?_)
  · refine auto ?_
    refine ret ?_
    have : l = [] := by simpa using h
    subst this
    exact ends ⟨base, cap, rfl, rfl⟩
  · obtain ⟨a, m, rfl⟩ : ∃ a m, l = a :: m := by
      cases l with
      | nil => simp at h
      | cons a m => exact ⟨a, m, rfl⟩
    have ha := hl a (by simp)
    refine auto ?_
    simp only [List.length_cons] at hcap
    refine into (rslE base (cap := cap) (sz := 1) (es := (a :: m).map u8e) 1 m.length (es' := m.map u8e) (by omega) (by simp [List.take_of_length_le])) ?_
    refine ret ?_
    exact ends ⟨slB base cap 1 1, cap - 1, rfl, rfl⟩
/-- A reader's number. -/
def numN (l : List Nat) : Nat → Nat
  | 0 => 0
  | i + 1 => numN l i * 256 % 18446744073709551616 ||| (l.drop i).headD 0
theorem number_spec (rb : Nat) (T : TypeId) (l : List Nat) (hl : ∀ x ∈ l, x < 256) (base : Option Addr) (cap : Nat) (k : Nat) (hk : k ≤ 8) : Does PR E X 13 [.pointer (some ⟨rb, 0, none⟩), .int .i64 (k : Int)] [box rb [.slice base l.length cap] T, rsl base cap 1 (l.map u8e)]
    (fun v t => ∃ base' cap', v = .int .u64 (numN l k : Int) ∧ t = [box rb [.slice base' (l.drop k).length cap'] T, rsl base' cap' 1 ((l.drop k).map u8e)]) := by
  refine Does.of 17 inferInstance rfl (by decide) rfl ?_
  refine auto ?_
  refine loop (ι := Nat × Option Addr × Nat) (fun i => k - i.1) (fun i => i.1 ≤ k) (fun i => [(0, .pointer (some ⟨rb, 0, none⟩)), (6, .int .i64 (k : Int)), (7, .int .i64 (i.1 : Int)), (5, .int .u64 (numN l i.1 : Int))]) (fun i => [box rb [.slice i.2.1 (l.drop i.1).length i.2.2] T, rsl i.2.1 i.2.2 1 ((l.drop i.1).map u8e)]) (0, base, cap) (by simp) ?_
  rintro ⟨i, ba, ca⟩ hi ih
  (try dsimp only at hi ih ⊢)
  refine auto ?_
  refine branch (fun h => ?_) (fun h => ?_)
  · refine auto ?_
    refine call (one_spec rb T (l.drop i) (fun x hx => hl x (List.mem_of_mem_drop hx)) ba ca) ?_
    rintro _ _ ⟨b2, c2, rfl, rfl⟩
    have hb : (l.drop i).headD 0 < 256 := by
      cases h' : l.drop i with
      | nil => simp
      | cons a m => exact hl a (List.mem_of_mem_drop (i := i) (by rw [h']; simp))
    refine auto ?_
    have e1 : shlI .u64 (numN l i : Int) 8 = ((numN l i * 256 % 18446744073709551616 : Nat) : Int) := by
      unfold shlI
      show ((numN l i : Int) * 256) % 18446744073709551616 = _
      omega
    rw [e1, orI64 (Nat.mod_lt _ (by decide)) (by omega)]
    rw [show (l.drop i).tail = l.drop (i + 1) by simp [List.tail_drop]]
    exact next (ih (i + 1, b2, c2) (by simp at h; omega) (by simp at h; dsimp only; omega))
  · refine auto ?_
    refine ret ?_
    have : i = k := by simp at h; omega
    subst this
    exact ends ⟨ba, ca, rfl, rfl⟩
theorem clone_spec (l : List Nat) (base : Option Addr) (cap n : Nat) (hnl : l.length = n) (hl : l.length ≤ 1000000000) : Does PR E X 31 [.slice base n cap] [rsl base cap 1 (l.map u8e)]
    (fun v t => ∃ base' cap', v = .slice base' l.length cap' ∧ t = [osl base' cap' 5 1 (l.map u8e)]) := by
  subst hnl
  refine Does.of 8 inferInstance rfl (by decide) rfl ?_
  refine capR base fun hcap => ?_
  simp only [List.length_map] at hcap
  refine auto ?_
  refine branch (fun h => ?_) (fun h => ?_)
  · refine W.pure (p := l = []) (fun r f hp => ?_) fun hn => ?_
    · obtain ⟨_, _, _, _, _, ⟨_, h2, h3, _⟩, _⟩ := hp
      have hc := h3 (by simpa using h)
      simp at h2
      exact List.eq_nil_of_length_eq_zero (by omega)
    · subst hn
      refine auto ?_
      refine into (Into.nilO (T := 5) (sz := 1)) ?_
      refine ret ?_
      exact ends ⟨none, 0, rfl, rfl⟩
  · refine auto ?_
    refine buildSlice fun b5 => ?_
    refine auto ?_
    refine appendR fun b6 c6 => ?_
    refine auto ?_
    refine ret ?_
    refine ends ⟨b6, c6, by simp, rfl⟩
theorem from_spec (l : List Nat) (hl : ∀ x ∈ l, x < 256) (v6 : Bool) (hlen : l.length = width v6 / 8) (base : Option Addr) (cap : Nat) (T : TypeId) : Does PR E X 39 [.slice base (width v6 / 8) cap] [osl base cap T 1 (l.map u8e)]
    (fun v t => v = .tuple #[.agg #[u64 (wrd l (min (width v6 / 8) 8)), u64 (wrd (l.drop 8) (width v6 / 8 - 8)), .bool v6], .int .i64 0] ∧ t = [osl base cap T 1 (l.map u8e)]) := by
  refine Does.of 46 inferInstance rfl (by decide) rfl ?_
  refine auto ?_
  refine alloc fun b2 => ?_
  refine auto ?_
  have hw : width v6 = 128 ∨ width v6 = 32 := by cases v6 <;> simp [width]
  have hv6 : decide (((width v6 / 8 : Nat) : Int) = 16) = v6 := by cases v6 <;> rfl
  refine no ?_ rfl (by cases v6 <;> rfl)
  refine auto ?_
  refine alloc fun b5 => ?_
  refine auto ?_
  refine loop (ι := Nat) (fun i => width v6 / 8 - i) (fun i => i ≤ width v6 / 8) (fun i => [(2, .pointer (some ⟨b2, 0, none⟩)), (4, .bool (decide (((width v6 / 8 : Nat) : Int) = 16))), (5, .pointer (some ⟨b5, 0, none⟩)), (20, .slice base (width v6 / 8) cap), (21, .int .i64 ((width v6 / 8 : Nat) : Int)), (22, .int .i64 (i : Int))]) (fun i => [box b5 [u64 (wrd l (min i 8)), u64 (wrd (l.drop 8) (i - 8))] 90, osl base cap T 1 (l.map u8e), box b2 [u64 0, u64 0, .bool false] 32]) 0 (by simp) ?_
  intro i hi ih
  (try dsimp only at hi ih ⊢)
  refine auto ?_
  refine branch (fun h => ?_) (fun h => ?_)
  · have hi' : i < width v6 / 8 := by have := of_decide_eq_true h; omega
    have hx := headD_get (l := l) (i := i) (by omega)
    have hb := headD_lt hl i
    refine auto ?_
    rcases Nat.lt_or_ge i 8 with h8 | h8
    · have hd : ((i : Int) * 8 / 64) = 0 := by omega
      simp only [hd]
      refine auto ?_
      have e1 : shlI .u64 (((l.drop i).headD 0 : Nat) : Int) (56 - (i : Int) * 8 % 64) = (((l.drop i).headD 0 * 2 ^ (56 - 8 * i) : Nat) : Int) := shl_byte hb (by omega) (by omega)
      have e2 : min i 8 = i := by omega
      have e3 : i - 8 = (i + 1) - 8 := by omega
      have e4 : min (i + 1) 8 = i + 1 := by omega
      have h1 : (l.drop i).headD 0 * 2 ^ (56 - 8 * i) < 18446744073709551616 := by
        have := wrd_lt64 hl (n := i + 1) (by omega)
        rw [wrd] at this; omega
      have e5 : orI .u64 ((wrd l (min i 8) : Nat) : Int) (((l.drop i).headD 0 * 2 ^ (56 - 8 * i) : Nat) : Int) = (wrd l (min (i + 1) 8) : Nat) := by
        rw [e2, orI64 (wrd_lt64 hl (by omega)) h1, wrd_or hl h8, e4]
      simp only [e1, e5, e3]
      exact next (ih (i + 1) (by omega) (by omega))
    · have hd : ((i : Int) * 8 / 64) = 1 := by omega
      simp only [hd]
      refine auto ?_
      have hl2 : ∀ x ∈ l.drop 8, x < 256 := fun x hx => hl x (List.mem_of_mem_drop hx)
      have e1 : shlI .u64 (((l.drop i).headD 0 : Nat) : Int) (56 - (i : Int) * 8 % 64) = (((l.drop i).headD 0 * 2 ^ (56 - 8 * (i - 8)) : Nat) : Int) := shl_byte hb (by omega) (by omega)
      have e2 : min i 8 = min (i + 1) 8 := by omega
      have e4 : i + 1 - 8 = (i - 8) + 1 := by omega
      have e6 : (l.drop i) = (l.drop 8).drop (i - 8) := by rw [List.drop_drop]; congr 1; omega
      have h1 : (l.drop i).headD 0 * 2 ^ (56 - 8 * (i - 8)) < 18446744073709551616 := by
        have := wrd_lt64 hl2 (n := (i - 8) + 1) (by omega)
        rw [wrd, ← e6] at this; omega
      have e5 : orI .u64 ((wrd (l.drop 8) (i - 8) : Nat) : Int) (((l.drop i).headD 0 * 2 ^ (56 - 8 * (i - 8)) : Nat) : Int) = (wrd (l.drop 8) (i + 1 - 8) : Nat) := by
        rw [orI64 (wrd_lt64 hl2 (by omega)) h1, e4, ← wrd_or hl2 (by omega), ← e6]
      simp only [e1, e5, e2]
      exact next (ih (i + 1) (by omega) (by omega))
  · have hi' : i = width v6 / 8 := by have := of_decide_eq_false h; omega
    subst hi'
    refine auto ?_
    refine call (of_spec _ _ _) ?_
    rintro _ _ ⟨rfl, rfl⟩
    refine auto ?_
    refine ret ?_
    exact ends ⟨by simp only [pack_two, hv6], rfl⟩
end Go.Proofs.YtjcbjclhagobiaaDoor
