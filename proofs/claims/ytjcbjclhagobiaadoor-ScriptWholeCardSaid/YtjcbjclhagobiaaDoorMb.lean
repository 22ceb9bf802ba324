/- Plain law: what bytes say as a script: bounds; bytes behind change no step that was whole. -/
import Derived.Test.YtjcbjclhagobiaaDoorCe
namespace Go.Proofs.YtjcbjclhagobiaaDoor
open Go Go.KL Go.KM

theorem rdSteps_len : ∀ (k : Nat) (l : List Nat), (rdSteps k l).length ≤ l.length
  | 0, l => by simp [rdSteps]
  | k + 1, [] => by simp [rdSteps]
  | k + 1, a :: l => by
    have h1 := rdSteps_len k (rdPart (a % 10) l).2
    have h2 := rdPart_len (a % 10) l
    simp only [rdSteps, List.length_cons]; omega
theorem rdScript_len (l : List Nat) : (rdScript l).length ≤ l.length - 7 := by
  have := rdSteps_len 4096 (l.drop (7 + 8 * (byteAt l 6 % 18)))
  unfold rdScript
  rw [List.length_drop] at this; omega
def StepM.fine (s : StepM) : Prop := 0 ≤ s.what ∧ s.what < 10 ∧ s.packet.length ≤ 255 ∧ 0 ≤ s.hop ∧ s.hop ≤ 65535
theorem rdPart_fine {w : Nat} (hw : w < 10) {l : List Nat} (hl : ∀ x ∈ l, x < 256) : (rdPart w l).1.fine := by
  have hp : ∀ x ∈ (rdPfx l).2, x < 256 := fun x hx => hl x (List.mem_of_mem_drop (List.mem_of_mem_drop hx))
  have hb : l.headD 0 < 256 := by simpa using headD_lt hl 0
  have hN : numN (rdPfx l).2 2 < 65536 := (numN_add hp (k := 1) (by omega)).2
  unfold rdPart StepM.fine
  split <;> simp only [List.length_take, List.length_nil] <;> omega
theorem rdSteps_fine : ∀ (k : Nat) (l : List Nat), (∀ x ∈ l, x < 256) → ∀ s ∈ rdSteps k l, s.fine
  | 0, l, _, s, h => by simp [rdSteps] at h
  | k + 1, [], _, s, h => by simp [rdSteps] at h
  | k + 1, a :: l, hl, s, h => by
    simp only [rdSteps, List.mem_cons] at h
    have hl' : ∀ x ∈ l, x < 256 := fun x hx => hl x (by simp [hx])
    rcases h with rfl | h
    · exact rdPart_fine (Nat.mod_lt _ (by decide)) hl'
    · exact rdSteps_fine k _ (rdPart_lt hl' _) s h
theorem headD_app {l m : List Nat} (h : l ≠ []) : (l ++ m).headD 0 = l.headD 0 := by
  cases l with
  | nil => exact absurd rfl h
  | cons => rfl
theorem tail_app {l m : List Nat} (h : l ≠ []) : (l ++ m).tail = l.tail ++ m := by
  cases l with
  | nil => exact absurd rfl h
  | cons => rfl
theorem drop_app {l m : List Nat} {k : Nat} (h : k ≤ l.length) : (l ++ m).drop k = l.drop k ++ m := List.drop_append_of_le_length h
theorem drop_ne {l : List Nat} {k : Nat} (h : l.drop k ≠ []) : k < l.length := by
  rcases Nat.lt_or_ge k l.length with g | g
  · exact g
  · exact absurd (List.drop_eq_nil_of_le g) h
theorem ne_of_len {l : List Nat} (h : 0 < l.length) : l ≠ [] := by intro e; subst e; simp at h
theorem byteAt_app {l m : List Nat} {i : Nat} (h : i < l.length) : ((l ++ m).drop i).headD 0 = (l.drop i).headD 0 := by
  rw [drop_app (by omega), headD_app (ne_of_len (by rw [List.length_drop]; omega))]
theorem takeZ_app {l m : List Nat} : ∀ {k : Nat}, k ≤ l.length → takeZ (l ++ m) k = takeZ l k
  | 0, _ => rfl
  | k + 1, h => by rw [takeZ, takeZ, takeZ_app (by omega), byteAt_app (by omega)]
theorem numN_app {l m : List Nat} : ∀ {k : Nat}, k ≤ l.length → numN (l ++ m) k = numN l k
  | 0, _ => rfl
  | k + 1, h => by rw [numN, numN, numN_app (by omega), byteAt_app (by omega)]
theorem rdPfx_snd (l : List Nat) : (rdPfx l).2 = (l.drop 2).drop (longN (isV6 (l.headD 0)) (l.tail.headD 0)) := rfl
theorem rdPfx_app {l m : List Nat} (h : (rdPfx l).2 ≠ []) : rdPfx (l ++ m) = ((rdPfx l).1, (rdPfx l).2 ++ m) := by
  rw [rdPfx_snd] at h
  have h1 := drop_ne h
  rw [List.length_drop] at h1
  have e1 : (l ++ m).headD 0 = l.headD 0 := headD_app (ne_of_len (by omega))
  have e2 : (l ++ m).tail.headD 0 = l.tail.headD 0 := by
    rw [tail_app (ne_of_len (by omega)), headD_app (ne_of_len (by rw [List.length_tail]; omega))]
  have e3 : (l ++ m).drop 2 = l.drop 2 ++ m := drop_app (by omega)
  unfold rdPfx
  simp only [e1, e2, e3, wholeOf, takeZ_app (l := l.drop 2) (m := m) (k := longN (isV6 (l.headD 0)) (l.tail.headD 0)) (by rw [List.length_drop]; omega),
    drop_app (l := l.drop 2) (m := m) (k := longN (isV6 (l.headD 0)) (l.tail.headD 0)) (by rw [List.length_drop]; omega)]
theorem rdPart_app {w : Nat} {l m : List Nat} (h : (rdPart w l).2 ≠ []) : rdPart w (l ++ m) = ((rdPart w l).1, (rdPart w l).2 ++ m) := by
  unfold rdPart at h ⊢
  split at h
  · have h1 := drop_ne h
    rw [List.length_tail] at h1
    have hn : l ≠ [] := ne_of_len (by omega)
    simp only [headD_app hn, tail_app hn, drop_app (l := l.tail) (m := m) (k := l.headD 0) (by rw [List.length_tail]; omega), List.take_append_of_le_length (l₁ := l.tail) (l₂ := m) (i := l.headD 0) (by rw [List.length_tail]; omega)]
  · have h1 := drop_ne h
    have hn : (rdPfx l).2 ≠ [] := ne_of_len (by omega)
    simp only [rdPfx_app hn, numN_app (l := (rdPfx l).2) (m := m) (k := 2) (by omega), drop_app (l := (rdPfx l).2) (m := m) (k := 2) (by omega)]
  · simp only [rdPfx_app h]
  · have hn : l ≠ [] := by intro e; subst e; exact h rfl
    simp only [headD_app hn, tail_app hn]
  · simp only [rdPfx_app h]
  · have hn : (rdPfx l).2 ≠ [] := by intro e; rw [e] at h; exact h rfl
    simp only [rdPfx_app hn, headD_app hn, tail_app hn]
  · simp
theorem rdSteps_app {m : List Nat} : ∀ (k : Nat) (l : List Nat) (i : Nat), i + 1 < (rdSteps k l).length → (rdSteps k (l ++ m))[i]? = (rdSteps k l)[i]?
  | 0, l, i, h => by simp [rdSteps] at h
  | k + 1, [], i, h => by simp [rdSteps] at h
  | k + 1, a :: l, i, h => by
    simp only [rdSteps, List.length_cons] at h
    have hne : (rdPart (a % 10) l).2 ≠ [] := by
      intro e; rw [e] at h
      cases k <;> simp [rdSteps] at h
    have he := rdPart_app (m := m) hne
    show (rdSteps (k + 1) (a :: (l ++ m)))[i]? = _
    simp only [rdSteps, he]
    cases i with
    | zero => rfl
    | succ i =>
      simp only [List.getElem?_cons_succ]
      exact rdSteps_app k _ i (by omega)
theorem rdScript_app {l m : List Nat} {i : Nat} (h : i + 1 < (rdScript l).length) : (rdScript (l ++ m))[i]? = (rdScript l)[i]? := by
  have h1 := rdSteps_len 4096 (l.drop (7 + 8 * (byteAt l 6 % 18)))
  have h2 : (rdScript l).length = (rdSteps 4096 (l.drop (7 + 8 * (byteAt l 6 % 18)))).length := rfl
  rw [List.length_drop] at h1
  have hb : byteAt (l ++ m) 6 = byteAt l 6 := byteAt_app (by omega)
  unfold rdScript at h ⊢
  rw [hb, drop_app (by omega)]
  exact rdSteps_app 4096 _ i h
end Go.Proofs.YtjcbjclhagobiaaDoor
