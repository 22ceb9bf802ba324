/- What the functions of package script that take a step's parts do. -/
import Derived.Test.YtjcbjclhagobiaaDoorCc
namespace Go.Proofs.YtjcbjclhagobiaaDoor
open Go Go.KL Go.KM
variable {E : Env} {X : Xs}

theorem place_spec (rb sb : Nat) (T T2 : TypeId) (l : List Nat) (hl : ∀ x ∈ l, x < 256) (base : Option Addr) (cap : Nat) (c0 c1 c2 c3 c4 c5 c6 c7 : Value) : Does PR E X 23 [.pointer (some ⟨rb, 0, none⟩), .pointer (some ⟨sb, 0, none⟩)] [box rb [.slice base l.length cap] T, rsl base cap 1 (l.map u8e), box sb [c0, c1, c2, c3, c4, c5, c6, c7] T2]
    (fun v t => ∃ base' cap', t = [box rb [.slice base' (rdPfx l).2.length cap'] T, rsl base' cap' 1 ((rdPfx l).2.map u8e), box sb (c0 :: (rdPfx l).1.cells ++ [c5, c6, c7]) T2]) := by
  refine Does.of 9 inferInstance rfl (by decide) rfl ?_
  refine auto ?_
  refine call (prefix_spec rb T l hl base cap) ?_
  rintro _ _ ⟨b3, c3', rfl, rfl⟩
  refine auto ?_
  refine fall ?_
  exact ends ⟨b3, c3', rfl⟩
theorem byte_lt {q c r : Nat} (h : c < 256) (g : q < r) : q * 256 + c < r * 256 := by omega
theorem numN_add {l : List Nat} (hl : ∀ x ∈ l, x < 256) : ∀ {k : Nat}, k < 8 → numN l (k + 1) = numN l k * 256 + (l.drop k).headD 0 ∧ numN l (k + 1) < 256 ^ (k + 1)
  | 0, _ => by
    have hb := headD_lt hl 0
    simp [numN] at hb ⊢
    exact hb
  | k + 1, h => by
    obtain ⟨_, h2⟩ := numN_add hl (k := k) (by omega)
    have hb := headD_lt hl (k + 1)
    have h3 : numN l (k + 1) * 256 < 18446744073709551616 := by
      have : 256 ^ (k + 1) ≤ 256 ^ 7 := Nat.pow_le_pow_right (by omega) (by omega)
      have e : (256 : Nat) ^ 7 = 72057594037927936 := by decide
      omega
    have e1 : numN l (k + 1 + 1) = numN l (k + 1) * 256 + (l.drop (k + 1)).headD 0 := by
      rw [numN, Nat.mod_eq_of_lt h3]
      have := (Nat.shiftLeft_add_eq_or_of_lt (i := 8) hb (numN l (k + 1))).symm
      rw [Nat.shiftLeft_eq] at this
      exact this
    refine ⟨e1, ?_⟩
    rw [e1]
    exact byte_lt hb h2
theorem update_spec (rb sb : Nat) (T T2 : TypeId) (l : List Nat) (hl : ∀ x ∈ l, x < 256) (base : Option Addr) (cap : Nat) (c0 c1 c2 c3 c4 c5 c6 c7 : Value) : Does PR E X 22 [.pointer (some ⟨rb, 0, none⟩), .pointer (some ⟨sb, 0, none⟩)] [box rb [.slice base l.length cap] T, rsl base cap 1 (l.map u8e), box sb [c0, c1, c2, c3, c4, c5, c6, c7] T2]
    (fun v t => ∃ base' cap', t = [box rb [.slice base' ((rdPfx l).2.drop 2).length cap'] T, rsl base' cap' 1 (((rdPfx l).2.drop 2).map u8e), box sb (c0 :: (rdPfx l).1.cells ++ [.int .i64 (numN (rdPfx l).2 2 : Nat), c6, c7]) T2]) := by
  refine Does.of 13 inferInstance rfl (by decide) rfl ?_
  have hl2 : ∀ x ∈ (rdPfx l).2, x < 256 := fun x hx => hl x (List.mem_of_mem_drop (List.mem_of_mem_drop hx))
  have hN : numN (rdPfx l).2 2 < 65536 := (numN_add hl2 (k := 1) (by omega)).2
  refine auto ?_
  refine call (place_spec rb sb T T2 l hl base cap c0 c1 c2 c3 c4 c5 c6 c7) ?_
  rintro _ _ ⟨b3, c3', rfl⟩
  refine auto ?_
  refine call (number_spec rb T (rdPfx l).2 hl2 b3 c3' 2 (by omega)) ?_
  rintro _ _ ⟨b4, c4', rfl, rfl⟩
  refine auto ?_
  refine fall ?_
  exact ends ⟨b4, c4', rfl⟩
theorem pick_spec (rb sb : Nat) (T T2 : TypeId) (l : List Nat) (hl : ∀ x ∈ l, x < 256) (base : Option Addr) (cap : Nat) (c0 c1 c2 c3 c4 c5 c6 c7 : Value) : Does PR E X 24 [.pointer (some ⟨rb, 0, none⟩), .pointer (some ⟨sb, 0, none⟩)] [box rb [.slice base l.length cap] T, rsl base cap 1 (l.map u8e), box sb [c0, c1, c2, c3, c4, c5, c6, c7] T2]
    (fun v t => ∃ base' cap', t = [box rb [.slice base' l.tail.length cap'] T, rsl base' cap' 1 (l.tail.map u8e), box sb [c0, c1, c2, c3, c4, c5, .int .i64 (l.headD 0 : Nat), c7] T2]) := by
  refine Does.of 9 inferInstance rfl (by decide) rfl ?_
  refine auto ?_
  refine call (one_spec rb T l hl base cap) ?_
  rintro _ _ ⟨b3, c3', rfl, rfl⟩
  refine auto ?_
  refine fall ?_
  exact ends ⟨b3, c3', rfl⟩
theorem fetch_spec (rb sb : Nat) (T T2 : TypeId) (l : List Nat) (hl : ∀ x ∈ l, x < 256) (base : Option Addr) (cap : Nat) (c0 c1 c2 c3 c4 c5 c6 c7 : Value) : Does PR E X 25 [.pointer (some ⟨rb, 0, none⟩), .pointer (some ⟨sb, 0, none⟩)] [box rb [.slice base l.length cap] T, rsl base cap 1 (l.map u8e), box sb [c0, c1, c2, c3, c4, c5, c6, c7] T2]
    (fun v t => ∃ base' cap', t = [box rb [.slice base' (rdPfx l).2.tail.length cap'] T, rsl base' cap' 1 ((rdPfx l).2.tail.map u8e), box sb (c0 :: (rdPfx l).1.cells ++ [c5, .int .i64 ((rdPfx l).2.headD 0 : Nat), c7]) T2]) := by
  refine Does.of 10 inferInstance rfl (by decide) rfl ?_
  have hl2 : ∀ x ∈ (rdPfx l).2, x < 256 := fun x hx => hl x (List.mem_of_mem_drop (List.mem_of_mem_drop hx))
  refine auto ?_
  refine call (place_spec rb sb T T2 l hl base cap c0 c1 c2 c3 c4 c5 c6 c7) ?_
  rintro _ _ ⟨b3, c3', rfl⟩
  refine auto ?_
  refine call (pick_spec rb sb T T2 (rdPfx l).2 hl2 b3 c3' _ _ _ _ _ _ _ _) ?_
  rintro _ _ ⟨b4, c4', rfl⟩
  refine auto ?_
  refine fall ?_
  exact ends ⟨b4, c4', rfl⟩
theorem nothing_spec (v1 v2 : Value) : Does PR E X 20 [v1, v2] [] (fun v t => t = []) := by
  refine Does.of 4 inferInstance rfl (by decide) rfl ?_
  refine auto ?_
  refine fall ?_
  exact ends rfl
theorem packet_spec (rb sb : Nat) (T T2 : TypeId) (l : List Nat) (hl : ∀ x ∈ l, x < 256) (base : Option Addr) (cap : Nat) (c0 c1 c2 c3 c4 c5 c6 c7 : Value) : Does PR E X 21 [.pointer (some ⟨rb, 0, none⟩), .pointer (some ⟨sb, 0, none⟩)] [box rb [.slice base l.length cap] T, rsl base cap 1 (l.map u8e), box sb [c0, c1, c2, c3, c4, c5, c6, c7] T2]
    (fun v t => ∃ base' cap' pb pc, t = [box rb [.slice base' (l.tail.drop (l.headD 0)).length cap'] T, rsl base' cap' 1 ((l.tail.drop (l.headD 0)).map u8e), box sb [c0, c1, c2, c3, c4, c5, c6, .slice pb (l.tail.take (l.headD 0)).length pc] T2, rsl pb pc 1 ((l.tail.take (l.headD 0)).map u8e)]) := by
  refine Does.of 34 inferInstance rfl (by decide) rfl ?_
  have hb : l.headD 0 < 256 := by simpa using headD_lt hl 0
  refine auto ?_
  refine call (one_spec rb T l hl base cap) ?_
  rintro _ _ ⟨b3, c3', rfl, rfl⟩
  have hl1 : ∀ x ∈ l.tail, x < 256 := fun x hx => hl x (List.mem_of_mem_tail hx)
  generalize l.tail = l1 at hl1
  generalize l.headD 0 = m at hb
  refine auto ?_
  refine capRL b3 fun hcap => ?_
  simp only [List.length_map] at hcap
  have hm : min (m : Int) (l1.length : Int) = ((min m l1.length : Nat) : Int) := by omega
  simp only [hm]
  refine auto ?_
  simp only [Int.toNat_natCast, Nat.sub_zero, slB0]
  have htk : ((l1.map u8e).drop 0).take m = (l1.take m).map u8e := by simp
  refine cinto (rslE b3 0 m (es' := (l1.take m).map u8e) (by omega) htk) ?_
  simp only [Nat.sub_zero, slB0]
  refine call (clone_spec (l1.take m) b3 c3' (min m l1.length) (by simp) (by simp; omega)) ?_
  rintro _ _ ⟨pb, pc, rfl, rfl⟩
  refine auto ?_
  have hlo : ((l1.map u8e).drop (min m l1.length)).take (l1.length - min m l1.length) = (l1.drop m).map u8e := by
    rw [← List.map_drop, ← List.map_take]
    congr 1
    rcases Nat.le_total m l1.length with h | h
    · rw [Nat.min_eq_left h]; exact List.take_of_length_le (by simp)
    · rw [Nat.min_eq_right h]; simp [List.drop_eq_nil_of_le h]
  refine into (rslE b3 (cap := c3') (sz := 1) (es := l1.map u8e) (min m l1.length) (l1.length - min m l1.length) (by omega) hlo) ?_
  refine ghostO pb ?_
  refine fall ?_
  have e1 : l1.length - min m l1.length = (l1.drop m).length := by simp; omega
  rw [Int.toNat_natCast, e1]
  exact ends ⟨_, _, pb, pc, rfl⟩
end Go.Proofs.YtjcbjclhagobiaaDoor
