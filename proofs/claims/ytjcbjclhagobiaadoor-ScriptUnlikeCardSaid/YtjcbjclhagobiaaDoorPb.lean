/- What scripts of the document's form read as, in the words of the program logic. -/
import Derived.Test.YtjcbjclhagobiaaDoorPa
import Derived.Test.YtjcbjclhagobiaaDoorCl
namespace Go.KL
open Go Go.ChangeShapes Go.RowKit Go.Deep
section
variable {H : Type} {enc : TypeId × Value → H} {P : Program} {w : World} {base : Nat} {spare : Nat → Bool} {held : Bool}
theorem cellsOf_of {t : TypeId} {agg : Bool} {sz : Nat} {z : List Value} (h : TyN P t agg sz z) : P.cellsOf t = sz := by
  obtain ⟨i, v, d, h1, h2, _⟩ := h.h
  simp [Program.cellsOf, h1, h2]
theorem read_field {t : TypeId} (i : Nat) {off : Nat} {ft : TypeId} {agg agg2 : Bool} {sz sz2 : Nat} {z z2 : List Value} {fuel : Nat} {cs : List Value} {x : DataW H × List MemPlace} [hf : TyF P t i off ft] [hn : TyN P ft agg sz z] [hn2 : TyN P t agg2 sz2 z2]
    (h : DataW.trod enc P w base spare held fuel t cs = some x) : cs.length = sz2 ∧ ∃ n y, DataW.trod enc P w base spare held n ft ((cs.drop off).take sz) = some y := by
  obtain ⟨fs, f, j, h1, h2, h3, h4, _, _⟩ := hf.h
  obtain ⟨xs, n, _, _, h5, h6, h7⟩ := DataW.trod_struct h1 h
  have h8 := h7 i f h2
  rw [h3, h4, cellsOf_of hn] at h8
  have hi : i < xs.length := by
    rw [h6]
    cases hh : fs[i]? with
    | none => rw [hh] at h2; cases h2
    | some _ => exact (Array.getElem?_eq_some_iff.1 hh).1
  exact ⟨by rw [h5, cellsOf_of hn2], n, xs[i], by rw [h8, List.getElem?_eq_getElem hi]⟩
theorem read_int {t : TypeId} {k : IntKind} {fuel : Nat} {cs : List Value} {x : DataW H × List MemPlace} [ht : TyU P t (.int k)] (h : DataW.trod enc P w base spare held fuel t cs = some x) : ∃ n : Int, cs = [.int k n] ∧ (Lit.int k n).wf = true := by
  obtain ⟨n, h1, _, h2⟩ := DataW.trod_int ht.h h
  exact ⟨n, h1, h2⟩
theorem wf_u64 {n : Int} (h : (Lit.int .u64 n).wf = true) : ∃ m : Nat, n = (m : Int) ∧ m < 18446744073709551616 := by
  simp only [Lit.wf, IntKind.min, IntKind.max, IntKind.signed, IntKind.bits] at h
  simp at h
  exact ⟨n.toNat, by omega, by omega⟩
theorem read_bool {t : TypeId} {fuel : Nat} {cs : List Value} {x : DataW H × List MemPlace} [ht : TyU P t .bool] (h : DataW.trod enc P w base spare held fuel t cs = some x) : ∃ q, cs = [.bool q] := by
  obtain ⟨n, h1, _⟩ := DataW.trod_bool ht.h h
  exact ⟨n, h1⟩
/-- A slice whose elements read. -/
theorem read_slice {α : Type} (f : α → List Value) {t e : TypeId} {agg : Bool} {sz : Nat} {z : List Value} (R : α → Prop) [ht : TyU P t (.slice e)] [he : TyN P e agg sz z]
    (hone : ∀ a, R a → (f a).length = sz ∧ ∀ v ∈ f a, oneC v = true)
    (hel : ∀ (n : Nat) (cs : List Value) (y : DataW H × List MemPlace), DataW.trod enc P w base spare held n e cs = some y → ∃ a, cs = f a ∧ R a)
    {fuel : Nat} {cs : List Value} {x : DataW H × List MemPlace} (h : DataW.trod enc P w base spare held fuel t cs = some x) :
    ∃ (b : Option Addr) (cap : Nat) (l : List α), cs = [.slice b l.length cap] ∧ (∀ a ∈ l, R a) ∧ ∀ g, (rsl b cap sz (l.map f)).p w.hp g := by
  classical
  rcases open_slice ht.h h with ⟨rfl, _⟩ | ⟨a, len, cap, m, n, D, Pl, rfl, hb, hl, hm, hmm, _, hx⟩
  · exact ⟨none, 0, [], rfl, (fun _ h => by cases h), fun f => ⟨⟨(fun e h => by cases h), (fun e h => by cases h)⟩, Nat.le_refl _, (fun _ => rfl), (fun a h => by cases h)⟩⟩
  · have hlm : len ≤ m := by rw [hmm]; split <;> omega
    rw [cellsOf_of he] at hx
    have hv : ∀ i, i < len → ∃ y : α, R y ∧ w.cells? base (a.add (i * sz)) sz = some (f y) := fun i hi => by
      obtain ⟨cs', h1, h2⟩ := hx i (by omega)
      obtain ⟨y, rfl, hr⟩ := hel _ _ _ h2
      exact ⟨y, hr, h1⟩
    have hlist : ∀ k, k ≤ len → ∃ l : List α, l.length = k ∧ ∀ i y, l[i]? = some y → R y ∧ w.cells? base (a.add (i * sz)) sz = some (f y) := by
      intro k
      induction k with
      | zero => exact fun _ => ⟨[], rfl, fun i y h => by simp at h⟩
      | succ k ih =>
        intro hk
        obtain ⟨l, h1, h2⟩ := ih (by omega)
        obtain ⟨y, h3, h4⟩ := hv k (by omega)
        refine ⟨l ++ [y], by simp [h1], fun i z hz => ?_⟩
        rcases Nat.lt_or_ge i k with g | g
        · rw [List.getElem?_append_left (by omega)] at hz; exact h2 i z hz
        · have hi : i < (l ++ [y]).length := (List.getElem?_eq_some_iff.1 hz).1
          simp [h1] at hi
          have : i = k := by omega
          subst this
          rw [List.getElem?_append_right (by omega), h1, Nat.sub_self] at hz
          cases hz; exact ⟨h3, h4⟩
    obtain ⟨l, hl1, hl2⟩ := hlist len (Nat.le_refl _)
    have hR : ∀ y ∈ l, R y := fun y hy => by
      obtain ⟨i, hi⟩ := List.getElem?_of_mem hy
      exact (hl2 i y hi).1
    refine ⟨some a, cap, l, by rw [hl1], hR, fun g => ⟨⟨fun e he => ?_, fun e he => ?_⟩, by simpa [hl1] using hl, (fun h => by cases h), fun a' ha j v hj => ?_⟩⟩
    · obtain ⟨y, hy, rfl⟩ := List.mem_map.1 he
      exact (hone y (hR y hy)).1
    · obtain ⟨y, hy, rfl⟩ := List.mem_map.1 he
      exact (hone y (hR y hy)).2
    · cases ha
      show w.cell? (a.add j) = some v
      have key : ∀ (l : List α) (off : Nat), (∀ i y, l[i]? = some y → R y ∧ w.cells? base (a.add ((off + i) * sz)) sz = some (f y)) → ∀ j, (l.map f).flatten[j]? = some v → w.cell? (a.add (off * sz + j)) = some v := by
        intro l
        induction l with
        | nil => intro off _ j hj; simp at hj
        | cons y l ih =>
          intro off h j hj
          obtain ⟨hry, hcy⟩ := h 0 y rfl
          obtain ⟨_, h3, h4⟩ := World.cells?_some hcy
          rw [List.map_cons, List.flatten_cons] at hj
          rcases Nat.lt_or_ge j sz with g | g
          · rw [List.getElem?_append_left (by omega)] at hj
            have h5 := h4 j g
            rw [Nat.add_zero, add_add] at h5
            rw [h5, hj]
          · rw [List.getElem?_append_right (by omega), h3] at hj
            have := ih (off + 1) (fun i z hz => by
              have := h (i + 1) z (by simpa using hz)
              rwa [show off + (i + 1) = off + 1 + i by omega] at this) (j - sz) hj
            rw [show off * sz + j = (off + 1) * sz + (j - sz) by rw [Nat.add_mul]; omega]
            exact this
      have := key l 0 (fun i y hy => by simpa using hl2 i y hy) j hj
      simpa using this
end
end Go.KL
namespace Go.Proofs.YtjcbjclhagobiaaDoor
open Go Go.KL Go.KM Go.ChangeShapes Go.RowKit Go.Deep
section
variable {H : Type} {enc : TypeId × Value → H} {w : World} {base : Nat} {spare : Nat → Bool} {held : Bool}
theorem read_u64s {fuel : Nat} {cs : List Value} {x : DataW H × List MemPlace} (h : DataW.trod enc PR w base spare held fuel 24 cs = some x) :
    ∃ (b : Option Addr) (cap : Nat) (l : List Nat), cs = [.slice b l.length cap] ∧ (∀ a ∈ l, a < 18446744073709551616) ∧ ∀ g, (rsl b cap 1 (l.map u64e)).p w.hp g :=
  read_slice u64e (fun a => a < 18446744073709551616) (fun a _ => ⟨rfl, fun v hv => by simp [u64e] at hv; subst hv; rfl⟩) (fun n cs y h => by
    obtain ⟨k, h1, h2⟩ := read_int h
    obtain ⟨m, rfl, h3⟩ := wf_u64 h2
    exact ⟨m, h1, h3⟩) h
structure StepV.Reads (w : World) (s : StepV) : Prop where
  ok : s.1.Ok
  packet : ∀ x ∈ s.1.packet, x < 256
  row : ∀ g, (rsl s.2.1 s.2.2 1 (s.1.packet.map u8e)).p w.hp g
theorem read_step {fuel : Nat} {cs : List Value} {x : DataW H × List MemPlace} (h : DataW.trod enc PR w base spare held fuel 54 cs = some x) : ∃ s : StepV, cs = s.cells ∧ s.Reads w := by
  obtain ⟨hl, n0, y0, g0⟩ := read_field 0 h
  obtain ⟨_, n1, y1, g1⟩ := read_field 1 h
  obtain ⟨_, n2, y2, g2⟩ := read_field 2 h
  obtain ⟨_, n3, y3, g3⟩ := read_field 3 h
  obtain ⟨_, n4, y4, g4⟩ := read_field 4 h
  obtain ⟨_, n5, y5, g5⟩ := read_field 0 g1
  obtain ⟨_, n6, y6, g6⟩ := read_field 1 g1
  obtain ⟨_, n7, y7, g7⟩ := read_field 0 g5
  obtain ⟨_, n8, y8, g8⟩ := read_field 1 g5
  obtain ⟨_, n9, y9, g9⟩ := read_field 2 g5
  match cs, hl with
  | [c0, c1, c2, c3, c4, c5, c6, c7], _ =>
    simp only [List.drop_zero, List.take_succ_cons, List.take_zero, List.drop_succ_cons] at g0 g2 g3 g4 g6 g7 g8 g9
    obtain ⟨what, e0, _⟩ := read_int g0
    obtain ⟨hop, e2, _⟩ := read_int g2
    obtain ⟨n, e3, _⟩ := read_int g3
    obtain ⟨pb, pc, packet, e4, hp, hr⟩ := read_bytes (TyU.h (P := PR) (t := 22)) (TyU.h (P := PR) (t := 5)) (cellsOf_of (P := PR) (t := 5) inferInstance) g4
    obtain ⟨pn, e6, _⟩ := read_int g6
    obtain ⟨hi, e7, h7⟩ := read_int g7
    obtain ⟨lo, e8, h8⟩ := read_int g8
    obtain ⟨q, e9⟩ := read_bool g9
    obtain ⟨hi, rfl, hhi⟩ := wf_u64 h7
    obtain ⟨lo, rfl, hlo⟩ := wf_u64 h8
    cases e0; cases e2; cases e3; cases e4; cases e6; cases e7; cases e8; cases e9
    exact ⟨(⟨what, hi, lo, q, pn, hop, n, packet⟩, pb, pc), rfl, ⟨hhi, hlo⟩, hp, hr⟩
theorem read_steps {fuel : Nat} {cs : List Value} {x : DataW H × List MemPlace} (h : DataW.trod enc PR w base spare held fuel 39 cs = some x) :
    ∃ (b : Option Addr) (cap : Nat) (l : List StepV), cs = [.slice b l.length cap] ∧ (∀ s ∈ l, s.Reads w) ∧ (∀ g, (rsl b cap 8 (l.map StepV.cells)).p w.hp g) ∧ ∀ g, (rall (l.map StepV.row)).p w.hp g := by
  obtain ⟨b, cap, l, h1, h2, h3⟩ := read_slice (f := StepV.cells) (StepV.Reads w) (fun a _ => ⟨rfl, fun v hv => by simp [StepV.cells] at hv; rcases hv with rfl | rfl | rfl | rfl | rfl | rfl | rfl | rfl <;> rfl⟩) (fun n cs y h => read_step h) h
  refine ⟨b, cap, l, h1, h2, h3, fun g x hx => ?_⟩
  obtain ⟨s, hs, rfl⟩ := List.mem_map.1 hx
  exact (h2 s hs).row _
theorem read_cfg {fuel : Nat} {cs : List Value} {x : DataW H × List MemPlace} (h : DataW.trod enc PR w base spare held fuel 38 cs = some x) :
    ∃ (c : CfgM) (b : Option Addr) (cap : Nat), cs = c.cells b cap ∧ (∀ a ∈ c.presets, a < 18446744073709551616) ∧ ∀ g, (rsl b cap 1 (c.presets.map u64e)).p w.hp g := by
  obtain ⟨hl, n0, y0, g0⟩ := read_field 0 h
  obtain ⟨_, n1, y1, g1⟩ := read_field 1 h
  obtain ⟨_, n2, y2, g2⟩ := read_field 2 h
  obtain ⟨_, n3, y3, g3⟩ := read_field 3 h
  obtain ⟨_, n4, y4, g4⟩ := read_field 4 h
  obtain ⟨_, n5, y5, g5⟩ := read_field 5 h
  obtain ⟨_, n6, y6, g6⟩ := read_field 6 h
  match cs, hl with
  | [c0, c1, c2, c3, c4, c5, c6], _ =>
    simp only [List.drop_zero, List.take_succ_cons, List.take_zero, List.drop_succ_cons] at g0 g1 g2 g3 g4 g5 g6
    obtain ⟨a0, e0, _⟩ := read_int g0
    obtain ⟨a1, e1, _⟩ := read_int g1
    obtain ⟨a2, e2, _⟩ := read_int g2
    obtain ⟨a3, e3, _⟩ := read_int g3
    obtain ⟨a4, e4, _⟩ := read_int g4
    obtain ⟨a5, e5, _⟩ := read_int g5
    obtain ⟨b, cap, l, e6, h1, h2⟩ := read_u64s g6
    cases e0; cases e1; cases e2; cases e3; cases e4; cases e5; cases e6
    exact ⟨⟨a0, a1, a2, a3, a4, a5, l⟩, b, cap, rfl, h1, h2⟩
end
end Go.Proofs.YtjcbjclhagobiaaDoor
