/- Own program logic, part 4: the model's instructions, each as a triple; what they ask of types stands in small classes. -/
import Derived.Test.YtjcbjclhagobiaaDoorKc
namespace Go.KL
open Go

/-- What a type is, what it is as a row of cells. -/
class TyU (P : Program) (t : TypeId) (d : outParam TypeDesc) : Prop where
  h : P.underlying t = some d
class TyN (P : Program) (t : TypeId) (agg : outParam Bool) (sz : outParam Nat) (z : outParam (List Value)) : Prop where
  h : ∃ i v d, P.info? t = some i ∧ i.size = sz ∧ i.zero = some v ∧ v.cells = z.toArray ∧ P.underlying t = some d ∧ (match d with | .struct _ | .array _ _ => true | _ => false) = agg
class TyB (P : Program) (t : TypeId) (n : outParam Nat) : Prop where
  h : ∃ i, P.info? t = some i ∧ i.bytes = n
class TyF (P : Program) (t : TypeId) (i : Nat) (off : outParam Nat) (ft : outParam TypeId) : Prop where
  h : ∃ fs f j, P.underlying t = some (.struct fs) ∧ fs[i]? = some f ∧ f.offset = off ∧ f.type = ft ∧ P.info? f.type = some j ∧ (j.size == 0) = false

theorem TyN.of {P : Program} {t : TypeId} {agg : Bool} {sz : Nat} {z : List Value} (h1 : (P.info? t).map (fun i => (i.size, i.zero.map Value.cells)) = some (sz, some z.toArray)) (h2 : (P.underlying t).map (fun d => match d with | .struct _ | .array _ _ => true | _ => false) = some agg) : TyN P t agg sz z := by
  cases hi : P.info? t with
  | none => rw [hi] at h1; cases h1
  | some i =>
    cases hd : P.underlying t with
    | none => rw [hd] at h2; cases h2
    | some d =>
      rw [hi] at h1; rw [hd] at h2
      simp only [Option.map_some, Option.some.injEq, Prod.mk.injEq] at h1 h2
      cases hz : i.zero with
      | none => rw [hz] at h1; simp at h1
      | some v =>
        rw [hz] at h1
        simp only [Option.map_some, Option.some.injEq] at h1
        exact ⟨i, v, d, hi, h1.1, hz, h1.2, hd, h2⟩
theorem TyB.of {P : Program} {t : TypeId} {n : Nat} (h : (P.info? t).map (·.bytes) = some n) : TyB P t n := by
  cases hi : P.info? t with
  | none => rw [hi] at h; cases h
  | some i => rw [hi] at h; simp only [Option.map_some, Option.some.injEq] at h; exact ⟨i, hi, h⟩
theorem TyF.of {P : Program} {t : TypeId} {i off : Nat} {ft : TypeId} (h : (match P.underlying t with | some (.struct fs) => (fs[i]?).map (fun f => (f.offset, f.type, (P.info? f.type).map (fun j => j.size == 0))) | _ => none) = some (off, ft, some false)) : TyF P t i off ft := by
  split at h
  · rename_i fs hu
    cases hf : fs[i]? with
    | none => rw [hf] at h; cases h
    | some f =>
      rw [hf] at h
      simp only [Option.map_some, Option.some.injEq, Prod.mk.injEq] at h
      cases hj : P.info? f.type with
      | none => rw [hj] at h; simp at h
      | some j =>
        rw [hj] at h
        simp only [Option.map_some, Option.some.injEq] at h
        exact ⟨fs, f, j, hu, hf, h.1, h.2.1, hj, h.2.2⟩
  · cases h

section
variable {P : Program} {E : Env}
theorem Calm.underlying {t : TypeId} {d : TypeDesc} (h : P.underlying t = some d) : Calm P (Go.underlying t) d := by
  intro w es
  show (Sem.bind Go.program _).runT P w es = _
  rw [Sem.runT_bind']
  show Sem.runT P (match P.underlying t with | some d => _ | none => _) w es = _
  rw [h]; rfl
theorem Calm.typeInfo {t : TypeId} {i : TypeInfo} (h : P.info? t = some i) : Calm P (Go.typeInfo t) i := by
  intro w es
  show (Sem.bind Go.program _).runT P w es = _
  rw [Sem.runT_bind']
  show Sem.runT P (match P.info? t with | some d => _ | none => _) w es = _
  rw [h]; rfl
theorem Calm.sizeOf {t : TypeId} {i : TypeInfo} (h : P.info? t = some i) : Calm P (Go.sizeOf t) i.size := (Calm.typeInfo h).bind (Calm.pure _)
theorem Calm.sizeOf' {t : TypeId} {agg : Bool} {sz : Nat} {z : List Value} (h : TyN P t agg sz z) : Calm P (Go.sizeOf t) sz := by
  obtain ⟨i, v, d, h1, h2, _⟩ := h.h
  rw [← h2]; exact Calm.sizeOf h1
theorem Calm.isAgg {t : TypeId} {agg : Bool} {sz : Nat} {z : List Value} (h : TyN P t agg sz z) : Calm P (Go.isAgg t) agg := by
  obtain ⟨i, v, d, h1, h2, h3, h4, h5, h6⟩ := h.h
  refine (Calm.underlying h5).bind ?_
  cases d <;> simp only at h6 <;> subst h6 <;> exact Calm.pure _
theorem Calm.zeroValue {t : TypeId} {agg : Bool} {sz : Nat} {z : List Value} (h : TyN P t agg sz z) : ∃ v, Calm P (Go.zeroValue t) v ∧ v.cells = z.toArray := by
  obtain ⟨i, v, d, h1, h2, h3, h4, _⟩ := h.h
  refine ⟨v, (Calm.typeInfo h1).bind ?_, h4⟩
  rw [h3]; exact Calm.pure _

theorem T.loadVar1 {t : TypeId} {z : List Value} {A : HP} {a : Addr} {v : Value} (h : TyN P t false 1 z) (k : Has A a v) : T P E (Go.loadVar t a) [A] (fun x B => x = v ∧ B = [A]) :=
  T.calmBind (Calm.isAgg h) (T.load k)
theorem T.loadVarN {t : TypeId} {sz : Nat} {z : List Value} {A : HP} {a : Addr} {cs : List Value} (h : TyN P t true sz z) (hn : cs.length = sz) (k : ∀ j v, cs[j]? = some v → Has A (a.add j) v) :
    T P E (Go.loadVar t a) [A] (fun x B => x = .agg cs.toArray ∧ B = [A]) := by
  refine T.calmBind (Calm.isAgg h) (T.calmBind (Calm.sizeOf' h) (T.bind (T.loadCells hn k) ?_))
  rintro x _ ⟨hx, rfl⟩
  exact T.calm (Calm.pure _) ⟨by rw [hx], rfl⟩
theorem T.storeVar {t T0 : TypeId} {agg : Bool} {z : List Value} {b off : Nat} {c vs : List Value} {v : Value} (h : TyN P t agg vs.length z) (hv : v.cells = vs.toArray) (h1 : ∀ x ∈ vs, oneC x = true) (hn : off + vs.length ≤ c.length) :
    T P E (Go.storeVar t ⟨b, off, none⟩ v) [box b c T0] (fun _ B => B = [box b (lay c off vs) T0]) := by
  unfold Go.storeVar
  refine T.calmBind (Calm.sizeOf' h) ?_
  have e : ¬ (v.cells.size ≠ vs.length) := by rw [hv]; simp
  simp only [if_neg e]
  rw [hv]
  exact T.calmBind (Calm.pure _) (by simpa using T.storeCells (b := b) (t := T0) (off := off) vs 0 c h1 (by omega))
theorem T.newRow {t : TypeId} (c : List Value) : T P E (Go.newRow t c.toArray) [] (fun a B => ∃ b, a = ⟨b, 0, none⟩ ∧ B = [box b c t]) := by
  refine T.bind (T.new _) ?_
  rintro b _ rfl
  exact T.calm (Calm.pure _) ⟨b, rfl, rfl⟩
theorem T.alloc {t : TypeId} {agg : Bool} {sz : Nat} {z : List Value} (h : TyN P t agg sz z) : T P E (Instr.alloc t true (.tuple #[])) [] (fun x B => ∃ b, x = .pointer (some ⟨b, 0, none⟩) ∧ B = [box b z t]) := by
  obtain ⟨v, hv, hz⟩ := Calm.zeroValue h
  refine T.calmBind hv ?_
  simp only [Go.newVar, hz]
  refine T.bind (T.newRow z) ?_
  rintro _ _ ⟨b, rfl, rfl⟩
  exact T.calm (Calm.pure _) ⟨b, rfl, rfl⟩
theorem T.boxOp {t : TypeId} {v : Value} {vs : List Value} (hv : v.cells = vs.toArray) : T P E (Instr.box t v) [] (fun x B => ∃ b, x = .pointer (some ⟨b, 0, none⟩) ∧ B = [box b vs t]) := by
  unfold Instr.box
  simp only [Go.newVar, hv]
  refine T.bind (T.newRow vs) ?_
  rintro _ _ ⟨b, rfl, rfl⟩
  exact T.calm (Calm.pure _) ⟨b, rfl, rfl⟩
theorem Calm.fieldAt {t : TypeId} {i off : Nat} {ft : TypeId} {a : Addr} (h : TyF P t i off ft) : Calm P (Instr.fieldAt t (.pointer (some a)) i) (.pointer (some (a.add off))) := by
  obtain ⟨fs, f, j, h1, h2, h3, h4, h5, h6⟩ := h.h
  refine (Calm.underlying h1).bind ?_
  simp only [h2]
  refine (Calm.pure _).bind ?_
  refine Calm.bind (a := a.add off) ?_ (Calm.pure _)
  unfold fieldPlace
  refine (Calm.sizeOf h5).bind ?_
  have : ¬ (j.size = 0) := by simpa using h6
  simp only [if_neg this, h3]
  exact Calm.pure _
theorem Calm.indexSlice {t e : TypeId} {agg : Bool} {sz : Nat} {z : List Value} {a : Addr} {len cap : Nat} {k : IntKind} {i : Int} (h : TyU P t (.slice e)) (he : TyN P e agg sz z) (h0 : 0 ≤ i) (h1 : i < len) :
    Calm P (Instr.indexAt t (.slice (some a) len cap) (.int k i)) (.pointer (some (a.add (i.toNat * sz)))) := by
  unfold Instr.indexAt
  refine (Calm.pure _).bind ?_
  refine (Calm.underlying h.h).bind ?_
  refine (Calm.pure _).bind ?_
  refine (Calm.underlying h.h).bind ?_
  simp only
  rw [if_pos ⟨h0, h1⟩]
  exact (Calm.sizeOf' he).bind (Calm.pure _)
theorem Calm.indexArr {t e : TypeId} {agg : Bool} {sz : Nat} {z : List Value} {a : Addr} {len : Nat} {k : IntKind} {i : Int} (h : TyU P t (.array len e)) (he : TyN P e agg sz z) (h0 : 0 ≤ i) (h1 : i < len) :
    Calm P (Instr.indexAt t (.pointer (some a)) (.int k i)) (.pointer (some (a.add (i.toNat * sz)))) := by
  unfold Instr.indexAt
  refine (Calm.pure _).bind ?_
  refine (Calm.underlying h.h).bind ?_
  refine (Calm.pure _).bind ?_
  refine (Calm.pure _).bind ?_
  refine (Calm.underlying h.h).bind ?_
  simp only
  rw [if_pos ⟨h0, h1⟩]
  exact (Calm.sizeOf' he).bind (Calm.pure _)
theorem Calm.part1 {t : TypeId} {z : List Value} {cs : Array Value} {off : Nat} {v : Value} (h : TyN P t false 1 z) (hv : cs[off]? = some v) : Calm P (Go.part t cs off) v := by
  unfold Go.part
  refine (Calm.isAgg h).bind ?_
  simp only [Bool.false_eq_true, if_false]
  rw [hv]; exact Calm.pure _
theorem Calm.partN {t : TypeId} {sz : Nat} {z : List Value} {cs : Array Value} {off : Nat} (h : TyN P t true sz z) : Calm P (Go.part t cs off) (.agg (cs.extract off (off + sz))) := by
  unfold Go.part
  refine (Calm.isAgg h).bind ?_
  simp only [if_true]
  exact (Calm.sizeOf' h).bind (Calm.pure _)
theorem Calm.field {t : TypeId} {i off : Nat} {ft : TypeId} {cs : Array Value} {v : Value} (h : TyF P t i off ft) (hp : Calm P (Go.part ft cs off) v) : Calm P (Instr.field t (.agg cs) i) v := by
  obtain ⟨fs, f, j, h1, h2, h3, h4, h5, h6⟩ := h.h
  unfold Instr.field
  refine (Calm.underlying h1).bind ?_
  simp only [h2]
  refine (Calm.pure _).bind ?_
  rw [h3, h4]; exact hp
theorem Calm.indexAgg {t e : TypeId} {agg : Bool} {sz : Nat} {z : List Value} {cs : Array Value} {len : Nat} {k : IntKind} {i : Int} {v : Value} (h : TyU P t (.array len e)) (he : TyN P e agg sz z) (h0 : 0 ≤ i) (h1 : i < len) (hp : Calm P (Go.part e cs (i.toNat * sz)) v) :
    Calm P (Instr.index t (.agg cs) (.int k i)) v := by
  unfold Instr.index
  refine (Calm.pure _).bind ?_
  refine (Calm.underlying h.h).bind ?_
  simp only
  rw [if_pos ⟨h0, h1⟩]
  exact (Calm.sizeOf' he).bind hp
theorem Calm.extract {vs : Array Value} {i : Nat} {v : Value} (h : vs[i]? = some v) : Calm P (Instr.extract (.tuple vs) i) v := by
  unfold Instr.extract; simp only [h]; exact Calm.pure _
end
end Go.KL
