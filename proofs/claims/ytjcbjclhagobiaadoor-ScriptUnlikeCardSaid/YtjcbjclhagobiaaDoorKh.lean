/- Own program logic, part 8: a rule for each kind of operation. -/
import Derived.Test.YtjcbjclhagobiaaDoorKg
namespace Go.KL
open Go

/-- Cells from a place on. -/
def getN : List Value → Nat → Nat → Option (List Value)
  | _, _, 0 => some []
  | c, off, n + 1 => match c[off]?, getN c (off + 1) n with
    | some v, some vs => some (v :: vs)
    | _, _ => none
theorem getN_spec : ∀ {n off : Nat} {c vs : List Value}, getN c off n = some vs → vs.length = n ∧ ∀ j v, vs[j]? = some v → c[off + j]? = some v
  | 0, _, _, _, h => by cases h; exact ⟨rfl, fun j v e => by simp at e⟩
  | n + 1, off, c, vs, h => by
    unfold getN at h
    split at h
    · rename_i v vs' h1 h2
      cases h
      obtain ⟨k1, k2⟩ := getN_spec h2
      refine ⟨by simp [k1], fun j x e => ?_⟩
      cases j with
      | zero => simp at e; subst e; simpa using h1
      | succ j => rw [show off + (j + 1) = off + 1 + j by omega]; exact k2 j x (by simpa using e)
    · cases h
/-- The cells of a value. -/
def valC : Value → List Value
  | .agg cs => cs.toList
  | v => [v]
theorem valC_cells (v : Value) : v.cells = (valC v).toArray := by cases v <;> simp [Value.cells, valC]
def allOne : List Value → Bool
  | [] => true
  | v :: vs => oneC v && allOne vs
theorem allOne_mem : ∀ {vs : List Value}, allOne vs = true → ∀ v ∈ vs, oneC v = true
  | [], _, _, h => by cases h
  | a :: vs, h, v, hm => by
    simp only [allOne, Bool.and_eq_true] at h
    rcases List.mem_cons.1 hm with rfl | hm
    · exact h.1
    · exact allOne_mem h.2 v hm
def lenIs : List Value → Nat → Bool
  | [], 0 => true
  | _ :: vs, n + 1 => lenIs vs n
  | _, _ => false
theorem lenIs_eq : ∀ {vs : List Value} {n : Nat}, lenIs vs n = true → vs.length = n
  | [], 0, _ => rfl
  | [], _ + 1, h => by cases h
  | _ :: _, 0, h => by cases h
  | _ :: vs, n + 1, h => by rw [List.length_cons, lenIs_eq (vs := vs) h]
theorem T.sel {P : Program} {E : Env} {α : Type} {m : Sem α} {A : HP} {s F : List HP} {v : α} (h : Sel s A F) (g : T P E m [A] (fun x B => x = v ∧ B = [A])) : T P E m s (fun x B => x = v ∧ B = s) := by
  intro w r f F' es hs hB
  obtain ⟨f1, f2, d, l1, l2, h1, h2⟩ := sep_append.1 hB
  have hA : sep ([A] ++ (F ++ F')) r f := by
    rw [← List.append_assoc]
    exact sep_append.2 ⟨f1, f2, d, l1, l2, h.out h1, h2⟩
  obtain ⟨a, w1, es1, r1, f1', A1, e1, k1, ⟨q1, q2⟩, s1⟩ := g w r f (F ++ F') es hs hA
  subst q2
  refine ⟨a, w1, es1, r1, f1', s, e1, k1, ⟨q1, rfl⟩, ?_⟩
  rw [← List.append_assoc] at s1
  obtain ⟨f1, f2, d, l1, l2, h1, h2⟩ := sep_append.1 s1
  exact sep_append.2 ⟨f1, f2, d, l1, l2, h.back h1, h2⟩

/-- Integers: what a binary operation yields. -/
def cmpI : BinOp → Int → Int → Option Bool
  | .eql, a, b => some (decide (a = b))
  | .neq, a, b => some (!decide (a = b))
  | .lss, a, b => some (decide (a < b))
  | .leq, a, b => some (decide (a ≤ b))
  | .gtr, a, b => some (decide (b < a))
  | .geq, a, b => some (decide (b ≤ a))
  | _, _, _ => none
section
variable {P : Program} {E : Env} {X : Xs} {b : Fx} {Post : Value → List HP → Prop} {k : List Item} {L : Tm} {s : List HP} {l rest : List Oper} {dst : Option Nat} {ty : TypeId} {pos : String} {af : Array Edge} {gd : Option (Nat × Bool)}

theorem Calm.binI {e' : Operand → Value} {o : Oper} {op : BinOp} {t1 t2 : TypeId} {x y : Operand} {kk : IntKind} {a c : Int} {v : Value} (ho : o.op = .binOp op t1 x y t2) (hx : e' x = .int kk a) (hy : e' y = .int kk c) (h : Calm P (Go.binOp op t1 (.int kk a) (.int kk c)) v) : Calm P (execOp e' o) (.value v) := by
  unfold execOp; rw [ho]; simp only [hx, hy]
  refine Calm.bind (a := v) ?_ (Calm.pure _)
  refine Calm.bind (a := ()) ?_ h
  unfold eqGuard
  cases op <;> exact Calm.pure _

theorem m_bin {op : BinOp} {t1 t2 : TypeId} {x y : Operand} {kk : IntKind} {a c : Int} {v : Value} (hx : ev L x = some (.int kk a)) (hy : ev L y = some (.int kk c)) (h : Calm P (Go.binOp op t1 (.int kk a) (.int kk c)) v) : Cm P L ⟨dst, .binOp op t1 x y t2, ty, pos, af, gd⟩ v :=
  Cm.of rfl (fun e' he => Calm.binI rfl (he _ _ hx) (he _ _ hy) h)
theorem c_add (t1 : TypeId) (kk : IntKind) (a c : Int) : Calm P (Go.binOp .add t1 (.int kk a) (.int kk c)) (.int kk (kk.wrap (a + c))) := by
  unfold Go.binOp; simp only [ne_eq, not_true_eq_false, if_false, Op.intArith]; exact Calm.pure _
theorem c_sub (t1 : TypeId) (kk : IntKind) (a c : Int) : Calm P (Go.binOp .sub t1 (.int kk a) (.int kk c)) (.int kk (kk.wrap (a - c))) := by
  unfold Go.binOp; simp only [ne_eq, not_true_eq_false, if_false, Op.intArith]; exact Calm.pure _
theorem c_mul (t1 : TypeId) (kk : IntKind) (a c : Int) : Calm P (Go.binOp .mul t1 (.int kk a) (.int kk c)) (.int kk (kk.wrap (a * c))) := by
  unfold Go.binOp; simp only [ne_eq, not_true_eq_false, if_false, Op.intArith]; exact Calm.pure _
theorem wrap_in {kk : IntKind} {a : Int} (h : kk.min ≤ a ∧ a ≤ kk.max) : kk.wrap a = a := by
  obtain ⟨h1, h2⟩ := h
  cases kk <;> simp [IntKind.min, IntKind.max, IntKind.signed, IntKind.bits] at h1 h2 <;> simp [IntKind.wrap, IntKind.signed, IntKind.bits] <;> omega
theorem wrap_i64 {a : Int} (h : -9223372036854775808 ≤ a ∧ a ≤ 9223372036854775807) : IntKind.i64.wrap a = a := wrap_in (by simpa [IntKind.min, IntKind.max, IntKind.signed, IntKind.bits] using h)
theorem wrap_u64 {a : Int} (h : 0 ≤ a ∧ a ≤ 18446744073709551615) : IntKind.u64.wrap a = a := wrap_in (by simpa [IntKind.min, IntKind.max, IntKind.signed, IntKind.bits] using h)
theorem wrap_u8 {a : Int} (h : 0 ≤ a ∧ a ≤ 255) : IntKind.u8.wrap a = a := wrap_in (by simpa [IntKind.min, IntKind.max, IntKind.signed, IntKind.bits] using h)
theorem wrap_u16 {a : Int} (h : 0 ≤ a ∧ a ≤ 65535) : IntKind.u16.wrap a = a := wrap_in (by simpa [IntKind.min, IntKind.max, IntKind.signed, IntKind.bits] using h)
theorem c_quo {a c : Int} (t1 : TypeId) (kk : IntKind) (h : c ≠ 0) : Calm P (Go.binOp .quo t1 (.int kk a) (.int kk c)) (.int kk (kk.wrap (a.tdiv c))) := by
  unfold Go.binOp; simp only [ne_eq, not_true_eq_false, if_false, Op.intDiv, h]; exact Calm.pure _
theorem c_rem {a c : Int} (t1 : TypeId) (kk : IntKind) (h : c ≠ 0) : Calm P (Go.binOp .rem t1 (.int kk a) (.int kk c)) (.int kk (a.tmod c)) := by
  unfold Go.binOp; simp only [ne_eq, not_true_eq_false, if_false, Op.intDiv, h]; exact Calm.pure _
theorem c_quoP {a c : Int} (t1 : TypeId) (kk : IntKind) (h0 : 0 ≤ a) (h : 0 < c) (hm : a ≤ kk.max) : Calm P (Go.binOp .quo t1 (.int kk a) (.int kk c)) (.int kk (a / c)) := by
  have := c_quo (P := P) (a := a) (c := c) t1 kk (by omega)
  rw [Int.tdiv_eq_ediv_of_nonneg h0] at this
  rwa [wrap_in ⟨?_, ?_⟩] at this
  · have h1 : 0 ≤ a / c := Int.ediv_nonneg h0 (by omega)
    have : kk.min ≤ 0 := by cases kk <;> simp [IntKind.min, IntKind.signed, IntKind.bits]
    omega
  · have : a / c ≤ a := Int.ediv_le_self _ h0
    omega
theorem c_remP {a c : Int} (t1 : TypeId) (kk : IntKind) (h0 : 0 ≤ a) (h : 0 < c) : Calm P (Go.binOp .rem t1 (.int kk a) (.int kk c)) (.int kk (a % c)) := by
  have := c_rem (P := P) (a := a) (c := c) t1 kk (by omega)
  rwa [Int.tmod_eq_emod_of_nonneg h0] at this
theorem c_cmp {op : BinOp} {a c : Int} {q : Bool} (t1 : TypeId) (kk : IntKind) (h : cmpI op a c = some q) : Calm P (Go.binOp op t1 (.int kk a) (.int kk c)) (.bool q) := by
  cases op <;> simp only [cmpI, Option.some.injEq, reduceCtorEq] at h <;> subst h <;> unfold Go.binOp <;> simp only [ne_eq, not_true_eq_false, if_false, Op.intCmp]
  · have : (a == c) = decide (a = c) := rfl
    rw [this]; exact Calm.pure _
  · have : (a != c) = !decide (a = c) := rfl
    rw [this]; exact Calm.pure _
  all_goals exact Calm.pure _
theorem c_shl {y : Int} (t1 : TypeId) (kk yk : IntKind) (a : Int) (h : 0 ≤ y) : Calm P (Go.binOp .shl t1 (.int kk a) (.int yk y)) (.int kk (kk.wrap (a * 2 ^ (min y.toNat kk.bits)))) := by
  unfold Go.binOp
  simp only [Op.shift, Int.not_lt.2 h, if_false]
  exact Calm.pure _
theorem c_shr {y : Int} (t1 : TypeId) (kk yk : IntKind) (a : Int) (h : 0 ≤ y) : Calm P (Go.binOp .shr t1 (.int kk a) (.int yk y)) (.int kk (a.fdiv (2 ^ (min y.toNat kk.bits)))) := by
  unfold Go.binOp
  simp only [Op.shift, Int.not_lt.2 h, if_false]
  exact Calm.pure _
/-- Bit by bit. -/
def bitI (op : BinOp) (kk : IntKind) (x y : Int) : Option Int :=
  let a := BitVec.ofInt kk.bits x
  let b := BitVec.ofInt kk.bits y
  match op with
  | .and => some (kk.wrap (a &&& b).toNat)
  | .or => some (kk.wrap (a ||| b).toNat)
  | .xor => some (kk.wrap (a ^^^ b).toNat)
  | .andNot => some (kk.wrap (a &&& ~~~b).toNat)
  | _ => none
theorem c_bit {op : BinOp} {a c v : Int} (t1 : TypeId) (kk : IntKind) (h : bitI op kk a c = some v) : Calm P (Go.binOp op t1 (.int kk a) (.int kk c)) (.int kk v) := by
  cases op <;> simp only [bitI, Option.some.injEq, reduceCtorEq] at h <;> subst h <;> unfold Go.binOp <;> simp only [ne_eq, not_true_eq_false, if_false, Op.intBits] <;> exact Calm.pure _

theorem m_shift {op : BinOp} {t1 t2 : TypeId} {x y : Operand} {kk yk : IntKind} {a c : Int} {v : Value} (hx : ev L x = some (.int kk a)) (hy : ev L y = some (.int yk c)) (h : Calm P (Go.binOp op t1 (.int kk a) (.int yk c)) v) : Cm P L ⟨dst, .binOp op t1 x y t2, ty, pos, af, gd⟩ v :=
  Cm.of rfl (fun e' he => by
    unfold execOp; simp only [he _ _ hx, he _ _ hy]
    refine Calm.bind (a := v) ?_ (Calm.pure _)
    refine Calm.bind (a := ()) ?_ h
    unfold eqGuard
    cases op <;> exact Calm.pure _)

theorem m_move {x : Operand} {v : Value} (hx : ev L x = some v) : Cm P L ⟨dst, .move x, ty, pos, af, gd⟩ v :=
  Cm.of rfl (fun e' he => by unfold execOp; simp only [he _ _ hx]; exact Calm.pure _)
theorem m_assign {x : Operand} {v : Value} (hx : ev L x = some v) : Cm P L ⟨dst, .assign x, ty, pos, af, gd⟩ v :=
  Cm.of rfl (fun e' he => by unfold execOp; simp only [he _ _ hx]; exact Calm.pure _)
theorem m_not {t : TypeId} {x : Operand} {q : Bool} (hx : ev L x = some (.bool q)) : Cm P L ⟨dst, .unOp .not t x, ty, pos, af, gd⟩ (.bool (!q)) :=
  Cm.of rfl (fun e' he => by unfold execOp; simp only [he _ _ hx, Op.unary]; exact (Calm.pure _).bind (Calm.pure _))
theorem m_compl {t : TypeId} {x : Operand} {kk : IntKind} {a v : Int} (hx : ev L x = some (.int kk a)) (hv : bitI .xor kk (if kk.signed then -1 else kk.max) a = some v) : Cm P L ⟨dst, .unOp .xor t x, ty, pos, af, gd⟩ (.int kk v) :=
  Cm.of rfl (fun e' he => by
    unfold execOp; simp only [he _ _ hx, Op.unary]
    refine Calm.bind (a := .int kk v) ?_ (Calm.pure _)
    simp only [bitI, Option.some.injEq] at hv
    subst hv
    exact Calm.pure _)
theorem m_conv {t1 t2 : TypeId} {x : Operand} {kk k2 : IntKind} {a : Int} {d1 : TypeDesc} (h1 : TyU P t1 d1) (h2 : TyU P t2 (.int k2)) (hx : ev L x = some (.int kk a)) : Cm P L ⟨dst, .convert t1 t2 x, ty, pos, af, gd⟩ (.int k2 (k2.wrap a)) :=
  Cm.of rfl (fun e' he => by
    unfold execOp; simp only [he _ _ hx]
    refine Calm.bind (a := .int k2 (k2.wrap a)) ?_ (Calm.pure _)
    unfold convert
    refine (Calm.underlying h1.h).bind ((Calm.underlying h2.h).bind ?_)
    exact Calm.pure _)
theorem m_pick {c x y : Operand} {q : Bool} {v1 v2 : Value} (hc : ev L c = some (.bool q)) (hx : ev L x = some v1) (hy : ev L y = some v2) : Cm P L ⟨dst, .pick c x y, ty, pos, af, gd⟩ (if q then v1 else v2) :=
  Cm.of rfl (fun e' he => by
    unfold execOp; simp only [he _ _ hx, he _ _ hy, he _ _ hc, asBool]
    exact (Calm.pure _).bind (Calm.pure _))
theorem m_nilCheck {x : Operand} {a : Addr} (hx : ev L x = some (.pointer (some a))) : Cm P L ⟨dst, .nilCheck x, ty, pos, af, gd⟩ (.pointer (some a)) :=
  Cm.of rfl (fun e' he => by unfold execOp; simp only [he _ _ hx]; exact Calm.pure _)
theorem m_extract {x : Operand} {i : Nat} {vs : Array Value} {v : Value} (hx : ev L x = some (.tuple vs)) (hv : vs.toList[i]? = some v) : Cm P L ⟨dst, .extract x i, ty, pos, af, gd⟩ v :=
  Cm.of rfl (fun e' he => by unfold execOp; simp only [he _ _ hx]; exact (Calm.extract (by simpa using hv)).bind (Calm.pure _))
theorem m_fieldAddr {t : TypeId} {x : Operand} {i off : Nat} {ft : TypeId} {a : Addr} (h : TyF P t i off ft) (hx : ev L x = some (.pointer (some a))) : Cm P L ⟨dst, .fieldAddr t x i, ty, pos, af, gd⟩ (.pointer (some (a.add off))) :=
  Cm.of rfl (fun e' he => by unfold execOp; simp only [he _ _ hx]; exact (Calm.fieldAt h).bind (Calm.pure _))
theorem m_field1 {t : TypeId} {x : Operand} {i off : Nat} {ft : TypeId} {z : List Value} {cs : Array Value} {v : Value} (h : TyF P t i off ft) (h1 : TyN P ft false 1 z) (hx : ev L x = some (.agg cs)) (hv : cs.toList[off]? = some v) : Cm P L ⟨dst, .field t x i, ty, pos, af, gd⟩ v :=
  Cm.of rfl (fun e' he => by unfold execOp; simp only [he _ _ hx]; exact (Calm.field h (Calm.part1 h1 (by simpa using hv))).bind (Calm.pure _))
theorem m_fieldN {t : TypeId} {x : Operand} {i off sz : Nat} {ft : TypeId} {z : List Value} {cs : Array Value} (h : TyF P t i off ft) (h1 : TyN P ft true sz z) (hx : ev L x = some (.agg cs)) : Cm P L ⟨dst, .field t x i, ty, pos, af, gd⟩ (.agg (cs.extract off (off + sz))) :=
  Cm.of rfl (fun e' he => by unfold execOp; simp only [he _ _ hx]; exact (Calm.field h (Calm.partN h1)).bind (Calm.pure _))
theorem m_indexSlice {t e : TypeId} {agg : Bool} {sz : Nat} {z : List Value} {x y : Operand} {a : Addr} {len cap : Nat} {kk : IntKind} {i : Int} (h : TyU P t (.slice e)) (he : TyN P e agg sz z) (hx : ev L x = some (.slice (some a) len cap)) (hy : ev L y = some (.int kk i)) (h0 : 0 ≤ i) (h1 : i < len) : Cm P L ⟨dst, .indexAddr t x y, ty, pos, af, gd⟩ (.pointer (some (a.add (i.toNat * sz)))) :=
  Cm.of rfl (fun e' he' => by unfold execOp; simp only [he' _ _ hx, he' _ _ hy]; exact (Calm.indexSlice h he h0 h1).bind (Calm.pure _))
theorem m_indexArr {t e : TypeId} {agg : Bool} {sz : Nat} {z : List Value} {x y : Operand} {a : Addr} {len : Nat} {kk : IntKind} {i : Int} (h : TyU P t (.array len e)) (he : TyN P e agg sz z) (hx : ev L x = some (.pointer (some a))) (hy : ev L y = some (.int kk i)) (h0 : 0 ≤ i) (h1 : i < len) : Cm P L ⟨dst, .indexAddr t x y, ty, pos, af, gd⟩ (.pointer (some (a.add (i.toNat * sz)))) :=
  Cm.of rfl (fun e' he' => by unfold execOp; simp only [he' _ _ hx, he' _ _ hy]; exact (Calm.indexArr h he h0 h1).bind (Calm.pure _))
theorem m_indexAgg1 {t e : TypeId} {z : List Value} {x y : Operand} {cs : Array Value} {len : Nat} {kk : IntKind} {i : Int} {v : Value} (h : TyU P t (.array len e)) (he : TyN P e false 1 z) (hx : ev L x = some (.agg cs)) (hy : ev L y = some (.int kk i)) (h0 : 0 ≤ i) (h1 : i < len) (hv : cs.toList[i.toNat]? = some v) : Cm P L ⟨dst, .index t x y, ty, pos, af, gd⟩ v :=
  Cm.of rfl (fun e' he' => by unfold execOp; simp only [he' _ _ hx, he' _ _ hy]; exact (Calm.indexAgg h he h0 h1 (Calm.part1 he (by simpa using hv))).bind (Calm.pure _))
end
end Go.KL
