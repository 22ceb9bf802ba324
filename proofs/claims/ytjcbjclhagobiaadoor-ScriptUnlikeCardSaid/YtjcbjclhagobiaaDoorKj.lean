/- Own program logic, part 10: calls, branches, returns. -/
import Derived.Test.YtjcbjclhagobiaaDoorKi
namespace Go.KL
open Go

theorem c_add64 {P : Program} {t1 : TypeId} {a c : Int} (h : -9223372036854775808 ≤ a + c ∧ a + c ≤ 9223372036854775807) : Calm P (Go.binOp .add t1 (.int .i64 a) (.int .i64 c)) (.int .i64 (a + c)) := by
  have := c_add (P := P) t1 .i64 a c
  rwa [wrap_i64 h] at this
theorem c_sub64 {P : Program} {t1 : TypeId} {a c : Int} (h : -9223372036854775808 ≤ a - c ∧ a - c ≤ 9223372036854775807) : Calm P (Go.binOp .sub t1 (.int .i64 a) (.int .i64 c)) (.int .i64 (a - c)) := by
  have := c_sub (P := P) t1 .i64 a c
  rwa [wrap_i64 h] at this
theorem c_mul64 {P : Program} {t1 : TypeId} {a c : Int} (h : -9223372036854775808 ≤ a * c ∧ a * c ≤ 9223372036854775807) : Calm P (Go.binOp .mul t1 (.int .i64 a) (.int .i64 c)) (.int .i64 (a * c)) := by
  have := c_mul (P := P) t1 .i64 a c
  rwa [wrap_i64 h] at this
theorem c_addu64 {P : Program} {t1 : TypeId} {a c : Int} (h : 0 ≤ a + c ∧ a + c ≤ 18446744073709551615) : Calm P (Go.binOp .add t1 (.int .u64 a) (.int .u64 c)) (.int .u64 (a + c)) := by
  have := c_add (P := P) t1 .u64 a c
  rwa [wrap_u64 h] at this
theorem c_quo64 {P : Program} {t1 : TypeId} {a c : Int} (h : 0 ≤ a ∧ 0 < c ∧ a ≤ 9223372036854775807) : Calm P (Go.binOp .quo t1 (.int .i64 a) (.int .i64 c)) (.int .i64 (a / c)) :=
  c_quoP t1 .i64 h.1 h.2.1 (by simpa [IntKind.max, IntKind.signed, IntKind.bits] using h.2.2)
theorem c_remk {P : Program} {t1 : TypeId} {kk : IntKind} {a c : Int} (h : 0 ≤ a ∧ 0 < c) : Calm P (Go.binOp .rem t1 (.int kk a) (.int kk c)) (.int kk (a % c)) := c_remP t1 kk h.1 h.2
def shlI (kk : IntKind) (a y : Int) : Int := kk.wrap (a * 2 ^ (min y.toNat kk.bits))
def shrI (kk : IntKind) (a y : Int) : Int := a.fdiv (2 ^ (min y.toNat kk.bits))
theorem c_shlk {P : Program} {t1 : TypeId} {kk yk : IntKind} {a y : Int} (h : 0 ≤ y) : Calm P (Go.binOp .shl t1 (.int kk a) (.int yk y)) (.int kk (shlI kk a y)) := c_shl t1 kk yk a h
theorem c_shrk {P : Program} {t1 : TypeId} {kk yk : IntKind} {a y : Int} (h : 0 ≤ y) : Calm P (Go.binOp .shr t1 (.int kk a) (.int yk y)) (.int kk (shrI kk a y)) := c_shr t1 kk yk a h
def andI (kk : IntKind) (x y : Int) : Int := kk.wrap (BitVec.ofInt kk.bits x &&& BitVec.ofInt kk.bits y).toNat
def orI (kk : IntKind) (x y : Int) : Int := kk.wrap (BitVec.ofInt kk.bits x ||| BitVec.ofInt kk.bits y).toNat
def xorI (kk : IntKind) (x y : Int) : Int := kk.wrap (BitVec.ofInt kk.bits x ^^^ BitVec.ofInt kk.bits y).toNat
def andNotI (kk : IntKind) (x y : Int) : Int := kk.wrap (BitVec.ofInt kk.bits x &&& ~~~BitVec.ofInt kk.bits y).toNat
theorem c_and {P : Program} {t1 : TypeId} {kk : IntKind} {a c : Int} : Calm P (Go.binOp .and t1 (.int kk a) (.int kk c)) (.int kk (andI kk a c)) := c_bit t1 kk rfl
theorem c_or {P : Program} {t1 : TypeId} {kk : IntKind} {a c : Int} : Calm P (Go.binOp .or t1 (.int kk a) (.int kk c)) (.int kk (orI kk a c)) := c_bit t1 kk rfl
theorem c_xor {P : Program} {t1 : TypeId} {kk : IntKind} {a c : Int} : Calm P (Go.binOp .xor t1 (.int kk a) (.int kk c)) (.int kk (xorI kk a c)) := c_bit t1 kk rfl
theorem c_andNot {P : Program} {t1 : TypeId} {kk : IntKind} {a c : Int} : Calm P (Go.binOp .andNot t1 (.int kk a) (.int kk c)) (.int kk (andNotI kk a c)) := c_bit t1 kk rfl

section
variable {P : Program} {L : Tm} {dst : Option Nat} {ty : TypeId} {pos : String} {af : Array Edge} {gd : Option (Nat × Bool)}
theorem m_conv64 {t1 t2 : TypeId} {x : Operand} {kk : IntKind} {a : Int} {d1 : TypeDesc} (h1 : TyU P t1 d1) (h2 : TyU P t2 (.int .i64)) (hx : ev L x = some (.int kk a)) (hr : -9223372036854775808 ≤ a ∧ a ≤ 9223372036854775807) : Cm P L ⟨dst, .convert t1 t2 x, ty, pos, af, gd⟩ (.int .i64 a) := by
  have := m_conv (P := P) (dst := dst) (ty := ty) (pos := pos) (af := af) (gd := gd) h1 h2 hx
  rwa [wrap_i64 hr] at this
theorem m_convu64 {t1 t2 : TypeId} {x : Operand} {kk : IntKind} {a : Int} {d1 : TypeDesc} (h1 : TyU P t1 d1) (h2 : TyU P t2 (.int .u64)) (hx : ev L x = some (.int kk a)) (hr : 0 ≤ a ∧ a ≤ 18446744073709551615) : Cm P L ⟨dst, .convert t1 t2 x, ty, pos, af, gd⟩ (.int .u64 a) := by
  have := m_conv (P := P) (dst := dst) (ty := ty) (pos := pos) (af := af) (gd := gd) h1 h2 hx
  rwa [wrap_u64 hr] at this
theorem m_convu8 {t1 t2 : TypeId} {x : Operand} {kk : IntKind} {a : Int} {d1 : TypeDesc} (h1 : TyU P t1 d1) (h2 : TyU P t2 (.int .u8)) (hx : ev L x = some (.int kk a)) (hr : 0 ≤ a ∧ a ≤ 255) : Cm P L ⟨dst, .convert t1 t2 x, ty, pos, af, gd⟩ (.int .u8 a) := by
  have := m_conv (P := P) (dst := dst) (ty := ty) (pos := pos) (af := af) (gd := gd) h1 h2 hx
  rwa [wrap_u8 hr] at this
theorem m_pickT {c x y : Operand} {q : Bool} {v : Value} (hc : ev L c = some (.bool q)) (h : q = true) (hx : ev L x = some v) : Cm P L ⟨dst, .pick c x y, ty, pos, af, gd⟩ v :=
  Cm.of rfl (fun e' he => by
    subst h
    unfold execOp; simp only [he _ _ hx, he _ _ hc, asBool]
    exact (Calm.pure _).bind (Calm.pure _))
theorem m_pickF {c x y : Operand} {q : Bool} {v : Value} (hc : ev L c = some (.bool q)) (h : q = false) (hy : ev L y = some v) : Cm P L ⟨dst, .pick c x y, ty, pos, af, gd⟩ v :=
  Cm.of rfl (fun e' he => by
    subst h
    unfold execOp; simp only [he _ _ hy, he _ _ hc, asBool]
    exact (Calm.pure _).bind (Calm.pure _))
theorem m_boolEq {t1 t2 : TypeId} {x y : Operand} {p q : Bool} (h : TyU P t1 .bool) (hx : ev L x = some (.bool p)) (hy : ev L y = some (.bool q)) : Cm P L ⟨dst, .binOp .eql t1 x y t2, ty, pos, af, gd⟩ (.bool (p == q)) :=
  Cm.of rfl (fun e' he => by
    unfold execOp; simp only [he _ _ hx, he _ _ hy]
    refine Calm.bind (a := .bool (p == q)) ?_ (Calm.pure _)
    refine Calm.bind (a := ()) (by unfold eqGuard; exact Calm.pure _) ?_
    unfold Go.binOp Op.equal Op.maxDepth Op.equalIn
    refine Calm.bind (a := p == q) ((Calm.underlying h.h).bind (Calm.pure _)) (Calm.pure _))
theorem m_boolNe {t1 t2 : TypeId} {x y : Operand} {p q : Bool} (h : TyU P t1 .bool) (hx : ev L x = some (.bool p)) (hy : ev L y = some (.bool q)) : Cm P L ⟨dst, .binOp .neq t1 x y t2, ty, pos, af, gd⟩ (.bool (!(p == q))) :=
  Cm.of rfl (fun e' he => by
    unfold execOp; simp only [he _ _ hx, he _ _ hy]
    refine Calm.bind (a := .bool (!(p == q))) ?_ (Calm.pure _)
    refine Calm.bind (a := ()) (by unfold eqGuard; exact Calm.pure _) ?_
    unfold Go.binOp Op.equal Op.maxDepth Op.equalIn
    refine Calm.bind (a := p == q) ((Calm.underlying h.h).bind (Calm.pure _)) (Calm.pure _))
end
section
variable {P : Program} {E : Env} {X : Xs} {b : Fx} {Post : Value → List HP → Prop} {k : List Item} {L : Tm} {s : List HP} {l rest : List Oper} {d : Option Nat} {ty : TypeId} {pos : String} {af : Array Edge}
/-- At a call. -/
def Cl (P : Program) (E : Env) (X : Xs) (g : FuncId) (as : List Value) (s : List HP) (J : Value → List HP → Prop) : Prop := ∃ pre F Post', Does P E X g as pre Post' ∧ (∀ r f, sep s r f → sep (pre ++ F) r f) ∧ ∀ v t, Post' v t → J v (t ++ F)
theorem WL.cl {gd : Option (Nat × Bool)} {fo : Operand} {args : Array Operand} {ats : Array TypeId} {g : FuncId} {fi ca : Array Value} {vs as : List Value}
    (hw : Want L l ⟨d, .call ⟨.value fo, args, ats⟩, ty, pos, af, gd⟩ true) (hf : ev L fo = some (.func (.func g) fi ca)) (ha : evs L args.toList = some vs) (has : fi.toList ++ vs ++ ca.toList = as) (hd : ltd d b.n = true)
    (h : Cl P E X g as s (fun v s' => WL P E X b Post l rest k (setd d v L) s')) :
    WL P E X b Post l (⟨d, .call ⟨.value fo, args, ats⟩, ty, pos, af, gd⟩ :: rest) k L s := by
  obtain ⟨pre, F, Post', h1, h2, h3⟩ := h
  exact WL.ex hw hd (Ex.call rfl hf ha has h1 h2) fun v s' ⟨t, e1, e2⟩ => by rw [e2]; exact h3 v t e1
/-- A call by its contract. -/
theorem call {g : FuncId} {as : List Value} {pre F : List HP} {Post' : Value → List HP → Prop} {J : Value → List HP → Prop} (hsp : Does P E X g as pre Post') (gk : ∀ v t, Post' v t → J v (t ++ F))
    (hsel : Sels s pre F := by (try simp only [List.cons_append, List.nil_append]); repeat (first | (with_reducible exact Sels.nil) | ((with_reducible apply Sels.dupI); (case h => (first | (with_reducible exact Sel.here) | ((repeat (first | (with_reducible exact Sel.here) | (with_reducible apply Sel.there))); done) | (repeat (first | (exact Sel.here) | (apply Sel.there)))))) | ((with_reducible apply Sels.cons); (case h => (first | (with_reducible exact Sel.here) | ((repeat (first | (with_reducible exact Sel.here) | (with_reducible apply Sel.there))); done) | (repeat (first | (exact Sel.here) | (apply Sel.there)))))))) : Cl P E X g as s J := ⟨pre, F, Post', hsp, fun _ _ h => hsel.out h, gk⟩
theorem branch {c : Operand} {x y : Code} {v : Bool} (g1 : v = true → W P E X b Post (.code x :: k) L s) (g2 : v = false → W P E X b Post (.code y :: k) L s) (hc : ev L c = some (.bool v) := by rfl) : W P E X b Post (.code (.cond c x y) :: k) L s := W.cond hc g1 g2
@[simp] theorem pack_one {v : Value} : pack [v] = v := rfl
@[simp] theorem pack_none : pack [] = .tuple #[] := rfl
@[simp] theorem pack_two {v w : Value} : pack [v, w] = .tuple #[v, w] := rfl
theorem yes {c : Operand} {x y : Code} {v : Bool} (g : W P E X b Post (.code x :: k) L s) (hc : ev L c = some (.bool v) := by rfl) (hv : v = true := by (first | exact rfl | assumption | (simp; done) | (simp; omega))) : W P E X b Post (.code (.cond c x y) :: k) L s := W.cond hc (fun _ => g) fun h => absurd hv (by simp [h])
theorem no {c : Operand} {x y : Code} {v : Bool} (g : W P E X b Post (.code y :: k) L s) (hc : ev L c = some (.bool v) := by rfl) (hv : v = false := by (first | exact rfl | assumption | (simp; done) | (simp; omega))) : W P E X b Post (.code (.cond c x y) :: k) L s := W.cond hc (fun h => absurd hv (by simp [h])) fun _ => g
/-- What is left at a return. -/
def Ends (s : List HP) (Post : Value → List HP → Prop) (v : Value) : Prop := ∃ t F, Sels s t F ∧ Post v t
theorem ends {v : Value} {t F : List HP} (hp : Post v t) (hsel : Sels s t F := by (try simp only [List.cons_append, List.nil_append]); repeat (first | (with_reducible exact Sels.nil) | ((with_reducible apply Sels.dupI); (case h => (first | (with_reducible exact Sel.here) | ((repeat (first | (with_reducible exact Sel.here) | (with_reducible apply Sel.there))); done) | (repeat (first | (exact Sel.here) | (apply Sel.there)))))) | ((with_reducible apply Sels.cons); (case h => (first | (with_reducible exact Sel.here) | ((repeat (first | (with_reducible exact Sel.here) | (with_reducible apply Sel.there))); done) | (repeat (first | (exact Sel.here) | (apply Sel.there)))))))) : Ends s Post v := ⟨t, F, hsel, hp⟩
theorem Res.cell1 {t ty T0 bb off : Nat} {z c : List Value} {F : List HP} {v : Value} {rs : List ResultVar} {vs : List Value} [h : TyN P ty false 1 z] (hl : look L t = some (.pointer (some ⟨bb, off, none⟩))) (hs : Sel s (box bb c T0) F) (hv : c[off]? = some v) (k : Res P E L s rs vs) : Res P E L s (.cell t ty :: rs) (v :: vs) :=
  .cell hl (T.sel hs (T.loadVar1 h (box_has hv))) k
theorem Res.cellN {t ty T0 bb off sz : Nat} {z c cs : List Value} {F : List HP} {rs : List ResultVar} {vs : List Value} [h : TyN P ty true sz z] (hl : look L t = some (.pointer (some ⟨bb, off, none⟩))) (hs : Sel s (box bb c T0) F) (hv : getN c off sz = some cs) (k : Res P E L s rs vs) : Res P E L s (.cell t ty :: rs) (.agg cs.toArray :: vs) :=
  .cell hl (T.sel hs (T.loadVarB h hv)) k
theorem ret {rs : List ResultVar} {vs : List Value} [h : TyRes P b.fn rs] (g : Ends s Post (pack vs)) (hro : b.roundOf = none := by rfl)
    (hres : Res P E L s rs vs := by repeat (first | exact Res.nil | apply Res.tmp rfl | apply Res.cellN rfl (by repeat (first | (with_reducible exact Sel.here) | (with_reducible apply Sel.there))) rfl | apply Res.cell1 rfl (by repeat (first | (with_reducible exact Sel.here) | (with_reducible apply Sel.there))) rfl)) :
    W P E X b Post (.code .ret :: k) L s := by
  obtain ⟨t, F, hsel, hp⟩ := g
  obtain ⟨fnc, h1, h2⟩ := h.h
  subst h2
  exact W.ret ⟨h1⟩ hro hres (fun r f hs => by
    obtain ⟨f1, f2, d, l1, l2, h1, h2⟩ := sep_append.1 (hsel.out hs)
    exact sep_mono (Hp.le_refl _) l1 h1) hp
theorem fall {rs : List ResultVar} {vs : List Value} [h : TyRes P b.fn rs] (g : Ends s Post (pack vs)) (hro : b.roundOf = none := by rfl)
    (hres : Res P E L s rs vs := by repeat (first | exact Res.nil | apply Res.tmp rfl | apply Res.cellN rfl (by repeat (first | (with_reducible exact Sel.here) | (with_reducible apply Sel.there))) rfl | apply Res.cell1 rfl (by repeat (first | (with_reducible exact Sel.here) | (with_reducible apply Sel.there))) rfl)) :
    W P E X b Post [] L s := by
  obtain ⟨t, F, hsel, hp⟩ := g
  obtain ⟨fnc, h1, h2⟩ := h.h
  subst h2
  exact W.fall ⟨h1⟩ hro hres (fun r f hs => by
    obtain ⟨f1, f2, d, l1, l2, h1, h2⟩ := sep_append.1 (hsel.out hs)
    exact sep_mono (Hp.le_refl _) l1 h1) hp
end
end Go.KL
