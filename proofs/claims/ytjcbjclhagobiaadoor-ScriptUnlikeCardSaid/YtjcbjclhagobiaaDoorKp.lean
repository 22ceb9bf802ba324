/- Own program logic, part 16: strings; when values are equal. -/
import Derived.Test.YtjcbjclhagobiaaDoorKo
import Derived.Laws.Strings
namespace Go.KL
open Go

section
variable {P : Program} {E : Env} {X : Xs} {b : Fx} {Post : Value → List HP → Prop} {k : List Item} {L : Tm} {s : List HP} {d : Nat} {dst : Option Nat} {ty : TypeId} {pos : String} {af : Array Edge} {gd : Option (Nat × Bool)}

theorem c_lenStr {t0 : TypeId} {t : TypeId} {cs : Array Bool} {x : ByteArray} (h : TyU P t0 .string) : Calm P (Go.builtin .len #[t0] t cs [.string x].toArray) (.value (.int .i64 x.size)) := by
  unfold Go.builtin
  simp only
  refine Calm.bind (a := .int .i64 x.size) ?_ (Calm.pure _)
  unfold Builtin.len_
  simp only [List.getElem?_toArray, List.getElem?_cons_zero]
  refine (Calm.underlying h.h).bind ?_
  exact Calm.pure _
theorem m_strIndex {t : TypeId} {x y : Operand} {bs : ByteArray} {kk : IntKind} {i : Int} {c : UInt8} (h : TyU P t .string) (hx : ev L x = some (.string bs)) (hy : ev L y = some (.int kk i)) (h0 : 0 ≤ i) (hc : bs[i.toNat]? = some c) : Cm P L ⟨dst, .index t x y, ty, pos, af, gd⟩ (.int .u8 c.toNat) :=
  Cm.of rfl (fun e' he => by
    unfold execOp; simp only [he _ _ hx, he _ _ hy]
    refine Calm.bind (a := .int .u8 c.toNat) ?_ (Calm.pure _)
    unfold Instr.index
    refine (Calm.pure _).bind ?_
    refine (Calm.underlying h.h).bind ?_
    simp only [if_pos h0, hc]
    exact Calm.pure _)
theorem m_strEq {t1 t2 : TypeId} {x y : Operand} {a c : ByteArray} (hx : ev L x = some (.string a)) (hy : ev L y = some (.string c)) : Cm P L ⟨dst, .binOp .eql t1 x y t2, ty, pos, af, gd⟩ (.bool (a.toList == c.toList)) :=
  Cm.of rfl (fun e' he => by
    unfold execOp; simp only [he _ _ hx, he _ _ hy]
    refine Calm.bind (a := .bool (a.toList == c.toList)) ?_ (Calm.pure _)
    refine Calm.bind (a := ()) (by unfold eqGuard; exact Calm.pure _) ?_
    unfold Go.binOp; exact Calm.pure _)
theorem m_strNe {t1 t2 : TypeId} {x y : Operand} {a c : ByteArray} (hx : ev L x = some (.string a)) (hy : ev L y = some (.string c)) : Cm P L ⟨dst, .binOp .neq t1 x y t2, ty, pos, af, gd⟩ (.bool (!(a.toList == c.toList))) :=
  Cm.of rfl (fun e' he => by
    unfold execOp; simp only [he _ _ hx, he _ _ hy]
    refine Calm.bind (a := .bool (!(a.toList == c.toList))) ?_ (Calm.pure _)
    refine Calm.bind (a := ()) (by unfold eqGuard; exact Calm.pure _) ?_
    unfold Go.binOp; exact Calm.pure _)
theorem m_strSlice {t : TypeId} {x : Operand} {lo hi : Option Operand} {bs : ByteArray} {l h : Nat} (ht : TyU P t .string) (hx : ev L x = some (.string bs))
    (hl : (lo = none ∧ l = 0) ∨ ∃ o kk, lo = some o ∧ ev L o = some (.int kk l)) (hh : (hi = none ∧ h = bs.size) ∨ ∃ o kk, hi = some o ∧ ev L o = some (.int kk h)) (h1 : l ≤ h) (h2 : h ≤ bs.size) :
    Cm P L ⟨dst, .slice t x lo hi none, ty, pos, af, gd⟩ (.string (bs.extract l h)) :=
  Cm.of rfl (fun e' he => by
    unfold execOp; simp only [he _ _ hx, Option.map_none]
    refine Calm.bind (a := .string (bs.extract l h)) ?_ (Calm.pure _)
    unfold Instr.sliceAt
    refine (Calm.underlying ht.h).bind ?_
    simp only
    unfold Instr.slice
    refine (Calm.underlying ht.h).bind ?_
    simp only [Option.isSome_none, Bool.false_eq_true, if_false]
    refine Calm.bind (a := (l, h, bs.size)) ?_ (Calm.pure _)
    unfold Instr.sliceBounds
    refine (Calm.pure _).bind ?_
    have sb : ∀ (kk : IntKind) (i y : Nat) (code : BoundsCode), i ≤ y → Calm P (Instr.sliceBound (.int kk i) y code) i := fun kk i y code hy => by
      unfold Instr.sliceBound
      refine Calm.bind (a := (kk, (i : Int))) (Calm.pure _) ?_
      simp only
      rw [if_pos ⟨by omega, by omega⟩]
      exact Calm.pure _
    rcases hl with ⟨rfl, rfl⟩ | ⟨o1, k1, rfl, e1⟩ <;> rcases hh with ⟨rfl, rfl⟩ | ⟨o2, k2, rfl, e2⟩ <;> simp only [Option.map_some, Option.map_none]
    · exact (Calm.pure _).bind ((Calm.pure _).bind (Calm.pure _))
    · rw [he _ _ e2]; exact (sb _ _ _ _ h2).bind ((Calm.pure _).bind (Calm.pure _))
    · rw [he _ _ e1]; exact (Calm.pure _).bind ((sb _ _ _ _ h1).bind (Calm.pure _))
    · rw [he _ _ e1, he _ _ e2]; exact (sb _ _ _ _ h2).bind ((sb _ _ _ _ h1).bind (Calm.pure _)))

/-- Bytes as elements; bytes as a string. -/
theorem m_strLH {t : TypeId} {x lo hi : Operand} {bs : ByteArray} {kk k2 : IntKind} {i j : Int} (h : TyU P t .string) (hx : ev L x = some (.string bs)) (hy : ev L lo = some (.int kk i)) (hy2 : ev L hi = some (.int k2 j)) (h0 : 0 ≤ i) (h1 : i ≤ j) (h2 : j ≤ bs.size) :
    Cm P L ⟨dst, .slice t x (some lo) (some hi) none, ty, pos, af, gd⟩ (.string (bs.extract i.toNat j.toNat)) :=
  m_strSlice h hx (.inr ⟨lo, kk, rfl, by rw [hy, Int.toNat_of_nonneg h0]⟩) (.inr ⟨hi, k2, rfl, by rw [hy2, Int.toNat_of_nonneg (by omega)]⟩) (by omega) (by omega)
theorem m_strLo {t : TypeId} {x lo : Operand} {bs : ByteArray} {kk : IntKind} {i : Int} (h : TyU P t .string) (hx : ev L x = some (.string bs)) (hy : ev L lo = some (.int kk i)) (h0 : 0 ≤ i) (h1 : i ≤ bs.size) :
    Cm P L ⟨dst, .slice t x (some lo) none none, ty, pos, af, gd⟩ (.string (bs.extract i.toNat bs.size)) :=
  m_strSlice h hx (.inr ⟨lo, kk, rfl, by rw [hy, Int.toNat_of_nonneg h0]⟩) (.inl ⟨rfl, rfl⟩) (by omega) (Nat.le_refl _)
theorem m_strHi {t : TypeId} {x hi : Operand} {bs : ByteArray} {kk : IntKind} {j : Int} (h : TyU P t .string) (hx : ev L x = some (.string bs)) (hy : ev L hi = some (.int kk j)) (h0 : 0 ≤ j) (h1 : j ≤ bs.size) :
    Cm P L ⟨dst, .slice t x none (some hi) none, ty, pos, af, gd⟩ (.string (bs.extract 0 j.toNat)) :=
  m_strSlice h hx (.inl ⟨rfl, rfl⟩) (.inr ⟨hi, kk, rfl, by rw [hy, Int.toNat_of_nonneg h0]⟩) (Nat.zero_le _) (by omega)
def u8e (x : Nat) : List Value := [.int .u8 (x : Int)]
def strOf (l : List Nat) : ByteArray := ⟨(l.map UInt8.ofNat).toArray⟩
theorem u8_ok (l : List Nat) : ElOk 1 (l.map u8e) := ⟨fun e he => by
    obtain ⟨x, _, rfl⟩ := List.mem_map.1 he; rfl, fun e he v hv => by
    obtain ⟨x, _, rfl⟩ := List.mem_map.1 he
    simp [u8e] at hv; subst hv; rfl⟩
theorem strOf_toList (l : List Nat) : (strOf l).toList = l.map UInt8.ofNat := ByteArray.toList_mk _
theorem T.bytesToString {A : HP} {F : List HP} {base : Option Addr} {n cap : Nat} {l : List Nat} (hs : Sel s A F) (h : Src A base n 1 (l.map u8e)) :
    T P E (Conv.bytesToString (.slice base n cap)) s (fun v B => v = .string (strOf l) ∧ B = s) := by
  refine T.pre (p := base = none → (l.map u8e) = []) (hs.pure fun r f k => h.nil r f k) fun k2 => ?_
  unfold Conv.bytesToString
  cases base with
  | none =>
    have := k2 rfl
    simp at this; subst this
    exact T.calm (Calm.pure _) ⟨rfl, rfl⟩
  | some a =>
    simp only
    refine T.bind (Q := fun x B => x = ((l.map u8e).flatten).toArray ∧ B = s) (T.sel hs (T.loadCells (A := A) (a := a) (n := n) (cs := (l.map u8e).flatten) (by rw [(u8_ok l).flat, ← h.len]; omega) (h.has a rfl))) ?_
    rintro _ B ⟨rfl, rfl⟩
    have key : ∀ (l : List Nat) (s0 : ByteArray), Calm P (forIn (l.map u8e).flatten.toArray s0 fun c s => (match c with
        | .int .u8 n => Pure.pure (ForInStep.yield (s.push (UInt8.ofNat n.toNat)))
        | _ => do
          stuck "bytesToString: byte expected"
          Pure.pure (ForInStep.yield s) : Sem (ForInStep ByteArray))) ⟨s0.data ++ (l.map UInt8.ofNat).toArray⟩ := by
      intro l
      induction l with
      | nil => intro s0; rw [List.forIn_toArray]; simp only [List.map_nil, List.flatten_nil, List.forIn_nil]; exact (by simpa using Calm.pure s0)
      | cons x l ih =>
        intro s0
        rw [List.forIn_toArray]
        simp only [List.map_cons, List.flatten_cons, u8e, List.cons_append, List.nil_append, List.forIn_cons]
        refine (Calm.pure _).bind ?_
        simp only
        have := ih (s0.push (UInt8.ofNat x))
        rw [List.forIn_toArray] at this
        have e : (⟨(s0.push (UInt8.ofNat x)).data ++ (l.map UInt8.ofNat).toArray⟩ : ByteArray) = ⟨s0.data ++ (UInt8.ofNat x :: l.map UInt8.ofNat).toArray⟩ := by
          congr 1
          apply Array.ext'
          simp [ByteArray.push]
        rw [e] at this
        exact this
    refine T.calmBind (key l ByteArray.empty) (T.calm (Calm.pure _) ⟨?_, rfl⟩)
    congr 1
    unfold strOf
    congr 1
    simp
theorem l_toStr {t1 t2 e : TypeId} {x : Operand} {A : HP} {F : List HP} {base : Option Addr} {n cap : Nat} {l : List Nat} (h1 : TyU P t1 (.slice e)) (h2 : TyU P t2 .string) (h3 : TyU P e (.int .u8)) (hx : ev L x = some (.slice base n cap)) (hs : Sel s A F) (h : Src A base n 1 (l.map u8e)) : Lt P E L s ⟨dst, .convert t1 t2 x, ty, pos, af, gd⟩ (.string (strOf l)) :=
  Lt.of rfl (fun e' he => by
    unfold execOp; simp only [he _ _ hx]
    refine T.bind (Q := fun v B => v = .string (strOf l) ∧ B = s) ?_ fun v B ⟨e1, e2⟩ => T.calm (Calm.pure _) ⟨by rw [e1], e2⟩
    unfold convert
    refine T.calmBind (Calm.underlying h1.h) (T.calmBind (Calm.underlying h2.h) ?_)
    simp only
    refine T.calmBind (Calm.underlying h3.h) ?_
    exact T.bytesToString hs h)
theorem l_toStrR {t1 t2 e : TypeId} {x : Operand} {F : List HP} {base : Option Addr} {n cap : Nat} {l : List Nat} (h1 : TyU P t1 (.slice e)) (h2 : TyU P t2 .string) (h3 : TyU P e (.int .u8)) (hx : ev L x = some (.slice base n cap)) (hs : Sel s (rsl base cap 1 (l.map u8e)) F) (hn : l.length = n) : Lt P E L s ⟨dst, .convert t1 t2 x, ty, pos, af, gd⟩ (.string (strOf l)) := l_toStr h1 h2 h3 hx hs (Src.rsl (by simpa using hn))
theorem l_toStrO {t1 t2 e T : TypeId} {x : Operand} {F : List HP} {base : Option Addr} {n cap : Nat} {l : List Nat} (h1 : TyU P t1 (.slice e)) (h2 : TyU P t2 .string) (h3 : TyU P e (.int .u8)) (hx : ev L x = some (.slice base n cap)) (hs : Sel s (osl base cap T 1 (l.map u8e)) F) (hn : l.length = n) : Lt P E L s ⟨dst, .convert t1 t2 x, ty, pos, af, gd⟩ (.string (strOf l)) := l_toStr h1 h2 h3 hx hs (Src.osl (by simpa using hn))
theorem strOf_inj {l m : List Nat} (hl : ∀ x ∈ l, x < 256) (hm : ∀ x ∈ m, x < 256) : ((strOf l).toList == (strOf m).toList) = decide (l = m) := by
  rw [strOf_toList, strOf_toList]
  have key : ∀ {l m : List Nat}, (∀ x ∈ l, x < 256) → (∀ x ∈ m, x < 256) → l.map UInt8.ofNat = m.map UInt8.ofNat → l = m := by
    intro l
    induction l with
    | nil => intro m _ _ h; cases m with
      | nil => rfl
      | cons => simp at h
    | cons a l ih =>
      intro m h1 h2 h
      cases m with
      | nil => simp at h
      | cons b m =>
        simp only [List.map_cons, List.cons.injEq] at h
        have ha := h1 a (by simp)
        have hb := h2 b (by simp)
        have : a = b := by
          have := congrArg UInt8.toNat h.1
          simpa [UInt8.toNat_ofNat', Nat.mod_eq_of_lt ha, Nat.mod_eq_of_lt hb] using this
        rw [this, ih (fun x hx => h1 x (by simp [hx])) (fun x hx => h2 x (by simp [hx])) h.2]
  by_cases h : l = m
  · subst h; simp
  · have : ¬ (l.map UInt8.ofNat = m.map UInt8.ofNat) := fun x => h (key hl hm x)
    simp [h, this]

/-- A block that is never written again. -/
def rbox (bb : Nat) (c : List Value) : HP := ro (fun r => ∀ i v, c[i]? = some v → r.cell ⟨bb, i, none⟩ = some v) fun h g i v e => h.cell (g i v e)
instance {bb : Nat} {c : List Value} : (rbox bb c).Dup := ⟨fun h => h⟩
theorem rbox_has {bb off : Nat} {c : List Value} {v : Value} (h : c[off]? = some v) : Has (rbox bb c) ⟨bb, off, none⟩ v := fun r f k => .inr (k off v h)
theorem l_loadT1 {t : TypeId} {z : List Value} {x : Operand} {bb off : Nat} {c : List Value} {v : Value} {F : List HP} (h : TyN P t false 1 z) (hx : ev L x = some (.pointer (some ⟨bb, off, none⟩))) (hs : Sel s (rbox bb c) F) (hv : c[off]? = some v) : Lt P E L s ⟨dst, .load t x, ty, pos, af, gd⟩ v := l_loadA1 h hx hs (rbox_has hv)
theorem l_loadTN {t : TypeId} {sz : Nat} {z : List Value} {x : Operand} {bb off : Nat} {c cs : List Value} {F : List HP} (h : TyN P t true sz z) (hx : ev L x = some (.pointer (some ⟨bb, off, none⟩))) (hs : Sel s (rbox bb c) F) (hv : getN c off sz = some cs) : Lt P E L s ⟨dst, .load t x, ty, pos, af, gd⟩ (.agg cs.toArray) := by
  obtain ⟨h1, h2⟩ := getN_spec hv
  refine l_loadAN h hx hs h1 fun j v hj => ?_
  rw [add_mk]; exact rbox_has (h2 j v hj)

/-- Values that a struct or an array holds, cell by cell. -/
inductive Sh
  | int | bool | str
def eqC : List Sh → List Value → List Value → Option Bool
  | [], [], [] => some true
  | .int :: sh, .int k a :: xs, .int k' c :: ys => if k = k' then match eqC sh xs ys with
      | some r => some (decide (a = c) && r)
      | none => none
    else none
  | .bool :: sh, .bool a :: xs, .bool c :: ys => match eqC sh xs ys with
      | some r => some ((a == c) && r)
      | none => none
  | .str :: sh, .string a :: xs, .string c :: ys => match eqC sh xs ys with
      | some r => some ((a == c) && r)
      | none => none
  | _, _, _ => none
/-- The shape of a type that holds only numbers, bools and strings. -/
def flds (P : Program) (g : TypeId → Option (List Sh)) : List Field → Nat → Option (List Sh)
  | [], _ => some []
  | f :: fs, off => if (f.name != "_") && Nat.beq f.offset off then match g f.type, P.info? f.type with
      | some sh, some i => if Nat.beq i.size sh.length then match flds P g fs (off + sh.length) with
        | some r => some (sh ++ r)
        | none => none else none
      | _, _ => none
    else none
def shapeOf (P : Program) : Nat → TypeId → Option (List Sh)
  | 0, _ => none
  | n + 1, t => match P.underlying t with
    | some (.int _) => some [.int]
    | some .bool => some [.bool]
    | some .string => some [.str]
    | some (.struct fs) => if P.stoodInHeld t then none else flds P (shapeOf P n) fs.toList 0
    | _ => none
theorem eqC_len : ∀ {sh : List Sh} {xs ys : List Value} {v : Bool}, eqC sh xs ys = some v → xs.length = sh.length ∧ ys.length = sh.length
  | [], [], [], _, _ => ⟨rfl, rfl⟩
  | [], _ :: _, _, _, h => by simp [eqC] at h
  | [], [], _ :: _, _, h => by simp [eqC] at h
  | c :: sh, [], _, _, h => by simp [eqC] at h
  | c :: sh, x :: xs, [], _, h => by cases c <;> cases x <;> simp [eqC] at h
  | c :: sh, x :: xs, y :: ys, v, h => by
    have : ∃ r, eqC sh xs ys = some r := by
      cases hr : eqC sh xs ys with
      | some r => exact ⟨r, rfl⟩
      | none => cases c <;> cases x <;> cases y <;> simp [eqC, hr] at h
    obtain ⟨r, hr⟩ := this
    have := eqC_len hr
    simp [this]
theorem eqC_app : ∀ {s1 s2 : List Sh} {xs ys : List Value} {v : Bool}, eqC (s1 ++ s2) xs ys = some v → ∃ v1 v2, eqC s1 (xs.take s1.length) (ys.take s1.length) = some v1 ∧ eqC s2 (xs.drop s1.length) (ys.drop s1.length) = some v2 ∧ v = (v1 && v2)
  | [], s2, xs, ys, v, h => ⟨true, v, by simp [eqC], by simpa using h, by simp⟩
  | c :: s1, s2, [], _, _, h => by simp [eqC] at h
  | c :: s1, s2, x :: xs, [], _, h => by cases c <;> cases x <;> simp [eqC] at h
  | c :: s1, s2, x :: xs, y :: ys, v, h => by
    rw [List.cons_append] at h
    have : ∃ r q, eqC (s1 ++ s2) xs ys = some r ∧ v = (q && r) ∧ ∀ (a b : List Value) u, eqC s1 a b = some u → eqC (c :: s1) (x :: a) (y :: b) = some (q && u) := by
      cases hr : eqC (s1 ++ s2) xs ys with
      | none => cases c <;> cases x <;> cases y <;> simp [eqC, hr] at h
      | some r =>
        cases c <;> cases x <;> cases y <;> simp [eqC, hr] at h
        · rename_i k a k' c
          obtain ⟨rfl, rfl⟩ := h
          exact ⟨r, decide (a = c), rfl, rfl, fun a b u hu => by simp [eqC, hu]⟩
        · subst h; exact ⟨r, _, rfl, rfl, fun a b u hu => by simp [eqC, hu]⟩
        · subst h; exact ⟨r, _, rfl, rfl, fun a b u hu => by simp [eqC, hu]⟩
    obtain ⟨r, q, h1, rfl, h2⟩ := this
    obtain ⟨v1, v2, k1, k2, rfl⟩ := eqC_app h1
    exact ⟨q && v1, v2, by simpa using h2 _ _ _ k1, by simpa using k2, by rw [Bool.and_assoc]⟩
/-- Equality of values of such a type. -/
theorem equal_shape (hg : True) : ∀ (n : Nat) (t : TypeId) (sh : List Sh) (i : TypeInfo), shapeOf P n t = some sh → P.info? t = some i → i.size = sh.length →
    (∀ (dp : Nat), n ≤ dp → ∀ (xs ys : Array Value) (off : Nat) (v : Bool), eqC sh ((xs.toList.drop off).take sh.length) ((ys.toList.drop off).take sh.length) = some v → ∃ vx vy, Calm P (Go.part t xs off) vx ∧ Calm P (Go.part t ys off) vy ∧ Calm P (Op.equalIn dp t vx vy) v) ∧
    (∀ (dp : Nat), n ≤ dp → ∀ (xs ys : Array Value) (v : Bool) (fs : Array Field), P.underlying t = some (.struct fs) → eqC sh xs.toList ys.toList = some v → Calm P (Op.equalIn dp t (.agg xs) (.agg ys)) v) := by
  intro n
  induction n with
  | zero => intro t sh i h; simp [shapeOf] at h
  | succ n ih =>
    intro t sh i h hi hsz
    have second : ∀ (dp : Nat), n + 1 ≤ dp → ∀ (xs ys : Array Value) (v : Bool) (fs : Array Field), P.underlying t = some (.struct fs) → eqC sh xs.toList ys.toList = some v → Calm P (Op.equalIn dp t (.agg xs) (.agg ys)) v := by
      intro dp hdp xs ys v fs hu hv
      obtain ⟨dp, rfl⟩ : ∃ m, dp = m + 1 := ⟨dp - 1, by omega⟩
      unfold shapeOf at h
      rw [hu] at h
      simp only at h
      split at h
      · cases h
      · rename_i hst
        unfold Op.equalIn
        refine (Calm.underlying hu).bind ?_
        simp only
        refine Calm.program.bind ?_
        simp only [hst, Bool.false_eq_true, if_false]
        rw [← Array.forIn_toList]
        have loop : ∀ (fl : List Field) (off : Nat) (r : List Sh) (v : Bool), flds P (shapeOf P n) fl off = some r → eqC r (xs.toList.drop off) (ys.toList.drop off) = some v →
            Calm P (forIn fl (none, ()) (fun (f : Field) (_ : Option Bool × Unit) => (if f.name ≠ "_" then do
              let a ← Go.part f.type xs f.offset
              let c ← Go.part f.type ys f.offset
              let q ← Op.equalIn dp f.type a c
              if (!q) = true then Pure.pure (ForInStep.done (some false, ())) else Pure.pure (ForInStep.yield (none, ()))
            else Pure.pure (ForInStep.yield (none, ())) : Sem (ForInStep (Option Bool × Unit))))) (if v then (none, ()) else (some false, ())) := by
          intro fl
          induction fl with
          | nil =>
            intro off r v hr hv
            simp [flds] at hr; subst hr
            have : v = true := by
              cases hx : xs.toList.drop off <;> cases hy : ys.toList.drop off <;> simp [eqC, hx, hy] at hv
              exact hv
            subst this
            simp only [List.forIn_nil, if_true]; exact Calm.pure _
          | cons f fl ihf =>
            intro off r v hr hv
            unfold flds at hr
            split at hr
            · rename_i hc
              simp only [Bool.and_eq_true, bne_iff_ne] at hc
              have hoff := Nat.eq_of_beq_eq_true hc.2
              split at hr
              · rename_i sh' i' e1 e2
                split at hr
                · rename_i hb
                  have hb := Nat.eq_of_beq_eq_true hb
                  split at hr
                  · rename_i r' e3
                    cases hr
                    obtain ⟨v1, v2, k1, k2, rfl⟩ := eqC_app hv
                    obtain ⟨vx, vy, p1, p2, p3⟩ := (ih f.type sh' i' e1 e2 hb).1 dp (by omega) xs ys off v1 k1
                    rw [List.forIn_cons]
                    simp only [hc.1, ne_eq, not_false_eq_true, if_true, hoff]
                    rw [List.drop_drop, List.drop_drop] at k2
                    have k3 := ihf _ _ _ e3 k2
                    refine Calm.bind (a := if v1 then ForInStep.yield (none, ()) else ForInStep.done (some false, ())) (p1.bind (p2.bind (p3.bind ?_))) ?_
                    · cases v1 <;> exact Calm.pure _
                    · cases v1
                      · exact Calm.pure _
                      · simpa using k3
                  · cases hr
                · cases hr
              · cases hr
            · cases hr
        refine Calm.bind (loop fs.toList 0 sh v h (by simpa using hv)) ?_
        cases v <;> exact Calm.pure _
    refine ⟨fun dp hdp xs ys off v hv => ?_, second⟩
    have hlx := (eqC_len hv).1
    have hly := (eqC_len hv).2
    have scalar : ∀ (d : TypeDesc) (c : Sh), P.underlying t = some d → (match d with | .struct _ | .array _ _ => true | _ => false) = false → sh = [c] → ∃ x y, xs[off]? = some x ∧ ys[off]? = some y ∧ eqC [c] [x] [y] = some v ∧ Calm P (Go.part t xs off) x ∧ Calm P (Go.part t ys off) y := by
      intro d c hu hd hsh
      subst hsh
      obtain ⟨x, hx⟩ := List.length_eq_one_iff.1 hlx
      obtain ⟨y, hy⟩ := List.length_eq_one_iff.1 hly
      rw [hx, hy] at hv
      have gx : xs[off]? = some x := by
        have : ((xs.toList.drop off).take [c].length)[0]? = some x := by rw [hx]; rfl
        rw [List.getElem?_take] at this
        simpa using this
      have gy : ys[off]? = some y := by
        have : ((ys.toList.drop off).take [c].length)[0]? = some y := by rw [hy]; rfl
        rw [List.getElem?_take] at this
        simpa using this
      have hagg : Calm P (Go.isAgg t) false := by
        refine (Calm.underlying hu).bind ?_
        cases d <;> simp at hd <;> exact Calm.pure _
      refine ⟨x, y, gx, gy, hv, ?_, ?_⟩
      · unfold Go.part; refine hagg.bind ?_
        simp only [Bool.false_eq_true, if_false, gx]; exact Calm.pure _
      · unfold Go.part; refine hagg.bind ?_
        simp only [Bool.false_eq_true, if_false, gy]; exact Calm.pure _
    have h0 := h
    unfold shapeOf at h
    obtain ⟨dp, rfl⟩ : ∃ m, dp = m + 1 := ⟨dp - 1, by omega⟩
    split at h
    · rename_i k hu
      cases h
      obtain ⟨x, y, _, _, h3, h4, h5⟩ := scalar _ .int hu rfl rfl
      refine ⟨x, y, h4, h5, ?_⟩
      cases x <;> cases y <;> simp [eqC] at h3
      obtain ⟨rfl, rfl⟩ := h3
      unfold Op.equalIn
      refine (Calm.underlying hu).bind ?_
      simp only [if_true]
      exact Calm.pure _
    · rename_i hu
      cases h
      obtain ⟨x, y, _, _, h3, h4, h5⟩ := scalar _ .bool hu rfl rfl
      refine ⟨x, y, h4, h5, ?_⟩
      cases x <;> cases y <;> simp [eqC] at h3
      subst h3
      unfold Op.equalIn
      refine (Calm.underlying hu).bind ?_
      exact Calm.pure _
    · rename_i hu
      cases h
      obtain ⟨x, y, _, _, h3, h4, h5⟩ := scalar _ .str hu rfl rfl
      refine ⟨x, y, h4, h5, ?_⟩
      cases x <;> cases y <;> simp [eqC] at h3
      subst h3
      unfold Op.equalIn
      refine (Calm.underlying hu).bind ?_
      exact Calm.pure _
    · rename_i fs hu
      have hagg : Calm P (Go.isAgg t) true := (Calm.underlying hu).bind (Calm.pure _)
      have hsz' : Calm P (Go.sizeOf t) sh.length := by rw [← hsz]; exact Calm.sizeOf hi
      have hp : ∀ zs : Array Value, Calm P (Go.part t zs off) (.agg (zs.extract off (off + sh.length))) := fun zs => by
        unfold Go.part; refine hagg.bind ?_
        simp only [if_true]
        exact hsz'.bind (Calm.pure _)
      refine ⟨_, _, hp xs, hp ys, second (dp + 1) hdp _ _ v fs hu ?_⟩
      simp only [Array.toList_extract, List.extract_eq_take_drop]
      rw [show off + sh.length - off = sh.length by omega]; exact hv
    · cases h
class TyEq (P : Program) (t : TypeId) (sh : outParam (List Sh)) : Prop where
  h : ∃ i fs, shapeOf P 8 t = some sh ∧ P.info? t = some i ∧ i.size = sh.length ∧ P.underlying t = some (.struct fs) ∧ P.eqGuardType P.depth t = false
theorem Calm.aggEq {t : TypeId} {sh : List Sh} {xs ys : Array Value} {v : Bool} (h : TyEq P t sh) (hv : eqC sh xs.toList ys.toList = some v) : Calm P (Op.equal t (.agg xs) (.agg ys)) v := by
  obtain ⟨i, fs, h1, h2, h3, h4, _⟩ := h.h
  exact (equal_shape trivial 8 t sh i h1 h2 h3).2 10000 (by omega) xs ys v fs h4 hv
theorem Calm.aggGuard {t : TypeId} {sh : List Sh} {op : BinOp} {x y : Operand} {xs ys : Array Value} (h : TyEq P t sh) : Calm P (Go.eqGuard op t x y (.agg xs) (.agg ys)) () := by
  obtain ⟨i, fs, h1, h2, h3, h4, h5⟩ := h.h
  have main : Calm P (do
      let p ← Go.program
      let q ← Go.program
      if (!p.eqGuardType q.depth t) = true then Pure.pure ()
        else do
          let r ← Op.eqGuardIn Op.maxDepth t (Value.agg xs) (Value.agg ys)
          if r = true then
              unsupported (Unsupported.noEntry "binop/eql: two nil values of an interface type with methods, in a part of a struct or an array")
            else Pure.pure () : Sem Unit) () := by
    refine Calm.program.bind (Calm.program.bind ?_)
    simp only [h5, Bool.not_false, if_true]
    exact Calm.pure _
  unfold Go.eqGuard
  cases op
  case eql => exact main
  case neq => exact main
  all_goals exact Calm.pure _
theorem m_aggEq {t1 t2 : TypeId} {x y : Operand} {xs ys : Array Value} {sh : List Sh} {v : Bool} (h : TyEq P t1 sh) (hx : ev L x = some (.agg xs)) (hy : ev L y = some (.agg ys)) (hv : eqC sh xs.toList ys.toList = some v) : Cm P L ⟨dst, .binOp .eql t1 x y t2, ty, pos, af, gd⟩ (.bool v) :=
  Cm.of rfl (fun e' he => by
    unfold execOp; simp only [he _ _ hx, he _ _ hy]
    refine Calm.bind (a := .bool v) ?_ (Calm.pure _)
    refine Calm.bind (a := ()) (Calm.aggGuard h) ?_
    unfold Go.binOp
    exact (Calm.aggEq h hv).bind (Calm.pure _))
theorem m_aggNe {t1 t2 : TypeId} {x y : Operand} {xs ys : Array Value} {sh : List Sh} {v : Bool} (h : TyEq P t1 sh) (hx : ev L x = some (.agg xs)) (hy : ev L y = some (.agg ys)) (hv : eqC sh xs.toList ys.toList = some v) : Cm P L ⟨dst, .binOp .neq t1 x y t2, ty, pos, af, gd⟩ (.bool (!v)) :=
  Cm.of rfl (fun e' he => by
    unfold execOp; simp only [he _ _ hx, he _ _ hy]
    refine Calm.bind (a := .bool (!v)) ?_ (Calm.pure _)
    refine Calm.bind (a := ()) (Calm.aggGuard h) ?_
    unfold Go.binOp
    exact (Calm.aggEq h hv).bind (Calm.pure _))
/-- Against nil. -/
theorem m_sliceNil {t1 t2 e : TypeId} {x y : Operand} {base : Option Addr} {n cap n2 cap2 : Nat} (h : TyU P t1 (.slice e)) (hx : ev L x = some (.slice base n cap)) (hy : ev L y = some (.slice none n2 cap2)) : Cm P L ⟨dst, .binOp .eql t1 x y t2, ty, pos, af, gd⟩ (.bool base.isNone) :=
  Cm.of rfl (fun e' he => by
    unfold execOp; simp only [he _ _ hx, he _ _ hy]
    refine Calm.bind (a := .bool base.isNone) ?_ (Calm.pure _)
    refine Calm.bind (a := ()) (by unfold eqGuard; exact Calm.pure _) ?_
    unfold Go.binOp Op.equal Op.maxDepth Op.equalIn
    refine Calm.bind (a := base.isNone) ((Calm.underlying h.h).bind ?_) (Calm.pure _)
    cases base <;> exact Calm.pure _)
theorem m_sliceNilN {t1 t2 e : TypeId} {x y : Operand} {base : Option Addr} {n cap n2 cap2 : Nat} (h : TyU P t1 (.slice e)) (hx : ev L x = some (.slice base n cap)) (hy : ev L y = some (.slice none n2 cap2)) : Cm P L ⟨dst, .binOp .neq t1 x y t2, ty, pos, af, gd⟩ (.bool (!base.isNone)) :=
  Cm.of rfl (fun e' he => by
    unfold execOp; simp only [he _ _ hx, he _ _ hy]
    refine Calm.bind (a := .bool (!base.isNone)) ?_ (Calm.pure _)
    refine Calm.bind (a := ()) (by unfold eqGuard; exact Calm.pure _) ?_
    unfold Go.binOp Op.equal Op.maxDepth Op.equalIn
    refine Calm.bind (a := base.isNone) ((Calm.underlying h.h).bind ?_) (Calm.pure _)
    cases base <;> exact Calm.pure _)
theorem m_ptrNil {t1 t2 e : TypeId} {x y : Operand} {a : Option Addr} (h : TyU P t1 (.pointer e)) (hx : ev L x = some (.pointer a)) (hy : ev L y = some (.pointer none)) : Cm P L ⟨dst, .binOp .eql t1 x y t2, ty, pos, af, gd⟩ (.bool a.isNone) :=
  Cm.of rfl (fun e' he => by
    unfold execOp; simp only [he _ _ hx, he _ _ hy]
    refine Calm.bind (a := .bool a.isNone) ?_ (Calm.pure _)
    refine Calm.bind (a := ()) (by unfold eqGuard; exact Calm.pure _) ?_
    unfold Go.binOp Op.equal Op.maxDepth Op.equalIn
    refine Calm.bind (a := a.isNone) ((Calm.underlying h.h).bind ?_) (Calm.pure _)
    cases a <;> exact Calm.pure _)
theorem m_ptrNilN {t1 t2 e : TypeId} {x y : Operand} {a : Option Addr} (h : TyU P t1 (.pointer e)) (hx : ev L x = some (.pointer a)) (hy : ev L y = some (.pointer none)) : Cm P L ⟨dst, .binOp .neq t1 x y t2, ty, pos, af, gd⟩ (.bool (!a.isNone)) :=
  Cm.of rfl (fun e' he => by
    unfold execOp; simp only [he _ _ hx, he _ _ hy]
    refine Calm.bind (a := .bool (!a.isNone)) ?_ (Calm.pure _)
    refine Calm.bind (a := ()) (by unfold eqGuard; exact Calm.pure _) ?_
    unfold Go.binOp Op.equal Op.maxDepth Op.equalIn
    refine Calm.bind (a := a.isNone) ((Calm.underlying h.h).bind ?_) (Calm.pure _)
    cases a <;> exact Calm.pure _)
end
class Mixed (P : Program) : Prop where
  h : P.follows .mixedOrders = true
end Go.KL
