/- Own program logic, part 15: append, new slices, slices of slices, as operations. -/
import Derived.Test.YtjcbjclhagobiaaDoorKn
namespace Go.KL
open Go

theorem lay_eq {c vs : List Value} {off : Nat} (h : off + vs.length ≤ c.length) : lay c off vs = c.take off ++ vs ++ c.drop (off + vs.length) := by
  apply List.ext_getElem?
  intro j
  rw [lay_get _ _ _ _ h]
  by_cases h1 : j < off
  · have : ¬ (off ≤ j ∧ j < off + vs.length) := by omega
    simp only [this, if_false]
    rw [List.append_assoc, List.getElem?_append_left (by simp; omega), List.getElem?_take]; simp [h1]
  · by_cases h2 : j < off + vs.length
    · have : off ≤ j ∧ j < off + vs.length := by omega
      simp only [this, and_self, if_true]
      rw [List.append_assoc, List.getElem?_append_right (by simp; omega), List.getElem?_append_left (by simp; omega)]
      congr 1; simp; omega
    · have : ¬ (off ≤ j ∧ j < off + vs.length) := by omega
      simp only [this, if_false]
      rw [List.getElem?_append_right (by simp; omega), List.getElem?_drop]
      congr 1; simp; omega
/-- Cells laid over others, worked out. -/
def layO : List Value → Nat → List Value → Option (List Value)
  | c, _, [] => some c
  | _ :: c, 0, v :: vs => match layO c 0 vs with
    | some r => some (v :: r)
    | none => none
  | x :: c, n + 1, v :: vs => match layO c n (v :: vs) with
    | some r => some (x :: r)
    | none => none
  | [], _, _ :: _ => none
theorem lay_zero {x : Value} : ∀ {vs c : List Value} {n : Nat}, lay (x :: c) (n + 1) vs = x :: lay c n vs
  | [], _, _ => rfl
  | v :: vs, c, n => by simp only [lay, List.set_cons_succ]; exact lay_zero
theorem layO_eq : ∀ {vs c c' : List Value} {n : Nat}, layO c n vs = some c' → c' = lay c n vs ∧ n + vs.length ≤ c.length ∨ vs = [] ∧ c' = c
  | [], c, c', n, h => by simp [layO] at h; exact .inr ⟨rfl, h.symm⟩
  | v :: vs, [], c', n, h => by cases n <;> simp [layO] at h
  | v :: vs, x :: c, c', 0, h => by
    left
    simp only [layO] at h
    split at h
    · rename_i r hr
      cases h
      simp only [lay, List.set_cons_zero, lay_zero]
      rcases layO_eq hr with ⟨h1, h2⟩ | ⟨h1, h2⟩
      · exact ⟨by rw [h1], by simp; omega⟩
      · subst h1; subst h2; exact ⟨rfl, by simp⟩
    · cases h
  | v :: vs, x :: c, c', n + 1, h => by
    left
    simp only [layO] at h
    split at h
    · rename_i r hr
      cases h
      rw [lay_zero]
      rcases layO_eq hr with ⟨h1, h2⟩ | ⟨h1, h2⟩
      · exact ⟨by rw [h1], by simp at h2 ⊢; omega⟩
      · cases h1
    · cases h
/-- The elements of a literal. -/
def esOf (sz : Nat) : Nat → List (Nat × Value) → Option (List (List Value))
  | _, [] => some []
  | i, (j, v) :: ps => match Nat.beq i j && lenIs (valC v) sz && allOne (valC v), esOf sz (i + 1) ps with
    | true, some es => some (valC v :: es)
    | _, _ => none
theorem esOf_spec {sz : Nat} : ∀ {ps : List (Nat × Value)} {i : Nat} {es : List (List Value)} {c : List Value}, esOf sz i ps = some es → c.length = (i + es.length) * sz → ElOk sz es ∧ fillL (fun i => some (i * sz, sz)) c ps = some (c.take (i * sz) ++ es.flatten)
  | [], i, es, c, h, hc => by
    cases h
    refine ⟨⟨fun e he => (by cases he), fun e he => (by cases he)⟩, ?_⟩
    simp only [List.length_nil, Nat.add_zero] at hc
    simp [fillL, ← hc]
  | (j, v) :: ps, i, es, c, h, hc => by
    unfold esOf at h
    split at h
    · rename_i es' h1 h2
      cases h
      simp only [Bool.and_eq_true] at h1
      obtain ⟨⟨e1, e2⟩, e3⟩ := h1
      have e1 := Nat.eq_of_beq_eq_true e1
      subst e1
      have hl := lenIs_eq e2
      simp only [List.length_cons] at hc
      have hb : i * sz + sz ≤ c.length := by rw [hc, Nat.add_mul, Nat.add_mul]; omega
      obtain ⟨k1, k2⟩ := esOf_spec (sz := sz) (c := lay c (i * sz) (valC v)) h2 (by rw [lay_length, hc]; congr 1; omega)
      refine ⟨⟨fun e he => ?_, fun e he => ?_⟩, ?_⟩
      · rcases List.mem_cons.1 he with rfl | he
        · exact hl
        · exact k1.len e he
      · rcases List.mem_cons.1 he with rfl | he
        · exact allOne_mem e3
        · exact k1.one e he
      · unfold fillL
        simp only [e2, Bool.true_and, Nat.ble_eq, hb, if_true]
        rw [k2, lay_eq (by omega), List.flatten_cons]
        congr 1
        have t1 : (i + 1) * sz = i * sz + sz := by rw [Nat.add_mul]; omega
        rw [t1, List.take_append_of_le_length (by simp; omega), List.take_of_length_le (by simp; omega), List.append_assoc]
    · cases h
theorem repl_flat {z : List Value} {n j : Nat} (hj : j < n * z.length) : (List.replicate n z).flatten[j]? = z[j % z.length]? := by
  induction n generalizing j with
  | zero => simp at hj
  | succ n ih =>
    rw [List.replicate_succ, List.flatten_cons]
    by_cases h : j < z.length
    · rw [List.getElem?_append_left h, Nat.mod_eq_of_lt h]
    · rw [List.getElem?_append_right (by omega), ih (by rw [Nat.add_mul] at hj; omega)]
      rw [show j % z.length = (j - z.length) % z.length from Nat.mod_eq_sub_mod (by omega)]

section
variable {P : Program} {E : Env} {X : Xs} {b : Fx} {Post : Value → List HP → Prop} {k : List Item} {L : Tm} {s : List HP} {d : Nat} {dst : Option Nat} {ty : TypeId} {pos : String} {af : Array Edge} {gd : Option (Nat × Bool)}

theorem Ex.builtin {bi : Builtin} {args : Array Operand} {ats : Array TypeId} {vs : List Value} {Q : Value → List HP → Prop} (ha : evs L args.toList = some vs) (h : ∀ t cs, T P E (Go.builtin bi ats t cs vs.toArray) s (fun nx s' => ∃ v, nx = .value v ∧ Q v s')) :
    Ex P E X b L s ⟨dst, .call ⟨.builtin bi, args, ats⟩, ty, pos, af, gd⟩ Q :=
  Ex.op rfl (.inr rfl) (fun e' he => by
    unfold execOp; simp only
    unfold resolve
    simp only
    refine T.calmBind (Calm.pure _) ?_
    simp only [invoke]
    have : args.map e' = vs.toArray := by
      apply Array.ext'
      simpa using evs_map he ha
    rw [this]
    exact T.cons (h _ _) fun nx s' ⟨v, h1, h2⟩ => ⟨v, .inl h1, h2⟩)
theorem x_append {x y : Operand} {t1 t2 elem : TypeId} {d2 : TypeDesc} {agg : Bool} {sz bytes n n2 cap cap2 : Nat} {z : List Value} {base base2 : Option Addr} {es es2 : List (List Value)} {A2 : HP} {F1 F : List HP}
    (h1 : TyU P t1 (.slice elem)) (h2 : TyU P t2 d2) (he : TyN P elem agg sz z) (hby : TyB P elem bytes) (hx : ev L x = some (.slice base n cap)) (hy : ev L y = some (.slice base2 n2 cap2)) (hs : Sel s (osl base cap elem sz es) F1) (hs2 : Sel F1 A2 F) (hsrc : Src A2 base2 n2 sz es2)
    (hn : es.length = n) (hd : ∀ k, d2 ≠ .int k) (hzl : lenIs z sz = true) (hz : 0 < bytes) (hroom : (2 * (n + n2) + 512) * bytes ≤ 281474976710656) :
    Ex P E X b L s ⟨dst, .call ⟨.builtin .append, #[x, y], #[t1, t2]⟩, ty, pos, af, gd⟩ (fun v s' => ∃ base' cap', v = .slice base' (n + n2) cap' ∧ s' = osl base' cap' elem sz (es ++ es2) :: A2 :: F) := by
  refine Ex.builtin (vs := [.slice base n cap, .slice base2 n2 cap2]) (by show evs L [x, y] = _; simp [evs, hx, hy]) fun t cs => ?_
  unfold Go.builtin
  simp only
  refine T.bind (Q := fun v s' => ∃ base' cap', v = .slice base' (n + n2) cap' ∧ s' = osl base' cap' elem sz (es ++ es2) :: A2 :: F) (T.sels (.cons hs (.cons hs2 .nil)) (T.append h1 h2 hd he hby hn hsrc hroom (lenIs_eq hzl) hz) fun a A' ⟨bb, cc, e1, e2⟩ => ⟨bb, cc, e1, by rw [e2]; rfl⟩) ?_
  rintro v s' hq
  exact T.calm (Calm.pure _) ⟨v, rfl, hq⟩
theorem T.newO {e : TypeId} {c : List Value} {sz cap : Nat} {es : List (List Value)} (h1 : ElOk sz es) (h2 : es.length ≤ cap) (h3 : cap * sz ≤ c.length) (h4 : ∀ (j : Nat) (v : Value), es.flatten[j]? = some v → c[j]? = some v) :
    T P E (Go.newRow e c.toArray) s (fun a B => ∃ bb, a = ⟨bb, 0, none⟩ ∧ B = osl (some ⟨bb, 0, none⟩) cap e sz es :: s) :=
  T.ext (Q := fun a B => ∃ bb, a = ⟨bb, 0, none⟩ ∧ B = [osl (some ⟨bb, 0, none⟩) cap e sz es]) (T.conv (A0 := []) (T.newRow (t := e) c) (fun _ _ _ => trivial) (fun a A' ⟨bb, e1, e2⟩ => by
    subst e2
    exact ⟨_, osl_of h1 h2 (by omega) (fun j v hj => by rw [Nat.zero_add]; exact h4 j v hj), bb, e1, rfl⟩)) fun a A ⟨bb, e1, e2⟩ => ⟨bb, e1, by rw [e2]; rfl⟩
theorem zeros_get {z : Array Value} {n j : Nat} (hj : j < n) (hz : 0 < z.size) : ((Array.range n).map (z[· % z.size]!))[j]? = z[j % z.size]? := by
  simp [hj, Nat.mod_lt _ hz]
theorem x_buildSlice {t e : TypeId} {agg : Bool} {sz len : Nat} {z : List Value} {parts : Array (Nat × Operand)} {ps : List (Nat × Value)} {es : List (List Value)} (h : TyU P t (.slice e)) (he : TyN P e agg sz z) (hp : evp L parts.toList = some ps) (hes : esOf sz 0 ps = some es) (hlen : es.length = len) (hsm : len * sz ≤ 16777216) :
    Ex P E X b L s ⟨some d, .buildSlice t len parts, ty, pos, af, gd⟩ (fun v s' => ∃ bb, v = .slice (some ⟨bb, 0, none⟩) len len ∧ s' = osl (some ⟨bb, 0, none⟩) len e sz es :: s) := by
  refine Ex.op rfl (.inr rfl) (fun e' he' => ?_)
  unfold execOp; simp only
  have hm : (parts.map fun (i, x) => (i, e' x)) = ps.toArray := by
    apply Array.ext'
    simpa using evp_map he' hp
  rw [hm]
  unfold Instr.buildSlice
  obtain ⟨zv, hzv, hzc⟩ := Calm.zeroValue he
  refine T.bind (Q := fun v s' => ∃ bb, v = .slice (some ⟨bb, 0, none⟩) len len ∧ s' = osl (some ⟨bb, 0, none⟩) len e sz es :: s) ?_ fun v s' hq => T.calm (Calm.pure _) ⟨v, .inl rfl, hq⟩
  refine T.calmBind (Calm.underlying h.h) ?_
  simp only
  refine T.calmBind (Calm.sizeOf' he) ?_
  rw [if_neg (by omega)]
  have key : ∀ zr : Array Value, T P E (match Instr.fill (fun i => some (i * sz, sz)) ((Array.range (len * sz)).map (zr[· % zr.size]!)) ps.toArray.toList with
      | some cells => do pure (.slice (some (← newRow e cells)) len len)
      | _ => stuck "buildSlice: a part of the wrong size" : Sem Value) s (fun v s' => ∃ bb, v = .slice (some ⟨bb, 0, none⟩) len len ∧ s' = osl (some ⟨bb, 0, none⟩) len e sz es :: s) := by
    intro zr
    obtain ⟨k1, k2⟩ := esOf_spec (c := ((Array.range (len * sz)).map (zr[· % zr.size]!)).toList) hes (by simp [hlen])
    have k3 := fill_eq k2
    have e0 : ((Array.range (len * sz)).map (zr[· % zr.size]!)).toList.toArray = (Array.range (len * sz)).map (zr[· % zr.size]!) := Array.toArray_toList
    rw [e0] at k3
    simp only [k3]
    simp only [Nat.zero_mul, List.take_zero, List.nil_append]
    refine T.bind (T.newO (cap := len) k1 (by omega) (by rw [k1.flat, hlen]; omega) (fun j v hj => hj)) ?_
    rintro _ _ ⟨bb, rfl, rfl⟩
    exact T.calm (Calm.pure _) ⟨bb, rfl, rfl⟩
  split
  · exact T.calmBind (Calm.pure _) (key _)
  · exact T.calmBind hzv (T.calmBind (Calm.pure _) (key _))
theorem x_makeSlice {t e : TypeId} {agg : Bool} {sz bytes : Nat} {z : List Value} {x y : Operand} {kk k2 : IntKind} {n c : Int} (h : TyU P t (.slice e)) (he : TyN P e agg sz z) (hb : TyB P e bytes) (hx : ev L x = some (.int kk n)) (hy : ev L y = some (.int k2 c)) (hzl : lenIs z sz = true) (hz1 : allOne z = true) (h0 : 0 ≤ n) (h1 : n ≤ c) (hc : c ≤ 9223372036854775807) (hsm : bytes * c ≤ 281474976710656) :
    Ex P E X b L s ⟨some d, .makeSlice t x y, ty, pos, af, gd⟩ (fun v s' => ∃ bb, v = .slice (some ⟨bb, 0, none⟩) n.toNat c.toNat ∧ s' = osl (some ⟨bb, 0, none⟩) c.toNat e sz (List.replicate n.toNat z) :: s) := by
  have hzl := lenIs_eq hzl
  refine Ex.op rfl (.inr rfl) (fun e' he' => ?_)
  unfold execOp; simp only [he' _ _ hx, he' _ _ hy]
  refine T.bind (Q := fun v s' => ∃ bb, v = .slice (some ⟨bb, 0, none⟩) n.toNat c.toNat ∧ s' = osl (some ⟨bb, 0, none⟩) c.toNat e sz (List.replicate n.toNat z) :: s) ?_ fun v s' hq => T.calm (Calm.pure _) ⟨v, .inl rfl, hq⟩
  unfold Instr.makeSlice
  obtain ⟨zv, hzv, hzc⟩ := Calm.zeroValue he
  obtain ⟨ti, hti, hby⟩ := hb.h
  refine T.calmBind (Calm.underlying h.h) ?_
  simp only
  refine T.calmBind (a := n) ((Calm.pure _).bind (Calm.pure _)) ?_
  refine T.calmBind (a := c) ((Calm.pure _).bind (Calm.pure _)) ?_
  refine T.calmBind (Calm.typeInfo hti) ?_
  have hwn : IntKind.i64.wrap n = n := wrap_i64 (by omega)
  have hwc : IntKind.i64.wrap c = c := wrap_i64 (by omega)
  simp only [hwn, hwc, hby]
  rw [if_neg (by simp; omega)]
  refine T.bind T.askRoom ?_
  rintro _ B hB
  rw [hB]
  refine T.calmBind (Calm.sizeOf' he) ?_
  have fin : ∀ zr : Array Value, (c.toNat * sz ≠ 0 → zr = z.toArray) → T P E (do
      let a ← newRow e ((Array.range (c.toNat * sz)).map (zr[· % zr.size]!))
      pure (.slice (some a) n.toNat c.toNat) : Sem Value) s (fun v s' => ∃ bb, v = .slice (some ⟨bb, 0, none⟩) n.toNat c.toNat ∧ s' = osl (some ⟨bb, 0, none⟩) c.toNat e sz (List.replicate n.toNat z) :: s) := by
    intro zr hzr
    have e0 : (Array.range (c.toNat * sz)).map (zr[· % zr.size]!) = (((Array.range (c.toNat * sz)).map (zr[· % zr.size]!)).toList).toArray := Array.toArray_toList.symm
    rw [e0]
    refine T.bind (T.newO (cap := c.toNat) (sz := sz) (es := List.replicate n.toNat z) ⟨fun x hx => by rw [List.eq_of_mem_replicate hx, hzl], fun x hx => by rw [List.eq_of_mem_replicate hx]; exact allOne_mem hz1⟩ (by simp; omega) (by simp) (fun j v hj => ?_)) ?_
    · have hjl : j < n.toNat * z.length := by
        have := (List.getElem?_eq_some_iff.1 hj).1
        have hf := flat_len (sz := sz) (es := List.replicate n.toNat z) (fun x hx => by rw [List.eq_of_mem_replicate hx, hzl])
        rw [hf] at this; simpa [hzl] using this
      rw [repl_flat hjl] at hj
      have hjc : j < c.toNat * sz := by
        have := Nat.mul_le_mul_right sz (show n.toNat ≤ c.toNat by omega)
        rw [hzl] at hjl; omega
      have hzp : 0 < sz := by
        rcases Nat.eq_zero_or_pos sz with h | h
        · rw [h] at hjc; omega
        · exact h
      have := hzr (by omega)
      subst this
      rw [Array.getElem?_toList, zeros_get hjc (by simp; omega)]
      simpa using hj
    · rintro _ _ ⟨bb, rfl, rfl⟩
      exact T.calm (Calm.pure _) ⟨bb, rfl, rfl⟩
  split
  · rename_i hz0
    exact T.calmBind (Calm.pure _) (fin _ (fun h => absurd hz0 h))
  · exact T.calmBind hzv (T.calmBind (Calm.pure _) (fin _ (fun _ => hzc)))

/-- The base of a slice of a slice. -/
def slB (base : Option Addr) (cap lo sz : Nat) : Option Addr := if cap = lo then base else base.map (·.add (lo * sz))
theorem Calm.slice {t e : TypeId} {agg : Bool} {sz : Nat} {z : List Value} {base : Option Addr} {n cap lo hi : Nat} {l h : Option Value} (ht : TyU P t (.slice e)) (he : TyN P e agg sz z)
    (hl : (l = none ∧ lo = 0) ∨ ∃ kk, l = some (.int kk lo)) (hh : (h = none ∧ hi = n) ∨ ∃ kk, h = some (.int kk hi)) (h1 : lo ≤ hi) (h2 : hi ≤ cap) : Calm P (Instr.sliceAt t (.slice base n cap) l h none) (.slice (slB base cap lo sz) (hi - lo) (cap - lo)) := by
  unfold Instr.sliceAt
  refine (Calm.underlying ht.h).bind ?_
  simp only
  unfold Instr.slice
  refine (Calm.underlying ht.h).bind ?_
  simp only
  refine Calm.bind (a := (lo, hi, cap)) ?_ ?_
  · unfold Instr.sliceBounds
    refine (Calm.pure _).bind ?_
    have sb : ∀ (kk : IntKind) (i y : Nat) (code : BoundsCode), i ≤ y → Calm P (Instr.sliceBound (.int kk i) y code) i := fun kk i y code hy => by
      unfold Instr.sliceBound
      refine Calm.bind (a := (kk, (i : Int))) (Calm.pure _) ?_
      simp only
      rw [if_pos ⟨by omega, by omega⟩]
      exact Calm.pure _
    rcases hl with ⟨rfl, rfl⟩ | ⟨k1, rfl⟩ <;> rcases hh with ⟨rfl, rfl⟩ | ⟨k2, rfl⟩
    · exact (Calm.pure _).bind ((Calm.pure _).bind (Calm.pure _))
    · exact (sb _ _ _ _ h2).bind ((Calm.pure _).bind (Calm.pure _))
    · exact (Calm.pure _).bind ((sb _ _ _ _ h1).bind (Calm.pure _))
    · exact (sb _ _ _ _ h2).bind ((sb _ _ _ _ h1).bind (Calm.pure _))
  · simp only
    exact (Calm.sizeOf' he).bind (Calm.pure _)
theorem m_sliceLo {t e : TypeId} {agg : Bool} {sz n cap : Nat} {z : List Value} {x lo : Operand} {base : Option Addr} {kk : IntKind} {i : Int} (h : TyU P t (.slice e)) (he : TyN P e agg sz z) (hx : ev L x = some (.slice base n cap)) (hy : ev L lo = some (.int kk i)) (h0 : 0 ≤ i) (h1 : i ≤ n) (h2 : n ≤ cap) :
    Cm P L ⟨dst, .slice t x (some lo) none none, ty, pos, af, gd⟩ (.slice (slB base cap i.toNat sz) (n - i.toNat) (cap - i.toNat)) :=
  Cm.of rfl (fun e' he' => by
    unfold execOp; simp only [he' _ _ hx, Option.map_some, he' _ _ hy, Option.map_none]
    exact (Calm.slice h he (.inr ⟨kk, by rw [Int.toNat_of_nonneg h0]⟩) (.inl ⟨rfl, rfl⟩) (by omega) h2).bind (Calm.pure _))
theorem m_sliceHi {t e : TypeId} {agg : Bool} {sz n cap : Nat} {z : List Value} {x hi : Operand} {base : Option Addr} {kk : IntKind} {i : Int} (h : TyU P t (.slice e)) (he : TyN P e agg sz z) (hx : ev L x = some (.slice base n cap)) (hy : ev L hi = some (.int kk i)) (h0 : 0 ≤ i) (h1 : i ≤ cap) :
    Cm P L ⟨dst, .slice t x none (some hi) none, ty, pos, af, gd⟩ (.slice (slB base cap 0 sz) (i.toNat - 0) (cap - 0)) :=
  Cm.of rfl (fun e' he' => by
    unfold execOp; simp only [he' _ _ hx, Option.map_some, he' _ _ hy, Option.map_none]
    exact (Calm.slice h he (.inl ⟨rfl, rfl⟩) (.inr ⟨kk, by rw [Int.toNat_of_nonneg h0]⟩) (by omega) (by omega)).bind (Calm.pure _))
theorem m_sliceLH {t e : TypeId} {agg : Bool} {sz n cap : Nat} {z : List Value} {x lo hi : Operand} {base : Option Addr} {kk k2 : IntKind} {i j : Int} (h : TyU P t (.slice e)) (he : TyN P e agg sz z) (hx : ev L x = some (.slice base n cap)) (hy : ev L lo = some (.int kk i)) (hy2 : ev L hi = some (.int k2 j)) (h0 : 0 ≤ i) (h1 : i ≤ j) (h2 : j ≤ cap) :
    Cm P L ⟨dst, .slice t x (some lo) (some hi) none, ty, pos, af, gd⟩ (.slice (slB base cap i.toNat sz) (j.toNat - i.toNat) (cap - i.toNat)) :=
  Cm.of rfl (fun e' he' => by
    unfold execOp; simp only [he' _ _ hx, Option.map_some, he' _ _ hy, he' _ _ hy2, Option.map_none]
    exact (Calm.slice h he (.inr ⟨kk, by rw [Int.toNat_of_nonneg h0]⟩) (.inr ⟨k2, by rw [Int.toNat_of_nonneg (by omega)]⟩) (by omega) (by omega)).bind (Calm.pure _))
theorem slB0 {base : Option Addr} {cap sz : Nat} : slB base cap 0 sz = base := by
  unfold slB; split
  · rfl
  · cases base <;> simp [Addr.add]
theorem flat_drop {sz : Nat} : ∀ {es : List (List Value)} {i : Nat}, (∀ e ∈ es, e.length = sz) → es.flatten.drop (i * sz) = (es.drop i).flatten
  | [], i, _ => by simp
  | e :: es, 0, _ => by simp
  | e :: es, i + 1, h => by
    have he := h e (by simp)
    rw [List.drop_succ_cons, List.flatten_cons, ← flat_drop (i := i) (fun x hx => h x (by simp [hx])), show (i + 1) * sz = e.length + i * sz by rw [Nat.add_mul, he]; omega, ← List.drop_drop, List.drop_left]
theorem flat_sub {sz lo m j : Nat} {es : List (List Value)} {v : Value} (h : ∀ e ∈ es, e.length = sz) (hj : ((es.drop lo).take m).flatten[j]? = some v) : es.flatten[lo * sz + j]? = some v := by
  have h1 : (es.drop lo).flatten[j]? = some v := by
    have : (es.drop lo) = (es.drop lo).take m ++ (es.drop lo).drop m := (List.take_append_drop ..).symm
    rw [this, List.flatten_append, List.getElem?_append_left]
    · exact hj
    · rw [List.getElem?_eq_some_iff] at hj; exact hj.1
  rw [← flat_drop h, List.getElem?_drop] at h1; exact h1
theorem rsl_sub {base : Option Addr} {cap sz lo m : Nat} {es : List (List Value)} {r f : Hp} (h : (rsl base cap sz es).p r f) (hl : lo ≤ cap) (hm : lo + m ≤ es.length ∨ True) : (rsl (slB base cap lo sz) (cap - lo) sz ((es.drop lo).take m)).p r f := by
  obtain ⟨h1, h2, h3, h4⟩ := h
  refine ⟨h1.sub fun e he => List.mem_of_mem_drop (List.mem_of_mem_take he), by simp; omega, fun hb => ?_, fun a ha j v hj => ?_⟩
  · unfold slB at hb
    split at hb
    · omega
    · cases base with
      | none => have := h3 rfl; omega
      | some a => cases hb
  · have hj0 := hj
    have h5 : cap = lo → es.drop lo = [] := fun _ => by rw [List.drop_eq_nil_iff]; omega
    have hj := flat_sub h1.len hj
    unfold slB at ha
    split at ha
    · rename_i hc
      exfalso
      have := (List.getElem?_eq_some_iff.1 hj0).1
      rw [h5 hc] at this; simp at this
    · cases base with
      | none => cases ha
      | some a' =>
        simp at ha; subst ha
        rw [add_add]; exact h4 a' rfl _ _ hj
theorem Into.rsl {base : Option Addr} {cap sz : Nat} {es : List (List Value)} {F : List HP} (lo m : Nat) (hs : Sel s (rsl base cap sz es) F) (hl : lo ≤ cap) : Into s (KL.rsl (slB base cap lo sz) (cap - lo) sz ((es.drop lo).take m) :: s) :=
  ⟨fun r f hp => by
    obtain ⟨f1, f2, d, l1, l2, a, _⟩ := hs.out hp
    exact sep_dup (A := KL.rsl (slB base cap lo sz) (cap - lo) sz ((es.drop lo).take m)) (fun h => h) (f' := f1) (rsl_sub a hl (.inr trivial)) hp⟩
theorem Into.nilO {T : TypeId} {sz : Nat} : Into s (osl none 0 T sz [] :: s) :=
  ⟨fun r f hp => ⟨Hp.emp, f, Hp.emp_disj _, Hp.emp_le _, Hp.le_refl _, ⟨⟨fun e he => (by cases he), fun e he => (by cases he)⟩, by simp, fun _ => rfl, fun a h => (by cases h)⟩, hp⟩⟩
theorem Into.nilR {sz : Nat} : Into s (KL.rsl none 0 sz [] :: s) :=
  ⟨fun r f hp => ⟨Hp.emp, f, Hp.emp_disj _, Hp.emp_le _, Hp.le_refl _, ⟨⟨fun e he => (by cases he), fun e he => (by cases he)⟩, by simp, fun _ => rfl, fun a h => (by cases h)⟩, hp⟩⟩
theorem Into.app {s t : List HP} (h : Into s t) {F : List HP} : Into (s ++ F) (t ++ F) := ⟨fun r f hp => by
  obtain ⟨f1, f2, d, l1, l2, h1, h2⟩ := sep_append.1 hp
  exact sep_append.2 ⟨f1, f2, d, l1, l2, h.h _ _ h1, h2⟩⟩
/-- A slice of one's own, to be written no more. -/
theorem Ghost.osl {base : Option Addr} {cap sz : Nat} {T : TypeId} {es : List (List Value)} {F : List HP} (hs : Sel s (KL.osl base cap T sz es) F) : Ghost s (KL.rsl base cap sz es :: F) := by
  intro r f hd hp
  obtain ⟨f1, f2, d, l1, l2, ⟨h1, h2, h3, h4⟩, k⟩ := hs.out hp
  cases base with
  | none =>
    refine ⟨r, f, Hp.le_refl _, Hp.le_refl _, hd, fun n x y => absurd y x, ?_⟩
    exact ⟨Hp.emp, f2, Hp.emp_disj _, Hp.emp_le _, l2, ⟨h1, h2, h3, fun a ha => (by cases ha)⟩, k⟩
  | some a =>
    obtain ⟨h5, c, h6, h7, h8⟩ := h4 a rfl
    have dd : (Hp.one a.block (.cells c.toArray T (0, 0))).disj f2 := d.mono (Hp.one_le h6) (Hp.le_refl _)
    have hro : r.disj (Hp.one a.block (.cells c.toArray T (0, 0))) := hd.mono (Hp.le_refl _) (Hp.one_le (l1.h _ _ h6))
    refine ⟨r.union (Hp.one a.block (.cells c.toArray T (0, 0))), f2, Hp.le_union_left _ _, l2, Hp.union_disj (hd.mono (Hp.le_refl _) l2) dd, fun n x y => ?_, ?_⟩
    · unfold Hp.union at x ⊢
      rw [y] at x ⊢
      simp only [Option.none_or] at x ⊢
      cases e : Hp.one a.block (.cells c.toArray T (0, 0)) n with
      | none => exact absurd e x
      | some o =>
        obtain ⟨rfl, rfl⟩ := Hp.one_some e
        exact l1.h _ _ h6
    · refine ⟨Hp.emp, f2, Hp.emp_disj _, Hp.emp_le _, Hp.le_refl _, ⟨h1, h2, h3, fun a' ha j v hj => ?_⟩, sep_mono (Hp.le_union_left _ _) (Hp.le_refl _) k⟩
      cases ha
      have hr := (Hp.le_union_right hro).h a.block _ (Hp.one_same _ _)
      rw [add_off h5]
      simp [Hp.cell, hr, h8 j v hj]
end
end Go.KL
