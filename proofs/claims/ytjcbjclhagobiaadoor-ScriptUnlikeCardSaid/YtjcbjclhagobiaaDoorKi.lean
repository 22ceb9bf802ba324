/- Own program logic, part 9: memory: variables of the function's own, structs, slices; and the rules by which proofs go on by themselves. -/
import Derived.Test.YtjcbjclhagobiaaDoorKh
namespace Go.KL
open Go

section
variable {P : Program} {E : Env} {X : Xs} {b : Fx} {Post : Value → List HP → Prop} {k : List Item} {L : Tm} {s : List HP} {l rest : List Oper} {d : Nat} {dst : Option Nat} {ty : TypeId} {pos : String} {af : Array Edge} {gd : Option (Nat × Bool)}

theorem W.pure {t : List Item} {p : Prop} (h : ∀ r f, sep s r f → p) (g : p → W P E X b Post t L s) : W P E X b Post t L s := by
  intro K cs F hr tmps r f hok hs
  obtain ⟨f1, f2, d, l1, l2, h1, h2⟩ := sep_append.1 hs
  exact g (h _ _ h1) K cs F hr tmps r f hok hs
theorem WL.pure {p : Prop} (h : ∀ r f, sep s r f → p) (g : p → WL P E X b Post l rest k L s) : WL P E X b Post l rest k L s :=
  fun n e => W.pure h fun x => g x n e
theorem safe_disj {K : Goroutine → Hp → Hp → Prop} {g : Goroutine} {r f : Hp} (hs : g.status = .running) (h : r.disj f → Safe P E X K g r f) : Safe P E X K g r f := by
  by_cases x : r.disj f
  · exact h x
  · exact .step (fun w => (g, w, #[], r, f)) hs (fun w y => absurd y.apart x) (fun w y => absurd y.apart x)
/-- A turning of what is owned into what is never written again. -/
def Ghost (s s' : List HP) : Prop := ∀ r f, r.disj f → sep s r f → ∃ r' f', r.le r' ∧ Hp.le f' f ∧ r'.disj f' ∧ (∀ n, r' n ≠ none → r n = none → f n = r' n) ∧ sep s' r' f'
theorem W.ghost {t : List Item} {s' : List HP} (h : Ghost s s') (g : W P E X b Post t L s') : W P E X b Post t L s := by
  intro K cs F hr tmps r f hok hs
  refine safe_disj rfl fun hdis => ?_
  obtain ⟨f1, f2, d, l1, l2, h1, h2⟩ := sep_append.1 hs
  obtain ⟨r', f1', hr', hf', hd', hn', h1'⟩ := h r f1 (hdis.mono (Hp.le_refl _) l1) h1
  have hd2 : r'.disj f2 := ⟨fun n => by
    cases hc : r' n with
    | none => exact .inl rfl
    | some o =>
      right
      cases hx : r n with
      | some x =>
        rcases hdis.h n with y | y
        · rw [hx] at y; cases y
        · exact l2.none y
      | none =>
        have := hn' n (by rw [hc]; simp) hx
        rcases d.h n with y | y
        · rw [y, hc] at this; cases this
        · exact y⟩
  have dd : f1'.disj f2 := d.mono hf' (Hp.le_refl _)
  refine .ghost (r' := r') (f' := f1'.union f2) hr' (Hp.union_le (hf'.trans l1) l2) (Hp.disj_union hd' hd2) (fun n h1 h2 => ?_) (g K cs F hr tmps r' _ hok ?_)
  · have := hn' n h1 h2
    cases hc : r' n with
    | none => exact absurd hc h1
    | some o => rw [hc] at this; exact l1.h _ _ this
  · exact sep_append.2 ⟨f1', f2, dd, Hp.le_union_left _ _, Hp.le_union_right dd, h1', sep_mono hr' (Hp.le_refl _) h2⟩
theorem WL.ghost {s' : List HP} (h : Ghost s s') (g : WL P E X b Post l rest k L s') : WL P E X b Post l rest k L s := fun n e => W.ghost h (g n e)

/-- Reads out of a block of one's own. -/
theorem l_load1 {t T0 : TypeId} {z : List Value} {x : Operand} {bb off : Nat} {c : List Value} {v : Value} {F : List HP} (h : TyN P t false 1 z) (hx : ev L x = some (.pointer (some ⟨bb, off, none⟩))) (hs : Sel s (box bb c T0) F) (hv : c[off]? = some v) : Lt P E L s ⟨dst, .load t x, ty, pos, af, gd⟩ v :=
  Lt.of rfl (fun e' he => by
    unfold execOp; simp only [he _ _ hx]
    refine T.bind (Q := fun x B => x = v ∧ B = s) (T.calmBind (Calm.pure _) (T.sel hs (T.loadVar1 h (box_has hv)))) ?_
    rintro x B ⟨hx', hB⟩
    exact T.calm (Calm.pure _) ⟨by rw [hx'], hB⟩)
theorem l_loadN {t T0 : TypeId} {sz : Nat} {z : List Value} {x : Operand} {bb off : Nat} {c cs : List Value} {F : List HP} (h : TyN P t true sz z) (hx : ev L x = some (.pointer (some ⟨bb, off, none⟩))) (hs : Sel s (box bb c T0) F) (hv : getN c off sz = some cs) : Lt P E L s ⟨dst, .load t x, ty, pos, af, gd⟩ (.agg cs.toArray) := by
  obtain ⟨h1, h2⟩ := getN_spec hv
  refine Lt.of rfl (fun e' he => ?_)
  unfold execOp; simp only [he _ _ hx]
  refine T.bind (Q := fun x B => x = .agg cs.toArray ∧ B = s) (T.calmBind (Calm.pure _) (T.sel hs (T.loadVarN h h1 (fun j v hj => ?_)))) ?_
  · have e : (⟨bb, off, none⟩ : Addr).add j = ⟨bb, off + j, none⟩ := by unfold Addr.add; split <;> simp_all
    rw [e]; exact box_has (h2 j v hj)
  · rintro x B ⟨hx', hB⟩
    exact T.calm (Calm.pure _) ⟨by rw [hx'], hB⟩
theorem T.loadVarB {t T0 : TypeId} {sz : Nat} {z : List Value} {bb off : Nat} {c cs : List Value} (h : TyN P t true sz z) (hv : getN c off sz = some cs) : T P E (Go.loadVar t ⟨bb, off, none⟩) [box bb c T0] (fun x B => x = .agg cs.toArray ∧ B = [box bb c T0]) := by
  obtain ⟨h1, h2⟩ := getN_spec hv
  refine T.loadVarN h h1 (fun j v hj => ?_)
  have e : (⟨bb, off, none⟩ : Addr).add j = ⟨bb, off + j, none⟩ := by unfold Addr.add; split <;> simp_all
  rw [e]; exact box_has (h2 j v hj)
theorem T.ext {α : Type} {m : Sem α} {s : List HP} {Q : α → List HP → Prop} {R : α → List HP → Prop} (h : T P E m [] Q) (hr : ∀ a A, Q a A → R a (A ++ s)) : T P E m s R := T.sels .nil h hr
/-- A store into a block of one's own. -/
theorem x_store {t T0 : TypeId} {agg : Bool} {sz : Nat} {z : List Value} {x y : Operand} {bb off : Nat} {c : List Value} {v : Value} {F : List HP} (h : TyN P t agg sz z) (hx : ev L x = some (.pointer (some ⟨bb, off, none⟩))) (hy : ev L y = some v) (hs : Sel s (box bb c T0) F) (hl : lenIs (valC v) sz = true) (h1 : allOne (valC v) = true) (hn : off + sz ≤ c.length) :
    Ex P E X b L s ⟨none, .store t x y, ty, pos, af, gd⟩ (fun _ s' => s' = box bb (lay c off (valC v)) T0 :: F) := by
  have hl := lenIs_eq hl
  subst hl
  refine Ex.op rfl (.inr rfl) (fun e' he => ?_)
  unfold execOp; simp only [he _ _ hx, he _ _ hy]
  refine T.bind (Q := fun _ s' => s' = box bb (lay c off (valC v)) T0 :: F) (T.calmBind (Calm.pure _) (T.sels (.cons hs .nil) (T.storeVar h (valC_cells v) (allOne_mem h1) hn) fun a A' e => by rw [e]; rfl)) ?_
  rintro x B hB
  exact T.calm (Calm.pure _) ⟨undef, .inr ⟨rfl, rfl⟩, hB⟩
theorem x_alloc {t : TypeId} {agg : Bool} {sz : Nat} {z : List Value} (h : TyN P t agg sz z) : Ex P E X b L s ⟨some d, .alloc t, ty, pos, af, gd⟩ (fun v s' => ∃ bb, v = .pointer (some ⟨bb, 0, none⟩) ∧ s' = box bb z t :: s) := by
  refine Ex.op rfl (.inr rfl) (fun e' he => ?_)
  unfold execOp; simp only
  refine T.bind (Q := fun x s' => ∃ bb, x = .pointer (some ⟨bb, 0, none⟩) ∧ s' = box bb z t :: s) (T.ext (T.alloc h) fun a A ⟨bb, e1, e2⟩ => ⟨bb, e1, by rw [e2]; rfl⟩) ?_
  rintro x B ⟨bb, e1, e2⟩
  exact T.calm (Calm.pure _) ⟨_, .inl rfl, bb, e1, e2⟩
theorem x_box {t : TypeId} {x : Operand} {v : Value} (hx : ev L x = some v) : Ex P E X b L s ⟨some d, .box t x, ty, pos, af, gd⟩ (fun v' s' => ∃ bb, v' = .pointer (some ⟨bb, 0, none⟩) ∧ s' = box bb (valC v) t :: s) := by
  refine Ex.op rfl (.inr rfl) (fun e' he => ?_)
  unfold execOp; simp only [he _ _ hx]
  refine T.bind (Q := fun x s' => ∃ bb, x = .pointer (some ⟨bb, 0, none⟩) ∧ s' = box bb (valC v) t :: s) (T.ext (T.boxOp (valC_cells v)) fun a A ⟨bb, e1, e2⟩ => ⟨bb, e1, by rw [e2]; rfl⟩) ?_
  rintro x B ⟨bb, e1, e2⟩
  exact T.calm (Calm.pure _) ⟨_, .inl rfl, bb, e1, e2⟩
theorem add_mk (bb off i : Nat) : (⟨bb, off, none⟩ : Addr).add i = ⟨bb, off + i, none⟩ := by unfold Addr.add; split <;> simp_all
theorem m_fieldAddrB {t : TypeId} {x : Operand} {i o : Nat} {ft : TypeId} {bb off : Nat} (h : TyF P t i o ft) (hx : ev L x = some (.pointer (some ⟨bb, off, none⟩))) : Cm P L ⟨dst, .fieldAddr t x i, ty, pos, af, gd⟩ (.pointer (some ⟨bb, off + o, none⟩)) := by
  rw [← add_mk]; exact m_fieldAddr h hx
theorem m_indexArrB {t e : TypeId} {agg : Bool} {sz : Nat} {z : List Value} {x y : Operand} {bb off len : Nat} {kk : IntKind} {i : Int} (h : TyU P t (.array len e)) (he : TyN P e agg sz z) (hx : ev L x = some (.pointer (some ⟨bb, off, none⟩))) (hy : ev L y = some (.int kk i)) (h0 : 0 ≤ i) (h1 : i < len) : Cm P L ⟨dst, .indexAddr t x y, ty, pos, af, gd⟩ (.pointer (some ⟨bb, off + i.toNat * sz, none⟩)) := by
  rw [← add_mk]; exact m_indexArr h he hx hy h0 h1
theorem m_indexSliceB {t e : TypeId} {agg : Bool} {sz : Nat} {z : List Value} {x y : Operand} {bb off len cap : Nat} {kk : IntKind} {i : Int} (h : TyU P t (.slice e)) (he : TyN P e agg sz z) (hx : ev L x = some (.slice (some ⟨bb, off, none⟩) len cap)) (hy : ev L y = some (.int kk i)) (h0 : 0 ≤ i) (h1 : i < len) : Cm P L ⟨dst, .indexAddr t x y, ty, pos, af, gd⟩ (.pointer (some ⟨bb, off + i.toNat * sz, none⟩)) := by
  rw [← add_mk]; exact m_indexSlice h he hx hy h0 h1

/-- Builtins that only compute. -/
theorem Calm.builtin {e' : Operand → Value} {o : Oper} {bi : Builtin} {args : Array Operand} {ats : Array TypeId} {v : Value} (ho : o.op = .call ⟨.builtin bi, args, ats⟩) (h : ∀ cs, Calm P (Go.builtin bi ats o.type cs (args.map e')) (.value v)) : Calm P (execOp e' o) (.value v) := by
  unfold execOp; rw [ho]; simp only
  unfold resolve
  simp only
  refine (Calm.pure _).bind ?_
  simp only [invoke]
  exact h _
theorem m_builtin {bi : Builtin} {args : Array Operand} {ats : Array TypeId} {vs : List Value} {v : Value} (ha : evs L args.toList = some vs) (h : ∀ t cs, Calm P (Go.builtin bi ats t cs vs.toArray) (.value v)) : Cm P L ⟨dst, .call ⟨.builtin bi, args, ats⟩, ty, pos, af, gd⟩ v :=
  Cm.of rfl (fun e' he => Calm.builtin rfl fun cs => by
    have : args.map e' = vs.toArray := by
      apply Array.ext'
      simpa using evs_map he ha
    rw [this]; exact h _ cs)
theorem c_min {ats : Array TypeId} {t : TypeId} {cs : Array Bool} {kk : IntKind} {x y : Int} : Calm P (Go.builtin .min ats t cs [.int kk x, .int kk y].toArray) (.value (.int kk (min x y))) := by
  unfold Go.builtin Builtin.min_
  refine Calm.bind (a := .int kk (min x y)) ?_ (Calm.pure _)
  have : min x y = if y < x then y else x := by rw [Int.min_def]; split <;> split <;> omega
  rw [this]; exact Calm.pure _
theorem c_max {ats : Array TypeId} {t : TypeId} {cs : Array Bool} {kk : IntKind} {x y : Int} : Calm P (Go.builtin .max ats t cs [.int kk x, .int kk y].toArray) (.value (.int kk (max x y))) := by
  unfold Go.builtin Builtin.max_
  refine Calm.bind (a := .int kk (max x y)) ?_ (Calm.pure _)
  have : max x y = if y > x then y else x := by rw [Int.max_def]; split <;> split <;> omega
  rw [this]; exact Calm.pure _
theorem c_min3 {ats : Array TypeId} {t : TypeId} {cs : Array Bool} {kk : IntKind} {x y z : Int} : Calm P (Go.builtin .min ats t cs [.int kk x, .int kk y, .int kk z].toArray) (.value (.int kk (min (min x y) z))) := by
  unfold Go.builtin Builtin.min_
  refine Calm.bind (a := .int kk (min (min x y) z)) ?_ (Calm.pure _)
  have : ∀ x y : Int, min x y = if y < x then y else x := fun x y => by rw [Int.min_def]; split <;> split <;> omega
  simp only [this]; exact Calm.pure _
theorem c_len {t0 e : TypeId} {t : TypeId} {cs : Array Bool} {base : Option Addr} {len cap : Nat} (h : TyU P t0 (.slice e)) : Calm P (Go.builtin .len #[t0] t cs [.slice base len cap].toArray) (.value (.int .i64 len)) := by
  unfold Go.builtin
  simp only
  refine Calm.bind (a := .int .i64 len) ?_ (Calm.pure _)
  unfold Builtin.len_
  simp only [List.getElem?_toArray, List.getElem?_cons_zero]
  refine (Calm.underlying h.h).bind ?_
  exact Calm.pure _
theorem c_cap {t0 e : TypeId} {t : TypeId} {cs : Array Bool} {base : Option Addr} {len cap : Nat} (h : TyU P t0 (.slice e)) : Calm P (Go.builtin .cap #[t0] t cs [.slice base len cap].toArray) (.value (.int .i64 cap)) := by
  unfold Go.builtin
  simp only
  refine Calm.bind (a := .int .i64 cap) ?_ (Calm.pure _)
  unfold Builtin.cap_
  simp only [List.getElem?_toArray, List.getElem?_cons_zero]
  refine (Calm.underlying h.h).bind ?_
  exact Calm.pure _

/-- A struct or an array out of its parts. -/
def fillL (place : Nat → Option (Nat × Nat)) : List Value → List (Nat × Value) → Option (List Value)
  | c, [] => some c
  | c, (i, v) :: ps => match place i with
    | none => none
    | some (off, sz) => if lenIs (valC v) sz && Nat.ble (off + sz) c.length then fillL place (lay c off (valC v)) ps else none
theorem lay_fold : ∀ (vs : List Value) (j : Nat) (c : Array Value) (off : Nat), (vs.zipIdx j).foldl (fun cs (x : Value × Nat) => cs.setIfInBounds (off + x.2) x.1) c = (lay c.toList (off + j) vs).toArray
  | [], _, c, _ => by simp [lay]
  | v :: vs, j, c, off => by
    rw [List.zipIdx_cons, List.foldl_cons, lay_fold vs (j + 1), lay]
    simp [Nat.add_assoc]
theorem fill_eq {place : Nat → Option (Nat × Nat)} : ∀ {ps : List (Nat × Value)} {c cs : List Value}, fillL place c ps = some cs → Instr.fill place c.toArray ps = some cs.toArray
  | [], _, _, h => by cases h; rfl
  | (i, v) :: ps, c, cs, h => by
    unfold fillL at h; unfold Instr.fill
    cases hp : place i with
    | none => rw [hp] at h; cases h
    | some p =>
      obtain ⟨off, sz⟩ := p
      rw [hp] at h
      simp only at h ⊢
      split at h
      · rename_i hc
        simp only [Bool.and_eq_true, Nat.ble_eq] at hc
        have e1 := lenIs_eq hc.1
        have e2 : v.cells.size = sz := by rw [valC_cells]; simpa using e1
        have e3 : ¬ (v.cells.size ≠ sz || decide (off + v.cells.size > c.toArray.size)) = true := by
          simp [e2]; omega
        rw [if_neg (by simpa using e3)]
        have := fill_eq h
        rw [← this]
        congr 1
        have lf := lay_fold (valC v) 0 c.toArray off
        rw [valC_cells]
        have hz : (valC v).toArray.zipIdx.toList = (valC v).zipIdx := by simp [List.mapIdx_eq_zipIdx_map]
        rw [← Array.foldl_toList, hz]
        simpa using lf
      · cases h
class TyP (P : Program) (t : TypeId) (pl : outParam (List (Nat × Nat))) : Prop where
  h : ∃ fs, P.underlying t = some (.struct fs) ∧ (fs.toList.map fun f => (f.offset, P.cellsOf f.type)) = pl ∧ fs.toList.all (fun f => (P.info? f.type).isSome) = true
theorem TyP.of {P : Program} {t : TypeId} {pl : List (Nat × Nat)} (h : (match P.underlying t with | some (.struct fs) => some ((fs.toList.map fun f => (f.offset, P.cellsOf f.type)), fs.toList.all (fun f => (P.info? f.type).isSome)) | _ => none) = some (pl, true)) : TyP P t pl := by
  split at h
  · rename_i fs hu
    simp only [Option.some.injEq, Prod.mk.injEq] at h
    exact ⟨fs, hu, h.1, h.2⟩
  · cases h
def plAt : List (Nat × Nat) → Nat → Option (Nat × Nat)
  | [], _ => none
  | p :: _, 0 => some p
  | _ :: ps, n + 1 => plAt ps n
theorem plAt_eq : ∀ (l : List (Nat × Nat)) (i : Nat), plAt l i = l[i]?
  | [], _ => rfl
  | _ :: _, 0 => rfl
  | _ :: l, n + 1 => by rw [plAt, plAt_eq l n]; rfl
theorem Calm.mapPl : ∀ (fs : List Field), fs.all (fun f => (P.info? f.type).isSome) = true → Calm P (fs.mapM fun f => do Pure.pure (f.offset, ← Go.sizeOf f.type)) (fs.map fun f => (f.offset, P.cellsOf f.type))
  | [], _ => Calm.pure _
  | f :: fs, h => by
    simp only [List.all_cons, Bool.and_eq_true] at h
    obtain ⟨i, hi⟩ := Option.isSome_iff_exists.1 h.1
    rw [List.mapM_cons]
    refine Calm.bind (a := (f.offset, P.cellsOf f.type)) ?_ ((Calm.mapPl fs h.2).bind (Calm.pure _))
    refine (Calm.sizeOf hi).bind ?_
    have : P.cellsOf f.type = i.size := by simp [Program.cellsOf, hi]
    rw [this]; exact Calm.pure _
theorem Calm.build {t : TypeId} {agg : Bool} {sz : Nat} {z : List Value} {pl : List (Nat × Nat)} {ps : List (Nat × Value)} {cs : List Value} (h : TyN P t agg sz z) (hp : TyP P t pl) (hf : fillL (plAt pl) z ps = some cs) : Calm P (Instr.build t ps.toArray) (.agg cs.toArray) := by
  obtain ⟨v, hv, hz⟩ := Calm.zeroValue h
  obtain ⟨fs, h1, h2, h3⟩ := hp.h
  unfold Instr.build
  refine hv.bind ?_
  refine (Calm.underlying h1).bind ?_
  simp only [hz]
  refine Calm.bind (a := pl.toArray) ?_ ?_
  · rw [Array.mapM_eq_mapM_toList, map_eq_pure_bind]
    have := Calm.mapPl (P := P) fs.toList h3
    rw [h2] at this
    exact this.bind (Calm.pure _)
  · have e : (fun x => pl.toArray[x]?) = plAt pl := by funext i; rw [plAt_eq]; simp
    simp only [e, fill_eq hf]
    exact Calm.pure _
def evp (L : Tm) : List (Nat × Operand) → Option (List (Nat × Value))
  | [] => some []
  | (i, x) :: xs => match ev L x, evp L xs with
    | some v, some vs => some ((i, v) :: vs)
    | _, _ => none
theorem evp_map {e' : Operand → Value} (h : ∀ x v, ev L x = some v → e' x = v) : ∀ {xs : List (Nat × Operand)} {vs : List (Nat × Value)}, evp L xs = some vs → xs.map (fun (i, x) => (i, e' x)) = vs
  | [], _, e => by cases e; rfl
  | (i, x) :: xs, _, e => by
    unfold evp at e
    split at e
    · rename_i v vs h1 h2; cases e; rw [List.map_cons, evp_map h h2]; show (i, e' x) :: _ = _; rw [h x v h1]
    · cases e
theorem m_build {t : TypeId} {agg : Bool} {sz : Nat} {z : List Value} {pl : List (Nat × Nat)} {parts : Array (Nat × Operand)} {ps : List (Nat × Value)} {cs : List Value} (h : TyN P t agg sz z) (hp : TyP P t pl) (he : evp L parts.toList = some ps) (hf : fillL (plAt pl) z ps = some cs)  : Cm P L ⟨dst, .build t parts, ty, pos, af, gd⟩ (.agg cs.toArray) :=
  Cm.of rfl (fun e' he' => by
    unfold execOp; simp only
    have : (parts.map fun (i, x) => (i, e' x)) = ps.toArray := by
      apply Array.ext'
      simpa using evp_map he' he
    rw [this]
    exact (Calm.build h hp hf).bind (Calm.pure _))
theorem Calm.buildArr {t e : TypeId} {agg agg2 : Bool} {sz sz2 len : Nat} {z z2 : List Value} {ps : List (Nat × Value)} {cs : List Value} (h : TyN P t agg sz z) (hu : TyU P t (.array len e)) (h2 : TyN P e agg2 sz2 z2) (hf : fillL (fun i => some (i * sz2, sz2)) z ps = some cs) : Calm P (Instr.build t ps.toArray) (.agg cs.toArray) := by
  obtain ⟨v, hv, hz⟩ := Calm.zeroValue h
  unfold Instr.build
  refine hv.bind ?_
  refine (Calm.underlying hu.h).bind ?_
  simp only [hz]
  refine (Calm.sizeOf' h2).bind ?_
  simp only [fill_eq hf]
  exact Calm.pure _
theorem m_buildArr {t e : TypeId} {agg agg2 : Bool} {sz sz2 len : Nat} {z z2 : List Value} {parts : Array (Nat × Operand)} {ps : List (Nat × Value)} {cs : List Value} (h : TyN P t agg sz z) (hu : TyU P t (.array len e)) (h2 : TyN P e agg2 sz2 z2) (he : evp L parts.toList = some ps) (hf : fillL (fun i => some (i * sz2, sz2)) z ps = some cs)  : Cm P L ⟨dst, .build t parts, ty, pos, af, gd⟩ (.agg cs.toArray) :=
  Cm.of rfl (fun e' he' => by
    unfold execOp; simp only
    have : (parts.map fun (i, x) => (i, e' x)) = ps.toArray := by
      apply Array.ext'
      simpa using evp_map he' he
    rw [this]
    exact (Calm.buildArr h hu h2 hf).bind (Calm.pure _))
end
end Go.KL
