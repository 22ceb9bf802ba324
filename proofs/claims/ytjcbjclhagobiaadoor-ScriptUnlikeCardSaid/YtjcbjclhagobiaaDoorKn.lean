/- Own program logic, part 14: stores into slices, append, new slices, slices of slices. -/
import Derived.Test.YtjcbjclhagobiaaDoorKm
namespace Go.KL
open Go

theorem lay_mem {v : Value} : ∀ {vs c : List Value} {off : Nat}, v ∈ lay c off vs → v ∈ c ∨ v ∈ vs
  | [], c, off, h => .inl h
  | a :: vs, c, off, h => by
    rw [lay] at h
    rcases lay_mem h with h | h
    · rcases List.mem_or_eq_of_mem_set h with h | h
      · exact .inl h
      · exact .inr (by simp [h])
    · exact .inr (by simp [h])
theorem ElOk.set {sz : Nat} {es : List (List Value)} (h : ElOk sz es) {i : Nat} {e : List Value} (h1 : e.length = sz) (h2 : ∀ v ∈ e, oneC v = true) : ElOk sz (es.set i e) :=
  ⟨fun x hx => (List.mem_or_eq_of_mem_set hx).elim (h.len x) fun y => by rw [y, h1], fun x hx => (List.mem_or_eq_of_mem_set hx).elim (h.one x) fun y => by rw [y]; exact h2⟩
section
variable {P : Program} {E : Env} {X : Xs} {b : Fx} {Post : Value → List HP → Prop} {k : List Item} {L : Tm} {s : List HP} {d : Nat} {dst : Option Nat} {ty : TypeId} {pos : String} {af : Array Edge} {gd : Option (Nat × Bool)}

theorem osl_of {bb off cap sz : Nat} {T : TypeId} {es : List (List Value)} {c : List Value} (h1 : ElOk sz es) (h2 : es.length ≤ cap) (h3 : off + cap * sz ≤ c.length) (h4 : ∀ j v, es.flatten[j]? = some v → c[off + j]? = some v) :
    ∀ r f, sep [box bb c T] r f → sep [osl (some ⟨bb, off, none⟩) cap T sz es] r f := by
  rintro r f ⟨f1, f2, d, l1, l2, a, k⟩
  exact ⟨f1, f2, d, l1, l2, ⟨h1, h2, fun e => (by cases e), fun a' e => (by cases e; exact ⟨rfl, c, a, h3, h4⟩)⟩, k⟩
theorem T.openO {α : Type} {m : Sem α} {base : Option Addr} {cap sz : Nat} {T0 : TypeId} {es : List (List Value)} {Q : α → List HP → Prop} (hne : 0 < cap)
    (h : ∀ bb off c, base = some ⟨bb, off, none⟩ → ElOk sz es → es.length ≤ cap → off + cap * sz ≤ c.length → (∀ j v, es.flatten[j]? = some v → c[off + j]? = some v) → T P E m [box bb c T0] Q) : T P E m [osl base cap T0 sz es] Q := by
  intro w r f F es' hs hA
  obtain ⟨f1, f2, d, l1, l2, ⟨k1, k2, k3, k4⟩, hF⟩ := sep_one hA
  cases base with
  | none => have := k3 rfl; omega
  | some a =>
    obtain ⟨k5, c, k6, k7, k8⟩ := k4 a rfl
    obtain ⟨bb, off, sp⟩ := a
    simp at k5; subst k5
    exact h bb off c rfl k1 k2 k7 k8 w r f F es' hs ⟨f1, f2, d, l1, l2, k6, hF⟩

theorem T.storeO {t T0 : TypeId} {agg : Bool} {z : List Value} {base : Option Addr} {cap sz i o : Nat} {es : List (List Value)} {e vs : List Value} {v : Value} (h : TyN P t agg vs.length z) (hv : v.cells = vs.toArray) (h1 : ∀ x ∈ vs, oneC x = true) (he : es[i]? = some e) (hn : o + vs.length ≤ sz) :
    T P E (Go.storeVar t (eltA base i sz o) v) [osl base cap T0 sz es] (fun _ B => B = [osl base cap T0 sz (es.set i (lay e o vs))]) := by
  refine T.pre (p := 0 < cap) (fun r f hp => ?_) fun hcap => T.openO hcap fun bb off c hb k1 k2 k3 k4 => ?_
  · obtain ⟨_, _, _, _, _, ⟨_, k2, _⟩, _⟩ := hp
    have := idx_pos he; omega
  subst hb
  have hil : i < es.length := by rw [List.getElem?_eq_some_iff] at he; exact he.1
  have hb : i * sz + sz ≤ cap * sz := by
    have := Nat.mul_le_mul_right sz (show i + 1 ≤ cap by omega)
    rw [Nat.succ_mul] at this; exact this
  have ea : eltA (some ⟨bb, off, none⟩) i sz o = ⟨bb, off + (i * sz + o), none⟩ := by
    unfold eltA; simp only [Option.getD_some]; rw [add_mk]
  rw [ea]
  refine T.conv (T.storeVar (T0 := T0) (c := c) h hv h1 (by omega)) (fun _ _ x => x) fun a A' e' => ?_
  subst e'
  have hel : e.length = sz := k1.len e (List.mem_of_getElem? he)
  have hfl := k1.flat
  have hb2 : i * sz + sz ≤ es.length * sz := by
    have := Nat.mul_le_mul_right sz (show i + 1 ≤ es.length by omega)
    rw [Nat.succ_mul] at this; exact this
  refine ⟨_, osl_of (k1.set (by rw [lay_length, hel]) fun v hv => (lay_mem hv).elim (k1.one e (List.mem_of_getElem? he) v) (h1 v)) (by simpa using k2) (by rw [lay_length]; exact k3) (fun j v hj => ?_), rfl⟩
  rw [flat_set k1 he hn, lay_get _ _ _ _ (by omega)] at hj
  rw [lay_get _ _ _ _ (by omega)]
  by_cases c1 : i * sz + o ≤ j ∧ j < i * sz + o + vs.length
  · simp only [c1, and_self, if_true] at hj
    have : off + (i * sz + o) ≤ off + j ∧ off + j < off + (i * sz + o) + vs.length := by omega
    simp only [this, and_self, if_true]
    rw [show off + j - (off + (i * sz + o)) = j - (i * sz + o) by omega]; exact hj
  · simp only [c1, if_false] at hj
    have : ¬ (off + (i * sz + o) ≤ off + j ∧ off + j < off + (i * sz + o) + vs.length) := by omega
    simp only [this, if_false]; exact k4 j v hj
theorem x_storeO {t T0 : TypeId} {agg : Bool} {n : Nat} {z : List Value} {x y : Operand} {base : Option Addr} {cap sz i o : Nat} {es : List (List Value)} {e : List Value} {v : Value} {F : List HP} (h : TyN P t agg n z) (hx : ev L x = some (.pointer (some (eltA base i sz o)))) (hy : ev L y = some v) (hs : Sel s (osl base cap T0 sz es) F) (he : es[i]? = some e) (hl : lenIs (valC v) n = true) (h1 : allOne (valC v) = true) (hn : o + n ≤ sz) :
    Ex P E X b L s ⟨none, .store t x y, ty, pos, af, gd⟩ (fun _ s' => s' = osl base cap T0 sz (es.set i (lay e o (valC v))) :: F) := by
  have hl := lenIs_eq hl
  subst hl
  refine Ex.op rfl (.inr rfl) (fun e' he' => ?_)
  unfold execOp; simp only [he' _ _ hx, he' _ _ hy]
  refine T.bind (Q := fun _ s' => s' = osl base cap T0 sz (es.set i (lay e o (valC v))) :: F) (T.calmBind (Calm.pure _) (T.sels (.cons hs .nil) (T.storeO h (valC_cells v) (allOne_mem h1) he hn) fun a A' e => by rw [e]; rfl)) ?_
  rintro x B hB
  exact T.calm (Calm.pure _) ⟨undef, .inr ⟨rfl, rfl⟩, hB⟩

/-- Where the cells of a source stand. -/
structure Src (A : HP) (base : Option Addr) (n sz : Nat) (es : List (List Value)) : Prop where
  ok : ∀ r f, A.p r f → ElOk sz es
  len : es.length = n
  nil : ∀ r f, A.p r f → base = none → es = []
  has : ∀ a, base = some a → ∀ j v, es.flatten[j]? = some v → Has A (a.add j) v
theorem len_nil {α : Type} {es : List α} {cap : Nat} (h : es.length ≤ cap) (h2 : cap = 0) : es = [] := by
  cases es with
  | nil => rfl
  | cons => simp at h; omega
theorem Src.rsl {base : Option Addr} {cap n sz : Nat} {es : List (List Value)} (h : es.length = n) : Src (rsl base cap sz es) base n sz es :=
  ⟨fun r f k => k.1, h, fun r f k e => len_nil k.2.1 (k.2.2.1 e), fun a e j v hj r f k => .inr (k.2.2.2 a e j v hj)⟩
theorem Src.osl {base : Option Addr} {cap n sz : Nat} {T : TypeId} {es : List (List Value)} (h : es.length = n) : Src (osl base cap T sz es) base n sz es :=
  ⟨fun r f k => k.1, h, fun r f k e => len_nil k.2.1 (k.2.2.1 e), fun a e j v hj r f k => .inl (by
      obtain ⟨h1, c, h2, h3, h4⟩ := k.2.2.2 a e
      rw [add_off h1]; simp [Hp.cell, h2, h4 j v hj])⟩
theorem T.firstCells {A : HP} {F : List HP} {base : Option Addr} {n cap sz : Nat} {es : List (List Value)} (hs : Sel s A F) (h : Src A base n sz es) :
    T P E (Builtin.firstCells sz n (.slice base n cap)) s (fun x B => x = es.flatten.toArray ∧ B = s) := by
  refine T.pre (p := ElOk sz es ∧ (base = none → es = [])) (hs.pure fun r f k => ⟨h.ok r f k, h.nil r f k⟩) ?_
  rintro ⟨k1, k2⟩
  cases base with
  | none => rw [k2 rfl]; exact T.calm (Calm.pure _) ⟨rfl, rfl⟩
  | some a =>
    unfold Builtin.firstCells
    refine T.sel hs (T.cons (T.loadCells (A := A) (a := a) (n := n * sz) (cs := es.flatten) (by rw [k1.flat, h.len]) (h.has a rfl)) fun x B h => h)
theorem zeroCells_size {zero : Array Value} {n : Nat} : (Builtin.zeroCells zero n).size = n * zero.size := by simp [Builtin.zeroCells]
theorem nextslicecap_le {need cap : Nat} (h : cap < need) : Builtin.nextslicecap need cap ≤ 2 * need + 512 := by
  unfold Builtin.nextslicecap
  split
  · omega
  · split
    · omega
    · have key : ∀ rounds c, c ≤ 2 * need + 512 → (Builtin.growBy need rounds c) ≤ 2 * need + 512 := by
        intro rounds
        induction rounds with
        | zero => intro c hc; exact hc
        | succ r ih =>
          intro c hc
          unfold Builtin.growBy
          split
          · exact hc
          · exact ih _ (by omega)
      exact key 4 cap (by omega)
theorem T.chooseQ {q : Question} (hq : q.forced = false) : T P E (Go.choose q) [] (fun x B => (∃ t, x = q.cut t) ∧ B = []) := by
  intro w r f F es hs hA
  refine ⟨q.cut (w.tape w.drawn q), { w with drawn := w.drawn + 1 }, #[], r, f, [], ?_, ?_, ⟨⟨_, rfl⟩, rfl⟩, hA⟩
  · show Sem.runT P (.choose q .pure) w es = _
    rw [Sem.runT, if_neg (by simp [hq])]; simp [Sem.runT, -Sem.runT_eq]
  · exact ⟨⟨hs.os, hs.out, hs.tape, hs.ro, hs.own, hs.apart⟩, Hp.le_refl _, Nat.le_refl _, fun _ _ _ => rfl, fun _ x y => absurd y x, fun _ x y => absurd y x, fun e he => by simp at he⟩
theorem T.askRoom {n : Nat} : T P E (Go.askRoom n) s (fun _ B => B = s) := by
  unfold Go.askRoom
  split
  · exact T.ext (T.mark (.inr rfl)) fun a A h => by rw [h]; rfl
  · exact T.calm (Calm.pure _) rfl
theorem T.newRow' {t : TypeId} (c : List Value) : T P E (Go.newRow t c.toArray) s (fun a B => ∃ b, a = ⟨b, 0, none⟩ ∧ B = box b c t :: s) := T.ext (T.newRow c) fun a A ⟨b, h1, h2⟩ => ⟨b, h1, by rw [h2]; rfl⟩
theorem T.append {t1 t2 elem ty' : TypeId} {d2 : TypeDesc} {agg : Bool} {sz bytes n n2 cap cap2 : Nat} {z : List Value} {base base2 : Option Addr} {es es2 : List (List Value)} {A2 : HP}
    (h1 : TyU P t1 (.slice elem)) (h2 : TyU P t2 d2) (hd : ∀ k, d2 ≠ .int k) (he : TyN P elem agg sz z) (hby : TyB P elem bytes) (hn : es.length = n) (hsrc : Src A2 base2 n2 sz es2) (hroom : (2 * (n + n2) + 512) * bytes ≤ 2 ^ 48) (hzl : z.length = sz) (hz : 0 < bytes) :
    T P E (Builtin.append_ #[t1, t2] ty' #[.slice base n cap, .slice base2 n2 cap2]) [osl base cap elem sz es, A2] (fun v B => ∃ base' cap', v = .slice base' (n + n2) cap' ∧ B = [osl base' cap' elem sz (es ++ es2), A2]) := by
  obtain ⟨ti, hti, hbytes⟩ := hby.h
  obtain ⟨zv, hzv, hzc⟩ := Calm.zeroValue he
  refine T.pre (p := ElOk sz es ∧ es.length ≤ cap ∧ ElOk sz es2) (fun r f hp => ?_) ?_
  · obtain ⟨f1, f2, d, l1, l2, a, g1, g2, d', m1, m2, a2, _⟩ := hp
    exact ⟨a.1, a.2.1, hsrc.ok _ _ a2⟩
  rintro ⟨ok1, hcap, ok2⟩
  unfold Builtin.append_
  simp only [List.getElem?_toArray, List.getElem?_cons_zero, List.getElem?_cons_succ]
  refine T.calmBind (Calm.underlying h1.h) ?_
  simp only
  refine T.calmBind (Calm.sizeOf' he) ?_
  refine T.calmBind (Calm.underlying h2.h) ?_
  refine T.calmBind (a := false) (by cases d2 <;> first | exact Calm.pure _ | exact absurd rfl (hd _)) ?_
  simp only [Bool.false_eq_true, if_false]
  refine T.calmBind (a := n2) (Calm.pure _) ?_
  simp only [Bool.not_false, if_true]
  split
  · rename_i hfit
    refine T.bind (T.firstCells (.there .here) hsrc) ?_
    rintro _ _ ⟨rfl, rfl⟩
    have hfl := ok1.flat
    have hfl2 := ok2.flat
    have hlen : (es ++ es2).length ≤ cap := by simp [hn, hsrc.len]; exact hfit
    cases base with
    | none =>
      refine T.pre (p := cap = 0) (fun r f hp => ?_) fun hc0 => ?_
      · obtain ⟨f1, f2, d, l1, l2, a, _⟩ := hp
        exact a.2.2.1 rfl
      · have h0 : es2 = [] := by
          have := hsrc.len
          cases es2 with
          | nil => rfl
          | cons => simp at this; omega
        subst h0
        exact T.calm (Calm.pure _) ⟨none, cap, rfl, by simp⟩
    | some a =>
      simp only
      by_cases h0 : es2 = []
      · subst h0
        refine T.calmBind (a := ()) (Calm.pure _) (T.calm (Calm.pure _) ⟨some a, cap, rfl, by simp⟩)
      · have hpos : 0 < n2 := by
          have := hsrc.len
          cases es2 with
          | nil => exact absurd rfl h0
          | cons => simp at this; omega
        refine T.bind (Q := fun _ B => B = [osl (some a) cap elem sz (es ++ es2), A2]) ?_ fun _ B hB => T.calm (Calm.pure _) ⟨some a, cap, rfl, hB⟩
        refine T.sels (A := [osl (some a) cap elem sz es]) (F := [A2]) (.cons .here .nil) (T.openO (Q := fun _ B => B = [osl (some a) cap elem sz (es ++ es2)]) (by omega) fun bb off c hb k1 k2 k3 k4 => ?_) fun _ _ e => by rw [e]; rfl
        cases hb
        rw [add_mk]
        have hb1 : n * sz + n2 * sz ≤ cap * sz := by rw [← Nat.add_mul]; exact Nat.mul_le_mul_right sz hfit
        have hl2 : es2.flatten.length = n2 * sz := by rw [hfl2, hsrc.len]
        have hl1 : es.flatten.length = n * sz := by rw [hfl, hn]
        refine T.conv (T.storeCells (b := bb) (t := elem) (off := off + n * sz) es2.flatten 0 c ok2.flatOne (by omega)) (fun _ _ x => x) fun _ A' e' => ?_
        subst e'
        refine ⟨_, osl_of (ok1.append ok2) hlen (by rw [lay_length]; exact k3) (fun j v hj => ?_), rfl⟩
        rw [List.flatten_append] at hj
        rw [lay_get _ _ _ _ (by omega)]
        by_cases hjn : j < n * sz
        · rw [List.getElem?_append_left (by omega)] at hj
          have : ¬ (off + n * sz + 0 ≤ off + j ∧ off + j < off + n * sz + 0 + es2.flatten.length) := by omega
          simp only [this, if_false]; exact k4 j v hj
        · rw [List.getElem?_append_right (by omega), hl1] at hj
          have hlt : j - n * sz < es2.flatten.length := by rw [List.getElem?_eq_some_iff] at hj; exact hj.1
          have : off + n * sz + 0 ≤ off + j ∧ off + j < off + n * sz + 0 + es2.flatten.length := by omega
          simp only [this, and_self, if_true]
          rw [show off + j - (off + n * sz + 0) = j - n * sz by omega]; exact hj
  · rename_i hfit
    have hb0 : ti.bytes ≠ 0 := by omega
    refine T.calmBind (Calm.typeInfo hti) ?_
    rw [if_neg (by simp [hb0])]
    refine T.calmBind (Calm.typeInfo hti) ?_
    rw [if_neg (by
      have h1 := nextslicecap_le (need := n + n2) (cap := cap) (by omega)
      have h2 := Nat.mul_le_mul_right ti.bytes h1
      rw [hbytes] at h2 ⊢
      omega)]
    refine T.bind (Q := fun x B => (∃ t, x = (Question.appendCap (n + n2) cap elem).cut t) ∧ B = [osl base cap elem sz es, A2]) (T.ext (T.chooseQ rfl) fun a A h => by rw [h.2]; exact ⟨h.1, rfl⟩) ?_
    rintro newCap _ ⟨⟨t, rfl⟩, rfl⟩
    have hnc : n + n2 ≤ (Question.appendCap (n + n2) cap elem).cut t := by simp [Question.cut]
    generalize (Question.appendCap (n + n2) cap elem).cut t = nc at hnc
    refine T.calmBind (Calm.typeInfo hti) ?_
    refine T.bind T.askRoom ?_
    rintro _ _ rfl
    refine T.bind (T.firstCells .here (Src.osl hn)) ?_
    rintro _ _ ⟨rfl, rfl⟩
    refine T.bind (T.firstCells (.there .here) hsrc) ?_
    rintro _ _ ⟨rfl, rfl⟩
    refine T.calmBind hzv ?_
    have hfl := ok1.flat
    have hfl2 := ok2.flat
    have hl2 : es2.flatten.length = n2 * sz := by rw [hfl2, hsrc.len]
    have hl1 : es.flatten.length = n * sz := by rw [hfl, hn]
    have hz : (Builtin.zeroCells zv.cells (nc - (n + n2))).toList.length = (nc - (n + n2)) * sz := by
      have := zeroCells_size (zero := zv.cells) (n := nc - (n + n2))
      rw [hzc] at this ⊢
      simpa [hzl] using this
    generalize Builtin.zeroCells zv.cells (nc - (n + n2)) = zc at hz
    have ec : es.flatten.toArray ++ es2.flatten.toArray ++ zc = (es.flatten ++ es2.flatten ++ zc.toList).toArray := by simp
    rw [ec]
    refine T.bind (Q := fun a B => ∃ bb, a = ⟨bb, 0, none⟩ ∧ B = [osl (some ⟨bb, 0, none⟩) nc elem sz (es ++ es2), A2]) (T.sels (A := [osl base cap elem sz es]) (F := [A2]) (Q := fun a B => ∃ bb, a = ⟨bb, 0, none⟩ ∧ B = [osl (some ⟨bb, 0, none⟩) nc elem sz (es ++ es2)]) (.cons .here .nil) (T.conv (A0 := []) (T.newRow (t := elem) (es.flatten ++ es2.flatten ++ zc.toList)) (fun _ _ _ => trivial) (fun a A' h => ?_)) (fun a A' ⟨bb, h1, h2⟩ => ⟨bb, h1, by rw [h2]; rfl⟩)) ?_
    · obtain ⟨bb, ha, hA⟩ := h
      subst hA
      refine ⟨[osl (some ⟨bb, 0, none⟩) nc elem sz (es ++ es2)], osl_of (ok1.append ok2) (by simp [hn, hsrc.len]; exact hnc) ?_ (fun j v hj => ?_), bb, ha, rfl⟩
      · simp only [List.length_append, hl1, hl2, hz]
        rw [Nat.sub_mul, Nat.add_mul]
        have := Nat.mul_le_mul_right sz hnc
        rw [Nat.add_mul] at this
        omega
      · rw [List.flatten_append] at hj
        rw [Nat.zero_add, List.getElem?_append_left]
        · exact hj
        · rw [List.getElem?_eq_some_iff] at hj; exact hj.1
    · rintro _ _ ⟨bb, rfl, rfl⟩
      exact T.calm (Calm.pure _) ⟨_, _, rfl, rfl⟩
end
end Go.KL
