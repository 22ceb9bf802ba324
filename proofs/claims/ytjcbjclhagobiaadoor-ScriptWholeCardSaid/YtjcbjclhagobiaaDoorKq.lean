/- Own program logic, part 17: the rules that a proof names, and those by which it goes on by itself. Written by rulegen.py. -/
import Derived.Test.YtjcbjclhagobiaaDoorKp
import Derived.KernelRfl
namespace Go.KL
open Go

theorem elt {α β : Type} {xs : List α} {f : α → β} {i : Nat} {x : α} (h : xs[i]? = some x) : (xs.map f)[i]? = some (f x) := by simp [h]
theorem layO_lay {vs c c' : List Value} {n : Nat} (hz : vs ≠ []) (h : layO c n vs = some c') : c' = lay c n vs := (layO_eq h).elim (fun x => x.1) fun x => absurd x.1 hz
theorem layO_le {vs c c' : List Value} {n sz : Nat} (hl : lenIs vs sz = true) (hz : vs ≠ []) (h : layO c n vs = some c') : n + sz ≤ c.length := by
  rw [← lenIs_eq hl]; exact (layO_eq h).elim (fun x => x.2) fun x => absurd x.1 hz
theorem eltLast {α : Type} {xs : List α} {x : α} : (xs ++ [x])[xs.length]? = some x := by simp
section
variable {P : Program} {E : Env} {L L' : Tm} {s : List HP} {l : List Oper} {o : Oper} {v : Value} {M eff : List Nat} {σ : List Nat} {j : Nat} {pd pd0 : List (Nat × Oper × Value)}
theorem wantA (h : Want L l o true := by (first | exact rfl | exact want_t rfl rfl rfl (by assumption) | exact want_f rfl rfl rfl (by assumption))) : Want L l o true := h
theorem unwA (h : Want L l o false := by (first | exact unwant_t rfl rfl rfl (by assumption) | exact unwant_f rfl rfl rfl (by assumption) | exact unwant_u rfl rfl rfl)) : Want L l o false := h
theorem subA (h : Sub L' L := by (repeat (first | (with_reducible exact Sub.refl) | ((with_reducible apply Sub.skip); (case h => exact rfl))))) : Sub L' L := h
theorem cmA (h : Cm P L o v := by (first
        | ((with_reducible apply m_move); (exact rfl))
        | ((with_reducible apply m_assign); (exact rfl))
        | ((with_reducible apply m_fieldAddrE); (case h => exact inferInstance); (case hx => exact rfl))
        | ((with_reducible apply m_fieldAddrB); (case h => exact inferInstance); (case hx => exact rfl))
        | ((with_reducible apply m_fieldAddr); (case h => exact inferInstance); (case hx => exact rfl))
        | ((with_reducible apply m_bin); (case hx => exact rfl); (case hy => exact rfl); (case h => first | ((with_reducible apply c_cmp); exact rfl) | ((with_reducible apply c_add64); omega) | ((with_reducible apply c_sub64); omega) | ((with_reducible apply c_mul64); omega) | ((with_reducible apply c_quo64); omega) | ((with_reducible apply c_remk); omega) | (with_reducible exact c_and) | (with_reducible exact c_or) | (with_reducible exact c_xor) | (with_reducible exact c_andNot) | ((with_reducible apply c_addu64); omega) | (with_reducible exact c_add _ _ _ _) | (with_reducible exact c_sub _ _ _ _) | (with_reducible exact c_mul _ _ _ _)))
        | ((with_reducible apply m_shift); (case hx => exact rfl); (case hy => exact rfl); (case h => first | ((with_reducible apply c_shlk); omega) | ((with_reducible apply c_shrk); omega)))
        | ((with_reducible apply m_boolEq); (case hx => exact rfl); (case hy => exact rfl); (case h => exact inferInstance))
        | ((with_reducible apply m_boolNe); (case hx => exact rfl); (case hy => exact rfl); (case h => exact inferInstance))
        | ((with_reducible apply m_strEq); (case hx => exact rfl); (case hy => exact rfl))
        | ((with_reducible apply m_strNe); (case hx => exact rfl); (case hy => exact rfl))
        | ((with_reducible apply m_aggEq); (case hx => exact rfl); (case hy => exact rfl); (case h => exact inferInstance); (case hv => exact rfl))
        | ((with_reducible apply m_aggNe); (case hx => exact rfl); (case hy => exact rfl); (case h => exact inferInstance); (case hv => exact rfl))
        | ((with_reducible apply m_sliceNil); (case h => exact inferInstance); (case hx => exact rfl); (case hy => exact rfl))
        | ((with_reducible apply m_sliceNilN); (case h => exact inferInstance); (case hx => exact rfl); (case hy => exact rfl))
        | ((with_reducible apply m_ptrNil); (case h => exact inferInstance); (case hx => exact rfl); (case hy => exact rfl))
        | ((with_reducible apply m_ptrNilN); (case h => exact inferInstance); (case hx => exact rfl); (case hy => exact rfl))
        | ((with_reducible apply m_not); (exact rfl))
        | ((with_reducible apply m_compl); (case hx => exact rfl); (case hv => exact rfl))
        | ((with_reducible apply m_extract); (case hx => exact rfl); (case hv => exact rfl))
        | ((with_reducible apply m_nilCheck); (exact rfl))
        | ((with_reducible apply m_conv64); (case h1 => exact inferInstance); (case h2 => exact inferInstance); (case hx => exact rfl); (case hr => first | omega | (simp only [List.length_cons, List.length_map, List.length_nil, List.length_append]; omega)))
        | ((with_reducible apply m_convu64); (case h1 => exact inferInstance); (case h2 => exact inferInstance); (case hx => exact rfl); (case hr => first | omega | (simp only [List.length_cons, List.length_map, List.length_nil, List.length_append]; omega)))
        | ((with_reducible apply m_convu8); (case h1 => exact inferInstance); (case h2 => exact inferInstance); (case hx => exact rfl); (case hr => first | omega | (simp only [List.length_cons, List.length_map, List.length_nil, List.length_append]; omega)))
        | ((with_reducible apply m_conv); (case h1 => exact inferInstance); (case h2 => exact inferInstance); (case hx => exact rfl))
        | ((with_reducible apply m_build); (case h => exact inferInstance); (case hp => exact inferInstance); (case he => exact rfl); (case hf => exact rfl))
        | ((with_reducible apply m_buildArr); (case h => exact inferInstance); (case hu => exact inferInstance); (case h2 => exact inferInstance); (case he => exact rfl); (case hf => exact rfl))
        | ((with_reducible apply m_builtin); (case ha => exact rfl); (case h => intro _ _; first | ((with_reducible apply c_len); exact inferInstance) | (with_reducible exact c_min) | (with_reducible exact c_max) | (with_reducible exact c_min3) | ((with_reducible apply c_lenStr); exact inferInstance) | ((with_reducible apply c_cap); exact inferInstance)))
        | ((with_reducible apply m_pickT); (case hc => exact rfl); (case h => assumption); (case hx => exact rfl))
        | ((with_reducible apply m_pickF); (case hc => exact rfl); (case h => assumption); (case hy => exact rfl))
        | ((with_reducible apply m_pick); (case hc => exact rfl); (case hx => exact rfl); (case hy => exact rfl))
        | ((with_reducible apply m_field1); (case h => exact inferInstance); (case h1 => exact inferInstance); (case hx => exact rfl); (case hv => exact rfl))
        | ((with_reducible apply m_fieldN); (case h => exact inferInstance); (case h1 => exact inferInstance); (case hx => exact rfl))
        | ((with_reducible apply m_indexArrE); (case h => exact inferInstance); (case he => exact inferInstance); (case hx => exact rfl); (case hy => exact rfl); (case h0 => first | omega | (simp only [List.length_cons, List.length_map, List.length_nil, List.length_append]; omega)); (case h1 => first | omega | (simp only [List.length_cons, List.length_map, List.length_nil, List.length_append]; omega)))
        | ((with_reducible apply m_indexArrB); (case h => exact inferInstance); (case he => exact inferInstance); (case hx => exact rfl); (case hy => exact rfl); (case h0 => first | omega | (simp only [List.length_cons, List.length_map, List.length_nil, List.length_append]; omega)); (case h1 => first | omega | (simp only [List.length_cons, List.length_map, List.length_nil, List.length_append]; omega)))
        | ((with_reducible apply m_indexArr); (case h => exact inferInstance); (case he => exact inferInstance); (case hx => exact rfl); (case hy => exact rfl); (case h0 => first | omega | (simp only [List.length_cons, List.length_map, List.length_nil, List.length_append]; omega)); (case h1 => first | omega | (simp only [List.length_cons, List.length_map, List.length_nil, List.length_append]; omega)))
        | ((with_reducible apply m_indexAgg1); (case h => exact inferInstance); (case he => exact inferInstance); (case hx => exact rfl); (case hy => exact rfl); (case h0 => first | omega | (simp only [List.length_cons, List.length_map, List.length_nil, List.length_append]; omega)); (case h1 => first | omega | (simp only [List.length_cons, List.length_map, List.length_nil, List.length_append]; omega)); (case hv => exact rfl))
        | ((with_reducible apply m_strIndex); (case h => exact inferInstance); (case hx => exact rfl); (case hy => exact rfl); (case h0 => first | omega | (simp only [List.length_cons, List.length_map, List.length_nil, List.length_append]; omega)); (case hc => with_reducible assumption))
        | ((with_reducible apply m_strLH); (case h => exact inferInstance); (case hx => exact rfl); (case hy => exact rfl); (case hy2 => exact rfl); (case h0 => first | omega | (simp only [List.length_cons, List.length_map, List.length_nil, List.length_append]; omega)); (case h1 => first | omega | (simp only [List.length_cons, List.length_map, List.length_nil, List.length_append]; omega)); (case h2 => first | omega | (simp only [List.length_cons, List.length_map, List.length_nil, List.length_append]; omega)))
        | ((with_reducible apply m_strLo); (case h => exact inferInstance); (case hx => exact rfl); (case hy => exact rfl); (case h0 => first | omega | (simp only [List.length_cons, List.length_map, List.length_nil, List.length_append]; omega)); (case h1 => first | omega | (simp only [List.length_cons, List.length_map, List.length_nil, List.length_append]; omega)))
        | ((with_reducible apply m_strHi); (case h => exact inferInstance); (case hx => exact rfl); (case hy => exact rfl); (case h0 => first | omega | (simp only [List.length_cons, List.length_map, List.length_nil, List.length_append]; omega)); (case h1 => first | omega | (simp only [List.length_cons, List.length_map, List.length_nil, List.length_append]; omega)))
        | ((with_reducible apply m_sliceLo); (case h => exact inferInstance); (case he => exact inferInstance); (case hx => exact rfl); (case hy => exact rfl); (case h0 => first | omega | (simp only [List.length_cons, List.length_map, List.length_nil, List.length_append]; omega)); (case h1 => first | omega | (simp only [List.length_cons, List.length_map, List.length_nil, List.length_append]; omega)); (case h2 => first | omega | (simp only [List.length_cons, List.length_map, List.length_nil, List.length_append]; omega)))
        | ((with_reducible apply m_sliceHi); (case h => exact inferInstance); (case he => exact inferInstance); (case hx => exact rfl); (case hy => exact rfl); (case h0 => first | omega | (simp only [List.length_cons, List.length_map, List.length_nil, List.length_append]; omega)); (case h1 => first | omega | (simp only [List.length_cons, List.length_map, List.length_nil, List.length_append]; omega)))
        | ((with_reducible apply m_sliceLH); (case h => exact inferInstance); (case he => exact inferInstance); (case hx => exact rfl); (case hy => exact rfl); (case hy2 => exact rfl); (case h0 => first | omega | (simp only [List.length_cons, List.length_map, List.length_nil, List.length_append]; omega)); (case h1 => first | omega | (simp only [List.length_cons, List.length_map, List.length_nil, List.length_append]; omega)); (case h2 => first | omega | (simp only [List.length_cons, List.length_map, List.length_nil, List.length_append]; omega))))) : Cm P L o v := h
theorem ltA (h : Lt P E L s o v := by (first
        | ((with_reducible apply l_load1); (case h => exact inferInstance); (case hx => exact rfl); (case hs => repeat (first | (with_reducible exact Sel.here) | (with_reducible apply Sel.there))); (case hv => first | (with_reducible assumption) | exact rfl))
        | ((with_reducible apply l_loadN); (case h => exact inferInstance); (case hx => exact rfl); (case hs => repeat (first | (with_reducible exact Sel.here) | (with_reducible apply Sel.there))); (case hv => exact rfl))
        | ((with_reducible apply l_loadT1); (case h => exact inferInstance); (case hx => exact rfl); (case hs => repeat (first | (with_reducible exact Sel.here) | (with_reducible apply Sel.there))); (case hv => first | (with_reducible assumption) | exact rfl))
        | ((with_reducible apply l_loadTN); (case h => exact inferInstance); (case hx => exact rfl); (case hs => repeat (first | (with_reducible exact Sel.here) | (with_reducible apply Sel.there))); (case hv => exact rfl))
        | ((with_reducible apply l_loadO1); (case h => exact inferInstance); (case hx => exact rfl); (case hs => repeat (first | (with_reducible exact Sel.here) | (with_reducible apply Sel.there))); (case he => first | (with_reducible assumption) | exact rfl | assumption | exact elt (by assumption) | exact eltLast | (simp; done)); (case hv => exact rfl))
        | ((with_reducible apply l_loadR1); (case h => exact inferInstance); (case hx => exact rfl); (case hs => repeat (first | (with_reducible exact Sel.here) | (with_reducible apply Sel.there))); (case he => first | (with_reducible assumption) | exact rfl | assumption | exact elt (by assumption) | exact eltLast | (simp; done)); (case hv => exact rfl))
        | ((with_reducible apply l_loadON); (case h => exact inferInstance); (case hx => exact rfl); (case hs => repeat (first | (with_reducible exact Sel.here) | (with_reducible apply Sel.there))); (case he => first | (with_reducible assumption) | exact rfl | assumption | exact elt (by assumption) | exact eltLast | (simp; done)); (case hv => exact rfl))
        | ((with_reducible apply l_loadRN); (case h => exact inferInstance); (case hx => exact rfl); (case hs => repeat (first | (with_reducible exact Sel.here) | (with_reducible apply Sel.there))); (case he => first | (with_reducible assumption) | exact rfl | assumption | exact elt (by assumption) | exact eltLast | (simp; done)); (case hv => exact rfl))
        | ((with_reducible apply l_indexO); (case h => exact inferInstance); (case he => exact inferInstance); (case hx => exact rfl); (case hy => exact rfl); (case hs => repeat (first | (with_reducible exact Sel.here) | (with_reducible apply Sel.there))); (case hn => first | (with_reducible assumption) | exact rfl | exact List.length_map _ | (simp; done) | (simp; omega)); (case h0 => first | omega | (simp only [List.length_cons, List.length_map, List.length_nil, List.length_append]; omega)); (case h1 => first | omega | (simp only [List.length_cons, List.length_map, List.length_nil, List.length_append]; omega)))
        | ((with_reducible apply l_indexR); (case h => exact inferInstance); (case he => exact inferInstance); (case hx => exact rfl); (case hy => exact rfl); (case hs => repeat (first | (with_reducible exact Sel.here) | (with_reducible apply Sel.there))); (case hn => first | (with_reducible assumption) | exact rfl | exact List.length_map _ | (simp; done) | (simp; omega)); (case h0 => first | omega | (simp only [List.length_cons, List.length_map, List.length_nil, List.length_append]; omega)); (case h1 => first | omega | (simp only [List.length_cons, List.length_map, List.length_nil, List.length_append]; omega)))
        | ((with_reducible apply l_toStrR); (case h1 => exact inferInstance); (case h2 => exact inferInstance); (case h3 => exact inferInstance); (case hx => exact rfl); (case hs => repeat (first | (with_reducible exact Sel.here) | (with_reducible apply Sel.there))); (case hn => first | (with_reducible assumption) | exact rfl | exact List.length_map _ | (simp; done) | (simp; omega)))
        | ((with_reducible apply l_toStrO); (case h1 => exact inferInstance); (case h2 => exact inferInstance); (case h3 => exact inferInstance); (case hx => exact rfl); (case hs => repeat (first | (with_reducible exact Sel.here) | (with_reducible apply Sel.there))); (case hn => first | (with_reducible assumption) | exact rfl | exact List.length_map _ | (simp; done) | (simp; omega))))) : Lt P E L s o v := h
theorem ltsA (h : Lt P E L s o v := by (first | exact ltA | exact Cm.lt cmA)) : Lt P E L s o v := h
theorem pdokA (h : PdOk P E M j L s pd := by (repeat (first | exact PdOk.nil | ((with_reducible apply PdOk.old); (case h => exact rfl)) | ((with_reducible apply PdOk.cons); (case h => exact ltsA))))) : PdOk P E M j L s pd := h
theorem pdsubA (h : PdSub M eff σ pd0 pd := by (repeat (first | (with_reducible exact PdSub.refl) | exact PdSub.nil | ((with_reducible apply PdSub.cons); (case h => exact rfl))))) : PdSub M eff σ pd0 pd := h
end
class Mixed (P : Program) : Prop where
  h : P.follows .mixedOrders = true
section
variable {P : Program} {E : Env} {X : Xs} {b : Fx} {Post : Value → List HP → Prop} {k : List Item} {L : Tm} {s : List HP} {l rest : List Oper} {M eff rdx : List Nat} {σ : List (Nat × Oper)} {pd : List (Nat × Oper × Value)} {j d : Nat} {ty : TypeId} {pos : String} {af : Array Edge} {gd : Option (Nat × Bool)}
theorem draw {i : Nat} {σo : List (Nat × Oper)} (M eff rdx σ : List Nat) (g : DA P E X b Post l M eff rdx σo [] k L s) [hm : Mixed P] (hp : planB l M eff rdx σ = true := by kernel_rfl) (ho : pickOps l σ = some σo := by rfl) : W P E X b Post (.code (.region i l.toArray true) :: k) L s := W.draw hm.h hp ho g
theorem into {s' : List HP} {t : List Item} (h : Into s s') (g : W P E X b Post t L s') : W P E X b Post t L s := W.weaken (fun _ _ h => h) h.h g
theorem capR (base : Option Addr) {cap sz : Nat} {es : List (List Value)} {F : List HP} {t : List Item} (g : es.length ≤ cap → W P E X b Post t L s) (hs : Sel s (rsl base cap sz es) F := by repeat (first | (with_reducible exact Sel.here) | (with_reducible apply Sel.there))) : W P E X b Post t L s := W.pure (hs.pure fun r f h => h.2.1) g
theorem capO (base : Option Addr) {cap sz : Nat} {T : TypeId} {es : List (List Value)} {F : List HP} {t : List Item} (g : es.length ≤ cap → W P E X b Post t L s) (hs : Sel s (osl base cap T sz es) F := by repeat (first | (with_reducible exact Sel.here) | (with_reducible apply Sel.there))) : W P E X b Post t L s := W.pure (hs.pure fun r f h => h.2.1) g
theorem rslE (base : Option Addr) {cap sz : Nat} {es es' : List (List Value)} {F : List HP} (lo m : Nat) (hl : lo ≤ cap) (he : (es.drop lo).take m = es') (hs : Sel s (rsl base cap sz es) F := by repeat (first | (with_reducible exact Sel.here) | (with_reducible apply Sel.there))) : Into s (rsl (slB base cap lo sz) (cap - lo) sz es' :: s) := he ▸ Into.rsl lo m hs hl
theorem cinto {s' : List HP} {g : FuncId} {as : List Value} {J : Value → List HP → Prop} (h : Into s s') (k : Cl P E X g as s' J) : Cl P E X g as s J := by
  obtain ⟨pre, F, Post', h1, h2, h3⟩ := k
  exact ⟨pre, F, Post', h1, fun r f hs => h2 r f (h.h r f hs), h3⟩
theorem capRL (base : Option Addr) {cap sz : Nat} {es : List (List Value)} {F : List HP} (g : es.length ≤ cap → WL P E X b Post l rest k L s) (hs : Sel s (rsl base cap sz es) F := by repeat (first | (with_reducible exact Sel.here) | (with_reducible apply Sel.there))) : WL P E X b Post l rest k L s := fun n hn => W.pure (hs.pure fun r f h => h.2.1) fun hp => g hp n hn
theorem capOL (base : Option Addr) {cap sz : Nat} {T : TypeId} {es : List (List Value)} {F : List HP} (g : es.length ≤ cap → WL P E X b Post l rest k L s) (hs : Sel s (osl base cap T sz es) F := by repeat (first | (with_reducible exact Sel.here) | (with_reducible apply Sel.there))) : WL P E X b Post l rest k L s := fun n hn => W.pure (hs.pure fun r f h => h.2.1) fun hp => g hp n hn
theorem ghostO (base : Option Addr) {cap sz : Nat} {T : TypeId} {es : List (List Value)} {F : List HP} {t : List Item} (g : W P E X b Post t L (KL.rsl base cap sz es :: F)) (hs : Sel s (osl base cap T sz es) F := by repeat (first | (with_reducible exact Sel.here) | (with_reducible apply Sel.there))) : W P E X b Post t L s := W.ghost (Ghost.osl hs) g
theorem ghostOL (base : Option Addr) {cap sz : Nat} {T : TypeId} {es : List (List Value)} {F : List HP} (g : WL P E X b Post l rest k L (KL.rsl base cap sz es :: F)) (hs : Sel s (osl base cap T sz es) F := by repeat (first | (with_reducible exact Sel.here) | (with_reducible apply Sel.there))) : WL P E X b Post l rest k L s := WL.ghost (Ghost.osl hs) g
theorem WL.into {s' : List HP} (h : Into s s') (g : WL P E X b Post l rest k L s') : WL P E X b Post l rest k L s := fun n hn => KL.into h (g n hn)
theorem alloc {t : TypeId} {agg : Bool} {sz : Nat} {z : List Value} (g : ∀ bb, WL P E X b Post l rest k ((d, .pointer (some ⟨bb, 0, none⟩)) :: L) (box bb z t :: s)) [h : TyN P t agg sz z]
    (hw : Want L l ⟨some d, .alloc t, ty, pos, af, gd⟩ true := by (exact wantA)) (hd : Nat.blt d b.n = true := by exact rfl) : WL P E X b Post l (⟨some d, .alloc t, ty, pos, af, gd⟩ :: rest) k L s :=
  WL.ex hw hd (x_alloc h) (fun v s' ⟨bb, e1, e2⟩ => by rw [e1, e2]; exact g bb)
theorem box_ {t : TypeId} {x : Operand} {v : Value} (g : ∀ bb, WL P E X b Post l rest k ((d, .pointer (some ⟨bb, 0, none⟩)) :: L) (box bb (valC v) t :: s)) (hx : ev L x = some v := by exact rfl)
    (hw : Want L l ⟨some d, .box t x, ty, pos, af, gd⟩ true := by (exact wantA)) (hd : Nat.blt d b.n = true := by exact rfl) : WL P E X b Post l (⟨some d, .box t x, ty, pos, af, gd⟩ :: rest) k L s :=
  WL.ex hw hd (x_box hx) (fun v s' ⟨bb, e1, e2⟩ => by rw [e1, e2]; exact g bb)
theorem buildSlice {t e : TypeId} {agg : Bool} {sz len : Nat} {z : List Value} {parts : Array (Nat × Operand)} {ps : List (Nat × Value)} {es : List (List Value)} (g : ∀ bb, WL P E X b Post l rest k ((d, .slice (some ⟨bb, 0, none⟩) len len) :: L) (osl (some ⟨bb, 0, none⟩) len e sz es :: s)) [h : TyU P t (.slice e)] [he : TyN P e agg sz z] (hp : evp L parts.toList = some ps := by exact rfl) (hes : esOf sz 0 ps = some es := by exact rfl) (hlen : es.length = len := by exact rfl) (hsm : len * sz ≤ 16777216 := by decide)
    (hw : Want L l ⟨some d, .buildSlice t len parts, ty, pos, af, gd⟩ true := by (exact wantA)) (hd : Nat.blt d b.n = true := by exact rfl) : WL P E X b Post l (⟨some d, .buildSlice t len parts, ty, pos, af, gd⟩ :: rest) k L s :=
  WL.ex hw hd (x_buildSlice h he hp hes hlen hsm) (fun v s' ⟨bb, e1, e2⟩ => by rw [e1, e2]; exact g bb)
theorem makeSlice {t e : TypeId} {agg : Bool} {sz bytes : Nat} {z : List Value} {x y : Operand} {kk k2 : IntKind} {n c : Int} (g : ∀ bb, WL P E X b Post l rest k ((d, .slice (some ⟨bb, 0, none⟩) n.toNat c.toNat) :: L) (osl (some ⟨bb, 0, none⟩) c.toNat e sz (List.replicate n.toNat z) :: s)) [h : TyU P t (.slice e)] [he : TyN P e agg sz z] [hb : TyB P e bytes] (hx : ev L x = some (.int kk n) := by exact rfl) (hy : ev L y = some (.int k2 c) := by exact rfl) (hzl : lenIs z sz = true := by exact rfl) (hz1 : allOne z = true := by exact rfl) (h0 : 0 ≤ n := by omega) (h1 : n ≤ c := by omega) (hc : c ≤ 9223372036854775807 := by omega) (hsm : bytes * c ≤ 281474976710656 := by omega)
    (hw : Want L l ⟨some d, .makeSlice t x y, ty, pos, af, gd⟩ true := by (exact wantA)) (hd : Nat.blt d b.n = true := by exact rfl) : WL P E X b Post l (⟨some d, .makeSlice t x y, ty, pos, af, gd⟩ :: rest) k L s :=
  WL.ex hw hd (x_makeSlice h he hb hx hy hzl hz1 h0 h1 hc hsm) (fun v s' ⟨bb, e1, e2⟩ => by rw [e1, e2]; exact g bb)
theorem appendO {x y : Operand} {t1 t2 elem : TypeId} {d2 : TypeDesc} {agg : Bool} {sz bytes n n2 cap cap2 : Nat} {z : List Value} {base base2 : Option Addr} {es es2 : List (List Value)} {F1 F : List HP} {T2 : TypeId} (g : ∀ base' cap', WL P E X b Post l rest k ((d, .slice base' (n + n2) cap') :: L) (osl base' cap' elem sz (es ++ es2) :: osl base2 cap2 T2 sz es2 :: F)) [h1 : TyU P t1 (.slice elem)] [h2 : TyU P t2 d2] [he : TyN P elem agg sz z] [hby : TyB P elem bytes] (hx : ev L x = some (.slice base n cap) := by exact rfl) (hy : ev L y = some (.slice base2 n2 cap2) := by exact rfl) (hs : Sel s (osl base cap elem sz es) F1 := by repeat (first | (with_reducible exact Sel.here) | (with_reducible apply Sel.there))) (hs2 : Sel F1 (osl base2 cap2 T2 sz es2) F := by repeat (first | (with_reducible exact Sel.here) | (with_reducible apply Sel.there)))
    (hn : es.length = n := by first | (with_reducible assumption) | exact rfl | exact List.length_map _ | (simp; done) | (simp; omega)) (hn2 : es2.length = n2 := by first | (with_reducible assumption) | exact rfl | exact List.length_map _ | (simp; done) | (simp; omega)) (hni : ∀ k, d2 ≠ .int k := by (intro k e; cases e)) (hzl : lenIs z sz = true := by exact rfl) (hz : 0 < bytes := by decide) (hroom : (2 * (n + n2) + 512) * bytes ≤ 281474976710656 := by omega)
    (hw : Want L l ⟨some d, .call ⟨.builtin .append, #[x, y], #[t1, t2]⟩, ty, pos, af, gd⟩ true := by (exact wantA)) (hd : Nat.blt d b.n = true := by exact rfl) : WL P E X b Post l (⟨some d, .call ⟨.builtin .append, #[x, y], #[t1, t2]⟩, ty, pos, af, gd⟩ :: rest) k L s :=
  WL.ex hw hd (x_append h1 h2 he hby hx hy hs hs2 (Src.osl hn2) hn hni hzl hz hroom) (fun v s' ⟨bb, cc, e1, e2⟩ => by rw [e1, e2]; exact g bb cc)
theorem appendR {x y : Operand} {t1 t2 elem : TypeId} {d2 : TypeDesc} {agg : Bool} {sz bytes n n2 cap cap2 : Nat} {z : List Value} {base base2 : Option Addr} {es es2 : List (List Value)} {F1 F : List HP} (g : ∀ base' cap', WL P E X b Post l rest k ((d, .slice base' (n + n2) cap') :: L) (osl base' cap' elem sz (es ++ es2) :: rsl base2 cap2 sz es2 :: F)) [h1 : TyU P t1 (.slice elem)] [h2 : TyU P t2 d2] [he : TyN P elem agg sz z] [hby : TyB P elem bytes] (hx : ev L x = some (.slice base n cap) := by exact rfl) (hy : ev L y = some (.slice base2 n2 cap2) := by exact rfl) (hs : Sel s (osl base cap elem sz es) F1 := by repeat (first | (with_reducible exact Sel.here) | (with_reducible apply Sel.there))) (hs2 : Sel F1 (rsl base2 cap2 sz es2) F := by repeat (first | (with_reducible exact Sel.here) | (with_reducible apply Sel.there)))
    (hn : es.length = n := by first | (with_reducible assumption) | exact rfl | exact List.length_map _ | (simp; done) | (simp; omega)) (hn2 : es2.length = n2 := by first | (with_reducible assumption) | exact rfl | exact List.length_map _ | (simp; done) | (simp; omega)) (hni : ∀ k, d2 ≠ .int k := by (intro k e; cases e)) (hzl : lenIs z sz = true := by exact rfl) (hz : 0 < bytes := by decide) (hroom : (2 * (n + n2) + 512) * bytes ≤ 281474976710656 := by omega)
    (hw : Want L l ⟨some d, .call ⟨.builtin .append, #[x, y], #[t1, t2]⟩, ty, pos, af, gd⟩ true := by (exact wantA)) (hd : Nat.blt d b.n = true := by exact rfl) : WL P E X b Post l (⟨some d, .call ⟨.builtin .append, #[x, y], #[t1, t2]⟩, ty, pos, af, gd⟩ :: rest) k L s :=
  WL.ex hw hd (x_append h1 h2 he hby hx hy hs hs2 (Src.rsl hn2) hn hni hzl hz hroom) (fun v s' ⟨bb, cc, e1, e2⟩ => by rw [e1, e2]; exact g bb cc)
theorem r_store1 {t T0 : TypeId} {agg : Bool} {sz : Nat} {z : List Value} {x y : Operand} {bb off : Nat} {c c' : List Value} {v : Value} {F : List HP} (hw : Want L l ⟨none, .store t x y, ty, pos, af, gd⟩ true) (h : TyN P t agg sz z) (hx : ev L x = some (.pointer (some ⟨bb, off, none⟩))) (hy : ev L y = some v) (hs : Sel s (box bb c T0) F) (hz : valC v ≠ []) (hl : lenIs (valC v) sz = true) (h1 : allOne (valC v) = true) (hn : layO c off (valC v) = some c')
    (g : WL P E X b Post l rest k L (box bb c' T0 :: F)) : WL P E X b Post l (⟨none, .store t x y, ty, pos, af, gd⟩ :: rest) k L s :=
  WL.ex hw rfl (x_store h hx hy hs hl h1 (layO_le hl hz hn)) (fun v s' e => by rw [e, ← layO_lay hz hn]; exact g)
theorem r_storeS {t T0 : TypeId} {agg : Bool} {sz : Nat} {z : List Value} {x y : Operand} {bb off : Nat} {c : List Value} {v : Value} {F : List HP} (hw : Want L l ⟨none, .store t x y, ty, pos, af, gd⟩ true) (h : TyN P t agg sz z) (hx : ev L x = some (.pointer (some ⟨bb, off, none⟩))) (hy : ev L y = some v) (hs : Sel s (box bb c T0) F) (hl : lenIs (valC v) sz = true) (h1 : allOne (valC v) = true) (hn : off + sz ≤ c.length)
    (g : WL P E X b Post l rest k L (box bb (lay c off (valC v)) T0 :: F)) : WL P E X b Post l (⟨none, .store t x y, ty, pos, af, gd⟩ :: rest) k L s :=
  WL.ex hw rfl (x_store h hx hy hs hl h1 hn) (fun v s' e => by rw [e]; exact g)
theorem r_storeO1 {t T0 : TypeId} {agg : Bool} {n : Nat} {z : List Value} {x y : Operand} {base : Option Addr} {cap sz i o : Nat} {es : List (List Value)} {e e' : List Value} {v : Value} {F : List HP} (hw : Want L l ⟨none, .store t x y, ty, pos, af, gd⟩ true) (h : TyN P t agg n z) (hx : ev L x = some (.pointer (some (eltA base i sz o)))) (hy : ev L y = some v) (hs : Sel s (osl base cap T0 sz es) F) (he : es[i]? = some e) (hz : valC v ≠ []) (hl : lenIs (valC v) n = true) (h1 : allOne (valC v) = true) (hn : layO e o (valC v) = some e' ∧ Nat.ble (o + n) sz = true)
    (g : WL P E X b Post l rest k L (osl base cap T0 sz (es.set i e') :: F)) : WL P E X b Post l (⟨none, .store t x y, ty, pos, af, gd⟩ :: rest) k L s :=
  WL.ex hw rfl (x_storeO h hx hy hs he hl h1 (by simpa using hn.2)) (fun v s' e => by rw [e, ← layO_lay hz hn.1]; exact g)
theorem r_storeOS {t T0 : TypeId} {agg : Bool} {n : Nat} {z : List Value} {x y : Operand} {base : Option Addr} {cap sz i o : Nat} {es : List (List Value)} {e : List Value} {v : Value} {F : List HP} (hw : Want L l ⟨none, .store t x y, ty, pos, af, gd⟩ true) (h : TyN P t agg n z) (hx : ev L x = some (.pointer (some (eltA base i sz o)))) (hy : ev L y = some v) (hs : Sel s (osl base cap T0 sz es) F) (he : es[i]? = some e) (hl : lenIs (valC v) n = true) (h1 : allOne (valC v) = true) (hn : o + n ≤ sz)
    (g : WL P E X b Post l rest k L (osl base cap T0 sz (es.set i (lay e o (valC v))) :: F)) : WL P E X b Post l (⟨none, .store t x y, ty, pos, af, gd⟩ :: rest) k L s :=
  WL.ex hw rfl (x_storeO h hx hy hs he hl h1 hn) (fun v s' e => by rw [e]; exact g)
theorem dalloc {t : TypeId} {agg : Bool} {sz : Nat} {z : List Value} (g : ∀ bb, DA P E X b Post l M eff rdx σ pd k ((d, .pointer (some ⟨bb, 0, none⟩)) :: L) (box bb z t :: s)) [h : TyN P t agg sz z]
    (hw : Want L l ⟨some d, .alloc t, ty, pos, af, gd⟩ true := by (exact wantA)) (hd : Nat.blt d b.n = true := by exact rfl) (hj : eff.contains j = true := by exact rfl) (hpd : ∀ bb, PdOk P E M j ((d, .pointer (some ⟨bb, 0, none⟩)) :: L) (box bb z t :: s) pd := by (intros; exact pdokA)) : DA P E X b Post l M eff rdx ((j, ⟨some d, .alloc t, ty, pos, af, gd⟩) :: σ) pd k L s :=
  DA.exP hw hd hj (x_alloc h) (fun v s' ⟨bb, e1, e2⟩ => by rw [e1, e2]; exact ⟨hpd bb, g bb⟩)
theorem dbox_ {t : TypeId} {x : Operand} {v : Value} (g : ∀ bb, DA P E X b Post l M eff rdx σ pd k ((d, .pointer (some ⟨bb, 0, none⟩)) :: L) (box bb (valC v) t :: s)) (hx : ev L x = some v := by exact rfl)
    (hw : Want L l ⟨some d, .box t x, ty, pos, af, gd⟩ true := by (exact wantA)) (hd : Nat.blt d b.n = true := by exact rfl) (hj : eff.contains j = true := by exact rfl) (hpd : ∀ bb, PdOk P E M j ((d, .pointer (some ⟨bb, 0, none⟩)) :: L) (box bb (valC v) t :: s) pd := by (intros; exact pdokA)) : DA P E X b Post l M eff rdx ((j, ⟨some d, .box t x, ty, pos, af, gd⟩) :: σ) pd k L s :=
  DA.exP hw hd hj (x_box hx) (fun v s' ⟨bb, e1, e2⟩ => by rw [e1, e2]; exact ⟨hpd bb, g bb⟩)
theorem dbuildSlice {t e : TypeId} {agg : Bool} {sz len : Nat} {z : List Value} {parts : Array (Nat × Operand)} {ps : List (Nat × Value)} {es : List (List Value)} (g : ∀ bb, DA P E X b Post l M eff rdx σ pd k ((d, .slice (some ⟨bb, 0, none⟩) len len) :: L) (osl (some ⟨bb, 0, none⟩) len e sz es :: s)) [h : TyU P t (.slice e)] [he : TyN P e agg sz z] (hp : evp L parts.toList = some ps := by exact rfl) (hes : esOf sz 0 ps = some es := by exact rfl) (hlen : es.length = len := by exact rfl) (hsm : len * sz ≤ 16777216 := by decide)
    (hw : Want L l ⟨some d, .buildSlice t len parts, ty, pos, af, gd⟩ true := by (exact wantA)) (hd : Nat.blt d b.n = true := by exact rfl) (hj : eff.contains j = true := by exact rfl) (hpd : ∀ bb, PdOk P E M j ((d, .slice (some ⟨bb, 0, none⟩) len len) :: L) (osl (some ⟨bb, 0, none⟩) len e sz es :: s) pd := by (intros; exact pdokA)) : DA P E X b Post l M eff rdx ((j, ⟨some d, .buildSlice t len parts, ty, pos, af, gd⟩) :: σ) pd k L s :=
  DA.exP hw hd hj (x_buildSlice h he hp hes hlen hsm) (fun v s' ⟨bb, e1, e2⟩ => by rw [e1, e2]; exact ⟨hpd bb, g bb⟩)
theorem dmakeSlice {t e : TypeId} {agg : Bool} {sz bytes : Nat} {z : List Value} {x y : Operand} {kk k2 : IntKind} {n c : Int} (g : ∀ bb, DA P E X b Post l M eff rdx σ pd k ((d, .slice (some ⟨bb, 0, none⟩) n.toNat c.toNat) :: L) (osl (some ⟨bb, 0, none⟩) c.toNat e sz (List.replicate n.toNat z) :: s)) [h : TyU P t (.slice e)] [he : TyN P e agg sz z] [hb : TyB P e bytes] (hx : ev L x = some (.int kk n) := by exact rfl) (hy : ev L y = some (.int k2 c) := by exact rfl) (hzl : lenIs z sz = true := by exact rfl) (hz1 : allOne z = true := by exact rfl) (h0 : 0 ≤ n := by omega) (h1 : n ≤ c := by omega) (hc : c ≤ 9223372036854775807 := by omega) (hsm : bytes * c ≤ 281474976710656 := by omega)
    (hw : Want L l ⟨some d, .makeSlice t x y, ty, pos, af, gd⟩ true := by (exact wantA)) (hd : Nat.blt d b.n = true := by exact rfl) (hj : eff.contains j = true := by exact rfl) (hpd : ∀ bb, PdOk P E M j ((d, .slice (some ⟨bb, 0, none⟩) n.toNat c.toNat) :: L) (osl (some ⟨bb, 0, none⟩) c.toNat e sz (List.replicate n.toNat z) :: s) pd := by (intros; exact pdokA)) : DA P E X b Post l M eff rdx ((j, ⟨some d, .makeSlice t x y, ty, pos, af, gd⟩) :: σ) pd k L s :=
  DA.exP hw hd hj (x_makeSlice h he hb hx hy hzl hz1 h0 h1 hc hsm) (fun v s' ⟨bb, e1, e2⟩ => by rw [e1, e2]; exact ⟨hpd bb, g bb⟩)
theorem dappendO {x y : Operand} {t1 t2 elem : TypeId} {d2 : TypeDesc} {agg : Bool} {sz bytes n n2 cap cap2 : Nat} {z : List Value} {base base2 : Option Addr} {es es2 : List (List Value)} {F1 F : List HP} {T2 : TypeId} (g : ∀ base' cap', DA P E X b Post l M eff rdx σ pd k ((d, .slice base' (n + n2) cap') :: L) (osl base' cap' elem sz (es ++ es2) :: osl base2 cap2 T2 sz es2 :: F)) [h1 : TyU P t1 (.slice elem)] [h2 : TyU P t2 d2] [he : TyN P elem agg sz z] [hby : TyB P elem bytes] (hx : ev L x = some (.slice base n cap) := by exact rfl) (hy : ev L y = some (.slice base2 n2 cap2) := by exact rfl) (hs : Sel s (osl base cap elem sz es) F1 := by repeat (first | (with_reducible exact Sel.here) | (with_reducible apply Sel.there))) (hs2 : Sel F1 (osl base2 cap2 T2 sz es2) F := by repeat (first | (with_reducible exact Sel.here) | (with_reducible apply Sel.there)))
    (hn : es.length = n := by first | (with_reducible assumption) | exact rfl | exact List.length_map _ | (simp; done) | (simp; omega)) (hn2 : es2.length = n2 := by first | (with_reducible assumption) | exact rfl | exact List.length_map _ | (simp; done) | (simp; omega)) (hni : ∀ k, d2 ≠ .int k := by (intro k e; cases e)) (hzl : lenIs z sz = true := by exact rfl) (hz : 0 < bytes := by decide) (hroom : (2 * (n + n2) + 512) * bytes ≤ 281474976710656 := by omega)
    (hw : Want L l ⟨some d, .call ⟨.builtin .append, #[x, y], #[t1, t2]⟩, ty, pos, af, gd⟩ true := by (exact wantA)) (hd : Nat.blt d b.n = true := by exact rfl) (hj : eff.contains j = true := by exact rfl) (hpd : ∀ base' cap', PdOk P E M j ((d, .slice base' (n + n2) cap') :: L) (osl base' cap' elem sz (es ++ es2) :: osl base2 cap2 T2 sz es2 :: F) pd := by (intros; exact pdokA)) : DA P E X b Post l M eff rdx ((j, ⟨some d, .call ⟨.builtin .append, #[x, y], #[t1, t2]⟩, ty, pos, af, gd⟩) :: σ) pd k L s :=
  DA.exP hw hd hj (x_append h1 h2 he hby hx hy hs hs2 (Src.osl hn2) hn hni hzl hz hroom) (fun v s' ⟨bb, cc, e1, e2⟩ => by rw [e1, e2]; exact ⟨hpd bb cc, g bb cc⟩)
theorem dappendR {x y : Operand} {t1 t2 elem : TypeId} {d2 : TypeDesc} {agg : Bool} {sz bytes n n2 cap cap2 : Nat} {z : List Value} {base base2 : Option Addr} {es es2 : List (List Value)} {F1 F : List HP} (g : ∀ base' cap', DA P E X b Post l M eff rdx σ pd k ((d, .slice base' (n + n2) cap') :: L) (osl base' cap' elem sz (es ++ es2) :: rsl base2 cap2 sz es2 :: F)) [h1 : TyU P t1 (.slice elem)] [h2 : TyU P t2 d2] [he : TyN P elem agg sz z] [hby : TyB P elem bytes] (hx : ev L x = some (.slice base n cap) := by exact rfl) (hy : ev L y = some (.slice base2 n2 cap2) := by exact rfl) (hs : Sel s (osl base cap elem sz es) F1 := by repeat (first | (with_reducible exact Sel.here) | (with_reducible apply Sel.there))) (hs2 : Sel F1 (rsl base2 cap2 sz es2) F := by repeat (first | (with_reducible exact Sel.here) | (with_reducible apply Sel.there)))
    (hn : es.length = n := by first | (with_reducible assumption) | exact rfl | exact List.length_map _ | (simp; done) | (simp; omega)) (hn2 : es2.length = n2 := by first | (with_reducible assumption) | exact rfl | exact List.length_map _ | (simp; done) | (simp; omega)) (hni : ∀ k, d2 ≠ .int k := by (intro k e; cases e)) (hzl : lenIs z sz = true := by exact rfl) (hz : 0 < bytes := by decide) (hroom : (2 * (n + n2) + 512) * bytes ≤ 281474976710656 := by omega)
    (hw : Want L l ⟨some d, .call ⟨.builtin .append, #[x, y], #[t1, t2]⟩, ty, pos, af, gd⟩ true := by (exact wantA)) (hd : Nat.blt d b.n = true := by exact rfl) (hj : eff.contains j = true := by exact rfl) (hpd : ∀ base' cap', PdOk P E M j ((d, .slice base' (n + n2) cap') :: L) (osl base' cap' elem sz (es ++ es2) :: rsl base2 cap2 sz es2 :: F) pd := by (intros; exact pdokA)) : DA P E X b Post l M eff rdx ((j, ⟨some d, .call ⟨.builtin .append, #[x, y], #[t1, t2]⟩, ty, pos, af, gd⟩) :: σ) pd k L s :=
  DA.exP hw hd hj (x_append h1 h2 he hby hx hy hs hs2 (Src.rsl hn2) hn hni hzl hz hroom) (fun v s' ⟨bb, cc, e1, e2⟩ => by rw [e1, e2]; exact ⟨hpd bb cc, g bb cc⟩)
theorem dr_store1 {t T0 : TypeId} {agg : Bool} {sz : Nat} {z : List Value} {x y : Operand} {bb off : Nat} {c c' : List Value} {v : Value} {F : List HP} (hw : Want L l ⟨none, .store t x y, ty, pos, af, gd⟩ true) (hj : eff.contains j = true) (h : TyN P t agg sz z) (hx : ev L x = some (.pointer (some ⟨bb, off, none⟩))) (hy : ev L y = some v) (hs : Sel s (box bb c T0) F) (hz : valC v ≠ []) (hl : lenIs (valC v) sz = true) (h1 : allOne (valC v) = true) (hn : layO c off (valC v) = some c') (hpd : PdOk P E M j L (box bb c' T0 :: F) pd)
    (g : DA P E X b Post l M eff rdx σ pd k L (box bb c' T0 :: F)) : DA P E X b Post l M eff rdx ((j, ⟨none, .store t x y, ty, pos, af, gd⟩) :: σ) pd k L s :=
  DA.exP hw rfl hj (x_store h hx hy hs hl h1 (layO_le hl hz hn)) (fun v s' e => by rw [e, ← layO_lay hz hn]; exact ⟨hpd, g⟩)
theorem dr_storeS {t T0 : TypeId} {agg : Bool} {sz : Nat} {z : List Value} {x y : Operand} {bb off : Nat} {c : List Value} {v : Value} {F : List HP} (hw : Want L l ⟨none, .store t x y, ty, pos, af, gd⟩ true) (hj : eff.contains j = true) (h : TyN P t agg sz z) (hx : ev L x = some (.pointer (some ⟨bb, off, none⟩))) (hy : ev L y = some v) (hs : Sel s (box bb c T0) F) (hl : lenIs (valC v) sz = true) (h1 : allOne (valC v) = true) (hn : off + sz ≤ c.length) (hpd : PdOk P E M j L (box bb (lay c off (valC v)) T0 :: F) pd)
    (g : DA P E X b Post l M eff rdx σ pd k L (box bb (lay c off (valC v)) T0 :: F)) : DA P E X b Post l M eff rdx ((j, ⟨none, .store t x y, ty, pos, af, gd⟩) :: σ) pd k L s :=
  DA.exP hw rfl hj (x_store h hx hy hs hl h1 hn) (fun v s' e => by rw [e]; exact ⟨hpd, g⟩)
theorem dr_storeO1 {t T0 : TypeId} {agg : Bool} {n : Nat} {z : List Value} {x y : Operand} {base : Option Addr} {cap sz i o : Nat} {es : List (List Value)} {e e' : List Value} {v : Value} {F : List HP} (hw : Want L l ⟨none, .store t x y, ty, pos, af, gd⟩ true) (hj : eff.contains j = true) (h : TyN P t agg n z) (hx : ev L x = some (.pointer (some (eltA base i sz o)))) (hy : ev L y = some v) (hs : Sel s (osl base cap T0 sz es) F) (he : es[i]? = some e) (hz : valC v ≠ []) (hl : lenIs (valC v) n = true) (h1 : allOne (valC v) = true) (hn : layO e o (valC v) = some e' ∧ Nat.ble (o + n) sz = true) (hpd : PdOk P E M j L (osl base cap T0 sz (es.set i e') :: F) pd)
    (g : DA P E X b Post l M eff rdx σ pd k L (osl base cap T0 sz (es.set i e') :: F)) : DA P E X b Post l M eff rdx ((j, ⟨none, .store t x y, ty, pos, af, gd⟩) :: σ) pd k L s :=
  DA.exP hw rfl hj (x_storeO h hx hy hs he hl h1 (by simpa using hn.2)) (fun v s' e => by rw [e, ← layO_lay hz hn.1]; exact ⟨hpd, g⟩)
theorem dr_storeOS {t T0 : TypeId} {agg : Bool} {n : Nat} {z : List Value} {x y : Operand} {base : Option Addr} {cap sz i o : Nat} {es : List (List Value)} {e : List Value} {v : Value} {F : List HP} (hw : Want L l ⟨none, .store t x y, ty, pos, af, gd⟩ true) (hj : eff.contains j = true) (h : TyN P t agg n z) (hx : ev L x = some (.pointer (some (eltA base i sz o)))) (hy : ev L y = some v) (hs : Sel s (osl base cap T0 sz es) F) (he : es[i]? = some e) (hl : lenIs (valC v) n = true) (h1 : allOne (valC v) = true) (hn : o + n ≤ sz) (hpd : PdOk P E M j L (osl base cap T0 sz (es.set i (lay e o (valC v))) :: F) pd)
    (g : DA P E X b Post l M eff rdx σ pd k L (osl base cap T0 sz (es.set i (lay e o (valC v))) :: F)) : DA P E X b Post l M eff rdx ((j, ⟨none, .store t x y, ty, pos, af, gd⟩) :: σ) pd k L s :=
  DA.exP hw rfl hj (x_storeO h hx hy hs he hl h1 hn) (fun v s' e => by rw [e]; exact ⟨hpd, g⟩)
theorem DA.cl {d : Option Nat} {fo : Operand} {args : Array Operand} {ats : Array TypeId} {g : FuncId} {fi ca : Array Value} {vs as : List Value}
    (hw : Want L l ⟨d, .call ⟨.value fo, args, ats⟩, ty, pos, af, gd⟩ true) (hf : ev L fo = some (.func (.func g) fi ca)) (ha : evs L args.toList = some vs) (has : fi.toList ++ vs ++ ca.toList = as) (hd : ltd d b.n = true) (hj : eff.contains j = true)
    (h : Cl P E X g as s (fun v s' => DA P E X b Post l M eff rdx σ [] k (setd d v L) s')) :
    DA P E X b Post l M eff rdx ((j, ⟨d, .call ⟨.value fo, args, ats⟩, ty, pos, af, gd⟩) :: σ) [] k L s := by
  obtain ⟨pre, F, Post', h1, h2, h3⟩ := h
  exact DA.exP hw hd hj (Ex.call rfl hf ha has h1 h2) fun v s' ⟨t, e1, e2⟩ => by rw [e2]; exact ⟨PdOk.nil, h3 v t e1⟩
theorem DA.clP {d : Option Nat} {fo : Operand} {args : Array Operand} {ats : Array TypeId} {g : FuncId} {fi ca : Array Value} {vs as : List Value}
    (hw : Want L l ⟨d, .call ⟨.value fo, args, ats⟩, ty, pos, af, gd⟩ true) (hf : ev L fo = some (.func (.func g) fi ca)) (ha : evs L args.toList = some vs) (has : fi.toList ++ vs ++ ca.toList = as) (hd : ltd d b.n = true) (hj : eff.contains j = true)
    (h : Cl P E X g as s (fun v s' => PdOk P E M j (setd d v L) s' pd ∧ DA P E X b Post l M eff rdx σ pd k (setd d v L) s')) :
    DA P E X b Post l M eff rdx ((j, ⟨d, .call ⟨.value fo, args, ats⟩, ty, pos, af, gd⟩) :: σ) pd k L s := by
  obtain ⟨pre, F, Post', h1, h2, h3⟩ := h
  exact DA.exP hw hd hj (Ex.call rfl hf ha has h1 h2) fun v s' ⟨t, e1, e2⟩ => by rw [e2]; exact h3 v t e1
theorem pdok {Z : Prop} (g : Z) (h : PdOk P E M j L s pd := by ((try simp only [List.cons_append, List.nil_append]); exact pdokA)) : PdOk P E M j L s pd ∧ Z := ⟨h, g⟩
end
/-- It goes on by itself. -/
structure Hold (p : Prop) : Prop where
  h : p
theorem auto {Y Z : Prop} (g : Y) (h : Hold Y → Z := by
    (intro g
     try simp only [List.cons_append, List.nil_append, setd]
     repeat (first
      | (with_reducible apply W.seq)
      | (with_reducible apply W.opsL)
      | ((with_reducible apply WL.cm); (case hw => exact wantA); (case hnd => exact rfl); (case hd => exact rfl); (case h => exact cmA))
      | ((with_reducible apply WL.lt); (case hw => exact wantA); (case hnd => exact rfl); (case hd => exact rfl); (case h => exact ltA))
      | ((with_reducible apply WL.skip); (case hw => exact unwA); (case hd => exact rfl))
      | ((with_reducible apply r_store1); (case hw => exact wantA); (case h => exact inferInstance); (case hx => exact rfl); (case hy => exact rfl); (case hs => repeat (first | (with_reducible exact Sel.here) | (with_reducible apply Sel.there))); (case hz => intro h; cases h); (case hl => exact rfl); (case h1 => exact rfl); (case hn => exact rfl))
      | ((with_reducible apply r_storeS); (case hw => exact wantA); (case h => exact inferInstance); (case hx => exact rfl); (case hy => exact rfl); (case hs => repeat (first | (with_reducible exact Sel.here) | (with_reducible apply Sel.there))); (case hl => exact rfl); (case h1 => exact rfl); (case hn => first | omega | (simp; omega)))
      | ((with_reducible apply r_storeO1); (case hw => exact wantA); (case h => exact inferInstance); (case hx => exact rfl); (case hy => exact rfl); (case hs => repeat (first | (with_reducible exact Sel.here) | (with_reducible apply Sel.there))); (case he => first | (with_reducible assumption) | exact rfl | assumption | exact elt (by assumption) | exact eltLast | (simp; done)); (case hz => intro h; cases h); (case hl => exact rfl); (case h1 => exact rfl); (case hn => exact ⟨rfl, rfl⟩))
      | ((with_reducible apply r_storeOS); (case hw => exact wantA); (case h => exact inferInstance); (case hx => exact rfl); (case hy => exact rfl); (case hs => repeat (first | (with_reducible exact Sel.here) | (with_reducible apply Sel.there))); (case he => first | (with_reducible assumption) | exact rfl | assumption | exact elt (by assumption) | exact eltLast | (simp; done)); (case hl => exact rfl); (case h1 => exact rfl); (case hn => first | omega | (simp; omega)))
      | ((with_reducible apply WL.orG); (case hg => exact rfl); (case hq => exact rfl); (case hc => exact rfl); (case hF => intro h gk; repeat (first
         | ((with_reducible apply WL.orY h gk); exact subA)
         | ((with_reducible apply WL.orN h gk); exact subA)
         | ((with_reducible apply WL.andY h gk); exact subA)
         | ((with_reducible apply WL.andN h gk); exact subA)
         | ((with_reducible apply WL.cm); (case hw => exact wantA); (case hnd => exact rfl); (case hd => exact rfl); (case h => exact cmA))
         | ((with_reducible apply WL.lt); (case hw => exact wantA); (case hnd => exact rfl); (case hd => exact rfl); (case h => exact ltA))
         | ((with_reducible apply WL.skip); (case hw => exact unwA); (case hd => exact rfl))
         | ((with_reducible apply WL.orG); (case hg => exact rfl); (case hq => exact rfl); (case hc => exact rfl); (case hF => intro h gk; repeat (first
         | ((with_reducible apply WL.orY h gk); exact subA)
         | ((with_reducible apply WL.orN h gk); exact subA)
         | ((with_reducible apply WL.andY h gk); exact subA)
         | ((with_reducible apply WL.andN h gk); exact subA)
         | ((with_reducible apply WL.cm); (case hw => exact wantA); (case hnd => exact rfl); (case hd => exact rfl); (case h => exact cmA))
         | ((with_reducible apply WL.lt); (case hw => exact wantA); (case hnd => exact rfl); (case hd => exact rfl); (case h => exact ltA))
         | ((with_reducible apply WL.skip); (case hw => exact unwA); (case hd => exact rfl)))); (case hT => intro h gk; repeat (first
         | ((with_reducible apply WL.orY h gk); exact subA)
         | ((with_reducible apply WL.orN h gk); exact subA)
         | ((with_reducible apply WL.andY h gk); exact subA)
         | ((with_reducible apply WL.andN h gk); exact subA)
         | ((with_reducible apply WL.cm); (case hw => exact wantA); (case hnd => exact rfl); (case hd => exact rfl); (case h => exact cmA))
         | ((with_reducible apply WL.lt); (case hw => exact wantA); (case hnd => exact rfl); (case hd => exact rfl); (case h => exact ltA))
         | ((with_reducible apply WL.skip); (case hw => exact unwA); (case hd => exact rfl)))))
         | ((with_reducible apply WL.andG); (case hg => exact rfl); (case hq => exact rfl); (case hc => exact rfl); (case hT => intro h gk; repeat (first
         | ((with_reducible apply WL.orY h gk); exact subA)
         | ((with_reducible apply WL.orN h gk); exact subA)
         | ((with_reducible apply WL.andY h gk); exact subA)
         | ((with_reducible apply WL.andN h gk); exact subA)
         | ((with_reducible apply WL.cm); (case hw => exact wantA); (case hnd => exact rfl); (case hd => exact rfl); (case h => exact cmA))
         | ((with_reducible apply WL.lt); (case hw => exact wantA); (case hnd => exact rfl); (case hd => exact rfl); (case h => exact ltA))
         | ((with_reducible apply WL.skip); (case hw => exact unwA); (case hd => exact rfl)))); (case hF => intro h gk; repeat (first
         | ((with_reducible apply WL.orY h gk); exact subA)
         | ((with_reducible apply WL.orN h gk); exact subA)
         | ((with_reducible apply WL.andY h gk); exact subA)
         | ((with_reducible apply WL.andN h gk); exact subA)
         | ((with_reducible apply WL.cm); (case hw => exact wantA); (case hnd => exact rfl); (case hd => exact rfl); (case h => exact cmA))
         | ((with_reducible apply WL.lt); (case hw => exact wantA); (case hnd => exact rfl); (case hd => exact rfl); (case h => exact ltA))
         | ((with_reducible apply WL.skip); (case hw => exact unwA); (case hd => exact rfl))))))); (case hT => intro h gk; repeat (first
         | ((with_reducible apply WL.orY h gk); exact subA)
         | ((with_reducible apply WL.orN h gk); exact subA)
         | ((with_reducible apply WL.andY h gk); exact subA)
         | ((with_reducible apply WL.andN h gk); exact subA)
         | ((with_reducible apply WL.cm); (case hw => exact wantA); (case hnd => exact rfl); (case hd => exact rfl); (case h => exact cmA))
         | ((with_reducible apply WL.lt); (case hw => exact wantA); (case hnd => exact rfl); (case hd => exact rfl); (case h => exact ltA))
         | ((with_reducible apply WL.skip); (case hw => exact unwA); (case hd => exact rfl))
         | ((with_reducible apply WL.orG); (case hg => exact rfl); (case hq => exact rfl); (case hc => exact rfl); (case hF => intro h gk; repeat (first
         | ((with_reducible apply WL.orY h gk); exact subA)
         | ((with_reducible apply WL.orN h gk); exact subA)
         | ((with_reducible apply WL.andY h gk); exact subA)
         | ((with_reducible apply WL.andN h gk); exact subA)
         | ((with_reducible apply WL.cm); (case hw => exact wantA); (case hnd => exact rfl); (case hd => exact rfl); (case h => exact cmA))
         | ((with_reducible apply WL.lt); (case hw => exact wantA); (case hnd => exact rfl); (case hd => exact rfl); (case h => exact ltA))
         | ((with_reducible apply WL.skip); (case hw => exact unwA); (case hd => exact rfl)))); (case hT => intro h gk; repeat (first
         | ((with_reducible apply WL.orY h gk); exact subA)
         | ((with_reducible apply WL.orN h gk); exact subA)
         | ((with_reducible apply WL.andY h gk); exact subA)
         | ((with_reducible apply WL.andN h gk); exact subA)
         | ((with_reducible apply WL.cm); (case hw => exact wantA); (case hnd => exact rfl); (case hd => exact rfl); (case h => exact cmA))
         | ((with_reducible apply WL.lt); (case hw => exact wantA); (case hnd => exact rfl); (case hd => exact rfl); (case h => exact ltA))
         | ((with_reducible apply WL.skip); (case hw => exact unwA); (case hd => exact rfl)))))
         | ((with_reducible apply WL.andG); (case hg => exact rfl); (case hq => exact rfl); (case hc => exact rfl); (case hT => intro h gk; repeat (first
         | ((with_reducible apply WL.orY h gk); exact subA)
         | ((with_reducible apply WL.orN h gk); exact subA)
         | ((with_reducible apply WL.andY h gk); exact subA)
         | ((with_reducible apply WL.andN h gk); exact subA)
         | ((with_reducible apply WL.cm); (case hw => exact wantA); (case hnd => exact rfl); (case hd => exact rfl); (case h => exact cmA))
         | ((with_reducible apply WL.lt); (case hw => exact wantA); (case hnd => exact rfl); (case hd => exact rfl); (case h => exact ltA))
         | ((with_reducible apply WL.skip); (case hw => exact unwA); (case hd => exact rfl)))); (case hF => intro h gk; repeat (first
         | ((with_reducible apply WL.orY h gk); exact subA)
         | ((with_reducible apply WL.orN h gk); exact subA)
         | ((with_reducible apply WL.andY h gk); exact subA)
         | ((with_reducible apply WL.andN h gk); exact subA)
         | ((with_reducible apply WL.cm); (case hw => exact wantA); (case hnd => exact rfl); (case hd => exact rfl); (case h => exact cmA))
         | ((with_reducible apply WL.lt); (case hw => exact wantA); (case hnd => exact rfl); (case hd => exact rfl); (case h => exact ltA))
         | ((with_reducible apply WL.skip); (case hw => exact unwA); (case hd => exact rfl))))))))
      | ((with_reducible apply WL.andG); (case hg => exact rfl); (case hq => exact rfl); (case hc => exact rfl); (case hT => intro h gk; repeat (first
         | ((with_reducible apply WL.orY h gk); exact subA)
         | ((with_reducible apply WL.orN h gk); exact subA)
         | ((with_reducible apply WL.andY h gk); exact subA)
         | ((with_reducible apply WL.andN h gk); exact subA)
         | ((with_reducible apply WL.cm); (case hw => exact wantA); (case hnd => exact rfl); (case hd => exact rfl); (case h => exact cmA))
         | ((with_reducible apply WL.lt); (case hw => exact wantA); (case hnd => exact rfl); (case hd => exact rfl); (case h => exact ltA))
         | ((with_reducible apply WL.skip); (case hw => exact unwA); (case hd => exact rfl))
         | ((with_reducible apply WL.orG); (case hg => exact rfl); (case hq => exact rfl); (case hc => exact rfl); (case hF => intro h gk; repeat (first
         | ((with_reducible apply WL.orY h gk); exact subA)
         | ((with_reducible apply WL.orN h gk); exact subA)
         | ((with_reducible apply WL.andY h gk); exact subA)
         | ((with_reducible apply WL.andN h gk); exact subA)
         | ((with_reducible apply WL.cm); (case hw => exact wantA); (case hnd => exact rfl); (case hd => exact rfl); (case h => exact cmA))
         | ((with_reducible apply WL.lt); (case hw => exact wantA); (case hnd => exact rfl); (case hd => exact rfl); (case h => exact ltA))
         | ((with_reducible apply WL.skip); (case hw => exact unwA); (case hd => exact rfl)))); (case hT => intro h gk; repeat (first
         | ((with_reducible apply WL.orY h gk); exact subA)
         | ((with_reducible apply WL.orN h gk); exact subA)
         | ((with_reducible apply WL.andY h gk); exact subA)
         | ((with_reducible apply WL.andN h gk); exact subA)
         | ((with_reducible apply WL.cm); (case hw => exact wantA); (case hnd => exact rfl); (case hd => exact rfl); (case h => exact cmA))
         | ((with_reducible apply WL.lt); (case hw => exact wantA); (case hnd => exact rfl); (case hd => exact rfl); (case h => exact ltA))
         | ((with_reducible apply WL.skip); (case hw => exact unwA); (case hd => exact rfl)))))
         | ((with_reducible apply WL.andG); (case hg => exact rfl); (case hq => exact rfl); (case hc => exact rfl); (case hT => intro h gk; repeat (first
         | ((with_reducible apply WL.orY h gk); exact subA)
         | ((with_reducible apply WL.orN h gk); exact subA)
         | ((with_reducible apply WL.andY h gk); exact subA)
         | ((with_reducible apply WL.andN h gk); exact subA)
         | ((with_reducible apply WL.cm); (case hw => exact wantA); (case hnd => exact rfl); (case hd => exact rfl); (case h => exact cmA))
         | ((with_reducible apply WL.lt); (case hw => exact wantA); (case hnd => exact rfl); (case hd => exact rfl); (case h => exact ltA))
         | ((with_reducible apply WL.skip); (case hw => exact unwA); (case hd => exact rfl)))); (case hF => intro h gk; repeat (first
         | ((with_reducible apply WL.orY h gk); exact subA)
         | ((with_reducible apply WL.orN h gk); exact subA)
         | ((with_reducible apply WL.andY h gk); exact subA)
         | ((with_reducible apply WL.andN h gk); exact subA)
         | ((with_reducible apply WL.cm); (case hw => exact wantA); (case hnd => exact rfl); (case hd => exact rfl); (case h => exact cmA))
         | ((with_reducible apply WL.lt); (case hw => exact wantA); (case hnd => exact rfl); (case hd => exact rfl); (case h => exact ltA))
         | ((with_reducible apply WL.skip); (case hw => exact unwA); (case hd => exact rfl))))))); (case hF => intro h gk; repeat (first
         | ((with_reducible apply WL.orY h gk); exact subA)
         | ((with_reducible apply WL.orN h gk); exact subA)
         | ((with_reducible apply WL.andY h gk); exact subA)
         | ((with_reducible apply WL.andN h gk); exact subA)
         | ((with_reducible apply WL.cm); (case hw => exact wantA); (case hnd => exact rfl); (case hd => exact rfl); (case h => exact cmA))
         | ((with_reducible apply WL.lt); (case hw => exact wantA); (case hnd => exact rfl); (case hd => exact rfl); (case h => exact ltA))
         | ((with_reducible apply WL.skip); (case hw => exact unwA); (case hd => exact rfl))
         | ((with_reducible apply WL.orG); (case hg => exact rfl); (case hq => exact rfl); (case hc => exact rfl); (case hF => intro h gk; repeat (first
         | ((with_reducible apply WL.orY h gk); exact subA)
         | ((with_reducible apply WL.orN h gk); exact subA)
         | ((with_reducible apply WL.andY h gk); exact subA)
         | ((with_reducible apply WL.andN h gk); exact subA)
         | ((with_reducible apply WL.cm); (case hw => exact wantA); (case hnd => exact rfl); (case hd => exact rfl); (case h => exact cmA))
         | ((with_reducible apply WL.lt); (case hw => exact wantA); (case hnd => exact rfl); (case hd => exact rfl); (case h => exact ltA))
         | ((with_reducible apply WL.skip); (case hw => exact unwA); (case hd => exact rfl)))); (case hT => intro h gk; repeat (first
         | ((with_reducible apply WL.orY h gk); exact subA)
         | ((with_reducible apply WL.orN h gk); exact subA)
         | ((with_reducible apply WL.andY h gk); exact subA)
         | ((with_reducible apply WL.andN h gk); exact subA)
         | ((with_reducible apply WL.cm); (case hw => exact wantA); (case hnd => exact rfl); (case hd => exact rfl); (case h => exact cmA))
         | ((with_reducible apply WL.lt); (case hw => exact wantA); (case hnd => exact rfl); (case hd => exact rfl); (case h => exact ltA))
         | ((with_reducible apply WL.skip); (case hw => exact unwA); (case hd => exact rfl)))))
         | ((with_reducible apply WL.andG); (case hg => exact rfl); (case hq => exact rfl); (case hc => exact rfl); (case hT => intro h gk; repeat (first
         | ((with_reducible apply WL.orY h gk); exact subA)
         | ((with_reducible apply WL.orN h gk); exact subA)
         | ((with_reducible apply WL.andY h gk); exact subA)
         | ((with_reducible apply WL.andN h gk); exact subA)
         | ((with_reducible apply WL.cm); (case hw => exact wantA); (case hnd => exact rfl); (case hd => exact rfl); (case h => exact cmA))
         | ((with_reducible apply WL.lt); (case hw => exact wantA); (case hnd => exact rfl); (case hd => exact rfl); (case h => exact ltA))
         | ((with_reducible apply WL.skip); (case hw => exact unwA); (case hd => exact rfl)))); (case hF => intro h gk; repeat (first
         | ((with_reducible apply WL.orY h gk); exact subA)
         | ((with_reducible apply WL.orN h gk); exact subA)
         | ((with_reducible apply WL.andY h gk); exact subA)
         | ((with_reducible apply WL.andN h gk); exact subA)
         | ((with_reducible apply WL.cm); (case hw => exact wantA); (case hnd => exact rfl); (case hd => exact rfl); (case h => exact cmA))
         | ((with_reducible apply WL.lt); (case hw => exact wantA); (case hnd => exact rfl); (case hd => exact rfl); (case h => exact ltA))
         | ((with_reducible apply WL.skip); (case hw => exact unwA); (case hd => exact rfl))))))))
      | ((with_reducible apply WL.cl); (case hw => exact wantA); (case hf => exact rfl); (case ha => exact rfl); (case has => exact rfl); (case hd => exact rfl))
      | (with_reducible apply WL.done)
      | (with_reducible apply W.inBlock)
      | (with_reducible apply W.block)
      | (with_reducible apply W.skip)
      | ((with_reducible apply W.exit); (case h => exact rfl)))
     exact g.h)) : Z := h ⟨g⟩
theorem dauto {Y Z : Prop} (g : Y) (h : Hold Y → Z := by
    (intro g
     try simp only [List.cons_append, List.nil_append, setd]
     repeat (first
      | ((with_reducible apply DA.cm); (case hw => exact wantA); (case hnd => exact rfl); (case hd => exact rfl); (case he => exact rfl); (case hr => exact rfl); (case h => exact cmA))
      | ((with_reducible apply DA.cmr); (case hw => exact wantA); (case hnd => exact rfl); (case hd => exact rfl); (case he => exact rfl); (case ha => exact rfl); (case h => exact cmA))
      | ((with_reducible apply DA.lt); (case hw => exact wantA); (case hnd => exact rfl); (case hd => exact rfl); (case he => exact rfl); (case hr => exact rfl); (case ha => exact rfl); (case h => exact ltA))
      | ((with_reducible apply DA.ltP); (case hw => exact wantA); (case hnd => exact rfl); (case hd => exact rfl); (case he => exact rfl); (case hr => exact rfl); (case h => exact ltsA))
      | ((with_reducible apply DA.cmE); (case hw => exact wantA); (case hnd => exact rfl); (case hd => exact rfl); (case he => exact rfl); (case h => exact cmA); (case hpd => exact pdokA))
      | ((with_reducible apply DA.skip); (case hw => exact unwA); (case hd => exact rfl); (case he => exact rfl))
      | ((with_reducible apply DA.exSkip); (case hw => exact unwA); (case hd => exact rfl); (case he => exact rfl); (case hpd => exact pdokA))
      | ((with_reducible apply dr_store1); (case hw => exact wantA); (case h => exact inferInstance); (case hx => exact rfl); (case hy => exact rfl); (case hs => repeat (first | (with_reducible exact Sel.here) | (with_reducible apply Sel.there))); (case hz => intro h; cases h); (case hl => exact rfl); (case h1 => exact rfl); (case hn => exact rfl); (case hj => exact rfl); (case hpd => exact pdokA))
      | ((with_reducible apply dr_storeS); (case hw => exact wantA); (case h => exact inferInstance); (case hx => exact rfl); (case hy => exact rfl); (case hs => repeat (first | (with_reducible exact Sel.here) | (with_reducible apply Sel.there))); (case hl => exact rfl); (case h1 => exact rfl); (case hn => first | omega | (simp; omega)); (case hj => exact rfl); (case hpd => exact pdokA))
      | ((with_reducible apply dr_storeO1); (case hw => exact wantA); (case h => exact inferInstance); (case hx => exact rfl); (case hy => exact rfl); (case hs => repeat (first | (with_reducible exact Sel.here) | (with_reducible apply Sel.there))); (case he => first | (with_reducible assumption) | exact rfl | assumption | exact elt (by assumption) | exact eltLast | (simp; done)); (case hz => intro h; cases h); (case hl => exact rfl); (case h1 => exact rfl); (case hn => exact ⟨rfl, rfl⟩); (case hj => exact rfl); (case hpd => exact pdokA))
      | ((with_reducible apply dr_storeOS); (case hw => exact wantA); (case h => exact inferInstance); (case hx => exact rfl); (case hy => exact rfl); (case hs => repeat (first | (with_reducible exact Sel.here) | (with_reducible apply Sel.there))); (case he => first | (with_reducible assumption) | exact rfl | assumption | exact elt (by assumption) | exact eltLast | (simp; done)); (case hl => exact rfl); (case h1 => exact rfl); (case hn => first | omega | (simp; omega)); (case hj => exact rfl); (case hpd => exact pdokA))
      | ((with_reducible apply DA.orG); (case hg => exact rfl); (case hq => exact rfl); (case hc => exact rfl); (case hF => intro h gk; repeat (first
         | ((with_reducible apply DA.orY h gk); (case hL => exact subA); (case hp => exact pdsubA))
         | ((with_reducible apply DA.orN h gk); (case hL => exact subA); (case hp => exact pdsubA))
         | ((with_reducible apply DA.andY h gk); (case hL => exact subA); (case hp => exact pdsubA))
         | ((with_reducible apply DA.andN h gk); (case hL => exact subA); (case hp => exact pdsubA))
         | ((with_reducible apply DA.cm); (case hw => exact wantA); (case hnd => exact rfl); (case hd => exact rfl); (case he => exact rfl); (case hr => exact rfl); (case h => exact cmA))
         | ((with_reducible apply DA.cmr); (case hw => exact wantA); (case hnd => exact rfl); (case hd => exact rfl); (case he => exact rfl); (case ha => exact rfl); (case h => exact cmA))
         | ((with_reducible apply DA.lt); (case hw => exact wantA); (case hnd => exact rfl); (case hd => exact rfl); (case he => exact rfl); (case hr => exact rfl); (case ha => exact rfl); (case h => exact ltA))
         | ((with_reducible apply DA.ltP); (case hw => exact wantA); (case hnd => exact rfl); (case hd => exact rfl); (case he => exact rfl); (case hr => exact rfl); (case h => exact ltsA))
         | ((with_reducible apply DA.cmE); (case hw => exact wantA); (case hnd => exact rfl); (case hd => exact rfl); (case he => exact rfl); (case h => exact cmA); (case hpd => exact pdokA))
         | ((with_reducible apply DA.skip); (case hw => exact unwA); (case hd => exact rfl); (case he => exact rfl))
         | ((with_reducible apply DA.exSkip); (case hw => exact unwA); (case hd => exact rfl); (case he => exact rfl); (case hpd => exact pdokA))
         | ((with_reducible apply DA.orG); (case hg => exact rfl); (case hq => exact rfl); (case hc => exact rfl); (case hF => intro h gk; repeat (first
         | ((with_reducible apply DA.orY h gk); (case hL => exact subA); (case hp => exact pdsubA))
         | ((with_reducible apply DA.orN h gk); (case hL => exact subA); (case hp => exact pdsubA))
         | ((with_reducible apply DA.andY h gk); (case hL => exact subA); (case hp => exact pdsubA))
         | ((with_reducible apply DA.andN h gk); (case hL => exact subA); (case hp => exact pdsubA))
         | ((with_reducible apply DA.cm); (case hw => exact wantA); (case hnd => exact rfl); (case hd => exact rfl); (case he => exact rfl); (case hr => exact rfl); (case h => exact cmA))
         | ((with_reducible apply DA.cmr); (case hw => exact wantA); (case hnd => exact rfl); (case hd => exact rfl); (case he => exact rfl); (case ha => exact rfl); (case h => exact cmA))
         | ((with_reducible apply DA.lt); (case hw => exact wantA); (case hnd => exact rfl); (case hd => exact rfl); (case he => exact rfl); (case hr => exact rfl); (case ha => exact rfl); (case h => exact ltA))
         | ((with_reducible apply DA.ltP); (case hw => exact wantA); (case hnd => exact rfl); (case hd => exact rfl); (case he => exact rfl); (case hr => exact rfl); (case h => exact ltsA))
         | ((with_reducible apply DA.cmE); (case hw => exact wantA); (case hnd => exact rfl); (case hd => exact rfl); (case he => exact rfl); (case h => exact cmA); (case hpd => exact pdokA))
         | ((with_reducible apply DA.skip); (case hw => exact unwA); (case hd => exact rfl); (case he => exact rfl))
         | ((with_reducible apply DA.exSkip); (case hw => exact unwA); (case hd => exact rfl); (case he => exact rfl); (case hpd => exact pdokA)))); (case hT => intro h gk; repeat (first
         | ((with_reducible apply DA.orY h gk); (case hL => exact subA); (case hp => exact pdsubA))
         | ((with_reducible apply DA.orN h gk); (case hL => exact subA); (case hp => exact pdsubA))
         | ((with_reducible apply DA.andY h gk); (case hL => exact subA); (case hp => exact pdsubA))
         | ((with_reducible apply DA.andN h gk); (case hL => exact subA); (case hp => exact pdsubA))
         | ((with_reducible apply DA.cm); (case hw => exact wantA); (case hnd => exact rfl); (case hd => exact rfl); (case he => exact rfl); (case hr => exact rfl); (case h => exact cmA))
         | ((with_reducible apply DA.cmr); (case hw => exact wantA); (case hnd => exact rfl); (case hd => exact rfl); (case he => exact rfl); (case ha => exact rfl); (case h => exact cmA))
         | ((with_reducible apply DA.lt); (case hw => exact wantA); (case hnd => exact rfl); (case hd => exact rfl); (case he => exact rfl); (case hr => exact rfl); (case ha => exact rfl); (case h => exact ltA))
         | ((with_reducible apply DA.ltP); (case hw => exact wantA); (case hnd => exact rfl); (case hd => exact rfl); (case he => exact rfl); (case hr => exact rfl); (case h => exact ltsA))
         | ((with_reducible apply DA.cmE); (case hw => exact wantA); (case hnd => exact rfl); (case hd => exact rfl); (case he => exact rfl); (case h => exact cmA); (case hpd => exact pdokA))
         | ((with_reducible apply DA.skip); (case hw => exact unwA); (case hd => exact rfl); (case he => exact rfl))
         | ((with_reducible apply DA.exSkip); (case hw => exact unwA); (case hd => exact rfl); (case he => exact rfl); (case hpd => exact pdokA)))))
         | ((with_reducible apply DA.andG); (case hg => exact rfl); (case hq => exact rfl); (case hc => exact rfl); (case hT => intro h gk; repeat (first
         | ((with_reducible apply DA.orY h gk); (case hL => exact subA); (case hp => exact pdsubA))
         | ((with_reducible apply DA.orN h gk); (case hL => exact subA); (case hp => exact pdsubA))
         | ((with_reducible apply DA.andY h gk); (case hL => exact subA); (case hp => exact pdsubA))
         | ((with_reducible apply DA.andN h gk); (case hL => exact subA); (case hp => exact pdsubA))
         | ((with_reducible apply DA.cm); (case hw => exact wantA); (case hnd => exact rfl); (case hd => exact rfl); (case he => exact rfl); (case hr => exact rfl); (case h => exact cmA))
         | ((with_reducible apply DA.cmr); (case hw => exact wantA); (case hnd => exact rfl); (case hd => exact rfl); (case he => exact rfl); (case ha => exact rfl); (case h => exact cmA))
         | ((with_reducible apply DA.lt); (case hw => exact wantA); (case hnd => exact rfl); (case hd => exact rfl); (case he => exact rfl); (case hr => exact rfl); (case ha => exact rfl); (case h => exact ltA))
         | ((with_reducible apply DA.ltP); (case hw => exact wantA); (case hnd => exact rfl); (case hd => exact rfl); (case he => exact rfl); (case hr => exact rfl); (case h => exact ltsA))
         | ((with_reducible apply DA.cmE); (case hw => exact wantA); (case hnd => exact rfl); (case hd => exact rfl); (case he => exact rfl); (case h => exact cmA); (case hpd => exact pdokA))
         | ((with_reducible apply DA.skip); (case hw => exact unwA); (case hd => exact rfl); (case he => exact rfl))
         | ((with_reducible apply DA.exSkip); (case hw => exact unwA); (case hd => exact rfl); (case he => exact rfl); (case hpd => exact pdokA)))); (case hF => intro h gk; repeat (first
         | ((with_reducible apply DA.orY h gk); (case hL => exact subA); (case hp => exact pdsubA))
         | ((with_reducible apply DA.orN h gk); (case hL => exact subA); (case hp => exact pdsubA))
         | ((with_reducible apply DA.andY h gk); (case hL => exact subA); (case hp => exact pdsubA))
         | ((with_reducible apply DA.andN h gk); (case hL => exact subA); (case hp => exact pdsubA))
         | ((with_reducible apply DA.cm); (case hw => exact wantA); (case hnd => exact rfl); (case hd => exact rfl); (case he => exact rfl); (case hr => exact rfl); (case h => exact cmA))
         | ((with_reducible apply DA.cmr); (case hw => exact wantA); (case hnd => exact rfl); (case hd => exact rfl); (case he => exact rfl); (case ha => exact rfl); (case h => exact cmA))
         | ((with_reducible apply DA.lt); (case hw => exact wantA); (case hnd => exact rfl); (case hd => exact rfl); (case he => exact rfl); (case hr => exact rfl); (case ha => exact rfl); (case h => exact ltA))
         | ((with_reducible apply DA.ltP); (case hw => exact wantA); (case hnd => exact rfl); (case hd => exact rfl); (case he => exact rfl); (case hr => exact rfl); (case h => exact ltsA))
         | ((with_reducible apply DA.cmE); (case hw => exact wantA); (case hnd => exact rfl); (case hd => exact rfl); (case he => exact rfl); (case h => exact cmA); (case hpd => exact pdokA))
         | ((with_reducible apply DA.skip); (case hw => exact unwA); (case hd => exact rfl); (case he => exact rfl))
         | ((with_reducible apply DA.exSkip); (case hw => exact unwA); (case hd => exact rfl); (case he => exact rfl); (case hpd => exact pdokA))))))); (case hT => intro h gk; repeat (first
         | ((with_reducible apply DA.orY h gk); (case hL => exact subA); (case hp => exact pdsubA))
         | ((with_reducible apply DA.orN h gk); (case hL => exact subA); (case hp => exact pdsubA))
         | ((with_reducible apply DA.andY h gk); (case hL => exact subA); (case hp => exact pdsubA))
         | ((with_reducible apply DA.andN h gk); (case hL => exact subA); (case hp => exact pdsubA))
         | ((with_reducible apply DA.cm); (case hw => exact wantA); (case hnd => exact rfl); (case hd => exact rfl); (case he => exact rfl); (case hr => exact rfl); (case h => exact cmA))
         | ((with_reducible apply DA.cmr); (case hw => exact wantA); (case hnd => exact rfl); (case hd => exact rfl); (case he => exact rfl); (case ha => exact rfl); (case h => exact cmA))
         | ((with_reducible apply DA.lt); (case hw => exact wantA); (case hnd => exact rfl); (case hd => exact rfl); (case he => exact rfl); (case hr => exact rfl); (case ha => exact rfl); (case h => exact ltA))
         | ((with_reducible apply DA.ltP); (case hw => exact wantA); (case hnd => exact rfl); (case hd => exact rfl); (case he => exact rfl); (case hr => exact rfl); (case h => exact ltsA))
         | ((with_reducible apply DA.cmE); (case hw => exact wantA); (case hnd => exact rfl); (case hd => exact rfl); (case he => exact rfl); (case h => exact cmA); (case hpd => exact pdokA))
         | ((with_reducible apply DA.skip); (case hw => exact unwA); (case hd => exact rfl); (case he => exact rfl))
         | ((with_reducible apply DA.exSkip); (case hw => exact unwA); (case hd => exact rfl); (case he => exact rfl); (case hpd => exact pdokA))
         | ((with_reducible apply DA.orG); (case hg => exact rfl); (case hq => exact rfl); (case hc => exact rfl); (case hF => intro h gk; repeat (first
         | ((with_reducible apply DA.orY h gk); (case hL => exact subA); (case hp => exact pdsubA))
         | ((with_reducible apply DA.orN h gk); (case hL => exact subA); (case hp => exact pdsubA))
         | ((with_reducible apply DA.andY h gk); (case hL => exact subA); (case hp => exact pdsubA))
         | ((with_reducible apply DA.andN h gk); (case hL => exact subA); (case hp => exact pdsubA))
         | ((with_reducible apply DA.cm); (case hw => exact wantA); (case hnd => exact rfl); (case hd => exact rfl); (case he => exact rfl); (case hr => exact rfl); (case h => exact cmA))
         | ((with_reducible apply DA.cmr); (case hw => exact wantA); (case hnd => exact rfl); (case hd => exact rfl); (case he => exact rfl); (case ha => exact rfl); (case h => exact cmA))
         | ((with_reducible apply DA.lt); (case hw => exact wantA); (case hnd => exact rfl); (case hd => exact rfl); (case he => exact rfl); (case hr => exact rfl); (case ha => exact rfl); (case h => exact ltA))
         | ((with_reducible apply DA.ltP); (case hw => exact wantA); (case hnd => exact rfl); (case hd => exact rfl); (case he => exact rfl); (case hr => exact rfl); (case h => exact ltsA))
         | ((with_reducible apply DA.cmE); (case hw => exact wantA); (case hnd => exact rfl); (case hd => exact rfl); (case he => exact rfl); (case h => exact cmA); (case hpd => exact pdokA))
         | ((with_reducible apply DA.skip); (case hw => exact unwA); (case hd => exact rfl); (case he => exact rfl))
         | ((with_reducible apply DA.exSkip); (case hw => exact unwA); (case hd => exact rfl); (case he => exact rfl); (case hpd => exact pdokA)))); (case hT => intro h gk; repeat (first
         | ((with_reducible apply DA.orY h gk); (case hL => exact subA); (case hp => exact pdsubA))
         | ((with_reducible apply DA.orN h gk); (case hL => exact subA); (case hp => exact pdsubA))
         | ((with_reducible apply DA.andY h gk); (case hL => exact subA); (case hp => exact pdsubA))
         | ((with_reducible apply DA.andN h gk); (case hL => exact subA); (case hp => exact pdsubA))
         | ((with_reducible apply DA.cm); (case hw => exact wantA); (case hnd => exact rfl); (case hd => exact rfl); (case he => exact rfl); (case hr => exact rfl); (case h => exact cmA))
         | ((with_reducible apply DA.cmr); (case hw => exact wantA); (case hnd => exact rfl); (case hd => exact rfl); (case he => exact rfl); (case ha => exact rfl); (case h => exact cmA))
         | ((with_reducible apply DA.lt); (case hw => exact wantA); (case hnd => exact rfl); (case hd => exact rfl); (case he => exact rfl); (case hr => exact rfl); (case ha => exact rfl); (case h => exact ltA))
         | ((with_reducible apply DA.ltP); (case hw => exact wantA); (case hnd => exact rfl); (case hd => exact rfl); (case he => exact rfl); (case hr => exact rfl); (case h => exact ltsA))
         | ((with_reducible apply DA.cmE); (case hw => exact wantA); (case hnd => exact rfl); (case hd => exact rfl); (case he => exact rfl); (case h => exact cmA); (case hpd => exact pdokA))
         | ((with_reducible apply DA.skip); (case hw => exact unwA); (case hd => exact rfl); (case he => exact rfl))
         | ((with_reducible apply DA.exSkip); (case hw => exact unwA); (case hd => exact rfl); (case he => exact rfl); (case hpd => exact pdokA)))))
         | ((with_reducible apply DA.andG); (case hg => exact rfl); (case hq => exact rfl); (case hc => exact rfl); (case hT => intro h gk; repeat (first
         | ((with_reducible apply DA.orY h gk); (case hL => exact subA); (case hp => exact pdsubA))
         | ((with_reducible apply DA.orN h gk); (case hL => exact subA); (case hp => exact pdsubA))
         | ((with_reducible apply DA.andY h gk); (case hL => exact subA); (case hp => exact pdsubA))
         | ((with_reducible apply DA.andN h gk); (case hL => exact subA); (case hp => exact pdsubA))
         | ((with_reducible apply DA.cm); (case hw => exact wantA); (case hnd => exact rfl); (case hd => exact rfl); (case he => exact rfl); (case hr => exact rfl); (case h => exact cmA))
         | ((with_reducible apply DA.cmr); (case hw => exact wantA); (case hnd => exact rfl); (case hd => exact rfl); (case he => exact rfl); (case ha => exact rfl); (case h => exact cmA))
         | ((with_reducible apply DA.lt); (case hw => exact wantA); (case hnd => exact rfl); (case hd => exact rfl); (case he => exact rfl); (case hr => exact rfl); (case ha => exact rfl); (case h => exact ltA))
         | ((with_reducible apply DA.ltP); (case hw => exact wantA); (case hnd => exact rfl); (case hd => exact rfl); (case he => exact rfl); (case hr => exact rfl); (case h => exact ltsA))
         | ((with_reducible apply DA.cmE); (case hw => exact wantA); (case hnd => exact rfl); (case hd => exact rfl); (case he => exact rfl); (case h => exact cmA); (case hpd => exact pdokA))
         | ((with_reducible apply DA.skip); (case hw => exact unwA); (case hd => exact rfl); (case he => exact rfl))
         | ((with_reducible apply DA.exSkip); (case hw => exact unwA); (case hd => exact rfl); (case he => exact rfl); (case hpd => exact pdokA)))); (case hF => intro h gk; repeat (first
         | ((with_reducible apply DA.orY h gk); (case hL => exact subA); (case hp => exact pdsubA))
         | ((with_reducible apply DA.orN h gk); (case hL => exact subA); (case hp => exact pdsubA))
         | ((with_reducible apply DA.andY h gk); (case hL => exact subA); (case hp => exact pdsubA))
         | ((with_reducible apply DA.andN h gk); (case hL => exact subA); (case hp => exact pdsubA))
         | ((with_reducible apply DA.cm); (case hw => exact wantA); (case hnd => exact rfl); (case hd => exact rfl); (case he => exact rfl); (case hr => exact rfl); (case h => exact cmA))
         | ((with_reducible apply DA.cmr); (case hw => exact wantA); (case hnd => exact rfl); (case hd => exact rfl); (case he => exact rfl); (case ha => exact rfl); (case h => exact cmA))
         | ((with_reducible apply DA.lt); (case hw => exact wantA); (case hnd => exact rfl); (case hd => exact rfl); (case he => exact rfl); (case hr => exact rfl); (case ha => exact rfl); (case h => exact ltA))
         | ((with_reducible apply DA.ltP); (case hw => exact wantA); (case hnd => exact rfl); (case hd => exact rfl); (case he => exact rfl); (case hr => exact rfl); (case h => exact ltsA))
         | ((with_reducible apply DA.cmE); (case hw => exact wantA); (case hnd => exact rfl); (case hd => exact rfl); (case he => exact rfl); (case h => exact cmA); (case hpd => exact pdokA))
         | ((with_reducible apply DA.skip); (case hw => exact unwA); (case hd => exact rfl); (case he => exact rfl))
         | ((with_reducible apply DA.exSkip); (case hw => exact unwA); (case hd => exact rfl); (case he => exact rfl); (case hpd => exact pdokA))))))))
      | ((with_reducible apply DA.andG); (case hg => exact rfl); (case hq => exact rfl); (case hc => exact rfl); (case hT => intro h gk; repeat (first
         | ((with_reducible apply DA.orY h gk); (case hL => exact subA); (case hp => exact pdsubA))
         | ((with_reducible apply DA.orN h gk); (case hL => exact subA); (case hp => exact pdsubA))
         | ((with_reducible apply DA.andY h gk); (case hL => exact subA); (case hp => exact pdsubA))
         | ((with_reducible apply DA.andN h gk); (case hL => exact subA); (case hp => exact pdsubA))
         | ((with_reducible apply DA.cm); (case hw => exact wantA); (case hnd => exact rfl); (case hd => exact rfl); (case he => exact rfl); (case hr => exact rfl); (case h => exact cmA))
         | ((with_reducible apply DA.cmr); (case hw => exact wantA); (case hnd => exact rfl); (case hd => exact rfl); (case he => exact rfl); (case ha => exact rfl); (case h => exact cmA))
         | ((with_reducible apply DA.lt); (case hw => exact wantA); (case hnd => exact rfl); (case hd => exact rfl); (case he => exact rfl); (case hr => exact rfl); (case ha => exact rfl); (case h => exact ltA))
         | ((with_reducible apply DA.ltP); (case hw => exact wantA); (case hnd => exact rfl); (case hd => exact rfl); (case he => exact rfl); (case hr => exact rfl); (case h => exact ltsA))
         | ((with_reducible apply DA.cmE); (case hw => exact wantA); (case hnd => exact rfl); (case hd => exact rfl); (case he => exact rfl); (case h => exact cmA); (case hpd => exact pdokA))
         | ((with_reducible apply DA.skip); (case hw => exact unwA); (case hd => exact rfl); (case he => exact rfl))
         | ((with_reducible apply DA.exSkip); (case hw => exact unwA); (case hd => exact rfl); (case he => exact rfl); (case hpd => exact pdokA))
         | ((with_reducible apply DA.orG); (case hg => exact rfl); (case hq => exact rfl); (case hc => exact rfl); (case hF => intro h gk; repeat (first
         | ((with_reducible apply DA.orY h gk); (case hL => exact subA); (case hp => exact pdsubA))
         | ((with_reducible apply DA.orN h gk); (case hL => exact subA); (case hp => exact pdsubA))
         | ((with_reducible apply DA.andY h gk); (case hL => exact subA); (case hp => exact pdsubA))
         | ((with_reducible apply DA.andN h gk); (case hL => exact subA); (case hp => exact pdsubA))
         | ((with_reducible apply DA.cm); (case hw => exact wantA); (case hnd => exact rfl); (case hd => exact rfl); (case he => exact rfl); (case hr => exact rfl); (case h => exact cmA))
         | ((with_reducible apply DA.cmr); (case hw => exact wantA); (case hnd => exact rfl); (case hd => exact rfl); (case he => exact rfl); (case ha => exact rfl); (case h => exact cmA))
         | ((with_reducible apply DA.lt); (case hw => exact wantA); (case hnd => exact rfl); (case hd => exact rfl); (case he => exact rfl); (case hr => exact rfl); (case ha => exact rfl); (case h => exact ltA))
         | ((with_reducible apply DA.ltP); (case hw => exact wantA); (case hnd => exact rfl); (case hd => exact rfl); (case he => exact rfl); (case hr => exact rfl); (case h => exact ltsA))
         | ((with_reducible apply DA.cmE); (case hw => exact wantA); (case hnd => exact rfl); (case hd => exact rfl); (case he => exact rfl); (case h => exact cmA); (case hpd => exact pdokA))
         | ((with_reducible apply DA.skip); (case hw => exact unwA); (case hd => exact rfl); (case he => exact rfl))
         | ((with_reducible apply DA.exSkip); (case hw => exact unwA); (case hd => exact rfl); (case he => exact rfl); (case hpd => exact pdokA)))); (case hT => intro h gk; repeat (first
         | ((with_reducible apply DA.orY h gk); (case hL => exact subA); (case hp => exact pdsubA))
         | ((with_reducible apply DA.orN h gk); (case hL => exact subA); (case hp => exact pdsubA))
         | ((with_reducible apply DA.andY h gk); (case hL => exact subA); (case hp => exact pdsubA))
         | ((with_reducible apply DA.andN h gk); (case hL => exact subA); (case hp => exact pdsubA))
         | ((with_reducible apply DA.cm); (case hw => exact wantA); (case hnd => exact rfl); (case hd => exact rfl); (case he => exact rfl); (case hr => exact rfl); (case h => exact cmA))
         | ((with_reducible apply DA.cmr); (case hw => exact wantA); (case hnd => exact rfl); (case hd => exact rfl); (case he => exact rfl); (case ha => exact rfl); (case h => exact cmA))
         | ((with_reducible apply DA.lt); (case hw => exact wantA); (case hnd => exact rfl); (case hd => exact rfl); (case he => exact rfl); (case hr => exact rfl); (case ha => exact rfl); (case h => exact ltA))
         | ((with_reducible apply DA.ltP); (case hw => exact wantA); (case hnd => exact rfl); (case hd => exact rfl); (case he => exact rfl); (case hr => exact rfl); (case h => exact ltsA))
         | ((with_reducible apply DA.cmE); (case hw => exact wantA); (case hnd => exact rfl); (case hd => exact rfl); (case he => exact rfl); (case h => exact cmA); (case hpd => exact pdokA))
         | ((with_reducible apply DA.skip); (case hw => exact unwA); (case hd => exact rfl); (case he => exact rfl))
         | ((with_reducible apply DA.exSkip); (case hw => exact unwA); (case hd => exact rfl); (case he => exact rfl); (case hpd => exact pdokA)))))
         | ((with_reducible apply DA.andG); (case hg => exact rfl); (case hq => exact rfl); (case hc => exact rfl); (case hT => intro h gk; repeat (first
         | ((with_reducible apply DA.orY h gk); (case hL => exact subA); (case hp => exact pdsubA))
         | ((with_reducible apply DA.orN h gk); (case hL => exact subA); (case hp => exact pdsubA))
         | ((with_reducible apply DA.andY h gk); (case hL => exact subA); (case hp => exact pdsubA))
         | ((with_reducible apply DA.andN h gk); (case hL => exact subA); (case hp => exact pdsubA))
         | ((with_reducible apply DA.cm); (case hw => exact wantA); (case hnd => exact rfl); (case hd => exact rfl); (case he => exact rfl); (case hr => exact rfl); (case h => exact cmA))
         | ((with_reducible apply DA.cmr); (case hw => exact wantA); (case hnd => exact rfl); (case hd => exact rfl); (case he => exact rfl); (case ha => exact rfl); (case h => exact cmA))
         | ((with_reducible apply DA.lt); (case hw => exact wantA); (case hnd => exact rfl); (case hd => exact rfl); (case he => exact rfl); (case hr => exact rfl); (case ha => exact rfl); (case h => exact ltA))
         | ((with_reducible apply DA.ltP); (case hw => exact wantA); (case hnd => exact rfl); (case hd => exact rfl); (case he => exact rfl); (case hr => exact rfl); (case h => exact ltsA))
         | ((with_reducible apply DA.cmE); (case hw => exact wantA); (case hnd => exact rfl); (case hd => exact rfl); (case he => exact rfl); (case h => exact cmA); (case hpd => exact pdokA))
         | ((with_reducible apply DA.skip); (case hw => exact unwA); (case hd => exact rfl); (case he => exact rfl))
         | ((with_reducible apply DA.exSkip); (case hw => exact unwA); (case hd => exact rfl); (case he => exact rfl); (case hpd => exact pdokA)))); (case hF => intro h gk; repeat (first
         | ((with_reducible apply DA.orY h gk); (case hL => exact subA); (case hp => exact pdsubA))
         | ((with_reducible apply DA.orN h gk); (case hL => exact subA); (case hp => exact pdsubA))
         | ((with_reducible apply DA.andY h gk); (case hL => exact subA); (case hp => exact pdsubA))
         | ((with_reducible apply DA.andN h gk); (case hL => exact subA); (case hp => exact pdsubA))
         | ((with_reducible apply DA.cm); (case hw => exact wantA); (case hnd => exact rfl); (case hd => exact rfl); (case he => exact rfl); (case hr => exact rfl); (case h => exact cmA))
         | ((with_reducible apply DA.cmr); (case hw => exact wantA); (case hnd => exact rfl); (case hd => exact rfl); (case he => exact rfl); (case ha => exact rfl); (case h => exact cmA))
         | ((with_reducible apply DA.lt); (case hw => exact wantA); (case hnd => exact rfl); (case hd => exact rfl); (case he => exact rfl); (case hr => exact rfl); (case ha => exact rfl); (case h => exact ltA))
         | ((with_reducible apply DA.ltP); (case hw => exact wantA); (case hnd => exact rfl); (case hd => exact rfl); (case he => exact rfl); (case hr => exact rfl); (case h => exact ltsA))
         | ((with_reducible apply DA.cmE); (case hw => exact wantA); (case hnd => exact rfl); (case hd => exact rfl); (case he => exact rfl); (case h => exact cmA); (case hpd => exact pdokA))
         | ((with_reducible apply DA.skip); (case hw => exact unwA); (case hd => exact rfl); (case he => exact rfl))
         | ((with_reducible apply DA.exSkip); (case hw => exact unwA); (case hd => exact rfl); (case he => exact rfl); (case hpd => exact pdokA))))))); (case hF => intro h gk; repeat (first
         | ((with_reducible apply DA.orY h gk); (case hL => exact subA); (case hp => exact pdsubA))
         | ((with_reducible apply DA.orN h gk); (case hL => exact subA); (case hp => exact pdsubA))
         | ((with_reducible apply DA.andY h gk); (case hL => exact subA); (case hp => exact pdsubA))
         | ((with_reducible apply DA.andN h gk); (case hL => exact subA); (case hp => exact pdsubA))
         | ((with_reducible apply DA.cm); (case hw => exact wantA); (case hnd => exact rfl); (case hd => exact rfl); (case he => exact rfl); (case hr => exact rfl); (case h => exact cmA))
         | ((with_reducible apply DA.cmr); (case hw => exact wantA); (case hnd => exact rfl); (case hd => exact rfl); (case he => exact rfl); (case ha => exact rfl); (case h => exact cmA))
         | ((with_reducible apply DA.lt); (case hw => exact wantA); (case hnd => exact rfl); (case hd => exact rfl); (case he => exact rfl); (case hr => exact rfl); (case ha => exact rfl); (case h => exact ltA))
         | ((with_reducible apply DA.ltP); (case hw => exact wantA); (case hnd => exact rfl); (case hd => exact rfl); (case he => exact rfl); (case hr => exact rfl); (case h => exact ltsA))
         | ((with_reducible apply DA.cmE); (case hw => exact wantA); (case hnd => exact rfl); (case hd => exact rfl); (case he => exact rfl); (case h => exact cmA); (case hpd => exact pdokA))
         | ((with_reducible apply DA.skip); (case hw => exact unwA); (case hd => exact rfl); (case he => exact rfl))
         | ((with_reducible apply DA.exSkip); (case hw => exact unwA); (case hd => exact rfl); (case he => exact rfl); (case hpd => exact pdokA))
         | ((with_reducible apply DA.orG); (case hg => exact rfl); (case hq => exact rfl); (case hc => exact rfl); (case hF => intro h gk; repeat (first
         | ((with_reducible apply DA.orY h gk); (case hL => exact subA); (case hp => exact pdsubA))
         | ((with_reducible apply DA.orN h gk); (case hL => exact subA); (case hp => exact pdsubA))
         | ((with_reducible apply DA.andY h gk); (case hL => exact subA); (case hp => exact pdsubA))
         | ((with_reducible apply DA.andN h gk); (case hL => exact subA); (case hp => exact pdsubA))
         | ((with_reducible apply DA.cm); (case hw => exact wantA); (case hnd => exact rfl); (case hd => exact rfl); (case he => exact rfl); (case hr => exact rfl); (case h => exact cmA))
         | ((with_reducible apply DA.cmr); (case hw => exact wantA); (case hnd => exact rfl); (case hd => exact rfl); (case he => exact rfl); (case ha => exact rfl); (case h => exact cmA))
         | ((with_reducible apply DA.lt); (case hw => exact wantA); (case hnd => exact rfl); (case hd => exact rfl); (case he => exact rfl); (case hr => exact rfl); (case ha => exact rfl); (case h => exact ltA))
         | ((with_reducible apply DA.ltP); (case hw => exact wantA); (case hnd => exact rfl); (case hd => exact rfl); (case he => exact rfl); (case hr => exact rfl); (case h => exact ltsA))
         | ((with_reducible apply DA.cmE); (case hw => exact wantA); (case hnd => exact rfl); (case hd => exact rfl); (case he => exact rfl); (case h => exact cmA); (case hpd => exact pdokA))
         | ((with_reducible apply DA.skip); (case hw => exact unwA); (case hd => exact rfl); (case he => exact rfl))
         | ((with_reducible apply DA.exSkip); (case hw => exact unwA); (case hd => exact rfl); (case he => exact rfl); (case hpd => exact pdokA)))); (case hT => intro h gk; repeat (first
         | ((with_reducible apply DA.orY h gk); (case hL => exact subA); (case hp => exact pdsubA))
         | ((with_reducible apply DA.orN h gk); (case hL => exact subA); (case hp => exact pdsubA))
         | ((with_reducible apply DA.andY h gk); (case hL => exact subA); (case hp => exact pdsubA))
         | ((with_reducible apply DA.andN h gk); (case hL => exact subA); (case hp => exact pdsubA))
         | ((with_reducible apply DA.cm); (case hw => exact wantA); (case hnd => exact rfl); (case hd => exact rfl); (case he => exact rfl); (case hr => exact rfl); (case h => exact cmA))
         | ((with_reducible apply DA.cmr); (case hw => exact wantA); (case hnd => exact rfl); (case hd => exact rfl); (case he => exact rfl); (case ha => exact rfl); (case h => exact cmA))
         | ((with_reducible apply DA.lt); (case hw => exact wantA); (case hnd => exact rfl); (case hd => exact rfl); (case he => exact rfl); (case hr => exact rfl); (case ha => exact rfl); (case h => exact ltA))
         | ((with_reducible apply DA.ltP); (case hw => exact wantA); (case hnd => exact rfl); (case hd => exact rfl); (case he => exact rfl); (case hr => exact rfl); (case h => exact ltsA))
         | ((with_reducible apply DA.cmE); (case hw => exact wantA); (case hnd => exact rfl); (case hd => exact rfl); (case he => exact rfl); (case h => exact cmA); (case hpd => exact pdokA))
         | ((with_reducible apply DA.skip); (case hw => exact unwA); (case hd => exact rfl); (case he => exact rfl))
         | ((with_reducible apply DA.exSkip); (case hw => exact unwA); (case hd => exact rfl); (case he => exact rfl); (case hpd => exact pdokA)))))
         | ((with_reducible apply DA.andG); (case hg => exact rfl); (case hq => exact rfl); (case hc => exact rfl); (case hT => intro h gk; repeat (first
         | ((with_reducible apply DA.orY h gk); (case hL => exact subA); (case hp => exact pdsubA))
         | ((with_reducible apply DA.orN h gk); (case hL => exact subA); (case hp => exact pdsubA))
         | ((with_reducible apply DA.andY h gk); (case hL => exact subA); (case hp => exact pdsubA))
         | ((with_reducible apply DA.andN h gk); (case hL => exact subA); (case hp => exact pdsubA))
         | ((with_reducible apply DA.cm); (case hw => exact wantA); (case hnd => exact rfl); (case hd => exact rfl); (case he => exact rfl); (case hr => exact rfl); (case h => exact cmA))
         | ((with_reducible apply DA.cmr); (case hw => exact wantA); (case hnd => exact rfl); (case hd => exact rfl); (case he => exact rfl); (case ha => exact rfl); (case h => exact cmA))
         | ((with_reducible apply DA.lt); (case hw => exact wantA); (case hnd => exact rfl); (case hd => exact rfl); (case he => exact rfl); (case hr => exact rfl); (case ha => exact rfl); (case h => exact ltA))
         | ((with_reducible apply DA.ltP); (case hw => exact wantA); (case hnd => exact rfl); (case hd => exact rfl); (case he => exact rfl); (case hr => exact rfl); (case h => exact ltsA))
         | ((with_reducible apply DA.cmE); (case hw => exact wantA); (case hnd => exact rfl); (case hd => exact rfl); (case he => exact rfl); (case h => exact cmA); (case hpd => exact pdokA))
         | ((with_reducible apply DA.skip); (case hw => exact unwA); (case hd => exact rfl); (case he => exact rfl))
         | ((with_reducible apply DA.exSkip); (case hw => exact unwA); (case hd => exact rfl); (case he => exact rfl); (case hpd => exact pdokA)))); (case hF => intro h gk; repeat (first
         | ((with_reducible apply DA.orY h gk); (case hL => exact subA); (case hp => exact pdsubA))
         | ((with_reducible apply DA.orN h gk); (case hL => exact subA); (case hp => exact pdsubA))
         | ((with_reducible apply DA.andY h gk); (case hL => exact subA); (case hp => exact pdsubA))
         | ((with_reducible apply DA.andN h gk); (case hL => exact subA); (case hp => exact pdsubA))
         | ((with_reducible apply DA.cm); (case hw => exact wantA); (case hnd => exact rfl); (case hd => exact rfl); (case he => exact rfl); (case hr => exact rfl); (case h => exact cmA))
         | ((with_reducible apply DA.cmr); (case hw => exact wantA); (case hnd => exact rfl); (case hd => exact rfl); (case he => exact rfl); (case ha => exact rfl); (case h => exact cmA))
         | ((with_reducible apply DA.lt); (case hw => exact wantA); (case hnd => exact rfl); (case hd => exact rfl); (case he => exact rfl); (case hr => exact rfl); (case ha => exact rfl); (case h => exact ltA))
         | ((with_reducible apply DA.ltP); (case hw => exact wantA); (case hnd => exact rfl); (case hd => exact rfl); (case he => exact rfl); (case hr => exact rfl); (case h => exact ltsA))
         | ((with_reducible apply DA.cmE); (case hw => exact wantA); (case hnd => exact rfl); (case hd => exact rfl); (case he => exact rfl); (case h => exact cmA); (case hpd => exact pdokA))
         | ((with_reducible apply DA.skip); (case hw => exact unwA); (case hd => exact rfl); (case he => exact rfl))
         | ((with_reducible apply DA.exSkip); (case hw => exact unwA); (case hd => exact rfl); (case he => exact rfl); (case hpd => exact pdokA))))))))
      | ((with_reducible apply DA.cl); (case hw => exact wantA); (case hf => exact rfl); (case ha => exact rfl); (case has => exact rfl); (case hd => exact rfl); (case hj => exact rfl))
      | ((with_reducible apply DA.clP); (case hw => exact wantA); (case hf => exact rfl); (case ha => exact rfl); (case has => exact rfl); (case hd => exact rfl); (case hj => exact rfl))
      | (with_reducible apply DA.done))
     exact g.h)) : Z := h ⟨g⟩
end Go.KL
