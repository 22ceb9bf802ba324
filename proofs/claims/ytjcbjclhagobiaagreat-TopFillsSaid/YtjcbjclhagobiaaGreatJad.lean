/- Texts joined by a program of ours: Kq Kwa Kwb. -/
import Derived.Test.YtjcbjclhagobiaaGreatJac
import Derived.KernelRfl
set_option linter.all false
section
namespace Go.KL
open Go
theorem elt {α β:Type} {xs:List α} {f:α->β} {i:Nat} {x:α} (h:xs[i]?=some x):(xs.map f)[i]?=some (f x):=by simp [h]
theorem QP {vs c c':List Value} {n:Nat} (hz:vs≠[]) (h:zHT c n vs=some c'):c'=lay c n vs:=(layO_eq h).elim (fun x=>x.1) fun x=>absurd x.1 hz
theorem zIB {vs c c':List Value} {n sz:Nat} (hl:vQ vs sz=true) (hz:vs≠[]) (h:zHT c n vs=some c'):n+sz<=c.length:=by
 rw [<-vI hl];exact (layO_eq h).elim (fun x=>x.2) fun x=>absurd x.1 hz
theorem XL {α:Type} {xs:List α} {x:α}:(xs++[x])[xs.length]?=some x:=by simp
section
variable {P:Program} {E:Env} {L L':Tm} {s:List HP} {l:List Oper} {o:Oper} {v:Value} {M eff:List Nat} {σ:List Nat} {j:Nat} {pd pd0:List (Nat×Oper×Value)}
theorem zO (h:Want L l o true:=by (first|exact rfl|exact zNy rfl rfl rfl (by assumption)|exact zOB rfl rfl rfl (by assumption))):Want L l o true:=h
theorem zHm (h:Want L l o false:=by (first|exact zLW rfl rfl rfl (by assumption)|exact zLw rfl rfl rfl (by assumption)|exact zLr rfl rfl rfl)):Want L l o false:=h
theorem QS (h:Sub L' L:=by (repeat (first|(with_reducible exact Sub.refl)|((with_reducible apply Sub.skip);(case h=>exact rfl))))):Sub L' L:=h
theorem cmA (h:Cm P L o v:=by (first
    | ((with_reducible apply zOU);(exact rfl))
    | ((with_reducible apply zKl);(exact rfl))
    | ((with_reducible apply zCa);(case h=>exact inferInstance);(case hx=>exact rfl))
    | ((with_reducible apply zCR);(case h=>exact inferInstance);(case hx=>exact rfl))
    | ((with_reducible apply Xt);(case h=>exact inferInstance);(case hx=>exact rfl))
    | ((with_reducible apply zON);(case hx=>exact rfl);(case hy=>exact rfl);(case h=>first|((with_reducible apply zOv);exact rfl)|((with_reducible apply zMv);omega)|((with_reducible apply zMo);omega)|((with_reducible apply zMz);omega)|((with_reducible apply zNJ);omega)|((with_reducible apply zOE);omega)|(with_reducible exact zPA)|(with_reducible exact zPl)|(with_reducible exact zOq)|(with_reducible exact zLo)|((with_reducible apply zLN);omega)|(with_reducible exact zMX _ _ _ _)|(with_reducible exact zOb _ _ _ _)|(with_reducible exact zNs _ _ _ _)))
    | ((with_reducible apply zMi);(case hx=>exact rfl);(case hy=>exact rfl);(case h=>first|((with_reducible apply zN8);omega)|((with_reducible apply zOO);omega)))
    | ((with_reducible apply zLp);(case hx=>exact rfl);(case hy=>exact rfl);(case h=>exact inferInstance))
    | ((with_reducible apply zLT);(case hx=>exact rfl);(case hy=>exact rfl);(case h=>exact inferInstance))
    | ((with_reducible apply zNV);(case hx=>exact rfl);(case hy=>exact rfl))
    | ((with_reducible apply zNQ);(case hx=>exact rfl);(case hy=>exact rfl))
    | ((with_reducible apply zNe);(case hx=>exact rfl);(case hy=>exact rfl);(case h=>exact inferInstance);(case hv=>exact rfl))
    | ((with_reducible apply zMR);(case hx=>exact rfl);(case hy=>exact rfl);(case h=>exact inferInstance);(case hv=>exact rfl))
    | ((with_reducible apply zHQ);(case h=>exact inferInstance);(case hx=>exact rfl);(case hy=>exact rfl))
    | ((with_reducible apply zDn);(case h=>exact inferInstance);(case hx=>exact rfl);(case hy=>exact rfl))
    | ((with_reducible apply zKu);(case h=>exact inferInstance);(case hx=>exact rfl);(case hy=>exact rfl))
    | ((with_reducible apply zJq);(case h=>exact inferInstance);(case hx=>exact rfl);(case hy=>exact rfl))
    | ((with_reducible apply zO2);(exact rfl))
    | ((with_reducible apply zNH);(case hx=>exact rfl);(case hv=>exact rfl))
    | ((with_reducible apply zIS);(case hx=>exact rfl);(case hv=>exact rfl))
    | ((with_reducible apply zHc);(exact rfl))
    | ((with_reducible apply zLU);(case h1=>exact inferInstance);(case h2=>exact inferInstance);(case hx=>exact rfl);(case hr=>first|omega|(simp only [List.length_cons,List.length_map,List.length_nil,List.length_append];omega)))
    | ((with_reducible apply zIo);(case h1=>exact inferInstance);(case h2=>exact inferInstance);(case hx=>exact rfl);(case hr=>first|omega|(simp only [List.length_cons,List.length_map,List.length_nil,List.length_append];omega)))
    | ((with_reducible apply zKv);(case h1=>exact inferInstance);(case h2=>exact inferInstance);(case hx=>exact rfl);(case hr=>first|omega|(simp only [List.length_cons,List.length_map,List.length_nil,List.length_append];omega)))
    | ((with_reducible apply zFf);(case h1=>exact inferInstance);(case h2=>exact inferInstance);(case hx=>exact rfl))
    | ((with_reducible apply zMd);(case h=>exact inferInstance);(case hp=>exact inferInstance);(case he=>exact rfl);(case hf=>exact rfl))
    | ((with_reducible apply zHe);(case h=>exact inferInstance);(case hu=>exact inferInstance);(case h2=>exact inferInstance);(case he=>exact rfl);(case hf=>exact rfl))
    | ((with_reducible apply zJz);(case ha=>exact rfl);(case h=>intro _ _;first|((with_reducible apply zOy);exact inferInstance)|(with_reducible exact zPE)|(with_reducible exact zOn)|(with_reducible exact zN2)|((with_reducible apply zLd);exact inferInstance)|((with_reducible apply zOu);exact inferInstance)))
    | ((with_reducible apply zM7);(case hc=>exact rfl);(case h=>assumption);(case hx=>exact rfl))
    | ((with_reducible apply zNi);(case hc=>exact rfl);(case h=>assumption);(case hy=>exact rfl))
    | ((with_reducible apply zOc);(case hc=>exact rfl);(case hx=>exact rfl);(case hy=>exact rfl))
    | ((with_reducible apply zKp);(case h=>exact inferInstance);(case h1=>exact inferInstance);(case hx=>exact rfl);(case hv=>exact rfl))
    | ((with_reducible apply zKm);(case h=>exact inferInstance);(case h1=>exact inferInstance);(case hx=>exact rfl))
    | ((with_reducible apply zDP);(case h=>exact inferInstance);(case he=>exact inferInstance);(case hx=>exact rfl);(case hy=>exact rfl);(case hk=>with_reducible assumption);(case h1=>exact rfl))
    | ((with_reducible apply zEv);(case h=>exact inferInstance);(case he=>exact inferInstance);(case hx=>exact rfl);(case hy=>exact rfl);(case hk=>with_reducible assumption);(case h1=>exact rfl))
    | ((with_reducible apply JV);(case h=>exact inferInstance);(case he=>exact inferInstance);(case hx=>exact rfl);(case hy=>exact rfl);(case h0=>first|omega|(simp only [List.length_cons,List.length_map,List.length_nil,List.length_append];omega));(case h1=>first|omega|(simp only [List.length_cons,List.length_map,List.length_nil,List.length_append];omega)))
    | ((with_reducible apply Ji);(case h=>exact inferInstance);(case he=>exact inferInstance);(case hx=>exact rfl);(case hy=>exact rfl);(case h0=>first|omega|(simp only [List.length_cons,List.length_map,List.length_nil,List.length_append];omega));(case h1=>first|omega|(simp only [List.length_cons,List.length_map,List.length_nil,List.length_append];omega)))
    | ((with_reducible apply VF);(case h=>exact inferInstance);(case he=>exact inferInstance);(case hx=>exact rfl);(case hy=>exact rfl);(case h0=>first|omega|(simp only [List.length_cons,List.length_map,List.length_nil,List.length_append];omega));(case h1=>first|omega|(simp only [List.length_cons,List.length_map,List.length_nil,List.length_append];omega)))
    | ((with_reducible apply zDq);(case h=>exact inferInstance);(case he=>exact inferInstance);(case hx=>exact rfl);(case hy=>exact rfl);(case h0=>first|omega|(simp only [List.length_cons,List.length_map,List.length_nil,List.length_append];omega));(case h1=>first|omega|(simp only [List.length_cons,List.length_map,List.length_nil,List.length_append];omega));(case hv=>exact rfl))
    | ((with_reducible apply zGK);(case h=>exact inferInstance);(case hx=>exact rfl);(case hy=>exact rfl);(case h0=>first|omega|(simp only [List.length_cons,List.length_map,List.length_nil,List.length_append];omega));(case hc=>with_reducible assumption))
    | ((with_reducible apply zNL);(case h=>exact inferInstance);(case hx=>exact rfl);(case hy=>exact rfl);(case ha=>exact rfl);(case hb=>exact rfl);(case la=>exact rfl);(case lb=>exact rfl))
    | ((with_reducible apply zMN);(case h=>exact inferInstance);(case hx=>exact rfl);(case hy=>exact rfl);(case ha=>exact rfl);(case hb=>exact rfl);(case la=>exact rfl);(case lb=>exact rfl))
    | ((with_reducible apply zGd);(case h1=>exact rfl);(case h2=>exact rfl))
    | ((with_reducible apply zNj);(case h=>exact inferInstance);(case hx=>exact rfl);(case hy=>exact rfl);(case hy2=>exact rfl);(case h0=>first|omega|(simp only [List.length_cons,List.length_map,List.length_nil,List.length_append];omega));(case h1=>first|omega|(simp only [List.length_cons,List.length_map,List.length_nil,List.length_append];omega));(case h2=>first|omega|(simp only [List.length_cons,List.length_map,List.length_nil,List.length_append];omega)))
    | ((with_reducible apply zMh);(case h=>exact inferInstance);(case hx=>exact rfl);(case hy=>exact rfl);(case h0=>first|omega|(simp only [List.length_cons,List.length_map,List.length_nil,List.length_append];omega));(case h1=>first|omega|(simp only [List.length_cons,List.length_map,List.length_nil,List.length_append];omega)))
    | ((with_reducible apply zNg);(case h=>exact inferInstance);(case hx=>exact rfl);(case hy=>exact rfl);(case h0=>first|omega|(simp only [List.length_cons,List.length_map,List.length_nil,List.length_append];omega));(case h1=>first|omega|(simp only [List.length_cons,List.length_map,List.length_nil,List.length_append];omega)))
    | ((with_reducible apply zJM);(case h=>exact inferInstance);(case he=>exact inferInstance);(case hx=>exact rfl);(case hy=>exact rfl);(case h0=>first|omega|(simp only [List.length_cons,List.length_map,List.length_nil,List.length_append];omega));(case h1=>first|omega|(simp only [List.length_cons,List.length_map,List.length_nil,List.length_append];omega));(case h2=>first|omega|(simp only [List.length_cons,List.length_map,List.length_nil,List.length_append];omega)))
    | ((with_reducible apply zKS);(case h=>exact inferInstance);(case he=>exact inferInstance);(case hx=>exact rfl);(case hy=>exact rfl);(case h0=>first|omega|(simp only [List.length_cons,List.length_map,List.length_nil,List.length_append];omega));(case h1=>first|omega|(simp only [List.length_cons,List.length_map,List.length_nil,List.length_append];omega)))
    | ((with_reducible apply zJD);(case h=>exact inferInstance);(case he=>exact inferInstance);(case hx=>exact rfl);(case hy=>exact rfl);(case hy2=>exact rfl);(case h0=>first|omega|(simp only [List.length_cons,List.length_map,List.length_nil,List.length_append];omega));(case h1=>first|omega|(simp only [List.length_cons,List.length_map,List.length_nil,List.length_append];omega));(case h2=>first|omega|(simp only [List.length_cons,List.length_map,List.length_nil,List.length_append];omega))))):Cm P L o v:=h
theorem ltA (h:Lt P E L s o v:=by (first
    | ((with_reducible apply zNF);(case h=>exact inferInstance);(case hx=>exact rfl);(case hs=>repeat (first|(with_reducible exact Sel.here)|(with_reducible apply Sel.there)));(case hv=>first|(with_reducible assumption)|exact rfl))
    | ((with_reducible apply zMV);(case h=>exact inferInstance);(case hx=>exact rfl);(case hs=>repeat (first|(with_reducible exact Sel.here)|(with_reducible apply Sel.there)));(case hv=>exact rfl))
    | ((with_reducible apply zFt);(case h=>exact inferInstance);(case hx=>exact rfl);(case hs=>repeat (first|(with_reducible exact Sel.here)|(with_reducible apply Sel.there)));(case hv=>first|(with_reducible assumption)|exact rfl))
    | ((with_reducible apply zKo);(case h=>exact inferInstance);(case hx=>exact rfl);(case hs=>repeat (first|(with_reducible exact Sel.here)|(with_reducible apply Sel.there)));(case hv=>exact rfl))
    | ((with_reducible apply zK5);(case h=>exact inferInstance);(case hx=>exact rfl);(case hs=>repeat (first|(with_reducible exact Sel.here)|(with_reducible apply Sel.there)));(case he=>first|(with_reducible assumption)|exact rfl|assumption|exact elt (by assumption)|exact XL|(simp;done));(case hv=>exact rfl))
    | ((with_reducible apply zK3);(case h=>exact inferInstance);(case hx=>exact rfl);(case hs=>repeat (first|(with_reducible exact Sel.here)|(with_reducible apply Sel.there)));(case he=>first|(with_reducible assumption)|exact rfl|assumption|exact elt (by assumption)|exact XL|(simp;done));(case hv=>exact rfl))
    | ((with_reducible apply zLB);(case h=>exact inferInstance);(case hx=>exact rfl);(case hs=>repeat (first|(with_reducible exact Sel.here)|(with_reducible apply Sel.there)));(case he=>first|(with_reducible assumption)|exact rfl|assumption|exact elt (by assumption)|exact XL|(simp;done));(case hv=>exact rfl))
    | ((with_reducible apply zK7);(case h=>exact inferInstance);(case hx=>exact rfl);(case hs=>repeat (first|(with_reducible exact Sel.here)|(with_reducible apply Sel.there)));(case he=>first|(with_reducible assumption)|exact rfl|assumption|exact elt (by assumption)|exact XL|(simp;done));(case hv=>exact rfl))
    | ((with_reducible apply zKw);(case h=>exact inferInstance);(case he=>exact inferInstance);(case hx=>exact rfl);(case hy=>exact rfl);(case hs=>repeat (first|(with_reducible exact Sel.here)|(with_reducible apply Sel.there)));(case hn=>first|(with_reducible assumption)|exact rfl|exact List.length_map _|(simp;done)|(simp;omega));(case h0=>first|omega|(simp only [List.length_cons,List.length_map,List.length_nil,List.length_append];omega));(case h1=>first|omega|(simp only [List.length_cons,List.length_map,List.length_nil,List.length_append];omega)))
    | ((with_reducible apply zKy);(case h=>exact inferInstance);(case he=>exact inferInstance);(case hx=>exact rfl);(case hy=>exact rfl);(case hs=>repeat (first|(with_reducible exact Sel.here)|(with_reducible apply Sel.there)));(case hn=>first|(with_reducible assumption)|exact rfl|exact List.length_map _|(simp;done)|(simp;omega));(case h0=>first|omega|(simp only [List.length_cons,List.length_map,List.length_nil,List.length_append];omega));(case h1=>first|omega|(simp only [List.length_cons,List.length_map,List.length_nil,List.length_append];omega)))
    | ((with_reducible apply zLO);(case h1=>exact inferInstance);(case h2=>exact inferInstance);(case h3=>exact inferInstance);(case hx=>exact rfl);(case hs=>repeat (first|(with_reducible exact Sel.here)|(with_reducible apply Sel.there)));(case hn=>first|(with_reducible assumption)|exact rfl|exact List.length_map _|(simp;done)|(simp;omega)))
    | ((with_reducible apply zLl);(case h1=>exact inferInstance);(case h2=>exact inferInstance);(case h3=>exact inferInstance);(case hx=>exact rfl);(case hs=>repeat (first|(with_reducible exact Sel.here)|(with_reducible apply Sel.there)));(case hn=>first|(with_reducible assumption)|exact rfl|exact List.length_map _|(simp;done)|(simp;omega)))
    | ((with_reducible apply zLF);(case h=>exact inferInstance);(case hk=>exact inferInstance);(case he=>exact inferInstance);(case hx=>exact rfl);(case hy=>exact rfl);(case hs=>repeat (first|(with_reducible exact Sel.here)|(with_reducible apply Sel.there))))
    | ((with_reducible apply zLH);(case h=>exact inferInstance);(case hx=>exact rfl);(case hs=>repeat (first|(with_reducible exact Sel.here)|(with_reducible apply Sel.there)))))):Lt P E L s o v:=h
theorem zOS (h:Lt P E L s o v:=by (first|exact ltA|exact Cm.lt cmA)):Lt P E L s o v:=h
theorem vX (h:PdOk P E M j L s pd:=by (repeat (first|exact PdOk.nil|((with_reducible apply PdOk.old);(case h=>exact rfl))|((with_reducible apply PdOk.cons);(case h=>exact zOS))))):PdOk P E M j L s pd:=h
theorem Yl (h:PdSub M eff σ pd0 pd:=by (repeat (first|(with_reducible exact PdSub.refl)|exact PdSub.nil|((with_reducible apply PdSub.cons);(case h=>exact rfl))))):PdSub M eff σ pd0 pd:=h
end
section
variable {P:Program} {E:Env} {X:Xs} {b:Fx} {Post:Value->List HP->Prop} {k:List Item} {L:Tm} {s:List HP} {l rest:List Oper} {M eff rdx:List Nat} {σ:List (Nat×Oper)} {pd:List (Nat×Oper×Value)} {j d:Nat} {ty:TypeId} {pos:String} {af:Array Edge} {gd:Option (Nat×Bool)}
theorem draw {i:Nat} {σo:List (Nat×Oper)} (M eff rdx σ:List Nat) (g:DA P E X b Post l M eff rdx σo [] k L s) [hm:Mixed P] (hp:zLP l M eff rdx σ=true:=by kernel_rfl) (ho:xB l σ=some σo:=by rfl) (hla:LateAll P b.n l:=by (repeat (first|exact LateAll.nil|refine LateAll.late inferInstance rfl ?_|refine LateAll.other rfl ?_))):W P E X b Post (.code (.region i l.toArray true)::k) L s:=W.draw hm.h hp hla ho g
theorem into {s':List HP} {t:List Item} (h:Into s s') (g:W P E X b Post t L s'):W P E X b Post t L s:=W.weaken (fun _ _ h=>h) h.h g
theorem zDx (base:Option Addr) {cap sz:Nat} {es:List (List Value)} {F:List HP} {t:List Item} (g:es.length<=cap->W P E X b Post t L s) (hs:Sel s (rsl base cap sz es) F:=by ((try simp only [List.cons_append,List.nil_append]);repeat (first|(with_reducible exact Sel.here)|(with_reducible apply Sel.there)))):W P E X b Post t L s:=W.pure (hs.pure fun r f h=>h.2.1) g
theorem zMn (base:Option Addr) {cap sz:Nat} {T:TypeId} {es:List (List Value)} {F:List HP} {t:List Item} (g:es.length<=cap->W P E X b Post t L s) (hs:Sel s (osl base cap T sz es) F:=by ((try simp only [List.cons_append,List.nil_append]);repeat (first|(with_reducible exact Sel.here)|(with_reducible apply Sel.there)))):W P E X b Post t L s:=W.pure (hs.pure fun r f h=>h.2.1) g
theorem Jq (base:Option Addr) {cap sz:Nat} {es es':List (List Value)} {F:List HP} (lo m:Nat) (hl:lo<=cap) (he:(es.drop lo).take m=es') (hs:Sel s (rsl base cap sz es) F:=by ((try simp only [List.cons_append,List.nil_append]);repeat (first|(with_reducible exact Sel.here)|(with_reducible apply Sel.there)))):Into s (rsl (slB base cap lo sz) (cap-lo) sz es'::s):=he ▸ Into.rsl lo m hs hl
theorem cinto {s':List HP} {g:FuncId} {as:List Value} {J:Value->List HP->Prop} (h:Into s s') (k:Cl P E X g as s' J):Cl P E X g as s J:=by
 obtain ⟨pre,F,Post',h1,h2,h3⟩:=k;exact ⟨pre,F,Post',h1,fun r f hs=>h2 r f (h.h r f hs),h3⟩
theorem zO3 (base:Option Addr) {cap sz:Nat} {es:List (List Value)} {F:List HP} (g:es.length<=cap->WL P E X b Post l rest k L s) (hs:Sel s (rsl base cap sz es) F:=by ((try simp only [List.cons_append,List.nil_append]);repeat (first|(with_reducible exact Sel.here)|(with_reducible apply Sel.there)))):WL P E X b Post l rest k L s:=fun n hn=>W.pure (hs.pure fun r f h=>h.2.1) fun hp=>g hp n hn
theorem zHN (base:Option Addr) {cap sz:Nat} {T:TypeId} {es:List (List Value)} {F:List HP} (g:es.length<=cap->WL P E X b Post l rest k L s) (hs:Sel s (osl base cap T sz es) F:=by ((try simp only [List.cons_append,List.nil_append]);repeat (first|(with_reducible exact Sel.here)|(with_reducible apply Sel.there)))):WL P E X b Post l rest k L s:=fun n hn=>W.pure (hs.pure fun r f h=>h.2.1) fun hp=>g hp n hn
theorem xE (base:Option Addr) {cap sz:Nat} {T:TypeId} {es:List (List Value)} {F:List HP} {t:List Item} (g:W P E X b Post t L (KL.rsl base cap sz es::F)) (hs:Sel s (osl base cap T sz es) F:=by ((try simp only [List.cons_append,List.nil_append]);repeat (first|(with_reducible exact Sel.here)|(with_reducible apply Sel.there)))):W P E X b Post t L s:=W.ghost (Ghost.osl hs) g
theorem WA (base:Option Addr) {cap sz:Nat} {T:TypeId} {es:List (List Value)} {F:List HP} (g:WL P E X b Post l rest k L (KL.rsl base cap sz es::F)) (hs:Sel s (osl base cap T sz es) F:=by ((try simp only [List.cons_append,List.nil_append]);repeat (first|(with_reducible exact Sel.here)|(with_reducible apply Sel.there)))):WL P E X b Post l rest k L s:=WL.ghost (Ghost.osl hs) g
theorem WL.into {s':List HP} (h:Into s s') (g:WL P E X b Post l rest k L s'):WL P E X b Post l rest k L s:=fun n hn=>KL.into h (g n hn)
theorem alloc {t:TypeId} {agg:Bool} {sz:Nat} {z:List Value} (g:∀ bb,WL P E X b Post l rest k ((d,.pointer (some ⟨bb,0,none⟩))::L) (box bb z t::s)) [h:TyN P t agg sz z]
  (hw:Want L l ⟨some d,.alloc t,ty,pos,af,gd⟩ true:=by (exact zO)) (hd:Nat.blt d b.n=true:=by exact rfl):WL P E X b Post l (⟨some d,.alloc t,ty,pos,af,gd⟩::rest) k L s:=
 WL.ex hw hd (zJK h) (fun v s' ⟨bb,e1,e2⟩=>by rw [e1,e2];exact g bb)
theorem zU {t:TypeId} {x:Operand} {v:Value} (g:∀ bb,WL P E X b Post l rest k ((d,.pointer (some ⟨bb,0,none⟩))::L) (box bb (yG v) t::s)) (hx:ev L x=some v:=by exact rfl)
  (hw:Want L l ⟨some d,.box t x,ty,pos,af,gd⟩ true:=by (exact zO)) (hd:Nat.blt d b.n=true:=by exact rfl):WL P E X b Post l (⟨some d,.box t x,ty,pos,af,gd⟩::rest) k L s:=
 WL.ex hw hd (zNv hx) (fun v s' ⟨bb,e1,e2⟩=>by rw [e1,e2];exact g bb)
theorem makeMap {t:TypeId} (g:∀ bb,WL P E X b Post l rest k ((d,.map (some bb))::L) (imap bb [] 0::s))
  (hw:Want L l ⟨some d,.makeMap t none,ty,pos,af,gd⟩ true:=by (exact zO)) (hd:Nat.blt d b.n=true:=by exact rfl):WL P E X b Post l (⟨some d,.makeMap t none,ty,pos,af,gd⟩::rest) k L s:=
 WL.ex hw hd (zBq) (fun v s' ⟨bb,e1,e2⟩=>by rw [e1,e2];exact g bb)
theorem buildSlice {t e:TypeId} {agg:Bool} {sz len:Nat} {z:List Value} {parts:Array (Nat×Operand)} {ps:List (Nat×Value)} {es:List (List Value)} (g:∀ bb,WL P E X b Post l rest k ((d,.slice (some ⟨bb,0,none⟩) len len)::L) (osl (some ⟨bb,0,none⟩) len e sz es::s)) [h:TyU P t (.slice e)] [he:TyN P e agg sz z] (hp:evp L parts.toList=some ps:=by exact rfl) (hes:zNC sz 0 ps=some es:=by exact rfl) (hlen:es.length=len:=by exact rfl) (hsm:len*sz<=16777216:=by decide)
  (hw:Want L l ⟨some d,.buildSlice t len parts,ty,pos,af,gd⟩ true:=by (exact zO)) (hd:Nat.blt d b.n=true:=by exact rfl):WL P E X b Post l (⟨some d,.buildSlice t len parts,ty,pos,af,gd⟩::rest) k L s:=
 WL.ex hw hd (XE h he hp hes hlen hsm) (fun v s' ⟨bb,e1,e2⟩=>by rw [e1,e2];exact g bb)
theorem makeSlice {t e:TypeId} {agg:Bool} {sz bytes:Nat} {z:List Value} {x y:Operand} {kk k2:IntKind} {n c:Int} (g:∀ bb,WL P E X b Post l rest k ((d,.slice (some ⟨bb,0,none⟩) n.toNat c.toNat)::L) (osl (some ⟨bb,0,none⟩) c.toNat e sz (List.replicate n.toNat z)::s)) [h:TyU P t (.slice e)] [he:TyN P e agg sz z] [hb:TyB P e bytes] (hx:ev L x=some (.int kk n):=by exact rfl) (hy:ev L y=some (.int k2 c):=by exact rfl) (hzl:vQ z sz=true:=by exact rfl) (hz1:vH z=true:=by exact rfl) (h0:0<=n:=by omega) (h1:n<=c:=by omega) (hc:c<=9223372036854775807:=by omega) (hsm:bytes*c<=281474976710656:=by omega)
  (hw:Want L l ⟨some d,.makeSlice t x y,ty,pos,af,gd⟩ true:=by (exact zO)) (hd:Nat.blt d b.n=true:=by exact rfl):WL P E X b Post l (⟨some d,.makeSlice t x y,ty,pos,af,gd⟩::rest) k L s:=
 WL.ex hw hd (WI h he hb hx hy hzl hz1 h0 h1 hc hsm) (fun v s' ⟨bb,e1,e2⟩=>by rw [e1,e2];exact g bb)
theorem xM {x y:Operand} {t1 t2 elem:TypeId} {d2:TypeDesc} {agg:Bool} {sz bytes n n2 cap cap2:Nat} {z:List Value} {base base2:Option Addr} {es es2:List (List Value)} {F1 F:List HP} {T2:TypeId} (g:∀ base' cap',WL P E X b Post l rest k ((d,.slice base' (n+n2) cap')::L) (osl base' cap' elem sz (es++es2)::osl base2 cap2 T2 sz es2::F)) [h1:TyU P t1 (.slice elem)] [h2:TyU P t2 d2] [he:TyN P elem agg sz z] [hby:TyB P elem bytes] (hx:ev L x=some (.slice base n cap):=by exact rfl) (hy:ev L y=some (.slice base2 n2 cap2):=by exact rfl) (hs:Sel s (osl base cap elem sz es) F1:=by repeat (first|(with_reducible exact Sel.here)|(with_reducible apply Sel.there))) (hs2:Sel F1 (osl base2 cap2 T2 sz es2) F:=by repeat (first|(with_reducible exact Sel.here)|(with_reducible apply Sel.there)))
  (hn:es.length=n:=by first|(with_reducible assumption)|exact rfl|exact List.length_map _|(simp;done)|(simp;omega)) (hn2:es2.length=n2:=by first|(with_reducible assumption)|exact rfl|exact List.length_map _|(simp;done)|(simp;omega)) (hni:∀ k,d2≠.int k:=by (intro k e;cases e)) (hzl:vQ z sz=true:=by exact rfl) (hz:0<bytes:=by decide) (hroom:(2*(n+n2)+512)*bytes<=281474976710656:=by omega)
  (hw:Want L l ⟨some d,.call ⟨.builtin .append,#[x,y],#[t1,t2]⟩,ty,pos,af,gd⟩ true:=by (exact zO)) (hd:Nat.blt d b.n=true:=by exact rfl):WL P E X b Post l (⟨some d,.call ⟨.builtin .append,#[x,y],#[t1,t2]⟩,ty,pos,af,gd⟩::rest) k L s:=
 WL.ex hw hd (QO h1 h2 he hby hx hy hs hs2 (Src.osl hn2) hn hni hzl hz hroom) (fun v s' ⟨bb,cc,e1,e2⟩=>by rw [e1,e2];exact g bb cc)
theorem zA8 {x y:Operand} {t1 t2 elem:TypeId} {d2:TypeDesc} {agg:Bool} {sz bytes n n2 cap cap2:Nat} {z:List Value} {base base2:Option Addr} {es es2:List (List Value)} {F1 F:List HP} (g:∀ base' cap',WL P E X b Post l rest k ((d,.slice base' (n+n2) cap')::L) (osl base' cap' elem sz (es++es2)::rsl base2 cap2 sz es2::F)) [h1:TyU P t1 (.slice elem)] [h2:TyU P t2 d2] [he:TyN P elem agg sz z] [hby:TyB P elem bytes] (hx:ev L x=some (.slice base n cap):=by exact rfl) (hy:ev L y=some (.slice base2 n2 cap2):=by exact rfl) (hs:Sel s (osl base cap elem sz es) F1:=by repeat (first|(with_reducible exact Sel.here)|(with_reducible apply Sel.there))) (hs2:Sel F1 (rsl base2 cap2 sz es2) F:=by repeat (first|(with_reducible exact Sel.here)|(with_reducible apply Sel.there)))
  (hn:es.length=n:=by first|(with_reducible assumption)|exact rfl|exact List.length_map _|(simp;done)|(simp;omega)) (hn2:es2.length=n2:=by first|(with_reducible assumption)|exact rfl|exact List.length_map _|(simp;done)|(simp;omega)) (hni:∀ k,d2≠.int k:=by (intro k e;cases e)) (hzl:vQ z sz=true:=by exact rfl) (hz:0<bytes:=by decide) (hroom:(2*(n+n2)+512)*bytes<=281474976710656:=by omega)
  (hw:Want L l ⟨some d,.call ⟨.builtin .append,#[x,y],#[t1,t2]⟩,ty,pos,af,gd⟩ true:=by (exact zO)) (hd:Nat.blt d b.n=true:=by exact rfl):WL P E X b Post l (⟨some d,.call ⟨.builtin .append,#[x,y],#[t1,t2]⟩,ty,pos,af,gd⟩::rest) k L s:=
 WL.ex hw hd (QO h1 h2 he hby hx hy hs hs2 (Src.rsl hn2) hn hni hzl hz hroom) (fun v s' ⟨bb,cc,e1,e2⟩=>by rw [e1,e2];exact g bb cc)
theorem zLi {t T0:TypeId} {agg:Bool} {sz:Nat} {z:List Value} {x y:Operand} {bb off:Nat} {c c':List Value} {v:Value} {F:List HP} (hw:Want L l ⟨none,.store t x y,ty,pos,af,gd⟩ true) (h:TyN P t agg sz z) (hx:ev L x=some (.pointer (some ⟨bb,off,none⟩))) (hy:ev L y=some v) (hs:Sel s (box bb c T0) F) (hz:yG v≠[]) (hl:vQ (yG v) sz=true) (h1:vH (yG v)=true) (hn:zHT c off (yG v)=some c')
  (g:WL P E X b Post l rest k L (box bb c' T0::F)):WL P E X b Post l (⟨none,.store t x y,ty,pos,af,gd⟩::rest) k L s:=
 WL.ex hw rfl (zAn h hx hy hs hl h1 (zIB hl hz hn)) (fun v s' e=>by rw [e,<-QP hz hn];exact g)
theorem zKi {t T0:TypeId} {agg:Bool} {sz:Nat} {z:List Value} {x y:Operand} {bb off:Nat} {c:List Value} {v:Value} {F:List HP} (hw:Want L l ⟨none,.store t x y,ty,pos,af,gd⟩ true) (h:TyN P t agg sz z) (hx:ev L x=some (.pointer (some ⟨bb,off,none⟩))) (hy:ev L y=some v) (hs:Sel s (box bb c T0) F) (hl:vQ (yG v) sz=true) (h1:vH (yG v)=true) (hn:off+sz<=c.length)
  (g:WL P E X b Post l rest k L (box bb (lay c off (yG v)) T0::F)):WL P E X b Post l (⟨none,.store t x y,ty,pos,af,gd⟩::rest) k L s:=
 WL.ex hw rfl (zAn h hx hy hs hl h1 hn) (fun v s' e=>by rw [e];exact g)
theorem zJp {t T0:TypeId} {agg:Bool} {n:Nat} {z:List Value} {x y:Operand} {base:Option Addr} {cap sz i o:Nat} {es:List (List Value)} {e e':List Value} {v:Value} {F:List HP} (hw:Want L l ⟨none,.store t x y,ty,pos,af,gd⟩ true) (h:TyN P t agg n z) (hx:ev L x=some (.pointer (some (eltA base i sz o)))) (hy:ev L y=some v) (hs:Sel s (osl base cap T0 sz es) F) (he:es[i]?=some e) (hz:yG v≠[]) (hl:vQ (yG v) n=true) (h1:vH (yG v)=true) (hn:zHT e o (yG v)=some e'/\Nat.ble (o+n) sz=true)
  (g:WL P E X b Post l rest k L (osl base cap T0 sz (es.set i e')::F)):WL P E X b Post l (⟨none,.store t x y,ty,pos,af,gd⟩::rest) k L s:=
 WL.ex hw rfl (QT h hx hy hs he hl h1 (by simpa using hn.2)) (fun v s' e=>by rw [e,<-QP hz hn.1];exact g)
theorem zIu {t T0:TypeId} {agg:Bool} {n:Nat} {z:List Value} {x y:Operand} {base:Option Addr} {cap sz i o:Nat} {es:List (List Value)} {e:List Value} {v:Value} {F:List HP} (hw:Want L l ⟨none,.store t x y,ty,pos,af,gd⟩ true) (h:TyN P t agg n z) (hx:ev L x=some (.pointer (some (eltA base i sz o)))) (hy:ev L y=some v) (hs:Sel s (osl base cap T0 sz es) F) (he:es[i]?=some e) (hl:vQ (yG v) n=true) (h1:vH (yG v)=true) (hn:o+n<=sz)
  (g:WL P E X b Post l rest k L (osl base cap T0 sz (es.set i (lay e o (yG v)))::F)):WL P E X b Post l (⟨none,.store t x y,ty,pos,af,gd⟩::rest) k L s:=
 WL.ex hw rfl (QT h hx hy hs he hl h1 hn) (fun v s' e=>by rw [e];exact g)
theorem zLx {t kt et:TypeId} {d2:IntKind} {x y w:Operand} {bb ck:Nat} {U:List Ent} {kk v:Int} {F:List HP} (hw:Want L l ⟨none,.mapUpdate t x y w,ty,pos,af,gd⟩ true) (h:TyU P t (.map kt et)) (hk:TyU P kt (.int d2)) (hx:ev L x=some (.map (some bb))) (hy:ev L y=some (.int .i64 kk)) (hz:ev L w=some (.int .i64 v)) (hs:Sel s (imap bb U ck) F)
  (g:WL P E X b Post l rest k L (imap bb (upM U kk v ck) (upC U kk ck)::F)):WL P E X b Post l (⟨none,.mapUpdate t x y w,ty,pos,af,gd⟩::rest) k L s:=
 WL.ex hw rfl (zFn h hk hx hy hz hs) (fun v s' e=>by rw [e];exact g)
theorem zKn {t kt et t2:TypeId} {d2:IntKind} {x y:Operand} {bb ck:Nat} {U:List Ent} {kk:Int} {F:List HP} (hw:Want L l ⟨none,.call ⟨.builtin .delete,#[x,y],#[t,t2]⟩,ty,pos,af,gd⟩ true) (h:TyU P t (.map kt et)) (hk:TyU P kt (.int d2)) (hx:ev L x=some (.map (some bb))) (hy:ev L y=some (.int .i64 kk)) (hs:Sel s (imap bb U ck) F)
  (g:WL P E X b Post l rest k L (imap bb (zE8 U kk) ck::F)):WL P E X b Post l (⟨none,.call ⟨.builtin .delete,#[x,y],#[t,t2]⟩,ty,pos,af,gd⟩::rest) k L s:=
 WL.ex hw rfl (zFS h hk hx hy hs) (fun v s' e=>by rw [e.2];exact g)
theorem yS {t:TypeId} {agg:Bool} {sz:Nat} {z:List Value} (g:∀ bb,DA P E X b Post l M eff rdx σ pd k ((d,.pointer (some ⟨bb,0,none⟩))::L) (box bb z t::s)) [h:TyN P t agg sz z]
  (hj:eff.contains j=true:=by exact rfl):DA P E X b Post l M eff rdx ((j,⟨some d,.alloc t,ty,pos,af,none⟩)::σ) pd k L s:=
 DA.late hj h g
theorem YN {t:TypeId} {x:Operand} {v:Value} (g:∀ bb,DA P E X b Post l M eff rdx σ pd k ((d,.pointer (some ⟨bb,0,none⟩))::L) (box bb (yG v) t::s)) (hx:ev L x=some v:=by exact rfl)
  (hw:Want L l ⟨some d,.box t x,ty,pos,af,gd⟩ true:=by (exact zO)) (hd:Nat.blt d b.n=true:=by exact rfl) (hj:eff.contains j=true:=by exact rfl) (hpd:∀ bb,PdOk P E M j ((d,.pointer (some ⟨bb,0,none⟩))::L) (box bb (yG v) t::s) pd:=by (intros;exact vX)):DA P E X b Post l M eff rdx ((j,⟨some d,.box t x,ty,pos,af,gd⟩)::σ) pd k L s:=
 DA.exP hw hd hj rfl (zNv hx) (fun v s' ⟨bb,e1,e2⟩=>by rw [e1,e2];exact ⟨hpd bb,g bb⟩)
theorem yF {t e:TypeId} {agg:Bool} {sz len:Nat} {z:List Value} {parts:Array (Nat×Operand)} {ps:List (Nat×Value)} {es:List (List Value)} (g:∀ bb,DA P E X b Post l M eff rdx σ pd k ((d,.slice (some ⟨bb,0,none⟩) len len)::L) (osl (some ⟨bb,0,none⟩) len e sz es::s)) [h:TyU P t (.slice e)] [he:TyN P e agg sz z] (hp:evp L parts.toList=some ps:=by exact rfl) (hes:zNC sz 0 ps=some es:=by exact rfl) (hlen:es.length=len:=by exact rfl) (hsm:len*sz<=16777216:=by decide)
  (hw:Want L l ⟨some d,.buildSlice t len parts,ty,pos,af,gd⟩ true:=by (exact zO)) (hd:Nat.blt d b.n=true:=by exact rfl) (hj:eff.contains j=true:=by exact rfl) (hpd:∀ bb,PdOk P E M j ((d,.slice (some ⟨bb,0,none⟩) len len)::L) (osl (some ⟨bb,0,none⟩) len e sz es::s) pd:=by (intros;exact vX)):DA P E X b Post l M eff rdx ((j,⟨some d,.buildSlice t len parts,ty,pos,af,gd⟩)::σ) pd k L s:=
 DA.exP hw hd hj rfl (XE h he hp hes hlen hsm) (fun v s' ⟨bb,e1,e2⟩=>by rw [e1,e2];exact ⟨hpd bb,g bb⟩)
theorem zAb {t e:TypeId} {agg:Bool} {sz bytes:Nat} {z:List Value} {x y:Operand} {kk k2:IntKind} {n c:Int} (g:∀ bb,DA P E X b Post l M eff rdx σ pd k ((d,.slice (some ⟨bb,0,none⟩) n.toNat c.toNat)::L) (osl (some ⟨bb,0,none⟩) c.toNat e sz (List.replicate n.toNat z)::s)) [h:TyU P t (.slice e)] [he:TyN P e agg sz z] [hb:TyB P e bytes] (hx:ev L x=some (.int kk n):=by exact rfl) (hy:ev L y=some (.int k2 c):=by exact rfl) (hzl:vQ z sz=true:=by exact rfl) (hz1:vH z=true:=by exact rfl) (h0:0<=n:=by omega) (h1:n<=c:=by omega) (hc:c<=9223372036854775807:=by omega) (hsm:bytes*c<=281474976710656:=by omega)
  (hw:Want L l ⟨some d,.makeSlice t x y,ty,pos,af,gd⟩ true:=by (exact zO)) (hd:Nat.blt d b.n=true:=by exact rfl) (hj:eff.contains j=true:=by exact rfl) (hpd:∀ bb,PdOk P E M j ((d,.slice (some ⟨bb,0,none⟩) n.toNat c.toNat)::L) (osl (some ⟨bb,0,none⟩) c.toNat e sz (List.replicate n.toNat z)::s) pd:=by (intros;exact vX)):DA P E X b Post l M eff rdx ((j,⟨some d,.makeSlice t x y,ty,pos,af,gd⟩)::σ) pd k L s:=
 DA.exP hw hd hj rfl (WI h he hb hx hy hzl hz1 h0 h1 hc hsm) (fun v s' ⟨bb,e1,e2⟩=>by rw [e1,e2];exact ⟨hpd bb,g bb⟩)
theorem xP {x y:Operand} {t1 t2 elem:TypeId} {d2:TypeDesc} {agg:Bool} {sz bytes n n2 cap cap2:Nat} {z:List Value} {base base2:Option Addr} {es es2:List (List Value)} {F1 F:List HP} {T2:TypeId} (g:∀ base' cap',DA P E X b Post l M eff rdx σ pd k ((d,.slice base' (n+n2) cap')::L) (osl base' cap' elem sz (es++es2)::osl base2 cap2 T2 sz es2::F)) [h1:TyU P t1 (.slice elem)] [h2:TyU P t2 d2] [he:TyN P elem agg sz z] [hby:TyB P elem bytes] (hx:ev L x=some (.slice base n cap):=by exact rfl) (hy:ev L y=some (.slice base2 n2 cap2):=by exact rfl) (hs:Sel s (osl base cap elem sz es) F1:=by repeat (first|(with_reducible exact Sel.here)|(with_reducible apply Sel.there))) (hs2:Sel F1 (osl base2 cap2 T2 sz es2) F:=by repeat (first|(with_reducible exact Sel.here)|(with_reducible apply Sel.there)))
  (hn:es.length=n:=by first|(with_reducible assumption)|exact rfl|exact List.length_map _|(simp;done)|(simp;omega)) (hn2:es2.length=n2:=by first|(with_reducible assumption)|exact rfl|exact List.length_map _|(simp;done)|(simp;omega)) (hni:∀ k,d2≠.int k:=by (intro k e;cases e)) (hzl:vQ z sz=true:=by exact rfl) (hz:0<bytes:=by decide) (hroom:(2*(n+n2)+512)*bytes<=281474976710656:=by omega)
  (hw:Want L l ⟨some d,.call ⟨.builtin .append,#[x,y],#[t1,t2]⟩,ty,pos,af,gd⟩ true:=by (exact zO)) (hd:Nat.blt d b.n=true:=by exact rfl) (hj:eff.contains j=true:=by exact rfl) (hpd:∀ base' cap',PdOk P E M j ((d,.slice base' (n+n2) cap')::L) (osl base' cap' elem sz (es++es2)::osl base2 cap2 T2 sz es2::F) pd:=by (intros;exact vX)):DA P E X b Post l M eff rdx ((j,⟨some d,.call ⟨.builtin .append,#[x,y],#[t1,t2]⟩,ty,pos,af,gd⟩)::σ) pd k L s:=
 DA.exP hw hd hj rfl (QO h1 h2 he hby hx hy hs hs2 (Src.osl hn2) hn hni hzl hz hroom) (fun v s' ⟨bb,cc,e1,e2⟩=>by rw [e1,e2];exact ⟨hpd bb cc,g bb cc⟩)
theorem zBV {x y:Operand} {t1 t2 elem:TypeId} {d2:TypeDesc} {agg:Bool} {sz bytes n n2 cap cap2:Nat} {z:List Value} {base base2:Option Addr} {es es2:List (List Value)} {F1 F:List HP} (g:∀ base' cap',DA P E X b Post l M eff rdx σ pd k ((d,.slice base' (n+n2) cap')::L) (osl base' cap' elem sz (es++es2)::rsl base2 cap2 sz es2::F)) [h1:TyU P t1 (.slice elem)] [h2:TyU P t2 d2] [he:TyN P elem agg sz z] [hby:TyB P elem bytes] (hx:ev L x=some (.slice base n cap):=by exact rfl) (hy:ev L y=some (.slice base2 n2 cap2):=by exact rfl) (hs:Sel s (osl base cap elem sz es) F1:=by repeat (first|(with_reducible exact Sel.here)|(with_reducible apply Sel.there))) (hs2:Sel F1 (rsl base2 cap2 sz es2) F:=by repeat (first|(with_reducible exact Sel.here)|(with_reducible apply Sel.there)))
  (hn:es.length=n:=by first|(with_reducible assumption)|exact rfl|exact List.length_map _|(simp;done)|(simp;omega)) (hn2:es2.length=n2:=by first|(with_reducible assumption)|exact rfl|exact List.length_map _|(simp;done)|(simp;omega)) (hni:∀ k,d2≠.int k:=by (intro k e;cases e)) (hzl:vQ z sz=true:=by exact rfl) (hz:0<bytes:=by decide) (hroom:(2*(n+n2)+512)*bytes<=281474976710656:=by omega)
  (hw:Want L l ⟨some d,.call ⟨.builtin .append,#[x,y],#[t1,t2]⟩,ty,pos,af,gd⟩ true:=by (exact zO)) (hd:Nat.blt d b.n=true:=by exact rfl) (hj:eff.contains j=true:=by exact rfl) (hpd:∀ base' cap',PdOk P E M j ((d,.slice base' (n+n2) cap')::L) (osl base' cap' elem sz (es++es2)::rsl base2 cap2 sz es2::F) pd:=by (intros;exact vX)):DA P E X b Post l M eff rdx ((j,⟨some d,.call ⟨.builtin .append,#[x,y],#[t1,t2]⟩,ty,pos,af,gd⟩)::σ) pd k L s:=
 DA.exP hw hd hj rfl (QO h1 h2 he hby hx hy hs hs2 (Src.rsl hn2) hn hni hzl hz hroom) (fun v s' ⟨bb,cc,e1,e2⟩=>by rw [e1,e2];exact ⟨hpd bb cc,g bb cc⟩)
theorem zKC {t T0:TypeId} {agg:Bool} {sz:Nat} {z:List Value} {x y:Operand} {bb off:Nat} {c c':List Value} {v:Value} {F:List HP} (hw:Want L l ⟨none,.store t x y,ty,pos,af,gd⟩ true) (hj:eff.contains j=true) (h:TyN P t agg sz z) (hx:ev L x=some (.pointer (some ⟨bb,off,none⟩))) (hy:ev L y=some v) (hs:Sel s (box bb c T0) F) (hz:yG v≠[]) (hl:vQ (yG v) sz=true) (h1:vH (yG v)=true) (hn:zHT c off (yG v)=some c') (hpd:PdOk P E M j L (box bb c' T0::F) pd)
  (g:DA P E X b Post l M eff rdx σ pd k L (box bb c' T0::F)):DA P E X b Post l M eff rdx ((j,⟨none,.store t x y,ty,pos,af,gd⟩)::σ) pd k L s:=
 DA.exP hw rfl hj rfl (zAn h hx hy hs hl h1 (zIB hl hz hn)) (fun v s' e=>by rw [e,<-QP hz hn];exact ⟨hpd,g⟩)
theorem zI1 {t T0:TypeId} {agg:Bool} {sz:Nat} {z:List Value} {x y:Operand} {bb off:Nat} {c:List Value} {v:Value} {F:List HP} (hw:Want L l ⟨none,.store t x y,ty,pos,af,gd⟩ true) (hj:eff.contains j=true) (h:TyN P t agg sz z) (hx:ev L x=some (.pointer (some ⟨bb,off,none⟩))) (hy:ev L y=some v) (hs:Sel s (box bb c T0) F) (hl:vQ (yG v) sz=true) (h1:vH (yG v)=true) (hn:off+sz<=c.length) (hpd:PdOk P E M j L (box bb (lay c off (yG v)) T0::F) pd)
  (g:DA P E X b Post l M eff rdx σ pd k L (box bb (lay c off (yG v)) T0::F)):DA P E X b Post l M eff rdx ((j,⟨none,.store t x y,ty,pos,af,gd⟩)::σ) pd k L s:=
 DA.exP hw rfl hj rfl (zAn h hx hy hs hl h1 hn) (fun v s' e=>by rw [e];exact ⟨hpd,g⟩)
theorem zHi {t T0:TypeId} {agg:Bool} {n:Nat} {z:List Value} {x y:Operand} {base:Option Addr} {cap sz i o:Nat} {es:List (List Value)} {e e':List Value} {v:Value} {F:List HP} (hw:Want L l ⟨none,.store t x y,ty,pos,af,gd⟩ true) (hj:eff.contains j=true) (h:TyN P t agg n z) (hx:ev L x=some (.pointer (some (eltA base i sz o)))) (hy:ev L y=some v) (hs:Sel s (osl base cap T0 sz es) F) (he:es[i]?=some e) (hz:yG v≠[]) (hl:vQ (yG v) n=true) (h1:vH (yG v)=true) (hn:zHT e o (yG v)=some e'/\Nat.ble (o+n) sz=true) (hpd:PdOk P E M j L (osl base cap T0 sz (es.set i e')::F) pd)
  (g:DA P E X b Post l M eff rdx σ pd k L (osl base cap T0 sz (es.set i e')::F)):DA P E X b Post l M eff rdx ((j,⟨none,.store t x y,ty,pos,af,gd⟩)::σ) pd k L s:=
 DA.exP hw rfl hj rfl (QT h hx hy hs he hl h1 (by simpa using hn.2)) (fun v s' e=>by rw [e,<-QP hz hn.1];exact ⟨hpd,g⟩)
theorem zGg {t T0:TypeId} {agg:Bool} {n:Nat} {z:List Value} {x y:Operand} {base:Option Addr} {cap sz i o:Nat} {es:List (List Value)} {e:List Value} {v:Value} {F:List HP} (hw:Want L l ⟨none,.store t x y,ty,pos,af,gd⟩ true) (hj:eff.contains j=true) (h:TyN P t agg n z) (hx:ev L x=some (.pointer (some (eltA base i sz o)))) (hy:ev L y=some v) (hs:Sel s (osl base cap T0 sz es) F) (he:es[i]?=some e) (hl:vQ (yG v) n=true) (h1:vH (yG v)=true) (hn:o+n<=sz) (hpd:PdOk P E M j L (osl base cap T0 sz (es.set i (lay e o (yG v)))::F) pd)
  (g:DA P E X b Post l M eff rdx σ pd k L (osl base cap T0 sz (es.set i (lay e o (yG v)))::F)):DA P E X b Post l M eff rdx ((j,⟨none,.store t x y,ty,pos,af,gd⟩)::σ) pd k L s:=
 DA.exP hw rfl hj rfl (QT h hx hy hs he hl h1 hn) (fun v s' e=>by rw [e];exact ⟨hpd,g⟩)
theorem zJP {t kt et:TypeId} {d2:IntKind} {x y w:Operand} {bb ck:Nat} {U:List Ent} {kk v:Int} {F:List HP} (hw:Want L l ⟨none,.mapUpdate t x y w,ty,pos,af,gd⟩ true) (hj:eff.contains j=true) (h:TyU P t (.map kt et)) (hk:TyU P kt (.int d2)) (hx:ev L x=some (.map (some bb))) (hy:ev L y=some (.int .i64 kk)) (hz:ev L w=some (.int .i64 v)) (hs:Sel s (imap bb U ck) F) (hpd:PdOk P E M j L (imap bb (upM U kk v ck) (upC U kk ck)::F) pd)
  (g:DA P E X b Post l M eff rdx σ pd k L (imap bb (upM U kk v ck) (upC U kk ck)::F)):DA P E X b Post l M eff rdx ((j,⟨none,.mapUpdate t x y w,ty,pos,af,gd⟩)::σ) pd k L s:=
 DA.exP hw rfl hj rfl (zFn h hk hx hy hz hs) (fun v s' e=>by rw [e];exact ⟨hpd,g⟩)
theorem zKY {t kt et t2:TypeId} {d2:IntKind} {x y:Operand} {bb ck:Nat} {U:List Ent} {kk:Int} {F:List HP} (hw:Want L l ⟨none,.call ⟨.builtin .delete,#[x,y],#[t,t2]⟩,ty,pos,af,gd⟩ true) (hj:eff.contains j=true) (h:TyU P t (.map kt et)) (hk:TyU P kt (.int d2)) (hx:ev L x=some (.map (some bb))) (hy:ev L y=some (.int .i64 kk)) (hs:Sel s (imap bb U ck) F) (hpd:PdOk P E M j L (imap bb (zE8 U kk) ck::F) pd)
  (g:DA P E X b Post l M eff rdx σ pd k L (imap bb (zE8 U kk) ck::F)):DA P E X b Post l M eff rdx ((j,⟨none,.call ⟨.builtin .delete,#[x,y],#[t,t2]⟩,ty,pos,af,gd⟩)::σ) pd k L s:=
 DA.exP hw rfl hj rfl (zFS h hk hx hy hs) (fun v s' e=>by rw [e.2];exact ⟨hpd,g⟩)
theorem DA.cl {d:Option Nat} {fo:Operand} {args:Array Operand} {ats:Array TypeId} {g:FuncId} {fi ca:Array Value} {vs as:List Value}
  (hw:Want L l ⟨d,.call ⟨.value fo,args,ats⟩,ty,pos,af,gd⟩ true) (hf:ev L fo=some (.func (.func g) fi ca)) (ha:evs L args.toList=some vs) (has:fi.toList++vs++ca.toList=as) (hd:ltd d b.n=true) (hj:eff.contains j=true)
  (h:Cl P E X g as s (fun v s'=>DA P E X b Post l M eff rdx σ [] k (setd d v L) s')) :
  DA P E X b Post l M eff rdx ((j,⟨d,.call ⟨.value fo,args,ats⟩,ty,pos,af,gd⟩)::σ) [] k L s:=by
 obtain ⟨pre,F,Post',h1,h2,h3⟩:=h;exact DA.exP hw hd hj rfl (h1.h rfl hf ha has h2) fun v s' ⟨t,e1,e2⟩=>by rw [e2];exact ⟨PdOk.nil,h3 v t e1⟩
theorem DA.clP {d:Option Nat} {fo:Operand} {args:Array Operand} {ats:Array TypeId} {g:FuncId} {fi ca:Array Value} {vs as:List Value}
  (hw:Want L l ⟨d,.call ⟨.value fo,args,ats⟩,ty,pos,af,gd⟩ true) (hf:ev L fo=some (.func (.func g) fi ca)) (ha:evs L args.toList=some vs) (has:fi.toList++vs++ca.toList=as) (hd:ltd d b.n=true) (hj:eff.contains j=true)
  (h:Cl P E X g as s (fun v s'=>PdOk P E M j (setd d v L) s' pd/\DA P E X b Post l M eff rdx σ pd k (setd d v L) s')) :
  DA P E X b Post l M eff rdx ((j,⟨d,.call ⟨.value fo,args,ats⟩,ty,pos,af,gd⟩)::σ) pd k L s:=by
 obtain ⟨pre,F,Post',h1,h2,h3⟩:=h;exact DA.exP hw hd hj rfl (h1.h rfl hf ha has h2) fun v s' ⟨t,e1,e2⟩=>by rw [e2];exact h3 v t e1
theorem zJ {Z:Prop} (g:Z) (h:PdOk P E M j L s pd:=by ((try simp only [List.cons_append,List.nil_append]);exact vX)):PdOk P E M j L s pd/\Z:=⟨h,g⟩
end
structure Hold (p:Prop):Prop where
 h:p
theorem gW0 {Z:Prop} (h:Z:=by
  (repeat (first
   | ((with_reducible apply WL.orY);(case gk=>with_reducible assumption);(case h=>with_reducible assumption);(case hL=>exact QS))
   | ((with_reducible apply WL.orN);(case gk=>with_reducible assumption);(case h=>with_reducible assumption);(case hL=>exact QS))
   | ((with_reducible apply WL.andY);(case gk=>with_reducible assumption);(case h=>with_reducible assumption);(case hL=>exact QS))
   | ((with_reducible apply WL.andN);(case gk=>with_reducible assumption);(case h=>with_reducible assumption);(case hL=>exact QS))
   | ((with_reducible apply WL.cm);(case hw=>exact zO);(case hnd=>exact rfl);(case hd=>exact rfl);(case h=>exact cmA))
   | ((with_reducible apply WL.lt);(case hw=>exact zO);(case hnd=>exact rfl);(case hd=>exact rfl);(case h=>exact ltA))
   | ((with_reducible apply WL.skip);(case hw=>exact zHm);(case hd=>exact rfl)))
   first|done|fail)):Z:=h
theorem gW1 {Z:Prop} (h:Z:=by
  (repeat (first
   | ((with_reducible apply WL.orY);(case gk=>with_reducible assumption);(case h=>with_reducible assumption);(case hL=>exact QS))
   | ((with_reducible apply WL.orN);(case gk=>with_reducible assumption);(case h=>with_reducible assumption);(case hL=>exact QS))
   | ((with_reducible apply WL.andY);(case gk=>with_reducible assumption);(case h=>with_reducible assumption);(case hL=>exact QS))
   | ((with_reducible apply WL.andN);(case gk=>with_reducible assumption);(case h=>with_reducible assumption);(case hL=>exact QS))
   | ((with_reducible apply WL.cm);(case hw=>exact zO);(case hnd=>exact rfl);(case hd=>exact rfl);(case h=>exact cmA))
   | ((with_reducible apply WL.lt);(case hw=>exact zO);(case hnd=>exact rfl);(case hd=>exact rfl);(case h=>exact ltA))
   | ((with_reducible apply WL.skip);(case hw=>exact zHm);(case hd=>exact rfl))
   | ((with_reducible apply WL.orG);(case hg=>exact rfl);(case hq=>exact rfl);(case hc=>exact rfl);(case hF=>intro h gk;exact gW0);(case hT=>intro h gk;exact gW0))
   | ((with_reducible apply WL.andG);(case hg=>exact rfl);(case hq=>exact rfl);(case hc=>exact rfl);(case hT=>intro h gk;exact gW0);(case hF=>intro h gk;exact gW0)))
   first|done|fail)):Z:=h
theorem sW {Y Z:Prop} (g:Y) (h:Hold Y->Z:=by
  (intro g
   first
   | (with_reducible apply W.seq)
   | (with_reducible apply W.opsL)
   | ((with_reducible apply WL.cm);(case hw=>exact zO);(case hnd=>exact rfl);(case hd=>exact rfl);(case h=>exact cmA))
   | ((with_reducible apply WL.lt);(case hw=>exact zO);(case hnd=>exact rfl);(case hd=>exact rfl);(case h=>exact ltA))
   | ((with_reducible apply WL.skip);(case hw=>exact zHm);(case hd=>exact rfl))
   | ((with_reducible apply zLx);(case hw=>exact zO);(case h=>exact inferInstance);(case hk=>exact inferInstance);(case hx=>exact rfl);(case hy=>exact rfl);(case hz=>exact rfl);(case hs=>repeat (first|(with_reducible exact Sel.here)|(with_reducible apply Sel.there))))
   | ((with_reducible apply zKn);(case hw=>exact zO);(case h=>exact inferInstance);(case hk=>exact inferInstance);(case hx=>exact rfl);(case hy=>exact rfl);(case hs=>repeat (first|(with_reducible exact Sel.here)|(with_reducible apply Sel.there))))
   | ((with_reducible apply zLi);(case hw=>exact zO);(case h=>exact inferInstance);(case hx=>exact rfl);(case hy=>exact rfl);(case hs=>repeat (first|(with_reducible exact Sel.here)|(with_reducible apply Sel.there)));(case hz=>intro h;cases h);(case hl=>exact rfl);(case h1=>exact rfl);(case hn=>exact rfl))
   | ((with_reducible apply zKi);(case hw=>exact zO);(case h=>exact inferInstance);(case hx=>exact rfl);(case hy=>exact rfl);(case hs=>repeat (first|(with_reducible exact Sel.here)|(with_reducible apply Sel.there)));(case hl=>exact rfl);(case h1=>exact rfl);(case hn=>first|omega|(simp;omega)))
   | ((with_reducible apply zJp);(case hw=>exact zO);(case h=>exact inferInstance);(case hx=>exact rfl);(case hy=>exact rfl);(case hs=>repeat (first|(with_reducible exact Sel.here)|(with_reducible apply Sel.there)));(case he=>first|(with_reducible assumption)|exact rfl|assumption|exact elt (by assumption)|exact XL|(simp;done));(case hz=>intro h;cases h);(case hl=>exact rfl);(case h1=>exact rfl);(case hn=>exact ⟨rfl,rfl⟩))
   | ((with_reducible apply zIu);(case hw=>exact zO);(case h=>exact inferInstance);(case hx=>exact rfl);(case hy=>exact rfl);(case hs=>repeat (first|(with_reducible exact Sel.here)|(with_reducible apply Sel.there)));(case he=>first|(with_reducible assumption)|exact rfl|assumption|exact elt (by assumption)|exact XL|(simp;done));(case hl=>exact rfl);(case h1=>exact rfl);(case hn=>first|omega|(simp;omega)))
   | ((with_reducible apply WL.orG);(case hg=>exact rfl);(case hq=>exact rfl);(case hc=>exact rfl);(case hF=>intro h gk;exact gW1);(case hT=>intro h gk;exact gW1))
   | ((with_reducible apply WL.andG);(case hg=>exact rfl);(case hq=>exact rfl);(case hc=>exact rfl);(case hT=>intro h gk;exact gW1);(case hF=>intro h gk;exact gW1))
   | ((with_reducible apply WL.cl);(case hw=>exact zO);(case hf=>exact rfl);(case ha=>exact rfl);(case has=>exact rfl);(case hd=>exact rfl))
   | ((with_reducible apply WL.clv);(case hw=>exact zO);(case hf=>exact rfl);(case ha=>exact rfl);(case hd=>exact rfl))
   | (with_reducible apply WL.done)
   | (with_reducible apply W.inBlock)
   | (with_reducible apply W.block)
   | (with_reducible apply W.skip)
   | ((with_reducible apply W.exit);(case h=>exact rfl))
   exact g.h)):Z:=h ⟨g⟩
theorem gD0 {Z:Prop} (h:Z:=by
  (repeat (first
   | ((with_reducible apply DA.orY);(case gk=>with_reducible assumption);(case h=>with_reducible assumption);(case hL=>exact QS);(case hp=>exact Yl))
   | ((with_reducible apply DA.orN);(case gk=>with_reducible assumption);(case h=>with_reducible assumption);(case hL=>exact QS);(case hp=>exact Yl))
   | ((with_reducible apply DA.andY);(case gk=>with_reducible assumption);(case h=>with_reducible assumption);(case hL=>exact QS);(case hp=>exact Yl))
   | ((with_reducible apply DA.andN);(case gk=>with_reducible assumption);(case h=>with_reducible assumption);(case hL=>exact QS);(case hp=>exact Yl))
   | ((with_reducible apply DA.cm);(case hw=>exact zO);(case hnd=>exact rfl);(case hd=>exact rfl);(case he=>exact rfl);(case hr=>exact rfl);(case h=>exact cmA))
   | ((with_reducible apply DA.cmr);(case hw=>exact zO);(case hnd=>exact rfl);(case hd=>exact rfl);(case he=>exact rfl);(case ha=>exact rfl);(case h=>exact cmA))
   | ((with_reducible apply DA.lt);(case hw=>exact zO);(case hnd=>exact rfl);(case hd=>exact rfl);(case he=>exact rfl);(case hr=>exact rfl);(case ha=>exact rfl);(case h=>exact ltA))
   | ((with_reducible apply DA.ltP);(case hw=>exact zO);(case hnd=>exact rfl);(case hd=>exact rfl);(case he=>exact rfl);(case hr=>exact rfl);(case h=>exact zOS))
   | ((with_reducible apply DA.cmE);(case hw=>exact zO);(case hnd=>exact rfl);(case hd=>exact rfl);(case he=>exact rfl);(case hnl=>exact rfl);(case h=>exact cmA);(case hpd=>exact vX))
   | ((with_reducible apply DA.skip);(case hw=>exact zHm);(case hd=>exact rfl);(case he=>exact rfl))
   | ((with_reducible apply DA.exSkip1);(case hw=>exact zHm);(case hd=>exact rfl);(case he=>exact rfl);(case hpd=>exact vX))
   | ((with_reducible apply DA.exSkip);(case hw=>exact zHm);(case hd=>exact rfl);(case he=>exact rfl);(case hpd=>exact vX)))
   first|done|fail)):Z:=h
theorem gD1 {Z:Prop} (h:Z:=by
  (repeat (first
   | ((with_reducible apply DA.orY);(case gk=>with_reducible assumption);(case h=>with_reducible assumption);(case hL=>exact QS);(case hp=>exact Yl))
   | ((with_reducible apply DA.orN);(case gk=>with_reducible assumption);(case h=>with_reducible assumption);(case hL=>exact QS);(case hp=>exact Yl))
   | ((with_reducible apply DA.andY);(case gk=>with_reducible assumption);(case h=>with_reducible assumption);(case hL=>exact QS);(case hp=>exact Yl))
   | ((with_reducible apply DA.andN);(case gk=>with_reducible assumption);(case h=>with_reducible assumption);(case hL=>exact QS);(case hp=>exact Yl))
   | ((with_reducible apply DA.cm);(case hw=>exact zO);(case hnd=>exact rfl);(case hd=>exact rfl);(case he=>exact rfl);(case hr=>exact rfl);(case h=>exact cmA))
   | ((with_reducible apply DA.cmr);(case hw=>exact zO);(case hnd=>exact rfl);(case hd=>exact rfl);(case he=>exact rfl);(case ha=>exact rfl);(case h=>exact cmA))
   | ((with_reducible apply DA.lt);(case hw=>exact zO);(case hnd=>exact rfl);(case hd=>exact rfl);(case he=>exact rfl);(case hr=>exact rfl);(case ha=>exact rfl);(case h=>exact ltA))
   | ((with_reducible apply DA.ltP);(case hw=>exact zO);(case hnd=>exact rfl);(case hd=>exact rfl);(case he=>exact rfl);(case hr=>exact rfl);(case h=>exact zOS))
   | ((with_reducible apply DA.cmE);(case hw=>exact zO);(case hnd=>exact rfl);(case hd=>exact rfl);(case he=>exact rfl);(case hnl=>exact rfl);(case h=>exact cmA);(case hpd=>exact vX))
   | ((with_reducible apply DA.skip);(case hw=>exact zHm);(case hd=>exact rfl);(case he=>exact rfl))
   | ((with_reducible apply DA.exSkip1);(case hw=>exact zHm);(case hd=>exact rfl);(case he=>exact rfl);(case hpd=>exact vX))
   | ((with_reducible apply DA.exSkip);(case hw=>exact zHm);(case hd=>exact rfl);(case he=>exact rfl);(case hpd=>exact vX))
   | ((with_reducible apply DA.orG);(case hg=>exact rfl);(case hq=>exact rfl);(case hc=>exact rfl);(case hF=>intro h gk;exact gD0);(case hT=>intro h gk;exact gD0))
   | ((with_reducible apply DA.andG);(case hg=>exact rfl);(case hq=>exact rfl);(case hc=>exact rfl);(case hT=>intro h gk;exact gD0);(case hF=>intro h gk;exact gD0)))
   first|done|fail)):Z:=h
theorem sD {Y Z:Prop} (g:Y) (h:Hold Y->Z:=by
  (intro g
   first
   | ((with_reducible apply DA.cm);(case hw=>exact zO);(case hnd=>exact rfl);(case hd=>exact rfl);(case he=>exact rfl);(case hr=>exact rfl);(case h=>exact cmA))
   | ((with_reducible apply DA.cmr);(case hw=>exact zO);(case hnd=>exact rfl);(case hd=>exact rfl);(case he=>exact rfl);(case ha=>exact rfl);(case h=>exact cmA))
   | ((with_reducible apply DA.lt);(case hw=>exact zO);(case hnd=>exact rfl);(case hd=>exact rfl);(case he=>exact rfl);(case hr=>exact rfl);(case ha=>exact rfl);(case h=>exact ltA))
   | ((with_reducible apply DA.ltP);(case hw=>exact zO);(case hnd=>exact rfl);(case hd=>exact rfl);(case he=>exact rfl);(case hr=>exact rfl);(case h=>exact zOS))
   | ((with_reducible apply DA.cmE);(case hw=>exact zO);(case hnd=>exact rfl);(case hd=>exact rfl);(case he=>exact rfl);(case hnl=>exact rfl);(case h=>exact cmA);(case hpd=>exact vX))
   | ((with_reducible apply DA.skip);(case hw=>exact zHm);(case hd=>exact rfl);(case he=>exact rfl))
   | ((with_reducible apply DA.exSkip1);(case hw=>exact zHm);(case hd=>exact rfl);(case he=>exact rfl);(case hpd=>exact vX))
   | ((with_reducible apply DA.exSkip);(case hw=>exact zHm);(case hd=>exact rfl);(case he=>exact rfl);(case hpd=>exact vX))
   | ((with_reducible apply zJP);(case hw=>exact zO);(case h=>exact inferInstance);(case hk=>exact inferInstance);(case hx=>exact rfl);(case hy=>exact rfl);(case hz=>exact rfl);(case hs=>repeat (first|(with_reducible exact Sel.here)|(with_reducible apply Sel.there)));(case hj=>exact rfl);(case hpd=>exact vX))
   | ((with_reducible apply zKY);(case hw=>exact zO);(case h=>exact inferInstance);(case hk=>exact inferInstance);(case hx=>exact rfl);(case hy=>exact rfl);(case hs=>repeat (first|(with_reducible exact Sel.here)|(with_reducible apply Sel.there)));(case hj=>exact rfl);(case hpd=>exact vX))
   | ((with_reducible apply zKC);(case hw=>exact zO);(case h=>exact inferInstance);(case hx=>exact rfl);(case hy=>exact rfl);(case hs=>repeat (first|(with_reducible exact Sel.here)|(with_reducible apply Sel.there)));(case hz=>intro h;cases h);(case hl=>exact rfl);(case h1=>exact rfl);(case hn=>exact rfl);(case hj=>exact rfl);(case hpd=>exact vX))
   | ((with_reducible apply zI1);(case hw=>exact zO);(case h=>exact inferInstance);(case hx=>exact rfl);(case hy=>exact rfl);(case hs=>repeat (first|(with_reducible exact Sel.here)|(with_reducible apply Sel.there)));(case hl=>exact rfl);(case h1=>exact rfl);(case hn=>first|omega|(simp;omega));(case hj=>exact rfl);(case hpd=>exact vX))
   | ((with_reducible apply zHi);(case hw=>exact zO);(case h=>exact inferInstance);(case hx=>exact rfl);(case hy=>exact rfl);(case hs=>repeat (first|(with_reducible exact Sel.here)|(with_reducible apply Sel.there)));(case he=>first|(with_reducible assumption)|exact rfl|assumption|exact elt (by assumption)|exact XL|(simp;done));(case hz=>intro h;cases h);(case hl=>exact rfl);(case h1=>exact rfl);(case hn=>exact ⟨rfl,rfl⟩);(case hj=>exact rfl);(case hpd=>exact vX))
   | ((with_reducible apply zGg);(case hw=>exact zO);(case h=>exact inferInstance);(case hx=>exact rfl);(case hy=>exact rfl);(case hs=>repeat (first|(with_reducible exact Sel.here)|(with_reducible apply Sel.there)));(case he=>first|(with_reducible assumption)|exact rfl|assumption|exact elt (by assumption)|exact XL|(simp;done));(case hl=>exact rfl);(case h1=>exact rfl);(case hn=>first|omega|(simp;omega));(case hj=>exact rfl);(case hpd=>exact vX))
   | ((with_reducible apply DA.orG);(case hg=>exact rfl);(case hq=>exact rfl);(case hc=>exact rfl);(case hF=>intro h gk;exact gD1);(case hT=>intro h gk;exact gD1))
   | ((with_reducible apply DA.andG);(case hg=>exact rfl);(case hq=>exact rfl);(case hc=>exact rfl);(case hT=>intro h gk;exact gD1);(case hF=>intro h gk;exact gD1))
   | ((with_reducible apply DA.cl);(case hw=>exact zO);(case hf=>exact rfl);(case ha=>exact rfl);(case has=>exact rfl);(case hd=>exact rfl);(case hj=>exact rfl))
   | ((with_reducible apply DA.clP);(case hw=>exact zO);(case hf=>exact rfl);(case ha=>exact rfl);(case has=>exact rfl);(case hd=>exact rfl);(case hj=>exact rfl))
   | ((with_reducible apply DA.clv);(case hw=>exact zO);(case hf=>exact rfl);(case ha=>exact rfl);(case hd=>exact rfl);(case hj=>exact rfl))
   | (with_reducible apply DA.done)
   exact g.h)):Z:=h ⟨g⟩
theorem zB {Y Z:Prop} (g:Y) (h:Hold Y->Z:=by
  (intro g
   try simp only [List.cons_append,List.nil_append,setd]
   repeat (refine sW ?_)
   exact g.h)):Z:=h ⟨g⟩
theorem zC {Y Z:Prop} (g:Y) (h:Hold Y->Z:=by
  (intro g
   try simp only [List.cons_append,List.nil_append,setd]
   repeat (refine sD ?_)
   exact g.h)):Z:=h ⟨g⟩
section
variable {P:Program} {E:Env} {X:Xs} {b:Fx} {Post:Value->List HP->Prop} {k:List Item} {L:Tm} {s:List HP}
theorem W.condT {c:Operand} {x y:Code} {v:Bool} (hc:ev L c=some (.bool v)) (hv:v=true) (g:W P E X b Post (.code x::k) L s):W P E X b Post (.code (.cond c x y)::k) L s:=W.cond hc (fun _=>g) fun h=>absurd hv (by simp [h])
theorem W.condF {c:Operand} {x y:Code} {v:Bool} (hc:ev L c=some (.bool v)) (hv:v=false) (g:W P E X b Post (.code y::k) L s):W P E X b Post (.code (.cond c x y)::k) L s:=W.cond hc (fun h=>absurd hv (by simp [h])) fun _=>g
end
theorem vT {Y Z:Prop} (g:Y) (h:Hold Y->Z:=by
  (intro g
   try simp only [List.cons_append,List.nil_append,setd]
   repeat (first
   | refine sW ?_
   | ((with_reducible apply W.condT);(case hc=>exact rfl);(case hv=>first|(with_reducible assumption)|exact rfl))
   | ((with_reducible apply W.condF);(case hc=>exact rfl);(case hv=>first|(with_reducible assumption)|exact rfl)))
   exact g.h)):Z:=h ⟨g⟩
theorem YD {Z:Prop} (h:Z:=by
  (try simp only [List.cons_append,List.nil_append,setd]
   repeat (first
   | ((with_reducible apply WL.andY);(case gk=>with_reducible assumption);(case h=>with_reducible assumption);(case hL=>exact QS))
   | ((with_reducible apply WL.andN);(case gk=>with_reducible assumption);(case h=>with_reducible assumption);(case hL=>exact QS))
   | ((with_reducible apply WL.orY);(case gk=>with_reducible assumption);(case h=>with_reducible assumption);(case hL=>exact QS))
   | ((with_reducible apply WL.orN);(case gk=>with_reducible assumption);(case h=>with_reducible assumption);(case hL=>exact QS))
   | refine sW ?_))):Z:=h
theorem Wg {Z:Prop} (h:Z:=by
  (try simp only [List.cons_append,List.nil_append,setd]
   repeat (first
   | ((with_reducible apply DA.andY);(case gk=>with_reducible assumption);(case h=>with_reducible assumption);(case hL=>exact QS);(case hp=>exact Yl))
   | ((with_reducible apply DA.andN);(case gk=>with_reducible assumption);(case h=>with_reducible assumption);(case hL=>exact QS);(case hp=>exact Yl))
   | ((with_reducible apply DA.orY);(case gk=>with_reducible assumption);(case h=>with_reducible assumption);(case hL=>exact QS);(case hp=>exact Yl))
   | ((with_reducible apply DA.orN);(case gk=>with_reducible assumption);(case h=>with_reducible assumption);(case hL=>exact QS);(case hp=>exact Yl))
   | refine sD ?_))):Z:=h
section
variable {P:Program} {E:Env} {X:Xs} {b:Fx} {Post:Value->List HP->Prop} {k:List Item} {L:Tm} {s:List HP} {l rest rest':List Oper} {c d:Nat} {q:Bool} {M eff rdx:List Nat} {σ σ':List (Nat×Oper)} {pd:List (Nat×Oper×Value)}
theorem andc (y:Bool) (hT:q=true->WL P E X b Post l rest' k ((d,.bool (q&&y))::L) s->WL P E X b Post l rest k L s) (g:WL P E X b Post l rest' k ((d,.bool (q&&y))::L) s)
  (hg:zBb l rest=some (c,true):=by rfl) (hq:look L c=some (.bool q):=by rfl) (hc:VI c rest=some (d,rest'):=by rfl)
  (hF:q=false->WL P E X b Post l rest' k ((d,.bool (q&&y))::L) s->WL P E X b Post l rest k L s:=by (intro h gk;exact YD)):WL P E X b Post l rest k L s:=WL.andG hg hq hc hT hF g
theorem orc (y:Bool) (hF:q=false->WL P E X b Post l rest' k ((d,.bool (q||y))::L) s->WL P E X b Post l rest k L s) (g:WL P E X b Post l rest' k ((d,.bool (q||y))::L) s)
  (hg:zBb l rest=some (c,false):=by rfl) (hq:look L c=some (.bool q):=by rfl) (hc:VI c rest=some (d,rest'):=by rfl)
  (hT:q=true->WL P E X b Post l rest' k ((d,.bool (q||y))::L) s->WL P E X b Post l rest k L s:=by (intro h gk;exact YD)):WL P E X b Post l rest k L s:=WL.orG hg hq hc hF hT g
theorem dandc (y:Bool) (hT:q=true->DA P E X b Post l M eff rdx σ' pd k ((d,.bool (q&&y))::L) s->DA P E X b Post l M eff rdx σ pd k L s) (g:DA P E X b Post l M eff rdx σ' pd k ((d,.bool (q&&y))::L) s)
  (hg:QI l σ=some (c,true):=by rfl) (hq:look L c=some (.bool q):=by rfl) (hc:XY c σ=some (d,σ'):=by rfl)
  (hF:q=false->DA P E X b Post l M eff rdx σ' pd k ((d,.bool (q&&y))::L) s->DA P E X b Post l M eff rdx σ pd k L s:=by (intro h gk;exact Wg)):DA P E X b Post l M eff rdx σ pd k L s:=DA.andG hg hq hc hT hF g
theorem dorc (y:Bool) (hF:q=false->DA P E X b Post l M eff rdx σ' pd k ((d,.bool (q||y))::L) s->DA P E X b Post l M eff rdx σ pd k L s) (g:DA P E X b Post l M eff rdx σ' pd k ((d,.bool (q||y))::L) s)
  (hg:QI l σ=some (c,false):=by rfl) (hq:look L c=some (.bool q):=by rfl) (hc:XY c σ=some (d,σ'):=by rfl)
  (hT:q=true->DA P E X b Post l M eff rdx σ' pd k ((d,.bool (q||y))::L) s->DA P E X b Post l M eff rdx σ pd k L s:=by (intro h gk;exact Wg)):DA P E X b Post l M eff rdx σ pd k L s:=DA.orG hg hq hc hF hT g
end
theorem ddA {Y Z:Prop} (g:Y) (h:Hold Y->Z:=by
  (intro g
   refine zC ?_;try refine zB ?_
   exact g.h)):Z:=h ⟨g⟩
theorem onA {Y Z:Prop} (g:Y) (h:Hold Y->Z:=by
  (intro g
   first|(refine zJ ?_;refine zC ?_;try refine zB ?_)|((with_reducible refine ZB ?_);refine zC ?_;try refine zB ?_)|refine zB ?_
   exact g.h)):Z:=h ⟨g⟩
end Go.KL
end
section
namespace Go.KL
open Go
section
variable {P:Program} {E:Env} {X:Xs} {b:Fx} {Post:Value->List HP->Prop} {k:List Item} {L:Tm} {s:List HP} {l rest:List Oper}
theorem cut {ι:Type} (C:ι->Prop) (Lf:ι->Tm) (sf:ι->List HP) {it:Item} (h:∀ k',(∀ i,C i->W P E X b Post k' (Lf i) (sf i))->W P E X b Post (it::k') L s) (g:∀ i,C i->W P E X b Post k (Lf i) (sf i)):W P E X b Post (it::k) L s:=h k g
theorem Does.conv {f:FuncId} {args:List Value} {pre pre':List HP} {Post Post':Value->List HP->Prop} (h:Does P E X f args pre' Post') (hp:∀ r f,sep pre r f->sep pre' r f) (hq:∀ v t,Post' v t->∃ t',Post v t'/\∀ r f,sep t r f->sep t' r f):Does P E X f args pre Post:=by
 obtain ⟨fnc,body,h1,h2,h3,h4⟩:=h;refine ⟨fnc,body,h1,h2,h3,?_⟩;intro K cs F hr tmps r f hok hs;refine h4 K cs F (fun fr v s' t r f hl he hpo hss=>?_) tmps r f hok ?_
 ·obtain ⟨t',q1,q2⟩:=hq v t hpo;exact hr fr v s' t' r f hl (fun r f x=>q2 r f (he r f x)) q1 hss
 ·obtain ⟨f1,f2,d,l1,l2,a1,a2⟩:=zD.1 hs;exact zD.2 ⟨f1,f2,d,l1,l2,hp _ _ a1,a2⟩
theorem Does.ex {α:Type} {A:α->List HP} {f:FuncId} {args:List Value} {pre:List HP} {fnc:Func} {body:Code} (hf:TyFn P f fnc) (hb:fnc.body=some body) (hn:(fnc.name == "runtime.NumGoroutine")=false) (h:∀ a,Does P E X f args (A a++pre) Post):Does P E X f args (HP.ex A::pre) Post:=by
 refine ⟨fnc,body,hf.h,hb,hn,?_⟩;intro K cs F hr tmps r f hok hs;obtain ⟨a,ha⟩:=zCo (s:=HP.ex A::pre) (F:=pre) .here hs;obtain ⟨fnc',body',k1,k2,k3,k4⟩:=h a;rw [hf.h] at k1;cases k1
 rw [hb] at k2;cases k2
 exact k4 K cs F hr tmps r f hok ha
end
end Go.KL
end
section
namespace Go.KL
open Go
def LO (fid:FuncId) (tmps:Array Value) (ps:Array Nat) (as bd:Code) (r0:Nat) (st:LoopState) (jump:Option Code):Obj:=.loop { state:=st,pending:=jump,fn:=fid,tmps:=tmps,params:=ps,assign:=as,body:=bd,defers:=r0 }
def zBS:List Nat->List Value->Tm->Tm
 | p::ps,v::vs,L=>zBS ps vs ((p,v)::L)
 | _,_,L=>L
section
variable {P:Program} {E:Env} {X:Xs} {Post:Value->List HP->Prop} {k:List Item} {L:Tm} {s:List HP} {fid:FuncId} {n l r0:Nat} {tmps:Array Value} {ps:Array Nat} {as bd:Code}
theorem zJ2:∀ (qs:List Nat) (vs:List Value) (L:Tm) (t:Array Value),L.ok n t->(∀ q∈qs,q<n)->(zBS qs vs L).ok n ((qs.zip vs).foldl (fun t (p:Nat×Value)=>t.setIfInBounds p.1 p.2) t)
 | [],_,L,t,h,_=>by cases ‹List Value› <;> exact h
 | q::qs,[],L,t,h,_=>h
 | q::qs,v::vs,L,t,h,hq=>zJ2 qs vs _ _ (zL1 h (hq q (by simp))) fun x hx=>hq x (List.mem_cons_of_mem _ hx)
theorem W.beginRound (g:W P E X ⟨fid,.normal,[],some l,n⟩ Post k L (blk l (LO fid tmps ps as bd r0 .busy none)::s)) :
  W P E X ⟨fid,.normal,[],some l,n⟩ Post (.beginRound::k) L (blk l (LO fid tmps ps as bd r0 .ready none)::s):=by
 intro K cs F hr tm r f hok hs;refine .next rfl fun w hsat=>?_;have hT:T P E (do Instr.beginRound l;Pure.pure Next.skip:Sem Next) (blk l (LO fid tmps ps as bd r0 .ready none)::s) (fun x B=>x=.skip/\B=blk l (LO fid tmps ps as bd r0 .busy none)::s):=by
  unfold Instr.beginRound Instr.getLoop;refine T.bind (Q:=fun _ B=>B=blk l (LO fid tmps ps as bd r0 .busy none)::s) ?_ (by rintro _ _ rfl;exact T.calm (Calm.pure _) ⟨rfl,rfl⟩)
  refine T.bind (Q:=fun x B=>x={ state:=.ready,pending:=none,fn:=fid,tmps:=tmps,params:=ps,assign:=as,body:=bd,defers:=r0 }/\B=blk l (LO fid tmps ps as bd r0 .ready none)::s) ?_ ?_
  ·refine T.bind (Q:=fun x B=>x=LO fid tmps ps as bd r0 .ready none/\B=blk l (LO fid tmps ps as bd r0 .ready none)::s) (T.sels (.cons .here .nil) (T.getObj rfl rfl rfl) fun x A ⟨h1,h2⟩=>⟨h1,by rw [h2];rfl⟩) ?_
   rintro _ _ ⟨rfl,rfl⟩;exact T.calm (Calm.pure _) ⟨rfl,rfl⟩
  ·rintro _ _ ⟨rfl,rfl⟩;refine T.bind (Q:=fun _ B=>B=blk l (LO fid tmps ps as bd r0 .busy none)::s) (T.sels (.cons .here .nil) (T.setObj (o:=LO fid tmps ps as bd r0 .ready none) rfl rfl rfl rfl) fun x A hA=>by rw [hA];rfl) ?_
   rintro _ _ rfl;exact T.calm (Calm.pure _) rfl
 obtain ⟨x,w',es,r',f',s',e1,k1,⟨rfl,rfl⟩,s1⟩:=hT w r f F #[] hsat hs;have e0:(#[]:Array Event)++es=es:=by simp
 rw [e0] at e1;refine ⟨_,w',seen P fid es,r',f',?_,wR k1 (fun e he=>wH he),g K cs F hr tm r' f' hok s1⟩;show stepG.apply P true (Fx.at ⟨fid,.normal,[],some l,n⟩ tm (.beginRound::k)) cs none (do Instr.beginRound l;Pure.pure Next.skip) w=_;unfold stepG.apply;simp only [if_true,e1];rfl
theorem W.roundEnd {F:List HP} (hs:∀ r f,sep s r f->sep F r f) (hp:Post (.bool true) F):W P E X ⟨fid,.normal,[],some l,n⟩ Post [] L s:=by
 intro K cs F0 hr tm r f hok hss;exact hr _ (.bool true) s F r f ⟨rfl,rfl,rfl,rfl,.inr ⟨rfl,rfl,.inl ⟨rfl,rfl⟩⟩⟩ hs hp hss
theorem W.roundRet {F:List HP} (hs:∀ r f,sep s r f->sep F r f) (hp:Post (.bool false) F):W P E X ⟨fid,.normal,[],some l,n⟩ Post (.code .ret::k) L s:=by
 intro K cs F0 hr tm r f hok hss;exact hr _ (.bool false) s F r f ⟨rfl,rfl,rfl,rfl,.inr ⟨rfl,rfl,.inr ⟨k,rfl,rfl⟩⟩⟩ hs hp hss
theorem T.endRound {jump:Option Code} {F:List HP}:T P E (Instr.endRound l jump) (blk l (LO fid tmps ps as bd r0 .busy none)::F) (fun x B=>x=.bool jump.isNone/\B=blk l (LO fid tmps ps as bd r0 (if jump.isNone then .ready else .done) jump)::F):=by
 unfold Instr.endRound Instr.getLoop;refine T.bind (Q:=fun x B=>x={ state:=.busy,pending:=none,fn:=fid,tmps:=tmps,params:=ps,assign:=as,body:=bd,defers:=r0 }/\B=blk l (LO fid tmps ps as bd r0 .busy none)::F) ?_ ?_
 ·refine T.bind (Q:=fun x B=>x=LO fid tmps ps as bd r0 .busy none/\B=blk l (LO fid tmps ps as bd r0 .busy none)::F) (T.sels (.cons .here .nil) (T.getObj rfl rfl rfl) fun x A ⟨h1,h2⟩=>⟨h1,by rw [h2];rfl⟩) ?_
  rintro _ _ ⟨rfl,rfl⟩;exact T.calm (Calm.pure _) ⟨rfl,rfl⟩
 ·rintro _ _ ⟨rfl,rfl⟩;refine T.bind (Q:=fun _ B=>B=blk l (LO fid tmps ps as bd r0 (if jump.isNone then .ready else .done) jump)::F) (T.sels (.cons .here .nil) (T.setObj (o:=LO fid tmps ps as bd r0 .busy none) rfl rfl rfl rfl) fun x A hA=>by rw [hA];rfl) ?_
  rintro _ _ rfl;exact T.calm (Calm.pure _) ⟨rfl,rfl⟩
theorem zHa {fr caller:Frame} {cs:List Frame} {w w':World} {es:Array Event} {jump:Option Code} {v:Value} {mn:Bool} (hm:fr.mode=.run) (ht:(fr.todo=[]/\jump=none)∨∃ k,fr.todo=.code .ret::k/\jump=some .ret) (hr:fr.roundOf=some l) (hk:fr.kind=.normal)
  (e:(Instr.endRound l jump).runT P w #[]=(.ok v w',es)):stepG P mn (G fr (caller::cs)) w=.go (G (caller.finish v) cs) w' (seen P fr.fn es):=by
 obtain ⟨fn,tm,todo,defers,mode,kind,roundOf⟩:=fr;simp only at hm hr hk ht;subst hm;subst hr;subst hk;rcases ht with ⟨rfl,rfl⟩|⟨k,rfl,rfl⟩
 ·show GStep.after _ _=_;simp only [e];simp [doReturn,GStep.after,Go.Conc.G]
 ·show GStep.after _ _=_;simp only [e];simp [doReturn,GStep.after,Go.Conc.G]
theorem DoesV.yield {vs:List Value} {pre:List HP} {Post':Value->List HP->Prop} (hv:vs.length=ps.size) (hps:∀ p∈ps.toList,p<n) (hok:L.ok n tmps)
  (h:W P E X ⟨fid,.normal,[],some l,n⟩ (fun v t=>∃ t',t=blk l (LO fid tmps ps as bd r0 .busy none)::t'/\Post' v t') [.code as,.beginRound,.code bd] (zBS ps.toList vs L) (blk l (LO fid tmps ps as bd r0 .ready none)::pre)) :
  DoesV P E X (.func (.yield l) #[] #[]) vs (blk l (LO fid tmps ps as bd r0 .ready none)::pre) (fun v t=>∃ t',Post' v t'/\((v=.bool true/\t=blk l (LO fid tmps ps as bd r0 .ready none)::t')∨(v=.bool false/\t=blk l (LO fid tmps ps as bd r0 .done (some .ret))::t'))):=by
 refine ⟨fun {b L0 s F o fo args ats} ho hf ha hs=>?_⟩;intro K cs F' lr i is k tm r f h1 hw hag hss gk;obtain ⟨e'',he,hx⟩:=hybrid (L:=L0) (o:=o) (by rw [ho];rfl) (e':=(b.at tm (.inRegion lr.toArray (i::is)::k)).eval) (fun x hx v e=>zBK hag hx e)
 have hm:args.map e''=vs.toArray:=by
  have:=Yx he ha
  apply Array.ext';simpa using this
 have hT:T P E (execOp (b.at tm (.inRegion lr.toArray (i::is)::k)).eval o) (blk l (LO fid tmps ps as bd r0 .ready none)::pre++F) (fun x B=>x=.round l fid ((ps.toList.zip vs).foldl (fun t (p:Nat×Value)=>t.setIfInBounds p.1 p.2) tmps) as bd/\B=blk l (LO fid tmps ps as bd r0 .ready none)::pre++F):=by
  rw [hx];unfold execOp;rw [ho];simp only;refine T.calmBind (a:={ target:=.fn (.yield l) #[],args:=vs.toArray }) ?_ ?_
  ·unfold resolve;simp only [he _ _ hf,Deferred.ofValue,hm];simp only [Array.empty_append];exact Calm.pure _
  ·simp only [invoke];unfold Instr.yield Instr.getLoop;refine T.bind (Q:=fun x B=>x={ state:=.ready,pending:=none,fn:=fid,tmps:=tmps,params:=ps,assign:=as,body:=bd,defers:=r0 }/\B=blk l (LO fid tmps ps as bd r0 .ready none)::pre++F) ?_ ?_
   ·refine T.bind (Q:=fun x B=>x=LO fid tmps ps as bd r0 .ready none/\B=blk l (LO fid tmps ps as bd r0 .ready none)::pre++F) (T.sels (.cons .here .nil) (T.getObj rfl rfl rfl) fun x A ⟨h1,h2⟩=>⟨h1,by rw [h2];rfl⟩) ?_
    rintro _ _ ⟨rfl,rfl⟩;exact T.calm (Calm.pure _) ⟨rfl,rfl⟩
   ·rintro _ _ ⟨rfl,rfl⟩;have hsz:¬ (vs.toArray.size≠ps.size):=by simp [hv]
    simp only [if_neg hsz];refine T.calm (Calm.pure _) ⟨?_,rfl⟩;congr 1;rw [<-Array.foldl_toList];simp
 have hss':sep ((blk l (LO fid tmps ps as bd r0 .ready none)::pre++F)++F') r f:=by
  obtain ⟨f1,f2,d,l1,l2,a1,a2⟩:=zD.1 hss;exact zD.2 ⟨f1,f2,d,l1,l2,hs _ _ a1,a2⟩
 refine .next rfl fun w hsat=>?_;obtain ⟨x,w',es,r',f',s',e1,k1,⟨rfl,rfl⟩,s1⟩:=hT w r f F' #[] hsat hss';have e0:(#[]:Array Event)++es=es:=by simp
 rw [e0] at e1;refine ⟨G ((⟨fid,.normal,[],some l,n⟩:Fx).at ((ps.toList.zip vs).foldl (fun t (p:Nat×Value)=>t.setIfInBounds p.1 p.2) tmps) [.code as,.beginRound,.code bd]) (b.at tm (.inRegion lr.toArray (i::is)::k)::cs),w',seen P b.fn (if b.kind == .early then #[] else es),r',f',?_,wR k1 (fun e he=>?_),?_⟩
 ·rw [Zw h1 hw (.inr (by rw [ho];rfl))]
  unfold stepG.apply;simp only [if_true,e1];rfl
 ·have:=wH he
  split at this
  ·simp at this
  ·exact this
 ·have s1':sep ((blk l (LO fid tmps ps as bd r0 .ready none)::pre)++(F++F')) r' f':=by rw [<-List.append_assoc];exact s1
  refine h K _ (F++F') ?_ _ r' f' (zJ2 _ _ _ _ hok hps) s1';intro fr v s2 t r f hl he hp hss2;obtain ⟨t',rfl,hp'⟩:=hp;obtain ⟨l1,l2,l3,l4,⟨_,l5,_⟩|⟨l5,_,l6⟩⟩:=hl
  ·cases l5
  ·obtain ⟨jump,hj,hjv⟩:∃ jump,((fr.todo=[]/\jump=none)∨∃ k,fr.todo=.code .ret::k/\jump=some Code.ret)/\v=.bool jump.isNone:=by
    rcases l6 with ⟨a1,a2⟩|⟨k,a1,a2⟩
    ·exact ⟨none,.inl ⟨a1,rfl⟩,a2⟩
    ·exact ⟨some Code.ret,.inr ⟨k,a1,rfl⟩,a2⟩
   refine .next rfl fun w hsat=>?_;have hss3:sep (blk l (LO fid tmps ps as bd r0 .busy none)::t'++(F++F')) r f:=by
    obtain ⟨f1,f2,d,m1,m2,a1,a2⟩:=zD.1 hss2;exact zD.2 ⟨f1,f2,d,m1,m2,he _ _ a1,a2⟩
   obtain ⟨x,w',es,r',f',s',e1,k1,⟨rfl,rfl⟩,s3⟩:=T.endRound (P:=P) (E:=E) (jump:=jump) (F:=t') w r f (F++F') #[] hsat hss3;have e0:(#[]:Array Event)++es=es:=by simp
   rw [e0] at e1;refine ⟨_,w',_,r',f',zHa l5 hj l4 l2 e1,wR k1 (fun e he=>wH he),?_⟩;rw [wE h1,<-hjv];refine gk v (blk l (LO fid tmps ps as bd r0 (if jump.isNone then .ready else .done) jump)::t'++F) r' f' ⟨_,⟨t',hp',?_⟩,rfl⟩ (by rw [List.append_assoc];exact s3)
   rcases hj with ⟨_,rfl⟩|⟨_,_,rfl⟩
   ·exact .inl ⟨hjv,rfl⟩
   ·exact .inr ⟨hjv,rfl⟩
def Jm (r0:Nat):Deferred:={ target:=.collected r0,args:=#[] }
theorem T.enterLoop {F:List HP}:T P E (Instr.enterLoop fid tmps ps as bd none) F (fun x B=>∃ r0 l,x=(l,[Jm r0])/\B=blk l (LO fid tmps ps as bd r0 .ready none)::blk r0 (.deferred (some []))::F):=by
 unfold Instr.enterLoop;refine T.bind (Q:=fun x B=>B=blk x (.deferred (some []))::F) (T.ext (T.new _ rfl) fun a A h=>by rw [h];rfl) ?_
 ·rintro r0 _ rfl;refine T.calmBind (Calm.pure _) ?_;refine T.bind (Q:=fun x B=>B=blk x (LO fid tmps ps as bd r0 .ready none)::blk r0 (.deferred (some []))::F) (T.ext (T.new _ rfl) fun a A h=>by rw [h];rfl) ?_
  rintro l _ rfl;exact T.calm (Calm.pure _) ⟨r0,l,rfl,rfl⟩
theorem T.endLoop {F:List HP} {st:LoopState} {jump:Option Code} (hst:(st == .busy)=false):T P E (Instr.endLoop l) (blk l (LO fid tmps ps as bd r0 st jump)::F) (fun x B=>x=jump/\B=blk l (LO fid tmps ps as bd r0 .exhausted jump)::F):=by
 unfold Instr.endLoop Instr.getLoop;refine T.bind (Q:=fun x B=>x={ state:=st,pending:=jump,fn:=fid,tmps:=tmps,params:=ps,assign:=as,body:=bd,defers:=r0 }/\B=blk l (LO fid tmps ps as bd r0 st jump)::F) ?_ ?_
 ·refine T.bind (Q:=fun x B=>x=LO fid tmps ps as bd r0 st jump/\B=blk l (LO fid tmps ps as bd r0 st jump)::F) (T.sels (.cons .here .nil) (T.getObj rfl rfl rfl) fun x A ⟨h1,h2⟩=>⟨h1,by rw [h2];rfl⟩) ?_
  rintro _ _ ⟨rfl,rfl⟩;exact T.calm (Calm.pure _) ⟨rfl,rfl⟩
 ·rintro _ _ ⟨rfl,rfl⟩;simp only [hst,Bool.false_eq_true,if_false];refine T.bind (Q:=fun _ B=>B=blk l (LO fid tmps ps as bd r0 .exhausted jump)::F) (T.sels (.cons .here .nil) (T.setObj (o:=LO fid tmps ps as bd r0 st jump) rfl rfl rfl rfl) fun x A hA=>by rw [hA];rfl) ?_
  rintro _ _ rfl;exact T.calm (Calm.pure _) ⟨rfl,rfl⟩
theorem T.takeDeferred {F:List HP}:T P E (Instr.takeDeferred r0) (blk r0 (.deferred (some []))::F) (fun x B=>x=[]/\B=blk r0 (.deferred none)::F):=by
 unfold Instr.takeDeferred;refine T.bind (Q:=fun x B=>x=.deferred (some [])/\B=blk r0 (.deferred (some []))::F) (T.sels (.cons .here .nil) (T.getObj rfl rfl rfl) fun x A ⟨h1,h2⟩=>⟨h1,by rw [h2];rfl⟩) ?_
 rintro _ _ ⟨rfl,rfl⟩;refine T.bind (Q:=fun _ B=>B=blk r0 (.deferred none)::F) (T.sels (.cons .here .nil) (T.setObj (o:=.deferred (some [])) rfl rfl rfl rfl) fun x A hA=>by rw [hA];rfl) ?_
 rintro _ _ rfl;exact T.calm (Calm.pure _) ⟨rfl,rfl⟩
theorem zMc {B:HP} {s pre F F0:List HP} {r f:Hp} (hsel:∀ r f,sep s r f->sep (pre++F) r f) (h:sep (B::(s++F0)) r f):sep (pre++(F++(B::F0))) r f:=by
 obtain ⟨g1,g2,d',m1,m2,b1,c1⟩:=h;obtain ⟨x1,x2,dx,lx1,lx2,y1,y2⟩:=zD.1 c1;obtain ⟨z1,z2,dz,lz1,lz2,u1,u2⟩:=zD.1 (hsel _ _ y1);have d1:g1.disj x2:=d'.mono (Hp.le_refl _) lx2;have d2:z2.disj (g1.union x2):=Hp.disj_union (d'.mono (Hp.le_refl _) (lz2.trans lx1)).symm (dx.mono lz2 (Hp.le_refl _));have d3:z1.disj (z2.union (g1.union x2)):=Hp.disj_union dz (Hp.disj_union (d'.mono (Hp.le_refl _) (lz1.trans lx1)).symm (dx.mono lz1 (Hp.le_refl _)));exact zD.2 ⟨z1,z2.union (g1.union x2),d3,(lz1.trans lx1).trans m2,Hp.union_le ((lz2.trans lx1).trans m2) (Hp.union_le m1 (lx2.trans m2)),u1,
  zD.2 ⟨z2,g1.union x2,d2,Hp.le_union_left _ _,Hp.le_union_right d2,u2,⟨g1,x2,d1,Hp.le_union_left _ _,Hp.le_union_right d1,b1,y2⟩⟩⟩
theorem zJX {B:HP} {s F0:List HP} {r f:Hp} (h:sep (s++(B::F0)) r f):sep ([B]++(s++F0)) r f:=by
 obtain ⟨f1,f2,d,l1,l2,h1,g1,g2,d',m1,m2,b1,c1⟩:=zD.1 h;have d1:f1.disj g2:=d.mono (Hp.le_refl _) m2;show sep (B::(s++F0)) r f;refine ⟨g1,f1.union g2,Hp.disj_union (d.mono (Hp.le_refl _) m1).symm d',m1.trans l2,Hp.union_le l1 (m2.trans l2),b1,zD.2 ⟨f1,g2,d1,Hp.le_union_left _ _,Hp.le_union_right d1,h1,c1⟩⟩
theorem Jt {mn:Bool} {fn:FuncId} {tm:Array Value} {df:List Deferred} {rd:Option Nat} {fo:Operand} {cs:List Frame} {w w':World} {es:Array Event} {mk:List Deferred} {g:FuncId} {args:Array Value}
  (e1:(Instr.enterLoop fn tm ps as bd rd).runT P w #[]=(.ok (l,mk) w',es))
  (hc:(do let d <-resolve ({ fn:=fn,tmps:=tm,todo:=.inRangeFunc l::k,defers:=mk++df,mode:=.run,kind:=.normal,roundOf:=rd }:Frame).eval { callee:=.value fo,args:=#[.const (.func (.yield l) #[] #[])],argTypes:=#[] } 0;invoke d.target d.args:Sem Next).runT P w' #[]=(.ok (.enter g args) w',#[])) :
  stepG P mn (G { fn:=fn,tmps:=tm,todo:=.code (.rangeFunc fo ps as bd)::k,defers:=df,mode:=.run,kind:=.normal,roundOf:=rd } cs) w=.go (G (Frame.enter P g args .normal) ({ fn:=fn,tmps:=tm,todo:=.inRangeFunc l::k,defers:=mk++df,mode:=.run,kind:=.normal,roundOf:=rd }::cs)) w' (seen P fn es++seen P fn #[]):=by
 show stepG P mn { frame:={ fn:=fn,tmps:=tm,todo:=.code (.rangeFunc fo ps as bd)::k,defers:=df,mode:=.run,kind:=.normal,roundOf:=rd },callers:=cs,status:=.running,dying:=none } w=_;unfold stepG;simp only;unfold stepG.exec;simp only [e1];unfold stepG.apply;simp only [if_true,hc];rfl
theorem zID {mn:Bool} {fr:Frame} {cs:List Frame} {w w':World} {es:Array Event} (hm:fr.mode=.returning) (hd:fr.defers=[Jm r0]) (e:(Instr.takeDeferred r0).runT P w #[]=(.ok [] w',es)):stepG P mn (G fr cs) w=.go (G { fr with defers:=[] } cs) w' (seen P fr.fn es):=by
 obtain ⟨fn,tm,todo,defers,mode,kind,roundOf⟩:=fr;simp only at hm hd;subst hm;subst hd;show GStep.after _ _=_;simp only [e];rfl
theorem W.rangeFunc {fo:Operand} {g:FuncId} {ca:Array Value} (hf:ev L fo=some (.func (.func g) #[] ca))
  (h:∀ (l:Nat) (tmps:Array Value) (r0:Nat),L.ok n tmps->∃ pre F Post',Does P E X g ([.func (.yield l) #[] #[]]++ca.toList) (blk l (LO fid tmps ps as bd r0 .ready none)::pre) Post'/\(∀ r f,sep s r f->sep (pre++F) r f)/\
   ∀ v t,Post' v t->∃ st jump t',t=blk l (LO fid tmps ps as bd r0 st jump)::t'/\(st == .busy)=false/\W P E X ⟨fid,.normal,[Jm r0],none,n⟩ Post ((jump.map Item.code).toList++k) L (t'++F)) :
  W P E X ⟨fid,.normal,[],none,n⟩ Post (.code (.rangeFunc fo ps as bd)::k) L s:=by
 intro K cs F0 hr tm r f hok hs;have hev:(Fx.at ⟨fid,.normal,[],none,n⟩ tm (.code (.rangeFunc fo ps as bd)::k)).eval fo=.func (.func g) #[] ca:=Zd hok hf;refine .next rfl fun w hsat=>?_;obtain ⟨x,w',es,r',f',s',e1,k1,⟨r0,l,rfl,rfl⟩,s1⟩:=T.enterLoop (P:=P) (E:=E) (fid:=fid) (tmps:=tm) (ps:=ps) (as:=as) (bd:=bd) (F:=s) w r f F0 #[] hsat hs;have e0:(#[]:Array Event)++es=es:=by simp
 rw [e0] at e1;obtain ⟨pre,F,Post',hd,hsel,hpost⟩:=h l tm r0 hok;obtain ⟨fnc,body,p1,p2,p3,p4⟩:=hd;have hcall:Calm P (do let d <-resolve (Fx.at ⟨fid,.normal,[],none,n⟩ tm (.code (.rangeFunc fo ps as bd)::k)).eval { callee:=.value fo,args:=#[.const (.func (.yield l) #[] #[])],argTypes:=#[] } 0;invoke d.target d.args) (.enter g (#[.func (.yield l) #[] #[]]++ca)):=by
  refine Calm.bind (a:={ target:=.fn (.func g) ca,args:=#[.func (.yield l) #[] #[]] }) ?_ ?_
  ·unfold resolve;simp only [hev,Deferred.ofValue];have em:Array.map (Fx.at ⟨fid,.normal,[],none,n⟩ tm (.code (.rangeFunc fo ps as bd)::k)).eval #[Operand.const (Value.func (.yield l) #[] #[])] = #[Value.func (.yield l) #[] #[]]:=by simp [Frame.eval]
   rw [em,Array.empty_append];exact Calm.pure _
  ·simp only [invoke];exact Calm.callFunc p1 p2 p3
 let fr1:Frame:={ fn:=fid,tmps:=tm,todo:=.inRangeFunc l::k,defers:=[Jm r0],mode:=.run,kind:=.normal,roundOf:=none }
 refine ⟨G (Frame.enter P g (#[.func (.yield l) #[] #[]]++ca) .normal) (fr1::cs),w',seen P fid es++seen P fid #[],r',f',?_,wR k1 (fun e he=>?_),?_⟩
 ·exact Jt (fn:=fid) (tm:=tm) (df:=[]) (rd:=none) e1 (hcall w' #[])
 ·rcases Array.mem_append.1 he with x|x
  ·exact wH x
  ·have:=wH x;simp at this
 ·rw [zAw p1 p2];have ea:(#[Value.func (.yield l) #[] #[]]++ca).toList=[Value.func (.yield l) #[] #[]]++ca.toList:=by simp
  rw [<-ea] at p4;have s2:sep ((blk l (LO fid tm ps as bd r0 .ready none)::pre)++(F++(blk r0 (.deferred (some []))::F0))) r' f':=by
   obtain ⟨f1,f2,d,l1,l2,a1,c1⟩:=s1;exact ⟨f1,f2,d,l1,l2,a1,zMc hsel c1⟩
  refine p4 K (fr1::cs) (F++(blk r0 (.deferred (some []))::F0)) ?_ _ r' f' QR s2;intro fr v s' t r f hl he hp hss;refine Qu rfl rfl rfl hl hss fun r f hss=>?_;obtain ⟨st,jump,t',rfl,hst,hW⟩:=hpost v t hp;show Safe P E X K (G { fn:=fid,tmps:=tm,todo:=.endRangeFunc l::k,defers:=[Jm r0],mode:=.run,kind:=.normal,roundOf:=none } cs) r f;refine .next rfl fun w hsat=>?_;have s3:sep (blk l (LO fid tm ps as bd r0 st jump)::t'++(F++(blk r0 (.deferred (some []))::F0))) r f:=by
   obtain ⟨f1,f2,d,m1,m2,a1,a2⟩:=zD.1 hss;exact zD.2 ⟨f1,f2,d,m1,m2,he _ _ a1,a2⟩
  obtain ⟨x,w2,es2,r2,f2,s4,e2,k2,⟨rfl,rfl⟩,s5⟩:=T.endLoop (P:=P) (E:=E) (fid:=fid) (tmps:=tm) (ps:=ps) (as:=as) (bd:=bd) (r0:=r0) (F:=t') (jump:=jump) hst w r f (F++(blk r0 (.deferred (some []))::F0)) #[] hsat s3;have e0:(#[]:Array Event)++es2=es2:=by simp
  rw [e0] at e2;refine ⟨G ((⟨fid,.normal,[Jm r0],none,n⟩:Fx).at tm ((x.map Item.code).toList++k)) cs,w2,seen P fid es2,r2,f2,?_,wR k2 (fun e he=>wH he),?_⟩
  ·show GStep.after _ _=_;simp only [e2];rfl
  ·have s6:sep ((t'++F)++(blk r0 (.deferred (some []))::F0)) r2 f2:=by
    obtain ⟨f1,g2,d,m1,m2,a1,a2⟩:=s5;rw [List.append_assoc];exact wF (Hp.le_refl _) m2 a2
   refine hW K cs (blk r0 (.deferred (some []))::F0) ?_ tm r2 f2 hok s6;intro fr v s' t r f hl he hp hss;obtain ⟨l1,l2,l3,l4,⟨l5,_,l6⟩|⟨_,l5,_⟩⟩:=hl
   case inr=>cases l5
   refine .next rfl fun w hsat=>?_;obtain ⟨x,w3,es3,r3,f3,s7,e3,k3,⟨rfl,rfl⟩,s8⟩:=T.takeDeferred (P:=P) (E:=E) (r0:=r0) (F:=[]) w r f (s'++F0) #[] hsat (zJX hss);have e0:(#[]:Array Event)++es3=es3:=by simp
   rw [e0] at e3;refine ⟨G { fr with defers:=[] } cs,w3,seen P fr.fn es3,r3,f3,zID l5 l3 e3,wR k3 (fun e he=>wH he),?_⟩
   have s9:sep (s'++F0) r3 f3:=by
    obtain ⟨f1,g2,d,m1,m2,a1,a2⟩:=s8;exact wF (Hp.le_refl _) m2 a2
   exact hr { fr with defers:=[] } v s' t r3 f3 ⟨l1,l2,rfl,l4,.inl ⟨l5,rfl,l6⟩⟩ he hp s9
end
end Go.KL
end
