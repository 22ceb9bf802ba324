/- Texts joined by a program of ours: Kwc Kwd Kwe Kwf Kwg. -/
import Derived.Test.YtjcbjclhagobiaaGreatJad
set_option linter.all false
section
namespace Go.KL
open Go
section
variable {P:Program} {E:Env} {X:Xs} {b:Fx} {Post:Value->List HP->Prop} {k:List Item} {L:Tm} {s:List HP} {l:List Oper} {M eff rdx:List Nat}
theorem zF7 {i:Nat} {o:Oper} {σi:List Nat} {σ:List (Nat×Oper)} {pd:List (Nat×Oper×Value)} {Q:Value->List HP->Prop} (hp:Plan l M eff) (hla:LateAll P b.n l) (he:eff.contains i=true) (hnl:vZ o=false) (hd:ltd o.dst b.n=true)
  (hx:∀ (K:Goroutine->Hp->Hp->Prop) (cs:List Frame) (F:List HP) (i:Nat) (is:List Nat) (tmps:Array Value) (r f:Hp),l.toArray[i]?=some o->(∀ t∈temps o++yR l o,∀ v,look L t=some v->tmps[t]?=some v)->sep (s++F) r f->
   (∀ v s' r' f',Q v s'->sep (s'++F) r' f'->Safe P E X K (G (b.at (putd o.dst v tmps) (.inRegion l.toArray is::k)) cs) r' f')->Safe P E X K (G (b.at tmps (.inRegion l.toArray (i::is)::k)) cs) r f)
  (hst:∀ v s',Q v s'->∀ p∈pd,bit M i p.1=true∨Lt P E (setd o.dst v L) s' p.2.1 p.2.2)
  (g:∀ v s',Q v s'->DA P E X b Post l M eff rdx σ pd k (setd o.dst v L) s')
  (ho:l[i]?=some o) (hl:∀ p∈σ,l[p.1]?=some p.2) {done:Nat} (s1:∀ x,bit M i x=true->done.testBit x=true) (s2:done.testBit i=false) (s5:zKZ M eff l (done ||| 2^i) (σ.map Prod.fst)=true)
  (hσ:∀ x,ZI M eff x σi=true->(eff.contains i=true->bit M i x=true)/\ZI M eff x (σ.map Prod.fst)=true)
  {K:Goroutine->Hp->Hp->Prop} {cs:List Frame} {F:List HP} (hr:(∀ fr v s' t r f,Leaves P E b fr v s'->(∀ r f,sep s' r f->sep t r f)->Post v t->sep (s'++F) r f->Safe P E X K (G fr cs) r f))
  {Lf:Tm} (hLf:Sub L Lf) {fuel t':Nat} {listed:Array Bool} {tmps:Array Value} {r f:Hp} {al:Al} (hD:Dy P E b.n l M eff rdx σi pd al done Lf s (fuel+1) listed tmps) (hi:i∈Region.ready .any l.toArray listed) (hs:sep (s++(bxs al++F)) r f) :
  Safe P E X K (G (b.at tmps (.inRegion l.toArray (i::Region.linearise.go .any l.toArray fuel t' (listed.setIfInBounds i true) [])::k)) cs) r f:=by
 obtain ⟨oi,hoi,hfi,hed,hcl⟩:=hD.ready hp hi;rw [ho] at hoi;cases hoi;have hil:=YI ho;have hdi:=s2;have hnal:∀ p∈al,p.1≠i:=by
  intro p hp1 x;obtain ⟨d,ty,pos,af,agg,sz,e1,_,_⟩:=(hD.alk p hp1).op;rw [x,ho] at e1;cases e1;cases hnl
 refine hx K cs (bxs al++F) i _ tmps r f (by simpa using ho) (fun t ht v hv=>hD.reads hp ho hcl (.inr s2) s1 hnal t ht v (hLf.h t v hv)) hs fun v s' r' f' q hs'=>?_
 refine g v s' q hp hla hl _ s5 K cs F hr (setd o.dst v Lf) hLf.setd fuel t' _ _ r' f' al ?_ hs';have hisz:i<listed.size:=by rw [hD.sz];exact hil
 have gone:∀ x,bit M i x=true->listed.getD x true=true:=hcl;refine ⟨by simp [hD.sz],by rw [Wo];exact hD.tsz,?_,?_,?_,?_,?_,?_,?_,hD.nd⟩
 ·have:=Qe hfi;have:=hD.fuel;omega
 ·intro m om hm hlm e e1 e2;rw [yJ hisz] at hlm ⊢;by_cases x:i=e.on
  ·simp [x]
  ·simp only [x,if_false];by_cases y:i=m
   ·subst y;rw [ho] at hm;cases hm;exact hed e e1 e2
   ·simp only [y,if_false] at hlm;exact hD.down m om hm hlm e e1 e2
 ·intro m hm hdm hna;rw [zI,Bool.or_eq_false_iff] at hdm;rw [yJ hisz];have:i≠m:=by simpa using hdm.2
  simp only [this,if_false];exact hD.und m hm hdm.1 hna
 ·intro u w hw;by_cases x:o.dst=some u
  ·left
   rw [x] at hw ⊢;simp only [setd,xG,if_true] at hw;cases hw;simp [putd,hD.tsz,VY hd u x]
  ·rw [xT x] at hw;rcases hD.agree u w hw with y|⟨m,om,h1,h2,h3,h4,h5⟩|y
   ·left;rw [vY x];exact y
   ·refine .inr (.inl ⟨m,om,h1,by rw [zI,h2];rfl,?_,h4,h5⟩)
    rw [yJ hisz];have:i≠m:=by intro y;subst y;rw [h2] at hdi;cases hdi
    simp only [this,if_false];exact h3
   ·exact .inr (.inr y)
 ·intro m hm hdm x hxx;rw [zI] at hdm ⊢;by_cases y:i=m
  ·subst y;rw [s1 x hxx];rfl
  ·simp only [y,decide_false,Bool.or_false] at hdm;rw [hD.dcl m hm hdm x hxx];rfl
 ·intro m om hm hdm hlm;rw [zI] at hdm;rw [yJ hisz] at hlm;by_cases y:i=m
  ·simp [y] at hlm
  ·simp only [y,decide_false,Bool.or_false] at hdm;simp only [y,if_false] at hlm;obtain ⟨k1,u,k2,k3⟩:=hD.virt m om hm hdm hlm;have hnb:bit M i m≠true:=fun z=>by rw [gone m z] at hlm;cases hlm
   have hstab:∀ t∈temps om++yR l om,look Lf t=look (setd o.dst v Lf) t:=fun t ht=>by
    rw [xT];intro z;rcases hp.reads i m o om t y ho hm z ht with ⟨_,w⟩|⟨_,w,_⟩
    ·have:=hD.dcl m (YI hm) hdm i w
     rw [s2] at this;cases this
    ·exact hnb w
   refine ⟨k1,u,?_,fun d hdd=>?_⟩
   ·rcases k2 with ⟨z1,z2,z3⟩|⟨z1,z2⟩
    ·refine .inl ⟨z1.mono fun t ht=>hstab t (by simp [ht]),z2,?_⟩
     split at z3 <;> rename_i hc <;> simp only [hc,if_true]
     ·obtain ⟨_,z4⟩:=z3;rcases z4 with z4|z4
      ·exact absurd ((hσ m z4).1 he) hnb
      ·exact ⟨((hst v s' q _ z4).resolve_left hnb).sub hLf.setd,.inr z4⟩
     ·exact Cm.mono z3 fun t ht=>hstab t (by simp [ht])
    ·exact .inr ⟨z1.mono fun t ht=>hstab t (by simp [ht]),z2⟩
   ·obtain ⟨k4,k5⟩:=k3 d hdd;refine ⟨?_,k5⟩;rw [xT];exact k4;intro z;exact hp.one m i om o d (fun w=>y w.symm) hm ho (QC k1) hdd z
 ·intro p hp1;have ha:=hD.alk p hp1;obtain ⟨d,ty,pos,af,agg,sz,e1,e2,e3⟩:=ha.op;have hip:p.1≠i:=hnal p hp1;refine ⟨ha.eff,?_,?_,d,ty,pos,af,agg,sz,e1,e2,?_⟩
  ·rw [zI,ha.und];simp only [Bool.false_or,decide_eq_false_iff_not];exact fun x=>hip x.symm
  ·rw [yJ hisz,if_neg (fun x:i=p.1=>hip x.symm)];exact ha.up
  ·rw [vY];exact e3;exact hp.one p.1 i _ o d hip e1 ho (Jj rfl) rfl
def zOM (M eff:List Nat) (l:List Oper) (done j1 j2:Nat) (rest:List Nat):Bool:=
 Nat.beq (M.getD j1 0&&& done) (M.getD j1 0)&&!done.testBit j1&&Nat.blt j1 l.length&&Nat.beq (M.getD j2 0&&& done) (M.getD j2 0)&&!done.testBit j2&&Nat.blt j2 l.length&&
  rest.all (fun m=>bit M m j1||(eff.contains m&&Xj l m))&&rest.all (fun m=>bit M m j2||(eff.contains m&&Xj l m))&&zKZ M eff l (done ||| 2^j1) (j2::rest)&&zKZ M eff l (done ||| 2^j2) (j1::rest)
def zL6 (M eff:List Nat) (l:List Oper) (j1 j2:Nat) (rest:List Nat):Nat->List Nat->Bool
 | done,[]=>zOM M eff l done j1 j2 rest
 | done,j::σ=>Nat.beq (M.getD j 0&&& done) (M.getD j 0)&&!done.testBit j&&Nat.blt j l.length&&!eff.contains j&&zL6 M eff l j1 j2 rest (done ||| 2^j) σ
theorem zEV {done j:Nat} (h:Nat.beq (M.getD j 0&&& done) (M.getD j 0)=true):∀ i,bit M j i=true->done.testBit i=true:=fun i hi=>by
 have:=Nat.eq_of_beq_eq_true h
 unfold bit at hi;rw [<-this,Nat.testBit_and,Bool.and_eq_true] at hi;exact hi.2
theorem zJw {j1 j2:Nat} {rest:List Nat} {done j:Nat} {σ:List Nat} (h:zL6 M eff l j1 j2 rest done (j::σ)=true) :
  (∀ i,bit M j i=true->done.testBit i=true)/\done.testBit j=false/\j<l.length/\eff.contains j=false/\zL6 M eff l j1 j2 rest (done ||| 2^j) σ=true:=by
 simp only [zL6,Bool.and_eq_true] at h;obtain ⟨⟨⟨⟨h1,h2⟩,h3⟩,h4⟩,h5⟩:=h;exact ⟨zEV h1,by simpa using h2,Yk h3,by simpa using h4,h5⟩
def zK1 (l:List Oper) (M eff rdx σ:List Nat) (j1 j2:Nat) (rest:List Nat):Bool:=zIf M 0 l&&zB9 (Vp l M eff 0 l)&&zL6 M eff l j1 j2 rest 0 σ
def DX (P:Program) (E:Env) (X:Xs) (b:Fx) (Post:Value->List HP->Prop) (l:List Oper) (M eff rdx:List Nat) (σ:List (Nat×Oper)) (j1:Nat) (o1:Oper) (j2:Nat) (o2:Oper) (rest:List (Nat×Oper)) (pd:List (Nat×Oper×Value)) (k:List Item) (L:Tm) (s:List HP):Prop:=
 Plan l M eff->LateAll P b.n l->(∀ p∈σ++(j1,o1)::(j2,o2)::rest,l[p.1]?=some p.2)->∀ done,zL6 M eff l j1 j2 (rest.map Prod.fst) done (σ.map Prod.fst)=true->
 ∀ (K:Goroutine->Hp->Hp->Prop) (cs:List Frame) (F:List HP),
  (∀ fr v s' t r f,Leaves P E b fr v s'->(∀ r f,sep s' r f->sep t r f)->Post v t->sep (s'++F) r f->Safe P E X K (G fr cs) r f)->
  ∀ Lf,Sub L Lf->∀ fuel t listed tmps r f al,Dy P E b.n l M eff rdx ((σ++(j1,o1)::(j2,o2)::rest).map Prod.fst) pd al done Lf s fuel listed tmps->sep (s++(bxs al++F)) r f->
   Safe P E X K (G (b.at tmps (.inRegion l.toArray (Region.linearise.go .any l.toArray fuel t listed [])::k)) cs) r f
theorem DX.ahead {j:Nat} {o:Oper} {σ:List (Nat×Oper)} {v:Value} (he:eff.contains j=false) (hd:ltd o.dst b.n=true) {pd pd':List (Nat×Oper×Value)} {j1 j2:Nat} {o1 o2:Oper} {rest:List (Nat×Oper)} (hev:Evd P E l M eff rdx ((σ++(j1,o1)::(j2,o2)::rest).map Prod.fst) pd' L s j o v) (hpd:∀ p∈pd,p∈pd') (g:DX P E X b Post l M eff rdx σ j1 o1 j2 o2 rest pd' k (setd o.dst v L) s):DX P E X b Post l M eff rdx ((j,o)::σ) j1 o1 j2 o2 rest pd k L s:=by
 intro hp hla hl done hsuf K cs F hr Lf hLf fuel t listed tmps r f al hD hs;have hev:=hev.sub hLf;obtain ⟨s1,s2,s3,_,s5⟩:=zJw hsuf;have ho:l[j]?=some o:=hl (j,o) (List.mem_cons_self ..);have hnal:∀ p∈al,p.1≠j:=fun p hp1 x=>by have:=(hD.alk p hp1).eff;rw [x,he] at this;cases this
 have hfj:=hD.und j s3 s2 hnal;have stable:∀ i oi,l[i]?=some oi->(done.testBit i=true∨i=j)->∀ t∈temps oi++yR l oi,look Lf t=look (setd o.dst v Lf) t:=by
  intro i oi hi hdi t ht;by_cases x:o.dst=some t
  ·exfalso
   by_cases hji:j=i
   ·subst hji;rw [ho] at hi;cases hi;exact hp.own j o ho (QC he) t x ht
   ·have hdi:=hdi.resolve_right (fun y=>hji y.symm);rcases hp.reads j i o oi t hji ho hi x ht with ⟨_,y⟩|⟨_,_,y⟩
    ·have:=hD.dcl i (YI hi) hdi j y
     rw [s2] at this;cases this
    ·rw [QC he] at y;cases y
  ·rw [xT x]
 refine g hp hla (fun p h=>hl p (List.mem_cons_of_mem _ h)) _ s5 K cs F hr (setd o.dst v Lf) hLf.setd fuel t listed tmps r f al ?_ hs;refine ⟨hD.sz,hD.tsz,hD.fuel,hD.down,?_,?_,?_,?_,?_,hD.nd⟩
 ·intro i hi hdi hna;rw [zI,Bool.or_eq_false_iff] at hdi;exact hD.und i hi hdi.1 hna
 ·intro u w hw;by_cases x:o.dst=some u
  ·exact .inr (.inl ⟨j,o,ho,by rw [zI];simp,hfj,he,x⟩)
  ·rw [xT x] at hw;rcases hD.agree u w hw with y|⟨i,oi,h1,h2,h3,h4,h5⟩|y
   ·exact .inl y
   ·exact .inr (.inl ⟨i,oi,h1,by rw [zI,h2];rfl,h3,h4,h5⟩)
   ·exact .inr (.inr y)
 ·intro i hi hdi x hx;rw [zI] at hdi ⊢;by_cases y:j=i
  ·subst y;rw [s1 x hx];rfl
  ·simp only [y,decide_false,Bool.or_false] at hdi;rw [hD.dcl i hi hdi x hx];rfl
 ·intro i oi hi hdi hli;rw [zI] at hdi;by_cases y:j=i
  ·subst y;rw [ho] at hi;cases hi;refine ⟨he,v,hev.mono (stable j o ho (.inr rfl)),fun d hdd=>⟨?_,VY hd d hdd⟩⟩;rw [hdd];simp [setd,xG]
  ·simp only [y,decide_false,Bool.or_false] at hdi;obtain ⟨k1,u,k2,k3⟩:=hD.virt i oi hi hdi hli;refine ⟨k1,u,(k2.trk fun ht=>ht.imp (fun h=>(wW h).2) (fun h=>hpd _ h)).mono (stable i oi hi (.inl hdi)),fun d hdd=>?_⟩;obtain ⟨k4,k5⟩:=k3 d hdd;refine ⟨?_,k5⟩;rw [xT];exact k4;intro x;exact hp.one j i o oi d y ho hi (QC he) x hdd
 ·intro p hp1;have ha:=hD.alk p hp1;refine ⟨ha.eff,?_,ha.up,ha.op⟩;rw [zI,ha.und];simp only [Bool.false_or,decide_eq_false_iff_not];exact fun x=>hnal p hp1 x.symm
theorem DX.fork {j1 j2:Nat} {o1 o2:Oper} {rest:List (Nat×Oper)} {pd:List (Nat×Oper×Value)} {Q1 Q2:Value->List HP->Prop} (he1:eff.contains j1=true) (hnl1:vZ o1=false) (hd1:ltd o1.dst b.n=true) (he2:eff.contains j2=true) (hnl2:vZ o2=false) (hd2:ltd o2.dst b.n=true)
  (hx1:∀ (K:Goroutine->Hp->Hp->Prop) (cs:List Frame) (F:List HP) (i:Nat) (is:List Nat) (tmps:Array Value) (r f:Hp),l.toArray[i]?=some o1->(∀ t∈temps o1++yR l o1,∀ v,look L t=some v->tmps[t]?=some v)->sep (s++F) r f->
   (∀ v s' r' f',Q1 v s'->sep (s'++F) r' f'->Safe P E X K (G (b.at (putd o1.dst v tmps) (.inRegion l.toArray is::k)) cs) r' f')->Safe P E X K (G (b.at tmps (.inRegion l.toArray (i::is)::k)) cs) r f)
  (hst1:∀ v s',Q1 v s'->∀ p∈pd,bit M j1 p.1=true∨Lt P E (setd o1.dst v L) s' p.2.1 p.2.2)
  (g1:∀ v s',Q1 v s'->DA P E X b Post l M eff rdx ((j2,o2)::rest) pd k (setd o1.dst v L) s')
  (hx2:∀ (K:Goroutine->Hp->Hp->Prop) (cs:List Frame) (F:List HP) (i:Nat) (is:List Nat) (tmps:Array Value) (r f:Hp),l.toArray[i]?=some o2->(∀ t∈temps o2++yR l o2,∀ v,look L t=some v->tmps[t]?=some v)->sep (s++F) r f->
   (∀ v s' r' f',Q2 v s'->sep (s'++F) r' f'->Safe P E X K (G (b.at (putd o2.dst v tmps) (.inRegion l.toArray is::k)) cs) r' f')->Safe P E X K (G (b.at tmps (.inRegion l.toArray (i::is)::k)) cs) r f)
  (hst2:∀ v s',Q2 v s'->∀ p∈pd,bit M j2 p.1=true∨Lt P E (setd o2.dst v L) s' p.2.1 p.2.2)
  (g2:∀ v s',Q2 v s'->DA P E X b Post l M eff rdx ((j1,o1)::rest) pd k (setd o2.dst v L) s') :
  DX P E X b Post l M eff rdx [] j1 o1 j2 o2 rest pd k L s:=by
 intro hp hla hl done hsuf K cs F hr Lf hLf fuel;simp only [List.map_nil,zL6,zOM,Bool.and_eq_true,List.all_eq_true,Bool.or_eq_true] at hsuf;obtain ⟨⟨⟨⟨⟨⟨⟨⟨⟨a1,a2⟩,a3⟩,b1⟩,b2⟩,b3⟩,a4⟩,b4⟩,a5⟩,b5⟩:=hsuf;have a1:=zEV a1;have b1:=zEV b1;have a2:done.testBit j1=false:=by simpa using a2
 have b2:done.testBit j2=false:=by simpa using b2
 have a3:=Yk a3;have b3:=Yk b3;have ho1:l[j1]?=some o1:=hl (j1,o1) (by simp)
 have ho2:l[j2]?=some o2:=hl (j2,o2) (by simp)
 have hl1:∀ p∈(j2,o2)::rest,l[p.1]?=some p.2:=fun p h=>hl p (by rw [List.nil_append];exact List.mem_cons_of_mem _ h)
 have hl2:∀ p∈(j1,o1)::rest,l[p.1]?=some p.2:=fun p h=>hl p (by
  rcases List.mem_cons.1 h with h|h
  ·simp [h]
  ·simp [h])
 have hσ1:∀ x,ZI M eff x (([]++(j1,o1)::(j2,o2)::rest).map Prod.fst)=true->(eff.contains j1=true->bit M j1 x=true)/\ZI M eff x (((j2,o2)::rest).map Prod.fst)=true:=fun x h=>wW h;have hσ2:∀ x,ZI M eff x (([]++(j1,o1)::(j2,o2)::rest).map Prod.fst)=true->(eff.contains j2=true->bit M j2 x=true)/\ZI M eff x (((j1,o1)::rest).map Prod.fst)=true:=fun x h=>by
  obtain ⟨c1,c2⟩:=wW h;obtain ⟨c3,c4⟩:=wW c2;refine ⟨c3,?_⟩;unfold ZI at c4 ⊢;simp only [List.map_cons,List.all_cons,Bool.and_eq_true,Bool.or_eq_true,Bool.not_eq_true'];refine ⟨?_,c4⟩;cases hh:eff.contains j1 with
  | false=>exact .inl rfl
  | true=>exact .inr (c1 hh)
 have hna:∀ {j:Nat} {o:Oper} {listed:Array Bool} {tmps:Array Value} {n:Nat} {al:Al},l[j]?=some o->vZ o=false->Dy P E b.n l M eff rdx (([]++(j1,o1)::(j2,o2)::rest).map Prod.fst) pd al done Lf s n listed tmps->∀ p∈al,p.1≠j:=by
  intro j o listed tmps n al ho hnl hD p hp1 x;obtain ⟨d,ty,pos,af,agg,sz,e1,_,_⟩:=(hD.alk p hp1).op;rw [x,ho] at e1;cases e1;cases hnl
 induction fuel with
 | zero=>
  intro t listed tmps r f al hD hs;have:=WZ (Nat.le_zero.1 hD.fuel) (i:=j1)
  rw [hD.und j1 a3 a2 (hna ho1 hnl1 hD)] at this;cases this
 | succ fuel ih=>
  intro t listed tmps r f al hD hs;have hfj1:=hD.und j1 a3 a2 (hna ho1 hnl1 hD);have hfj2:=hD.und j2 b3 b2 (hna ho2 hnl2 hD);rcases lin_succ (ops:=l.toArray) (fuel:=fuel) (t:=t) (listed:=listed) with ⟨i,hi,t',e⟩|⟨e,_⟩
  ·rw [e];obtain ⟨oi,hoi,hfi,hed,hcl⟩:=hD.ready hp hi;have hil:=YI hoi;cases hdi:done.testBit i with
   | true=>exact WV hp hD hi hdi hs fun tmps r f hD hs=>ih t' _ tmps r f al hD hs
   | false=>
    by_cases h1:i=j1
    ·subst h1;exact zF7 hp hla he1 hnl1 hd1 hx1 hst1 g1 ho1 hl1 a1 a2 a5 hσ1 hr hLf hD hi hs
    ·by_cases h2:i=j2
     ·subst h2;exact zF7 hp hla he2 hnl2 hd2 hx2 hst2 g2 ho2 hl2 b1 b2 b5 hσ2 hr hLf hD hi hs
     ·have hlate:eff.contains i=true/\Xj l i=true:=by
       rcases sufB_cover a5 i hil with x|x
       ·rw [zI,hdi] at x;simp at x;exact absurd x.symm h1
       ·rcases List.mem_cons.1 x with x|x
        ·exact absurd x h2
        ·rcases a4 i x with y|y
         ·have:=hcl j1 y
          rw [hfj1] at this;cases this
         ·exact y
      exact Qy hp hla hD hi hdi hlate.1 hlate.2 hs fun tmps r f al hD hs=>ih t' _ tmps r f al hD hs
  ·exact absurd e (hD.some_ready hp hfj1)
theorem Plan.ofX {l:List Oper} {M eff rdx σ:List Nat} {j1 j2:Nat} {rest:List Nat} (h:zK1 l M eff rdx σ j1 j2 rest=true):Plan l M eff/\zL6 M eff l j1 j2 rest 0 σ=true:=by
 simp only [zK1,Bool.and_eq_true] at h;obtain ⟨⟨h1,h2⟩,h3⟩:=h;refine ⟨?_,h3⟩;have hm:=Va h1;obtain ⟨p1,p2⟩:=Xv h2;have row:∀ j o,l[j]?=some o->(Vp l M eff 0 l)[j]?=some (⟨j,o.dst,temps o++yR l o,M.getD j 0,lz eff j o⟩:Row):=fun j o ho=>by
  have:=Xq (l:=l) (M:=M) (eff:=eff) (n:=0) ho
  simpa only [Nat.zero_add] using this
 refine ⟨fun j o ho e he hb=>?_,fun j o i ho hi=>?_,fun i o ho he d hd=>?_,fun i j oi oj d hne hi hj hd hr=>?_,fun i j oi oj d hne hi hj he hd hd'=>?_⟩
 ·obtain ⟨k1,k2⟩:=hm j o ho;have hmem:e.on∈XB o:=YX.2 ⟨e,he,hb,rfl⟩;refine ⟨by have:=k1 _ hmem;omega,?_⟩
  unfold bit;rw [Nat.zero_add] at k2;rw [k2];exact JK hmem
 ·obtain ⟨k1,k2⟩:=hm j o ho;unfold bit at hi;rw [Nat.zero_add] at k2;rw [k2] at hi;obtain ⟨x,hx,hh⟩:=Ql hi;obtain ⟨e,e1,e2,rfl⟩:=YX.1 hx;exact ⟨e,e1,e2,hh⟩
 ·have:=p1 i _ (row i o ho)
  simp only [he,Bool.not_true,Bool.false_or,hd] at this;exact vW this
 ·rcases Nat.lt_or_gt_of_ne hne with hlt|hlt
  ·have:=p2 i j _ _ hlt (row i oi hi) (row j oj hj)
   simp only [zAB,Bool.and_eq_true,Bool.or_eq_true,hd] at this;rcases this.1.1 with x|x
   ·exact .inl ⟨hlt,x⟩
   ·exact absurd hr (vW x.1)
  ·have:=p2 j i _ _ hlt (row j oj hj) (row i oi hi)
   simp only [zAB,Bool.and_eq_true,Bool.or_eq_true,hd] at this;refine .inr ⟨hlt,?_,?_⟩
   ·rcases this.1.1 with x|x
    ·exact x
    ·exact absurd hr (vW x.2)
   ·rcases this.2 with x|x
    ·simpa using x
    ·exact absurd hr (vW x)
 ·rcases Nat.lt_or_gt_of_ne hne with hlt|hlt
  ·have:=p2 i j _ _ hlt (row i oi hi) (row j oj hj)
   simp [zAB,hd,hd',unlike,he] at this
  ·have:=p2 j i _ _ hlt (row j oj hj) (row i oi hi)
   simp [zAB,hd,hd',unlike,he] at this
theorem W.draw2 {i:Nat} {σ:List Nat} {σo rest:List (Nat×Oper)} {j1 j2:Nat} {o1 o2:Oper} (hm:P.follows .mixedOrders=true) (hp:zK1 l M eff rdx σ j1 j2 (rest.map Prod.fst)=true) (hla:LateAll P b.n l) (ho:xB l (σ++j1::j2::rest.map Prod.fst)=some (σo++(j1,o1)::(j2,o2)::rest)) (hσo:σo.map Prod.fst=σ) (g:DX P E X b Post l M eff rdx σo j1 o1 j2 o2 rest [] k L s):W P E X b Post (.code (.region i l.toArray true)::k) L s:=by
 intro K cs F hr tmps r f hok hs;obtain ⟨hplan,hsuf⟩:=Plan.ofX hp;have key:∀ {σ:List Nat} {σo:List (Nat×Oper)},xB l σ=some σo->(∀ p∈σo,l[p.1]?=some p.2)/\σo.map Prod.fst=σ:=by
  intro σ;induction σ with
  | nil=>intro σo e;cases e;exact ⟨fun p hp=>(by cases hp),rfl⟩
  | cons j σ ih=>
   intro σo e;unfold xB at e;split at e
   ·rename_i o r e1 e2
    cases e
    obtain ⟨k1,k2⟩:=ih e2;refine ⟨fun p hp=>?_,by simp [k2]⟩
    rcases List.mem_cons.1 hp with rfl|hp
    ·exact e1
    ·exact k1 p hp
   ·cases e
 obtain ⟨k1,k2⟩:=key ho;refine .next rfl fun w hsat=>?_;refine ⟨G (b.at tmps (.inRegion l.toArray (Region.schedule (P.follows .mixedOrders) l.toArray (w.tape w.drawn (.order b.fn i)))::k)) cs,{ w with drawn:=w.drawn+1 },#[],r,f,?_,?_,?_⟩
 ·simp [Go.Conc.G,stepG,stepG.exec,Fx.at,choose,Sem.run,Question.forced,Question.cut]
 ·exact ⟨⟨hsat.os,hsat.out,hsat.tape,hsat.ro,hsat.own,hsat.gh,hsat.tok,hsat.apart⟩,Hp.le_refl _,Nat.le_refl _,fun _ _ _=>rfl,fun _ x y=>absurd y x,fun _ x y=>absurd y x,fun e he=>by simp at he,fun e he=>by simp at he,fun _ h=>h⟩
 ·unfold Region.schedule;rw [hm];simp only [Bool.true_or,if_true,Region.linearise];refine g hplan hla k1 0 (by rw [hσo];exact hsuf) K cs F hr L Sub.refl _ _ _ tmps r f [] ?_ hs
  refine ⟨by simp,hok.size,?_,?_,?_,fun t v e=>.inl (hok.h t v e),fun i hi hd=>by simp at hd,?_,fun p hp=>(by cases hp),List.nodup_nil⟩
  ·unfold left;exact Nat.le_trans List.countP_le_length (by simp)
  ·intro j o hj hl;have hjl:j<l.length:=by
    rcases Nat.lt_or_ge j l.length with x|x
    ·exact x
    ·simp [List.getElem?_eq_none x] at hj
   simp [hjl] at hl
  ·intro j hj _ _;simp [hj]
  ·intro j o _ hd;simp at hd
def Act (P:Program) (E:Env) (X:Xs) (b:Fx) (Post:Value->List HP->Prop) (l:List Oper) (M eff rdx:List Nat) (j:Nat) (o:Oper) (σ:List (Nat×Oper)) (pd:List (Nat×Oper×Value)) (k:List Item) (L:Tm) (s:List HP):Prop:=
 ∃ Q:Value->List HP->Prop,eff.contains j=true/\vZ o=false/\ltd o.dst b.n=true/\
  (∀ (K:Goroutine->Hp->Hp->Prop) (cs:List Frame) (F:List HP) (i:Nat) (is:List Nat) (tmps:Array Value) (r f:Hp),l.toArray[i]?=some o->(∀ t∈temps o++yR l o,∀ v,look L t=some v->tmps[t]?=some v)->sep (s++F) r f->
   (∀ v s' r' f',Q v s'->sep (s'++F) r' f'->Safe P E X K (G (b.at (putd o.dst v tmps) (.inRegion l.toArray is::k)) cs) r' f')->Safe P E X K (G (b.at tmps (.inRegion l.toArray (i::is)::k)) cs) r f)/\
  (∀ v s',Q v s'->∀ p∈pd,bit M j p.1=true∨Lt P E (setd o.dst v L) s' p.2.1 p.2.2)/\
  (∀ v s',Q v s'->DA P E X b Post l M eff rdx σ pd k (setd o.dst v L) s')
theorem Act.ex {j:Nat} {σ:List (Nat×Oper)} {pd:List (Nat×Oper×Value)} {Q:Value->List HP->Prop} {o:Oper} (hw:Want L l o true) (hd:ltd o.dst b.n=true) (he:eff.contains j=true) (hnl:vZ o=false) (h:Ex P E X b L s o Q) (g:∀ v s',Q v s'->PdOk P E M j (setd o.dst v L) s' pd/\DA P E X b Post l M eff rdx σ pd k (setd o.dst v L) s'):Act P E X b Post l M eff rdx j o σ pd k L s:=
 ⟨Q,he,hnl,hd,fun K cs F i is tmps r f h1 h2 h3 h4=>h K cs F l i is k tmps r f h1 (wY (fun t ht v hv=>h2 t (by simp [ht]) v hv) hw) (fun t ht v hv=>h2 t (by simp [XF.2 ht]) v hv) h3 h4,fun v s' q=>(g v s' q).1.h,fun v s' q=>(g v s' q).2⟩
theorem DX.of {j1 j2:Nat} {o1 o2:Oper} {rest:List (Nat×Oper)} {pd:List (Nat×Oper×Value)} (h1:Act P E X b Post l M eff rdx j1 o1 ((j2,o2)::rest) pd k L s) (h2:Act P E X b Post l M eff rdx j2 o2 ((j1,o1)::rest) pd k L s):DX P E X b Post l M eff rdx [] j1 o1 j2 o2 rest pd k L s:=by
 obtain ⟨Q1,a1,a2,a3,a4,a5,a6⟩:=h1;obtain ⟨Q2,b1,b2,b3,b4,b5,b6⟩:=h2;exact DX.fork a1 a2 a3 b1 b2 b3 a4 a5 a6 b4 b5 b6
section
variable {j d:Nat} {pd:List (Nat×Oper×Value)} {op:Op} {ty:TypeId} {pos:String} {af:Array Edge} {gd:Option (Nat×Bool)} {σ:List (Nat×Oper)}
theorem zAD {t e:TypeId} {agg:Bool} {sz bytes:Nat} {z:List Value} {x y:Operand} {kk k2:IntKind} {n c:Int} (g:∀ bb,DA P E X b Post l M eff rdx σ pd k ((d,.slice (some ⟨bb,0,none⟩) n.toNat c.toNat)::L) (osl (some ⟨bb,0,none⟩) c.toNat e sz (List.replicate n.toNat z)::s)) [h:TyU P t (.slice e)] [he:TyN P e agg sz z] [hb:TyB P e bytes] (hx:ev L x=some (.int kk n):=by exact rfl) (hy:ev L y=some (.int k2 c):=by exact rfl) (hzl:vQ z sz=true:=by exact rfl) (hz1:vH z=true:=by exact rfl) (h0:0<=n:=by omega) (h1:n<=c:=by omega) (hc:c<=9223372036854775807:=by omega) (hsm:bytes*c<=281474976710656:=by omega)
  (hw:Want L l ⟨some d,.makeSlice t x y,ty,pos,af,gd⟩ true:=by (exact zO)) (hd:Nat.blt d b.n=true:=by exact rfl) (hj:eff.contains j=true:=by exact rfl) (hpd:∀ bb,PdOk P E M j ((d,.slice (some ⟨bb,0,none⟩) n.toNat c.toNat)::L) (osl (some ⟨bb,0,none⟩) c.toNat e sz (List.replicate n.toNat z)::s) pd:=by (intros;exact vX)):Act P E X b Post l M eff rdx j ⟨some d,.makeSlice t x y,ty,pos,af,gd⟩ σ pd k L s:=
 Act.ex hw hd hj rfl (WI h he hb hx hy hzl hz1 h0 h1 hc hsm) (fun v s' ⟨bb,e1,e2⟩=>by rw [e1,e2];exact ⟨hpd bb,g bb⟩)
theorem zDs {t e:TypeId} {agg:Bool} {sz len:Nat} {z:List Value} {parts:Array (Nat×Operand)} {ps:List (Nat×Value)} {es:List (List Value)} (g:∀ bb,DA P E X b Post l M eff rdx σ pd k ((d,.slice (some ⟨bb,0,none⟩) len len)::L) (osl (some ⟨bb,0,none⟩) len e sz es::s)) [h:TyU P t (.slice e)] [he:TyN P e agg sz z] (hp:evp L parts.toList=some ps:=by exact rfl) (hes:zNC sz 0 ps=some es:=by exact rfl) (hlen:es.length=len:=by exact rfl) (hsm:len*sz<=16777216:=by decide)
  (hw:Want L l ⟨some d,.buildSlice t len parts,ty,pos,af,gd⟩ true:=by (exact zO)) (hd:Nat.blt d b.n=true:=by exact rfl) (hj:eff.contains j=true:=by exact rfl) (hpd:∀ bb,PdOk P E M j ((d,.slice (some ⟨bb,0,none⟩) len len)::L) (osl (some ⟨bb,0,none⟩) len e sz es::s) pd:=by (intros;exact vX)):Act P E X b Post l M eff rdx j ⟨some d,.buildSlice t len parts,ty,pos,af,gd⟩ σ pd k L s:=
 Act.ex hw hd hj rfl (XE h he hp hes hlen hsm) (fun v s' ⟨bb,e1,e2⟩=>by rw [e1,e2];exact ⟨hpd bb,g bb⟩)
theorem Act.cl {d:Option Nat} {fo:Operand} {args:Array Operand} {ats:Array TypeId} {g:FuncId} {fi ca:Array Value} {vs as:List Value}
  (h:Cl P E X g as s (fun v s'=>PdOk P E M j (setd d v L) s' pd/\DA P E X b Post l M eff rdx σ pd k (setd d v L) s'))
  (hw:Want L l ⟨d,.call ⟨.value fo,args,ats⟩,ty,pos,af,gd⟩ true:=by (exact zO)) (hf:ev L fo=some (.func (.func g) fi ca):=by exact rfl) (ha:evs L args.toList=some vs:=by exact rfl) (has:fi.toList++vs++ca.toList=as:=by exact rfl) (hd:ltd d b.n=true:=by exact rfl) (hj:eff.contains j=true:=by exact rfl) :
  Act P E X b Post l M eff rdx j ⟨d,.call ⟨.value fo,args,ats⟩,ty,pos,af,gd⟩ σ pd k L s:=by
 obtain ⟨pre,F,Post',h1,h2,h3⟩:=h;exact Act.ex hw hd hj rfl (h1.h rfl hf ha has h2) fun v s' ⟨t,e1,e2⟩=>by rw [e2];exact h3 v t e1
variable {j1 j2:Nat} {o1 o2:Oper} {rest:List (Nat×Oper)}
theorem DX.cm {v:Value} (hw:Want L l ⟨some d,op,ty,pos,af,gd⟩ true) (hnd:Op.isDefer op=false) (hd:Nat.blt d b.n=true) (he:eff.contains j=false) (hr:rdx.contains j=false) (h:Cm P L ⟨some d,op,ty,pos,af,gd⟩ v) (g:DX P E X b Post l M eff rdx σ j1 o1 j2 o2 rest pd k ((d,v)::L) s):DX P E X b Post l M eff rdx ((j,⟨some d,op,ty,pos,af,gd⟩)::σ) j1 o1 j2 o2 rest pd k L s:=
 DX.ahead (o:=⟨some d,op,ty,pos,af,gd⟩) (v:=v) he hd (.inl ⟨hw,hnd,by rw [hr];exact h⟩) (fun _ h=>h) g
theorem DX.ltP {v:Value} (hw:Want L l ⟨some d,op,ty,pos,af,gd⟩ true) (hnd:Op.isDefer op=false) (hd:Nat.blt d b.n=true) (he:eff.contains j=false) (hr:rdx.contains j=true) (h:Lt P E L s ⟨some d,op,ty,pos,af,gd⟩ v) (g:DX P E X b Post l M eff rdx σ j1 o1 j2 o2 rest ((j,⟨some d,op,ty,pos,af,gd⟩,v)::pd) k ((d,v)::L) s):DX P E X b Post l M eff rdx ((j,⟨some d,op,ty,pos,af,gd⟩)::σ) j1 o1 j2 o2 rest pd k L s:=
 DX.ahead (o:=⟨some d,op,ty,pos,af,gd⟩) (v:=v) he hd (.inl ⟨hw,hnd,by rw [hr];exact ⟨h,.inr (List.mem_cons_self ..)⟩⟩) (fun _ h=>List.mem_cons_of_mem _ h) g
end
theorem zAm:∀ {σ:List Nat} {σo:List (Nat×Oper)},xB l σ=some σo->σo.map Prod.fst=σ
 | [],σo,e=>by cases e;rfl
 | j::σ,σo,e=>by
  unfold xB at e;split at e
  ·rename_i o r e1 e2
   cases e
   simp [zAm e2]
  ·cases e
theorem zFd:∀ {σ τ:List Nat} {σo τo:List (Nat×Oper)},xB l σ=some σo->xB l τ=some τo->xB l (σ++τ)=some (σo++τo)
 | [],τ,σo,τo,e,h=>by cases e;exact h
 | j::σ,τ,σo,τo,e,h=>by
  unfold xB at e;split at e
  ·rename_i o r e1 e2
   cases e
   show xB l (j::(σ++τ))=_;unfold xB;rw [e1,zFd e2 h];rfl
  ·cases e
theorem zLc {i:Nat} {σo rest:List (Nat×Oper)} {o1 o2:Oper} (M eff rdx σ:List Nat) (j1 j2:Nat) (τ:List Nat) (g:DX P E X b Post l M eff rdx σo j1 o1 j2 o2 rest [] k L s) [hm:Mixed P] (h1:xB l σ=some σo:=by rfl) (hj1:l[j1]?=some o1:=by rfl) (hj2:l[j2]?=some o2:=by rfl) (h2:xB l τ=some rest:=by rfl) (hp:zK1 l M eff rdx σ j1 j2 τ=true:=by kernel_rfl) (hla:LateAll P b.n l:=by (repeat (first|exact LateAll.nil|refine LateAll.late inferInstance rfl ?_|refine LateAll.other rfl ?_))):W P E X b Post (.code (.region i l.toArray true)::k) L s:=by
 have e2:=zAm h2;have h3:xB l (j1::j2::τ)=some ((j1,o1)::(j2,o2)::rest):=by
  unfold xB;rw [hj1];unfold xB;rw [hj2,h2]
 subst e2;exact W.draw2 hm.h hp hla (zFd h1 h3) (zAm h1) g
end
end Go.KL
end
section
namespace Go.KL
open Go
section
variable {P:Program} {E:Env} {X:Xs} {b:Fx} {Post:Value->List HP->Prop} {k:List Item} {L:Tm} {s:List HP} {l rest:List Oper} {M eff rdx:List Nat} {σ:List (Nat×Oper)} {pd:List (Nat×Oper×Value)} {j d:Nat} {dst:Option Nat} {ty:TypeId} {pos:String} {af:Array Edge} {gd:Option (Nat×Bool)}
theorem T.frame {α:Type} {m:Sem α} {pre F:List HP} {Q:α->List HP->Prop} (h:T P E m pre Q):T P E m (pre++F) (fun v s'=>∃ t,Q v t/\s'=t++F):=by
 intro w r f F' es hs hA;rw [List.append_assoc] at hA;obtain ⟨a,w',es',r',f',A',h1,h2,h3,h4⟩:=h w r f (F++F') es hs hA;exact ⟨a,w',es',r',f',A'++F,h1,h2,⟨A',h3,rfl⟩,by rw [List.append_assoc];exact h4⟩
theorem DoesG.extern {g:FuncId} {fnc:Func} {e:Array Value->Sem Value} {as:List Value} {pre:List HP} {Q:Value->List HP->Prop} (h:P.funcs[g]?=some fnc) (hb:fnc.body=none) (hn:(fnc.name == "runtime.NumGoroutine")=false) (hx:Extern.findNext fnc=none) (hf:Extern.find fnc=some e)
  (ht:T P E (e as.toArray) pre Q):DoesG P E X g as pre Q:=⟨by
 intro b L s F o fo args ats fi ca vs ho hfo ha has hs;refine Ex.op (by rw [ho];rfl) (.inr (by rw [ho];rfl)) fun e' he=>?_
 have hm:fi++args.map e'++ca=as.toArray:=by
  apply Array.ext';rw [<-has];have:=Yx he ha
  simp [this]
 unfold execOp;rw [ho];simp only;refine T.calmBind (a:={ target:=.fn (.func g) ca,args:=fi++args.map e' }) ?_ ?_
 ·unfold resolve;simp only [he _ _ hfo,Deferred.ofValue];exact Calm.pure _
 ·simp only [invoke];unfold Go.callFunc;refine T.calmBind Calm.program ?_;simp only [h,hn,hb,Bool.false_eq_true,if_false,Option.isNone_none,if_true,hx,hf,hm];refine T.bind (Q:=fun _ B=>B=s) (T.ext (T.mark (.inl ⟨g,rfl⟩)) fun a A h=>by rw [h];rfl) ?_
  rintro _ _ rfl;refine T.bind (Q:=fun v s'=>∃ t,Q v t/\s'=t++F) (T.conv (T.frame ht) hs fun a A' h=>⟨A',fun _ _ x=>x,h⟩) ?_;rintro v _ ⟨t,h1,rfl⟩;exact T.calm (Calm.pure _) ⟨v,.inl rfl,t,h1,rfl⟩⟩
theorem zDj (base:Option Addr) {cap sz:Nat} {T:TypeId} {es:List (List Value)} {F:List HP} {t:List Item} (hne:0<cap) (g:∀ bb off c,base=some ⟨bb,off,none⟩->ElOk sz es->es.length<=cap->off+cap*sz<=c.length->(∀ j v,es.flatten[j]?=some v->c[off+j]?=some v)->W P E X b Post t L (box bb c T::F))
  (hs:Sel s (osl base cap T sz es) F:=by ((try simp only [List.cons_append,List.nil_append]);repeat (first|(with_reducible exact Sel.here)|(with_reducible apply Sel.there)))):W P E X b Post t L s:=by
 intro K cs F0 hr tmps r f hok h;obtain ⟨f1,f2,d,l1,l2,h1,h2⟩:=zD.1 h;obtain ⟨f3,f4,d',m1,m2,⟨k1,k2,k3,k4⟩,hk⟩:=hs.out h1;cases base with
 | none=>have:=k3 rfl;omega
 | some a=>
  obtain ⟨k5,c,k6,k7,k8⟩:=k4 a rfl;obtain ⟨bb,off,sp⟩:=a;simp at k5;subst k5;exact g bb off c rfl k1 k2 k7 k8 K cs F0 hr tmps r f hok (zD.2 ⟨f1,f2,d,l1,l2,⟨f3,f4,d',m1,m2,k6,hk⟩,h2⟩)
theorem Xb (base:Option Addr) {cap sz:Nat} {T:TypeId} {es:List (List Value)} {F:List HP} (hne:0<cap) (g:∀ bb off c,base=some ⟨bb,off,none⟩->ElOk sz es->es.length<=cap->off+cap*sz<=c.length->(∀ j v,es.flatten[j]?=some v->c[off+j]?=some v)->WL P E X b Post l rest k L (box bb c T::F))
  (hs:Sel s (osl base cap T sz es) F:=by ((try simp only [List.cons_append,List.nil_append]);repeat (first|(with_reducible exact Sel.here)|(with_reducible apply Sel.there)))):WL P E X b Post l rest k L s:=fun n hn=>zDj base hne (fun bb off c h1 h2 h3 h4 h5=>g bb off c h1 h2 h3 h4 h5 n hn) hs
theorem Into.box {bb off cap sz:Nat} {T:TypeId} {es:List (List Value)} {c:List Value} {F:List HP} (hs:Sel s (KL.box bb c T) F) (h1:ElOk sz es) (h2:es.length<=cap) (h3:off+cap*sz<=c.length) (h4:∀ j v,es.flatten[j]?=some v->c[off+j]?=some v):Into s (osl (some ⟨bb,off,none⟩) cap T sz es::F):=⟨fun r f hp=>by
 obtain ⟨f1,f2,d,l1,l2,a,k⟩:=hs.out hp;exact ⟨f1,f2,d,l1,l2,⟨h1,h2,fun e=>(by cases e),fun a' e=>(by cases e;exact ⟨rfl,c,a,h3,h4⟩)⟩,k⟩⟩
theorem Qw {bb off n:Nat}:(⟨bb,off,none⟩:Addr).add n=⟨bb,off+n,none⟩:=Xl ..
theorem T.firstCellsN {A:HP} {F:List HP} {base:Option Addr} {n m cap sz:Nat} {es:List (List Value)} (hs:Sel s A F) (h:Src A base n sz es) (hm:m<=n) :
  T P E (Builtin.firstCells sz m (.slice base n cap)) s (fun x B=>x=(es.take m).flatten.toArray/\B=s):=by
 refine T.pre (p:=ElOk sz es/\(base=none->es=[])) (hs.pure fun r f k=>⟨h.ok r f k,h.nil r f k⟩) ?_;rintro ⟨k1,k2⟩;cases base with
 | none=>rw [k2 rfl,List.take_nil];exact T.calm (Calm.pure _) ⟨rfl,rfl⟩
 | some a=>
  unfold Builtin.firstCells;have hl:((es.take m).flatten).length=m*sz:=by rw [(k1.sub fun e he=>List.mem_of_mem_take he).flat,List.length_take,h.len];congr 1;omega
  refine T.sel hs (T.cons (T.loadCells (A:=A) (a:=a) (n:=m*sz) (cs:=(es.take m).flatten) hl fun j v hj=>h.has a rfl j v ?_) fun x B h=>h);have e:es=es.take m++es.drop m:=(List.take_append_drop ..).symm;rw [e,List.flatten_append,List.getElem?_append_left]
  ·exact hj
  ·rw [List.getElem?_eq_some_iff] at hj;exact hj.1
theorem zD9 {x y:Operand} {t1 t2 elem T0:TypeId} {agg:Bool} {sz n n2 cap cap2 bb off:Nat} {z c:List Value} {base2:Option Addr} {es2:List (List Value)} {A2:HP} {F1 F:List HP}
  (h1:TyU P t1 (.slice elem)) (he:TyN P elem agg sz z) (hx:ev L x=some (.slice (some ⟨bb,off,none⟩) n cap)) (hy:ev L y=some (.slice base2 n2 cap2)) (hs:Sel s (box bb c T0) F1) (hs2:Sel F1 A2 F) (hsrc:Src A2 base2 n2 sz es2) (hr:off+min n2 n*sz<=c.length) :
  Ex P E X b L s ⟨dst,.call ⟨.builtin .copy,#[x,y],#[t1,t2]⟩,ty,pos,af,gd⟩ (fun v s'=>v=.int .i64 ((min n2 n:Nat):Int)/\s'=box bb (lay c off (es2.take (min n2 n)).flatten) T0::A2::F):=by
 refine Ex.builtin (vs:=[.slice (some ⟨bb,off,none⟩) n cap,.slice base2 n2 cap2]) (by show evs L [x,y]=_;simp [evs,hx,hy]) fun t cs=>?_
 unfold Go.builtin;simp only;refine T.bind (Q:=fun v s'=>v=.int .i64 ((min n2 n:Nat):Int)/\s'=box bb (lay c off (es2.take (min n2 n)).flatten) T0::A2::F) ?_ fun v s' hq=>T.calm (Calm.pure _) ⟨v,rfl,hq⟩;refine T.sels (A:=[box bb c T0,A2]) (F:=F) (.cons hs (.cons hs2 .nil)) (Q:=fun v s'=>v=.int .i64 ((min n2 n:Nat):Int)/\s'=[box bb (lay c off (es2.take (min n2 n)).flatten) T0,A2]) ?_ fun v A' ⟨e1,e2⟩=>⟨e1,by rw [e2];rfl⟩
 refine T.pre (p:=ElOk sz es2) (fun r f hp=>?_) ?_
 ·obtain ⟨f1,f2,d,l1,l2,a,g1,g2,d',m1,m2,a2,_⟩:=hp;exact hsrc.ok _ _ a2
 intro ok;unfold Builtin.copy_;simp only [List.getElem?_toArray,List.getElem?_cons_zero,List.getElem?_cons_succ];refine T.calmBind (Calm.underlying h1.h) ?_;simp only;refine T.calmBind (a:=n2) (Calm.pure _) ?_;refine T.calmBind (Calm.sizeOf' he) ?_;refine T.bind (T.firstCellsN (.there .here) hsrc (Nat.min_le_left n2 n)) ?_;rintro _ _ ⟨rfl,rfl⟩;have hn:Nat.min n2 n=min n2 n:=rfl;simp only [hn];have ok2:ElOk sz (es2.take (min n2 n)):=ok.sub fun e he=>List.mem_of_mem_take he;have hfl:((es2.take (min n2 n)).flatten).length=min n2 n*sz:=by rw [ok2.flat,List.length_take,hsrc.len];congr 1;omega
 refine T.bind (Q:=fun _ B=>B=[box bb (lay c off (es2.take (min n2 n)).flatten) T0,A2]) ?_ fun _ B hB=>T.calm (Calm.pure _) ⟨rfl,hB⟩;refine T.sels (A:=[box bb c T0]) (F:=[A2]) (.cons .here .nil) (T.storeCells (b:=bb) (t:=T0) (off:=off) (es2.take (min n2 n)).flatten 0 c ok2.flatOne (by omega)) fun _ A' e=>by rw [e];rfl
theorem zHw {x y:Operand} {t1 t2 elem T0:TypeId} {agg:Bool} {sz n n2 cap cap2 bb off off2:Nat} {z c:List Value} {F:List HP}
  (h1:TyU P t1 (.slice elem)) (he:TyN P elem agg sz z) (hx:ev L x=some (.slice (some ⟨bb,off,none⟩) n cap)) (hy:ev L y=some (.slice (some ⟨bb,off2,none⟩) n2 cap2)) (hs:Sel s (box bb c T0) F) (hr:off+min n2 n*sz<=c.length) (hr2:off2+min n2 n*sz<=c.length) (ho:∀ v∈(c.drop off2).take (min n2 n*sz),Jy v=true) :
  Ex P E X b L s ⟨dst,.call ⟨.builtin .copy,#[x,y],#[t1,t2]⟩,ty,pos,af,gd⟩ (fun v s'=>v=.int .i64 ((min n2 n:Nat):Int)/\s'=box bb (lay c off ((c.drop off2).take (min n2 n*sz))) T0::F):=by
 refine Ex.builtin (vs:=[.slice (some ⟨bb,off,none⟩) n cap,.slice (some ⟨bb,off2,none⟩) n2 cap2]) (by show evs L [x,y]=_;simp [evs,hx,hy]) fun t cs=>?_
 unfold Go.builtin;simp only;refine T.bind (Q:=fun v s'=>v=.int .i64 ((min n2 n:Nat):Int)/\s'=box bb (lay c off ((c.drop off2).take (min n2 n*sz))) T0::F) ?_ fun v s' hq=>T.calm (Calm.pure _) ⟨v,rfl,hq⟩;refine T.sels (A:=[box bb c T0]) (F:=F) (.cons hs .nil) (Q:=fun v s'=>v=.int .i64 ((min n2 n:Nat):Int)/\s'=[box bb (lay c off ((c.drop off2).take (min n2 n*sz))) T0]) ?_ fun v A' ⟨e1,e2⟩=>⟨e1,by rw [e2];rfl⟩
 unfold Builtin.copy_;simp only [List.getElem?_toArray,List.getElem?_cons_zero,List.getElem?_cons_succ];refine T.calmBind (Calm.underlying h1.h) ?_;simp only;refine T.calmBind (a:=n2) (Calm.pure _) ?_;refine T.calmBind (Calm.sizeOf' he) ?_;have hn:Nat.min n2 n=min n2 n:=rfl;simp only [hn];have hfl:((c.drop off2).take (min n2 n*sz)).length=min n2 n*sz:=by rw [List.length_take,List.length_drop];omega
 unfold Builtin.firstCells;refine T.bind (T.loadCells (A:=box bb c T0) (a:=⟨bb,off2,none⟩) (n:=min n2 n*sz) (cs:=(c.drop off2).take (min n2 n*sz)) hfl fun j v hj=>?_) ?_
 ·rw [Qw];refine VG ?_;have hlt:j<min n2 n*sz:=by rw [<-hfl];exact (List.getElem?_eq_some_iff.1 hj).1
  rw [List.getElem?_take_of_lt hlt,List.getElem?_drop] at hj;exact hj
 rintro _ _ ⟨rfl,rfl⟩;refine T.bind (Q:=fun _ B=>B=[box bb (lay c off ((c.drop off2).take (min n2 n*sz))) T0]) ?_ fun _ B hB=>T.calm (Calm.pure _) ⟨rfl,hB⟩;exact T.storeCells (b:=bb) (t:=T0) (off:=off) ((c.drop off2).take (min n2 n*sz)) 0 c ho (by omega)
theorem zLg {x:Operand} {t1 elem T0:TypeId} {agg:Bool} {sz n cap bb off:Nat} {z c:List Value} {F:List HP}
  (h1:TyU P t1 (.slice elem)) (he:TyN P elem agg sz z) (hx:ev L x=some (.slice (some ⟨bb,off,none⟩) n cap)) (hs:Sel s (box bb c T0) F) (hr:off+n*sz<=c.length) (hzl:z.length=sz) (hz0:0<sz) (hz:∀ v∈z,Jy v=true) :
  Ex P E X b L s ⟨dst,.call ⟨.builtin .clear,#[x],#[t1]⟩,ty,pos,af,gd⟩ (fun v s'=>v=.tuple #[]/\s'=box bb (lay c off (List.replicate n z).flatten) T0::F):=by
 refine Ex.builtin (vs:=[.slice (some ⟨bb,off,none⟩) n cap]) (by show evs L [x]=_;simp [evs,hx]) fun t cs=>?_
 unfold Go.builtin;simp only;refine T.bind (Q:=fun v s'=>v=.tuple #[]/\s'=box bb (lay c off (List.replicate n z).flatten) T0::F) ?_ fun v s' hq=>T.calm (Calm.pure _) ⟨v,rfl,hq⟩;refine T.sels (A:=[box bb c T0]) (F:=F) (.cons hs .nil) (Q:=fun v s'=>v=.tuple #[]/\s'=[box bb (lay c off (List.replicate n z).flatten) T0]) ?_ fun v A' ⟨e1,e2⟩=>⟨e1,by rw [e2];rfl⟩
 unfold Builtin.clear_;simp only [List.getElem?_toArray,List.getElem?_cons_zero,List.getElem?_cons_succ];refine T.calmBind (Calm.underlying h1.h) ?_;cases n with
 | zero=>
  simp only;exact T.calm (a:=.tuple #[]) (Calm.pure _) ⟨rfl,rfl⟩
 | succ n=>
  simp only;obtain ⟨zv,hzv,hzc⟩:=Calm.zeroValue he;refine T.calmBind hzv ?_;rw [hzc];have hzz:(Builtin.zeroCells z.toArray (n+1)).toList=(List.replicate (n+1) z).flatten:=by
   apply List.ext_getElem?;intro j;unfold Builtin.zeroCells;by_cases hj:j<(n+1)*z.length
   ·rw [JW hj];have:=Yr (z:=z.toArray) (n:=(n+1)*z.length) (j:=j) hj (by simp [hzl];exact hz0)
    rw [Array.getElem?_toList];refine this.trans ?_;simp
   ·rw [List.getElem?_eq_none (by simp;simp at hj;omega),List.getElem?_eq_none (by simp;simp at hj;omega)]
  rw [hzz];refine T.bind (Q:=fun _ B=>B=[box bb (lay c off (List.replicate (n+1) z).flatten) T0]) ?_ fun _ B hB=>T.calm (Calm.pure _) ⟨rfl,hB⟩;exact T.storeCells (b:=bb) (t:=T0) (off:=off) (List.replicate (n+1) z).flatten 0 c (fun v hv=>by
   obtain ⟨l,h1,h2⟩:=List.mem_flatten.1 hv;rw [(List.mem_replicate.1 h1).2] at h2;exact hz v h2) (by simp [hzl];simpa using hr)
theorem zC4 {x y:Operand} {t1 t2 elem T0:TypeId} {d2:TypeDesc} {agg:Bool} {sz n n2 cap cap2 bb off off2:Nat} {z c:List Value} {F:List HP}
  (h1:TyU P t1 (.slice elem)) (h2:TyU P t2 d2) (hd:∀ k,d2≠.int k) (he:TyN P elem agg sz z) (hx:ev L x=some (.slice (some ⟨bb,off,none⟩) n cap)) (hy:ev L y=some (.slice (some ⟨bb,off2,none⟩) n2 cap2)) (hs:Sel s (box bb c T0) F) (hfit:n+n2<=cap) (hr:off+n*sz+n2*sz<=c.length) (hr2:off2+n2*sz<=c.length) (ho:∀ v∈(c.drop off2).take (n2*sz),Jy v=true) :
  Ex P E X b L s ⟨dst,.call ⟨.builtin .append,#[x,y],#[t1,t2]⟩,ty,pos,af,gd⟩ (fun v s'=>v=.slice (some ⟨bb,off,none⟩) (n+n2) cap/\s'=box bb (lay c (off+n*sz) ((c.drop off2).take (n2*sz))) T0::F):=by
 refine Ex.builtin (vs:=[.slice (some ⟨bb,off,none⟩) n cap,.slice (some ⟨bb,off2,none⟩) n2 cap2]) (by show evs L [x,y]=_;simp [evs,hx,hy]) fun t cs=>?_
 unfold Go.builtin;simp only;refine T.bind (Q:=fun v s'=>v=.slice (some ⟨bb,off,none⟩) (n+n2) cap/\s'=box bb (lay c (off+n*sz) ((c.drop off2).take (n2*sz))) T0::F) ?_ fun v s' hq=>T.calm (Calm.pure _) ⟨v,rfl,hq⟩;refine T.sels (A:=[box bb c T0]) (F:=F) (.cons hs .nil) (Q:=fun v s'=>v=.slice (some ⟨bb,off,none⟩) (n+n2) cap/\s'=[box bb (lay c (off+n*sz) ((c.drop off2).take (n2*sz))) T0]) ?_ fun v A' ⟨e1,e2⟩=>⟨e1,by rw [e2];rfl⟩
 unfold Builtin.append_;simp only [List.getElem?_toArray,List.getElem?_cons_zero,List.getElem?_cons_succ];refine T.calmBind (Calm.underlying h1.h) ?_;simp only;refine T.calmBind (Calm.sizeOf' he) ?_;refine T.calmBind (Calm.underlying h2.h) ?_;refine T.calmBind (a:=false) (by cases d2 <;> first|exact Calm.pure _|exact absurd rfl (hd _)) ?_
 simp only [Bool.false_eq_true,if_false];refine T.calmBind (a:=n2) (Calm.pure _) ?_;simp only [Bool.not_false,if_true];rw [if_pos hfit];have hfl:((c.drop off2).take (n2*sz)).length=n2*sz:=by rw [List.length_take,List.length_drop];omega
 unfold Builtin.firstCells;refine T.bind (T.loadCells (A:=box bb c T0) (a:=⟨bb,off2,none⟩) (n:=n2*sz) (cs:=(c.drop off2).take (n2*sz)) hfl fun j v hj=>?_) ?_
 ·rw [Qw];refine VG ?_;have hlt:j<n2*sz:=by rw [<-hfl];exact (List.getElem?_eq_some_iff.1 hj).1
  rw [List.getElem?_take_of_lt hlt,List.getElem?_drop] at hj;exact hj
 rintro _ _ ⟨rfl,rfl⟩;simp only;refine T.bind (Q:=fun _ B=>B=[box bb (lay c (off+n*sz) ((c.drop off2).take (n2*sz))) T0]) ?_ fun _ B hB=>T.calm (Calm.pure _) ⟨rfl,hB⟩;rw [Qw];exact T.storeCells (b:=bb) (t:=T0) (off:=off+n*sz) ((c.drop off2).take (n2*sz)) 0 c ho (by omega)
end
end Go.KL
end
section
namespace Go.KL
open Go
section
variable {P:Program} {E:Env} {X:Xs} {b:Fx} {Post:Value->List HP->Prop} {k:List Item} {L:Tm} {s:List HP} {l rest:List Oper} {M eff rdx:List Nat} {σ:List (Nat×Oper)} {pd:List (Nat×Oper×Value)} {j d:Nat} {dst:Option Nat} {ty:TypeId} {pos:String} {af:Array Edge} {gd:Option (Nat×Bool)}
theorem zGp {t e:TypeId} {agg:Bool} {sz len bb off:Nat} {z:List Value} {x:Operand} (h:TyU P t (.array len e)) (he:TyN P e agg sz z) (hx:ev L x=some (.pointer (some ⟨bb,off,none⟩))) (hl:(len == 0)=false) :
  Cm P L ⟨dst,.slice t x none none none,ty,pos,af,gd⟩ (.slice (some ⟨bb,off,none⟩) len len):=
 Cm.of rfl (fun e' he'=>by
  unfold execOp;simp only [he' _ _ hx,Option.map_none];refine Calm.bind (a:=.slice (some ⟨bb,off,none⟩) len len) ?_ (Calm.pure _);unfold Instr.sliceAt;refine (Calm.underlying h.h).bind ?_;simp only;refine Calm.bind (a:=⟨bb,off,none⟩) (Calm.pure _) ?_;refine Calm.bind (a:=(0,len,len)) ?_ ?_
  ·unfold Instr.sliceBounds;exact (Calm.pure _).bind ((Calm.pure _).bind ((Calm.pure _).bind (Calm.pure _)))
  ·simp only;refine (Calm.sizeOf' he).bind ?_;have hl:len≠0:=by simpa using hl
   rw [if_neg hl,Nat.zero_mul,Xl,Nat.add_zero,Nat.sub_zero];exact Calm.pure _)
theorem zLf {t e:TypeId} {agg:Bool} {sz n cap:Nat} {z:List Value} {x lo hi mx:Operand} {base:Option Addr} {kk k2 k3:IntKind} {i j m:Int} (h:TyU P t (.slice e)) (he:TyN P e agg sz z) (hx:ev L x=some (.slice base n cap)) (hy:ev L lo=some (.int kk i)) (hy2:ev L hi=some (.int k2 j)) (hy3:ev L mx=some (.int k3 m)) (h0:0<=i) (h1:i<=j) (h2:j<=m) (h3:m<=cap) :
  Cm P L ⟨dst,.slice t x (some lo) (some hi) (some mx),ty,pos,af,gd⟩ (.slice (if m.toNat=i.toNat then base else base.map (·.add (i.toNat*sz))) (j.toNat-i.toNat) (m.toNat-i.toNat)):=
 Cm.of rfl (fun e' he'=>by
  unfold execOp;simp only [he' _ _ hx,Option.map_some,he' _ _ hy,he' _ _ hy2,he' _ _ hy3];refine Calm.bind (a:=.slice (if m.toNat=i.toNat then base else base.map (·.add (i.toNat*sz))) (j.toNat-i.toNat) (m.toNat-i.toNat)) ?_ (Calm.pure _);unfold Instr.sliceAt;refine (Calm.underlying h.h).bind ?_;simp only;unfold Instr.slice;refine (Calm.underlying h.h).bind ?_;simp only;have sb:∀ (kk:IntKind) (i:Int) (y:Nat) (code:BoundsCode),0<=i->i<=y->Calm P (Instr.sliceBound (.int kk i) y code) i.toNat:=fun kk i y code h0 hy=>by
   unfold Instr.sliceBound;refine Calm.bind (a:=(kk,i)) (Calm.pure _) ?_;simp only;rw [if_pos ⟨h0,hy⟩];exact Calm.pure _
  refine Calm.bind (a:=(i.toNat,j.toNat,m.toNat)) ?_ ?_
  ·unfold Instr.sliceBounds;exact (sb _ _ _ _ (by omega) h3).bind ((sb _ _ _ _ (by omega) (by omega)).bind ((sb _ _ _ _ h0 (by omega)).bind (Calm.pure _)))
  ·simp only;exact (Calm.sizeOf' he).bind (Calm.pure _))
theorem zOK {x y:Operand} {t1 t2 elem T0 T2:TypeId} {agg:Bool} {sz n n2 cap cap2 bb off:Nat} {z c:List Value} {base2:Option Addr} {es2:List (List Value)} {F1 F:List HP}
  (g:WL P E X b Post l rest k ((d,.int .i64 ((min n2 n:Nat):Int))::L) (box bb (lay c off (es2.take (min n2 n)).flatten) T0::osl base2 cap2 T2 sz es2::F)) (hr:off+min n2 n*sz<=c.length)
  [h1:TyU P t1 (.slice elem)] [he:TyN P elem agg sz z] (hx:ev L x=some (.slice (some ⟨bb,off,none⟩) n cap):=by exact rfl) (hy:ev L y=some (.slice base2 n2 cap2):=by exact rfl) (hs:Sel s (box bb c T0) F1:=by repeat (first|(with_reducible exact Sel.here)|(with_reducible apply Sel.there))) (hs2:Sel F1 (osl base2 cap2 T2 sz es2) F:=by repeat (first|(with_reducible exact Sel.here)|(with_reducible apply Sel.there)))
  (hn2:es2.length=n2:=by first|(with_reducible assumption)|exact rfl|exact List.length_map _|(simp;done)|(simp;omega)) (hw:Want L l ⟨some d,.call ⟨.builtin .copy,#[x,y],#[t1,t2]⟩,ty,pos,af,gd⟩ true:=by (exact zO)) (hd:Nat.blt d b.n=true:=by exact rfl) :
  WL P E X b Post l (⟨some d,.call ⟨.builtin .copy,#[x,y],#[t1,t2]⟩,ty,pos,af,gd⟩::rest) k L s:=
 WL.ex hw hd (zD9 h1 he hx hy hs hs2 (Src.osl hn2) hr) (fun v s' ⟨e1,e2⟩=>by rw [e1,e2];exact g)
theorem zOG {x y:Operand} {t1 t2 elem T0:TypeId} {agg:Bool} {sz n n2 cap cap2 bb off:Nat} {z c:List Value} {base2:Option Addr} {es2:List (List Value)} {F1 F:List HP}
  (g:WL P E X b Post l rest k ((d,.int .i64 ((min n2 n:Nat):Int))::L) (box bb (lay c off (es2.take (min n2 n)).flatten) T0::rsl base2 cap2 sz es2::F)) (hr:off+min n2 n*sz<=c.length)
  [h1:TyU P t1 (.slice elem)] [he:TyN P elem agg sz z] (hx:ev L x=some (.slice (some ⟨bb,off,none⟩) n cap):=by exact rfl) (hy:ev L y=some (.slice base2 n2 cap2):=by exact rfl) (hs:Sel s (box bb c T0) F1:=by repeat (first|(with_reducible exact Sel.here)|(with_reducible apply Sel.there))) (hs2:Sel F1 (rsl base2 cap2 sz es2) F:=by repeat (first|(with_reducible exact Sel.here)|(with_reducible apply Sel.there)))
  (hn2:es2.length=n2:=by first|(with_reducible assumption)|exact rfl|exact List.length_map _|(simp;done)|(simp;omega)) (hw:Want L l ⟨some d,.call ⟨.builtin .copy,#[x,y],#[t1,t2]⟩,ty,pos,af,gd⟩ true:=by (exact zO)) (hd:Nat.blt d b.n=true:=by exact rfl) :
  WL P E X b Post l (⟨some d,.call ⟨.builtin .copy,#[x,y],#[t1,t2]⟩,ty,pos,af,gd⟩::rest) k L s:=
 WL.ex hw hd (zD9 h1 he hx hy hs hs2 (Src.rsl hn2) hr) (fun v s' ⟨e1,e2⟩=>by rw [e1,e2];exact g)
theorem zJb {x:Operand} {t1 elem T0:TypeId} {agg:Bool} {sz n cap bb off:Nat} {z c:List Value} {F:List HP}
  (g:WL P E X b Post l rest k L (box bb (lay c off (List.replicate n z).flatten) T0::F)) (hr:off+n*sz<=c.length)
  [h1:TyU P t1 (.slice elem)] [he:TyN P elem agg sz z] (hx:ev L x=some (.slice (some ⟨bb,off,none⟩) n cap):=by exact rfl) (hs:Sel s (box bb c T0) F:=by repeat (first|(with_reducible exact Sel.here)|(with_reducible apply Sel.there)))
  (hzl:vQ z sz=true:=by exact rfl) (hz0:0<sz:=by decide) (hz:vH z=true:=by exact rfl) (hw:Want L l ⟨none,.call ⟨.builtin .clear,#[x],#[t1]⟩,ty,pos,af,gd⟩ true:=by (exact zO)) :
  WL P E X b Post l (⟨none,.call ⟨.builtin .clear,#[x],#[t1]⟩,ty,pos,af,gd⟩::rest) k L s:=
 WL.ex hw rfl (zLg h1 he hx hs hr (vI hzl) hz0 (ZS hz)) (fun v s' ⟨_,e2⟩=>by rw [e2];exact g)
theorem zLv {x y:Operand} {t1 t2 elem T0:TypeId} {d2:TypeDesc} {agg:Bool} {sz n n2 cap cap2 bb off off2:Nat} {z c:List Value} {F:List HP}
  (g:DA P E X b Post l M eff rdx σ [] k ((d,.slice (some ⟨bb,off,none⟩) (n+n2) cap)::L) (box bb (lay c (off+n*sz) ((c.drop off2).take (n2*sz))) T0::F)) (hfit:n+n2<=cap) (hr:off+n*sz+n2*sz<=c.length) (hr2:off2+n2*sz<=c.length) (ho:∀ v∈(c.drop off2).take (n2*sz),Jy v=true)
  [h1:TyU P t1 (.slice elem)] [h2:TyU P t2 d2] [he:TyN P elem agg sz z] (hx:ev L x=some (.slice (some ⟨bb,off,none⟩) n cap):=by exact rfl) (hy:ev L y=some (.slice (some ⟨bb,off2,none⟩) n2 cap2):=by exact rfl) (hs:Sel s (box bb c T0) F:=by repeat (first|(with_reducible exact Sel.here)|(with_reducible apply Sel.there)))
  (hni:∀ k,d2≠.int k:=by (intro k e;cases e)) (hw:Want L l ⟨some d,.call ⟨.builtin .append,#[x,y],#[t1,t2]⟩,ty,pos,af,gd⟩ true:=by (exact zO)) (hd:Nat.blt d b.n=true:=by exact rfl) (hj:eff.contains j=true:=by exact rfl) :
  DA P E X b Post l M eff rdx ((j,⟨some d,.call ⟨.builtin .append,#[x,y],#[t1,t2]⟩,ty,pos,af,gd⟩)::σ) [] k L s:=
 DA.exP hw hd hj rfl (zC4 h1 h2 hni he hx hy hs hfit hr hr2 ho) (fun v s' ⟨e1,e2⟩=>by rw [e1,e2];exact ⟨PdOk.nil,g⟩)
theorem cmW {v:Value} {op:Op} (h:Cm P L ⟨some d,op,ty,pos,af,gd⟩ v) (g:WL P E X b Post l rest k ((d,v)::L) s) (hw:Want L l ⟨some d,op,ty,pos,af,gd⟩ true:=by (exact zO)) (hnd:Op.isDefer op=false:=by exact rfl) (hd:Nat.blt d b.n=true:=by exact rfl):WL P E X b Post l (⟨some d,op,ty,pos,af,gd⟩::rest) k L s:=WL.cm hw hnd hd h g
end
end Go.KL
end
section
namespace Go.KL
open Go
section
variable {P:Program} {E:Env} {X:Xs} {b:Fx} {Post:Value->List HP->Prop} {k:List Item} {L:Tm} {s:List HP} {l rest:List Oper} {M eff rdx:List Nat} {σ:List (Nat×Oper)} {pd:List (Nat×Oper×Value)} {j d:Nat} {dst:Option Nat} {ty:TypeId} {pos:String} {af:Array Edge} {gd:Option (Nat×Bool)}
theorem zHf {z:List Value} {n:Nat} (hz0:0<z.length):(Builtin.zeroCells z.toArray n).toList=(List.replicate n z).flatten:=by
 apply List.ext_getElem?;intro j;unfold Builtin.zeroCells;by_cases hj:j<n*z.length
 ·rw [JW hj];have:=Yr (z:=z.toArray) (n:=n*z.length) (j:=j) hj (by simpa using hz0)
  rw [Array.getElem?_toList];refine this.trans ?_;simp
 ·rw [List.getElem?_eq_none (by simp;simp at hj;omega),List.getElem?_eq_none (by simp;simp at hj;omega)]
theorem zB1 {x y:Operand} {t1 t2 elem:TypeId} {kk ky:IntKind} {agg:Bool} {sz bytes N n m cap:Nat} {z:List Value} {base:Option Addr} {es:List (List Value)} {A:HP} {F:List HP}
  (h1:TyU P t1 (.slice elem)) (h2:TyU P t2 (.int kk)) (he:TyN P elem agg sz z) (hby:TyB P elem bytes) (hx:ev L x=some (.slice base n cap)) (hy:ev L y=some (.int ky (m:Int))) (hs:Sel s A F) (hsrc:Src A base N sz es) (hn:n<=N) (hm:0<m)
  (hz1:∀ v∈z,Jy v=true) (hzl:z.length=sz) (hsz:0<sz) (hz:0<bytes) (hroom:(2*(n+m)+512)*bytes<=2^48) (hfit:cap<n+m) :
  Ex P E X b L s ⟨dst,.call ⟨.builtin .append,#[x,y],#[t1,t2]⟩,ty,pos,af,gd⟩ (fun v s'=>∃ base' cap',v=.slice base' (n+m) cap'/\s'=osl base' cap' elem sz (es.take n++List.replicate m z)::s):=by
 obtain ⟨ti,hti,hbytes⟩:=hby.h;obtain ⟨zv,hzv,hzc⟩:=Calm.zeroValue he;refine Ex.builtin (vs:=[.slice base n cap,.int ky (m:Int)]) (by show evs L [x,y]=_;simp [evs,hx,hy]) fun t cs=>?_
 unfold Go.builtin;simp only;refine T.bind (Q:=fun v s'=>∃ base' cap',v=.slice base' (n+m) cap'/\s'=osl base' cap' elem sz (es.take n++List.replicate m z)::s) ?_ fun v s' hq=>T.calm (Calm.pure _) ⟨v,rfl,hq⟩;refine T.pre (p:=ElOk sz es) (hs.pure fun r f k=>hsrc.ok r f k) fun ok=>?_;unfold Builtin.append_;simp only [List.getElem?_toArray,List.getElem?_cons_zero,List.getElem?_cons_succ];refine T.calmBind (Calm.underlying h1.h) ?_;simp only;refine T.calmBind (Calm.sizeOf' he) ?_;refine T.calmBind (Calm.underlying h2.h) ?_;refine T.calmBind (a:=true) (Calm.pure _) ?_;simp only [if_true];have hb:(m:Int)*(bytes:Int)<=2^48:=by
  have h:=Nat.mul_le_mul_right bytes (show m<=2*(n+m)+512 by omega)
  have:m*bytes<=2^48:=by omega
  exact_mod_cast this
 have hml:m<=2^48:=by
  have h:=Nat.mul_le_mul_left (2*(n+m)+512) hz;omega
 have hw:IntKind.i64.wrap (m:Int)=m:=zK (by omega)
 refine T.calmBind (a:=(m:Int)) ((Calm.pure _).bind (Calm.pure _)) ?_;simp only [hw];rw [if_neg (by omega)]
 refine T.calmBind (Calm.typeInfo hti) ?_;rw [hbytes,if_neg (by omega)]
 refine T.calmBind (a:=m) (Calm.pure _) ?_;have hmx:IntKind.i64.max=9223372036854775807:=rfl;have hnl:2*(n+m)+512<=2^48:=Nat.le_trans (Nat.le_mul_of_pos_right _ hz) hroom;simp only [Bool.not_true,Bool.false_eq_true,if_false];rw [if_neg (by omega)]
 refine T.calmBind (Calm.typeInfo hti) ?_;rw [if_neg (by omega)]
 refine T.calmBind (Calm.typeInfo hti) ?_;rw [if_neg (by
  have h1:=Yw (need:=n+m) (cap:=cap) (by omega)
  have h2:=Nat.mul_le_mul_right ti.bytes h1;rw [hbytes] at h2 ⊢;omega)]
 refine T.bind (Q:=fun x B=>(∃ t,x=(Question.appendCap (n+m) cap elem).cut t)/\B=s) (T.ext (T.chooseQ rfl) fun a A h=>by rw [h.2];exact ⟨h.1,rfl⟩) ?_
 rintro newCap B ⟨⟨t,rfl⟩,hB⟩;rw [hB];clear hB;have hnc:n+m<=(Question.appendCap (n+m) cap elem).cut t:=by simp [Question.cut]
 generalize (Question.appendCap (n+m) cap elem).cut t=nc at hnc;refine T.calmBind (Calm.typeInfo hti) ?_;refine T.bind T.askRoom ?_;rintro _ B hB;rw [hB];clear hB;have hfc:T P E (Builtin.firstCells sz n (.slice base n cap)) s (fun x B=>x=(es.take n).flatten.toArray/\B=s):=by
  have h:=T.firstCellsN (P:=P) (E:=E) (cap:=cap) hs hsrc hn;cases base <;> exact h
 refine T.bind hfc ?_;rintro _ B ⟨rfl,hB⟩;rw [hB];clear hB;have hmz:m*sz≠0:=Nat.ne_of_gt (Nat.mul_pos hm hsz);rw [if_neg hmz];refine T.calmBind (a:=Builtin.zeroCells zv.cells m) (hzv.bind (Calm.pure _)) ?_;refine T.calmBind hzv ?_;have ok1:ElOk sz (es.take n):=ok.sub fun e he=>List.mem_of_mem_take he;have ok2:ElOk sz (List.replicate m z):=⟨fun x hx=>by rw [List.eq_of_mem_replicate hx,hzl],fun x hx=>by rw [List.eq_of_mem_replicate hx];exact hz1⟩
 have hl1:(es.take n).flatten.length=n*sz:=by rw [ok1.flat,List.length_take,hsrc.len];congr 1;omega
 have hl2:(List.replicate m z).flatten.length=m*sz:=by rw [ok2.flat,List.length_replicate]
 have hzz:Builtin.zeroCells zv.cells m=((List.replicate m z).flatten).toArray:=by
  rw [hzc];apply Array.ext';rw [zHf (by omega)]
 rw [hzz];have hzs:(Builtin.zeroCells zv.cells (nc-(n+m))).toList.length=(nc-(n+m))*sz:=by
  have:=Xp (zero:=zv.cells) (n:=nc-(n+m))
  rw [hzc] at this ⊢;simpa [hzl] using this
 generalize Builtin.zeroCells zv.cells (nc-(n+m))=zc at hzs;have ec:(es.take n).flatten.toArray++(List.replicate m z).flatten.toArray++zc=((es.take n).flatten++(List.replicate m z).flatten++zc.toList).toArray:=by simp
 rw [ec];refine T.bind (T.newO (cap:=nc) (sz:=sz) (es:=es.take n++List.replicate m z) (ok1.append ok2) (by rw [List.length_append,List.length_take,List.length_replicate,hsrc.len];omega) ?_ (fun j v hj=>?_)) ?_
 ·simp only [List.length_append,hl1,hl2,hzs];rw [Nat.sub_mul,Nat.add_mul];have:=Nat.mul_le_mul_right sz hnc
  rw [Nat.add_mul] at this;omega
 ·rw [List.flatten_append] at hj;rw [List.getElem?_append_left]
  ·exact hj
  ·rw [List.getElem?_eq_some_iff] at hj;exact hj.1
 ·rintro _ _ ⟨bb,rfl,rfl⟩;exact T.calm (Calm.pure _) ⟨_,_,rfl,rfl⟩
theorem zKg {x y:Operand} {t1 t2 elem:TypeId} {kk ky:IntKind} {agg:Bool} {sz bytes N n m cap:Nat} {z:List Value} {base:Option Addr} {es:List (List Value)} {F:List HP} {mi:Int}
  (g:∀ base' cap',WL P E X b Post l rest k ((d,.slice base' (n+m) cap')::L) (osl base' cap' elem sz (es.take n++List.replicate m z)::s)) (hmi:mi=(m:Int)) (hn:n<=N) (hm:0<m) (hfit:cap<n+m) (hz1:∀ v∈z,Jy v=true) (hsz:0<sz) (hroom:(2*(n+m)+512)*bytes<=2^48)
  [h1:TyU P t1 (.slice elem)] [h2:TyU P t2 (.int kk)] [he:TyN P elem agg sz z] [hby:TyB P elem bytes] (hx:ev L x=some (.slice base n cap):=by exact rfl) (hy:ev L y=some (.int ky mi):=by exact rfl) (hs:Sel s (rsl base cap sz es) F:=by repeat (first|(with_reducible exact Sel.here)|(with_reducible apply Sel.there)))
  (hN:es.length=N:=by first|(with_reducible assumption)|exact rfl|exact List.length_map _|(simp;done)|(simp;omega)) (hzl:vQ z sz=true:=by exact rfl) (hz:0<bytes:=by decide)
  (hw:Want L l ⟨some d,.call ⟨.builtin .append,#[x,y],#[t1,t2]⟩,ty,pos,af,gd⟩ true:=by (exact zO)) (hd:Nat.blt d b.n=true:=by exact rfl):WL P E X b Post l (⟨some d,.call ⟨.builtin .append,#[x,y],#[t1,t2]⟩,ty,pos,af,gd⟩::rest) k L s:=
 WL.ex hw hd (zB1 h1 h2 he hby hx (hmi ▸ hy) hs (Src.rsl hN) hn hm hz1 (vI hzl) hsz hz hroom hfit) (fun v s' ⟨bb,cc,e1,e2⟩=>by rw [e1,e2];exact g bb cc)
theorem zJi {x y:Operand} {t1 t2 elem T0:TypeId} {agg:Bool} {sz n n2 cap cap2 bb off:Nat} {z c:List Value} {base2:Option Addr} {es2:List (List Value)} {F1 F:List HP}
  (g:DA P E X b Post l M eff rdx σ pd k ((d,.int .i64 ((min n2 n:Nat):Int))::L) (box bb (lay c off (es2.take (min n2 n)).flatten) T0::rsl base2 cap2 sz es2::F)) (hr:off+min n2 n*sz<=c.length)
  [h1:TyU P t1 (.slice elem)] [he:TyN P elem agg sz z] (hx:ev L x=some (.slice (some ⟨bb,off,none⟩) n cap):=by exact rfl) (hy:ev L y=some (.slice base2 n2 cap2):=by exact rfl) (hs:Sel s (box bb c T0) F1:=by repeat (first|(with_reducible exact Sel.here)|(with_reducible apply Sel.there))) (hs2:Sel F1 (rsl base2 cap2 sz es2) F:=by repeat (first|(with_reducible exact Sel.here)|(with_reducible apply Sel.there)))
  (hn2:es2.length=n2:=by first|(with_reducible assumption)|exact rfl|exact List.length_map _|(simp;done)|(simp;omega)) (hw:Want L l ⟨some d,.call ⟨.builtin .copy,#[x,y],#[t1,t2]⟩,ty,pos,af,gd⟩ true:=by (exact zO)) (hd:Nat.blt d b.n=true:=by exact rfl) (hj:eff.contains j=true:=by exact rfl) (hpd:PdOk P E M j ((d,.int .i64 ((min n2 n:Nat):Int))::L) (box bb (lay c off (es2.take (min n2 n)).flatten) T0::rsl base2 cap2 sz es2::F) pd:=by exact vX) :
  DA P E X b Post l M eff rdx ((j,⟨some d,.call ⟨.builtin .copy,#[x,y],#[t1,t2]⟩,ty,pos,af,gd⟩)::σ) pd k L s:=
 DA.exP hw hd hj rfl (zD9 h1 he hx hy hs hs2 (Src.rsl hn2) hr) (fun v s' ⟨e1,e2⟩=>by rw [e1,e2];exact ⟨hpd,g⟩)
theorem zN5 {x y:Operand} {t1 t2 elem T0:TypeId} {agg:Bool} {sz n n2 cap cap2 bb off off2:Nat} {z c:List Value} {F:List HP}
  (g:DA P E X b Post l M eff rdx σ pd k ((d,.int .i64 ((min n2 n:Nat):Int))::L) (box bb (lay c off ((c.drop off2).take (min n2 n*sz))) T0::F)) (hr:off+min n2 n*sz<=c.length) (hr2:off2+min n2 n*sz<=c.length) (ho:∀ v∈(c.drop off2).take (min n2 n*sz),Jy v=true)
  [h1:TyU P t1 (.slice elem)] [he:TyN P elem agg sz z] (hx:ev L x=some (.slice (some ⟨bb,off,none⟩) n cap):=by exact rfl) (hy:ev L y=some (.slice (some ⟨bb,off2,none⟩) n2 cap2):=by exact rfl) (hs:Sel s (box bb c T0) F:=by repeat (first|(with_reducible exact Sel.here)|(with_reducible apply Sel.there)))
  (hw:Want L l ⟨some d,.call ⟨.builtin .copy,#[x,y],#[t1,t2]⟩,ty,pos,af,gd⟩ true:=by (exact zO)) (hd:Nat.blt d b.n=true:=by exact rfl) (hj:eff.contains j=true:=by exact rfl) (hpd:PdOk P E M j ((d,.int .i64 ((min n2 n:Nat):Int))::L) (box bb (lay c off ((c.drop off2).take (min n2 n*sz))) T0::F) pd:=by exact vX) :
  DA P E X b Post l M eff rdx ((j,⟨some d,.call ⟨.builtin .copy,#[x,y],#[t1,t2]⟩,ty,pos,af,gd⟩)::σ) pd k L s:=
 DA.exP hw hd hj rfl (zHw h1 he hx hy hs hr hr2 ho) (fun v s' ⟨e1,e2⟩=>by rw [e1,e2];exact ⟨hpd,g⟩)
end
end Go.KL
end
section
namespace Go.KL
open Go
def At {α:Type} (P:Program) (w:World) (s:Sem α) (a:α):Prop:=∀ es,s.runT P w es=(.ok a w,es)
section
variable {α β:Type} {P:Program} {E:Env} {w:World}
theorem At.bind {s:Sem α} {a:α} {k:α->Sem β} {b:β} (h:At P w s a) (g:At P w (k a) b):At P w (s >>= k) b:=by
 intro es;show (Sem.bind s k).runT P w es=_;rw [Sem.runT_bind',h es];exact g es
theorem At.pure (a:α):At P w (Pure.pure a:Sem α) a:=fun _=>rfl
theorem Calm.at {s:Sem α} {a:α} (h:Calm P s a):At P w s a:=fun es=>h w es
theorem At.shape {b:Nat} {c:Array Value} {t:TypeId} {z:Nat×Nat} (h:w.heap[b]?=some (.cells c t z)):At P w (Go.shape b) (some (t,c.size)):=fun es=>by
 show Sem.runT P (.shape b .pure) w es=_;rw [Sem.runT];simp [World.shape?,h,Sem.runT,-Sem.runT_eq]
theorem At.frozen {b off:Nat} {c:Array Value} {t:TypeId} (h:w.heap[b]?=some (.cells c t (0,0))):At P w (Go.frozen ⟨b,off,none⟩) false:=fun es=>by
 show Sem.runT P (.frozen ⟨b,off,none⟩ .pure) w es=_;rw [Sem.runT];simp [World.frozen?,h,Sem.runT,-Sem.runT_eq]
theorem T.at {s:Sem α} {a:α} {A:List HP} {Q:α->List HP->Prop} (h:∀ w r f F,Sat E w r f->sep (A++F) r f->At P w s a) (q:Q a A):T P E s A Q:=
 fun w r f F es hs hA=>⟨a,w,#[],r,f,A,by rw [h w r f F hs hA es];simp,.refl hs,q,hA⟩
theorem At.viewAt {b:Nat} {c:Array Value} {t:TypeId} {z:Nat×Nat} (h:w.heap[b]?=some (.cells c t z)):At P w (Go.viewAt b) none:=by
 unfold Go.viewAt;refine (At.shape h).bind ?_;exact At.pure _
theorem At.noView {b off:Nat} {c:Array Value} {t:TypeId} {z:Nat×Nat} (h:w.heap[b]?=some (.cells c t z)):At P w (Go.noView ⟨b,off,none⟩) ():=by
 unfold Go.noView;refine (At.viewAt h).bind ?_;exact At.pure _
theorem At.stringish {b off:Nat} {c:Array Value} {t:TypeId} (h:w.heap[b]?=some (.cells c t (0,0))):At P w (Go.stringish ⟨b,off,none⟩) false:=by
 unfold Go.stringish;refine (At.frozen h).bind ?_;simp only [Bool.false_eq_true,if_false];refine (At.shape h).bind ?_;exact At.frozen h
theorem At.mayBeOne {b off b2 off2:Nat} {c c2:Array Value} {t t2:TypeId} (h:w.heap[b]?=some (.cells c t (0,0))) (h2:w.heap[b2]?=some (.cells c2 t2 (0,0))):At P w (Go.mayBeOne ⟨b,off,none⟩ ⟨b2,off2,none⟩) false:=by
 unfold Go.mayBeOne;refine (At.stringish h).bind ?_;refine (At.stringish h2).bind ?_;refine At.bind ((At.shape h).bind (At.pure _)) ?_;refine At.bind ((At.shape h2).bind (At.pure _)) ?_;exact At.pure _
theorem T.overlaps {t t' elem T1 T2:TypeId} {rs:Array TypeId} {agg:Bool} {sz b1 off1 b2 off2 n1 n2 cap1 cap2 nn:Nat} {z c:List Value} {es:List (List Value)} (h1:TyU P t (.slice elem)) (he:TyN P elem agg sz z) :
  T P E (Extern.SlicesOverlaps.overlaps #[t,t'] rs #[.slice (some ⟨b2,off2,none⟩) n2 nn,.slice (some ⟨b1,off1,none⟩) n1 cap1]) [box b1 c T1,osl (some ⟨b2,0,none⟩) cap2 T2 sz es] (fun v s'=>v=.bool false/\s'=[box b1 c T1,osl (some ⟨b2,0,none⟩) cap2 T2 sz es]):=by
 refine T.at (a:=.bool false) (fun w r f F hs hA=>?_) ⟨rfl,rfl⟩;obtain ⟨f1,f2,d,l1,l2,a1,g1,g2,d',m1,m2,a2,_⟩:=hA;have a1:f1 b1=some (.cells c.toArray T1 (0,0)):=a1;obtain ⟨c2,k2,_,_⟩:=(a2.2.2.2 ⟨b2,0,none⟩ rfl).2;have k2:g1 b2=some (.cells c2.toArray T2 (0,0)):=k2;have hb1:w.heap[b1]?=some (.cells c.toArray T1 (0,0)):=hs.own _ _ (l1.h _ _ a1) rfl;have hb2:w.heap[b2]?=some (.cells c2.toArray T2 (0,0)):=hs.own _ _ (l2.h _ _ (m1.h _ _ k2)) rfl;have hne:b2≠b1:=by
  rintro rfl;rcases d.h b2 with x|x
  ·rw [a1] at x;cases x
  ·rw [m1.h _ _ k2] at x;cases x
 refine At.bind (s:=underlying t) (Calm.underlying h1.h).at ?_;refine At.bind (s:=sizeOf elem) (Calm.sizeOf' he).at ?_;have hbb:(b2 != b1)=true:=by simpa using hne
 have hbf:(b2 == b1)=false:=by simpa using hne
 simp only [hbb,hbf,Bool.true_and,Bool.false_and];by_cases h0:n2=0∨n1=0∨sz=0
 ·rw [if_pos h0];exact At.pure _
 ·rw [if_neg h0];refine (At.frozen hb2).bind ?_;refine (At.frozen hb1).bind ?_;rw [if_neg (by simp),if_pos trivial]
  refine (At.noView hb2).bind ?_;refine (At.noView hb1).bind ?_;refine (At.mayBeOne hb2 hb1).bind ?_;exact At.pure _
end
end Go.KL
end
