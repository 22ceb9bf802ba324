/- Texts joined by a program of ours: Np Nq Nr. -/
import Derived.Test.YtjcbjclhagobiaaGreatJam
import Derived.Test.YtjcbjclhagobiaaGreatJan
set_option linter.all false
section
namespace Go.Proofs.YtjcbjclhagobiaaGreat
open Go Go.KL Go.KM
theorem Qc (a b:Nat):∀ (k:Nat) (l:List Nat),2*k+1<l.length->wsum ((l.set (2*k) a).set (2*k+1) b)+w16 l (2*k)=wsum l+(a*256+b)
 | 0,x::y::r,_=>by
  simp only [w16,List.set_cons_zero,Nat.mul_zero,Nat.zero_add,List.set_cons_succ,wsum,List.getD_cons_zero,List.getD_cons_succ];omega
 | 0,[x],h=>by simp at h
 | 0,[],h=>by simp at h
 | k+1,x::y::r,h=>by
  have ih:=Qc a b k r (by simp only [List.length_cons] at h;omega)
  have e1:2*(k+1)=2*k+1+1:=by omega
  have e2:2*(k+1)+1=2*k+1+1+1:=by omega
  rw [e2,e1];simp only [List.set_cons_succ,wsum,w16,List.getD_cons_succ] at ih ⊢;omega
 | k+1,[x],h=>by simp at h
 | k+1,[],h=>by simp at h
theorem zKH (a:Nat) {l:List Nat} (k:Nat) (h:2*k+1<l.length):wsum (l.set (2*k) a)+w16 l (2*k)=wsum l+(a*256+l.getD (2*k+1) 0):=by
 have:=Qc a (l.getD (2*k+1) 0) k l h
 have e:(l.set (2*k) a).set (2*k+1) (l.getD (2*k+1) 0)=l.set (2*k) a:=by
  apply List.ext_getElem?;intro j;by_cases hj:j=2*k+1
  ·subst hj;rw [List.getElem?_set_self (by rw [List.length_set];exact h),List.getElem?_set_ne (by omega),List.getD_eq_getElem?_getD,List.getElem?_eq_getElem h];rfl
  ·rw [List.getElem?_set_ne (fun e=>hj e.symm)]
 rw [e] at this;exact this
theorem zEn:∀ (l:List Nat),2<=l.length->w16 l 0<=wsum l
 | x::y::r,_=>by simp only [w16,wsum,List.getD_cons_zero,List.getD_cons_succ,Nat.zero_add];omega
 | [x],h=>by simp at h
 | [],h=>by simp at h
theorem zAO {l:List Nat} (h:0<wsum l):XC l=true↔wsum l%65535=0:=by
 unfold XC xV ZC;rw [decide_eq_true_iff,if_neg (by omega)]
 omega
theorem zDB {n:Nat} (h:0<n):1<=ZC n/\ZC n<=65535/\ZC n%65535=n%65535:=by
 unfold ZC;rw [if_neg (by omega)]
 omega
def patched (H:List Nat):List Nat:=((H.set 8 (H.getD 8 0-1)).set 10 (Wz (w16 (H.set 8 (H.getD 8 0-1)) 10) (w16 H 8) (w16 (H.set 8 (H.getD 8 0-1)) 8) / 256)).set 11 (Wz (w16 (H.set 8 (H.getD 8 0-1)) 10) (w16 H 8) (w16 (H.set 8 (H.getD 8 0-1)) 8)%256)
theorem zMF {l:List Nat} (hl:∀ x∈l,x<256) {k:Nat} (h:k+1<l.length):w16 l k<=65535:=by
 obtain ⟨_,a⟩:=xX hl (k:=k) (by omega)
 obtain ⟨_,b⟩:=xX hl (k:=k+1) h;unfold w16;omega
theorem zM {l:List Nat} {i j x:Nat} (h:i≠j):(l.set i x).getD j 0=l.getD j 0:=by
 rw [List.getD_eq_getElem?_getD,List.getD_eq_getElem?_getD,List.getElem?_set_ne h]
theorem vJ {l:List Nat} {i x:Nat} (h:i<l.length):(l.set i x).getD i 0=x:=by
 rw [List.getD_eq_getElem?_getD,List.getElem?_set_self h];rfl
theorem zHO {H:List Nat} (hl:∀ x∈H,x<256) (h20:20<=H.length) (hv:0<H.getD 0 0) (ht:2<=H.getD 8 0) (hc:XC H=true):XC (patched H)=true/\Xo (patched H)=patched H:=by
 have hw0:=zEn H (by omega)
 have hw0':256<=w16 H 0:=by unfold w16;omega
 have hS:=(zAO (by omega)).1 hc
 have hm:=zMF hl (k:=8) (by omega)
 have hcs:=zMF hl (k:=10) (by omega)
 obtain ⟨H1,hH1⟩:∃ H1,H1=H.set 8 (H.getD 8 0-1):=⟨_,rfl⟩;have l1:H1.length=H.length:=by rw [hH1,List.length_set]
 have s1:=zKH (H.getD 8 0-1) (l:=H) 4 (by omega)
 rw [show 2*4=8 from rfl,<-hH1] at s1;have m1:w16 H1 8+256=w16 H 8:=by
  unfold w16;rw [hH1,vJ (by omega),zM (by omega)];omega
 have c1:w16 H1 10=w16 H 10:=by
  unfold w16;rw [hH1,zM (by omega),zM (by omega)]
 have w8:w16 H 8=H.getD 8 0*256+H.getD 9 0:=rfl;have p1:wsum H1+256=wsum H:=by
  simp only [show 8+1=9 from rfl] at s1;omega
 obtain ⟨C,hC⟩:∃ C,C=Wz (w16 H1 10) (w16 H 8) (w16 H1 8):=⟨_,rfl⟩;have hCv:C<=65534/\C%65535=(w16 H 10+256)%65535:=by
  have hX:0<xV (w16 H1 10)+xV (w16 H 8)+w16 H1 8:=by unfold xV;omega
  obtain ⟨f1,f2,f3⟩:=zDB hX;rw [hC];unfold Wz;unfold xV at f1 f2 f3 ⊢;rw [c1] at f1 f2 f3 ⊢;omega
 have hP:patched H=(H1.set 10 (C / 256)).set 11 (C%256):=by unfold patched;rw [<-hH1,<-hC]
 have s2:=Qc (C / 256) (C%256) 5 H1 (by omega)
 rw [show 2*5=10 from rfl,show 10+1=11 from rfl,<-hP,c1] at s2;have lP:(patched H).length=H.length:=by rw [hP,List.length_set,List.length_set,l1]
 have hP0:w16 (patched H) 0=w16 H 0:=by
  unfold w16;rw [hP,hH1];simp only [zM (show 11≠0 by omega),zM (show 10≠0 by omega),zM (show 8≠0 by omega),zM (show 11≠0+1 by omega),zM (show 10≠0+1 by omega),zM (show 8≠0+1 by omega)]
 have hPw:=zEn (patched H) (by omega)
 have hP10:w16 (patched H) 10=C:=by
  unfold w16;rw [hP,zM (by omega),vJ (by rw [l1];omega),vJ (by rw [List.length_set,l1];omega)];omega
 have hS':wsum (patched H)%65535=0:=by omega
 refine ⟨(zAO (by omega)).2 hS',?_⟩
 have s3:=Qc 0 0 5 (patched H) (by omega)
 rw [show 2*5=10 from rfl,show 10+1=11 from rfl,hP10] at s3;have hz:wsum (ZA (patched H))+C=wsum (patched H):=by unfold ZA;omega
 have hz0:w16 (ZA (patched H)) 0=w16 (patched H) 0:=by
  unfold w16 ZA;simp only [zM (show 11≠0 by omega),zM (show 10≠0 by omega),zM (show 11≠0+1 by omega),zM (show 10≠0+1 by omega)]
 have hzw:=zEn (ZA (patched H)) (by unfold ZA;rw [List.length_set,List.length_set];omega)
 obtain ⟨g1,g2,g3⟩:=zDB (n:=wsum (ZA (patched H))) (by omega)
 have hf:sum10 (patched H)=C:=by
  unfold sum10 xV;omega
 unfold Xo;rw [hf];unfold ZA;rw [hP];apply List.ext_getElem?;intro j;by_cases h10:j=10
 ·subst h10;simp [List.getElem?_set,l1]
 ·by_cases h11:j=11
  ·subst h11;simp [List.getElem?_set,l1]
  ·simp only [List.getElem?_set_ne (fun e=>h10 (Eq.symm e)),List.getElem?_set_ne (fun e=>h11 (Eq.symm e))]
end Go.Proofs.YtjcbjclhagobiaaGreat
end
section
namespace Go.Proofs.YtjcbjclhagobiaaGreat
open Go Go.KL Go.KM
theorem yP {l:List Nat} {n i:Nat} (h:i<n):(l.take n).getD i 0=l.getD i 0:=by
 rw [List.getD_eq_getElem?_getD,List.getD_eq_getElem?_getD,List.getElem?_take_of_lt h]
theorem wO {l:List Nat} {n i k:Nat} (h:i+k<=n):((l.take n).drop i).take k=(l.drop i).take k:=by
 rw [List.drop_take,List.take_take];congr 1;omega
theorem zGD {l:List Nat} {n:Nat} (h:20<=n):zF (l.take n)=zF l:=by
 unfold zF w16;rw [yP (show 0<n by omega),yP (show 2<n by omega),yP (show 2+1<n by omega),yP (show 8<n by omega),yP (show 9<n by omega),wO (show 12+4<=n by omega),wO (show 16+4<=n by omega)]
structure Well4 (l:List Nat):Prop where
 v:l.getD 0 0 / 16=4
 len:20<=(zF l).long
 le:(zF l).long<=(zF l).total
 tot:(zF l).total<=l.length
 chk:XC (l.take (zF l).long)=true
 str:Xd (l.getD 12 0) (l.getD 16 0)=false
theorem Wh {l:List Nat}:yK l=0↔Well4 l:=by
 constructor
 ·intro h;unfold yK at h;split at h;· cases h
  split at h;· cases h
  split at h;· cases h
  split at h;· cases h
  split at h;· cases h
  split at h;· cases h
  rename_i h1 h2 h3 h4 h5 h6
  exact ⟨by omega,by omega,by omega,by omega,by simpa using h5,by simpa using h6⟩
 ·rintro ⟨h2,h3,h4,h5,h6,h7⟩;unfold yK;rw [if_neg (by omega),if_neg (by omega),if_neg (by omega),if_neg (by omega),if_neg (by rw [h6];simp),if_neg (by rw [h7];simp)]
theorem Well4.take {l:List Nat} (h:Well4 l):Well4 (l.take (zF l).total)/\zF (l.take (zF l).total)=zF l:=by
 have a:=h.len;have b:=h.le;have c:=h.tot;have hr:=zGD (l:=l) (n:=(zF l).total) (by omega)
 refine ⟨⟨by rw [yP (by omega)];exact h.v,by rw [hr];exact a,by rw [hr];exact b,by rw [hr,List.length_take];omega,?_,?_⟩,hr⟩
 ·rw [hr,List.take_take,Nat.min_eq_left b];exact h.chk
 ·rw [yP (by omega),yP (by omega)];exact h.str
theorem zMs {l:List Nat}:wA l=4↔0<l.length/\l.getD 0 0 / 16=4:=by
 unfold wA;split
 ·constructor
  ·intro h;cases h
  ·intro h;omega
 ·split
  ·exact ⟨fun _=>⟨by omega,by assumption⟩,fun _=>rfl⟩
  ·split
   ·constructor
    ·intro h;cases h
    ·intro h;omega
   ·constructor
    ·intro h;cases h
    ·intro h;omega
theorem zMt {l:List Nat}:wA l=6↔0<l.length/\l.getD 0 0 / 16=6:=by
 unfold wA;split
 ·constructor
  ·intro h;cases h
  ·intro h;omega
 ·split
  ·constructor
   ·intro h;cases h
   ·intro h;omega
  ·split
   ·exact ⟨fun _=>⟨by omega,by assumption⟩,fun _=>rfl⟩
   ·constructor
    ·intro h;cases h
    ·intro h;omega
theorem VP {l:List Nat} (h:Well4 l):wA l=4/\zV l=0/\pdP l=pd4 (zF l):=by
 have a:=h.len;have b:=h.le;have c:=h.tot;have hk:wA l=4:=zMs.2 ⟨by omega,h.v⟩
 have hw:zV l=0:=by unfold zV;rw [if_pos hk];exact Wh.2 h
 exact ⟨hk,hw,by unfold pdP;rw [if_pos hw,if_pos hk]⟩
theorem Well4.hop {l:List Nat} (hl:∀ x∈l,x<256) (h:Well4 l) (ht:2<=(zF l).ttl):Well4 (zBI l)/\zF (zBI l)={ zF l with ttl:=(zF l).ttl-1 }/\Xo ((zBI l).take (zF l).long)=(zBI l).take (zF l).long/\(zBI l).length=(zF l).total:=by
 have a:=h.len;have b:=h.le;have c:=h.tot;obtain ⟨w,hr⟩:=h.take;obtain ⟨o,ho⟩:∃ o,o=l.take (zF l).total:=⟨_,rfl⟩;have hol:∀ x∈o,x<256:=fun x hx=>hl x (List.mem_of_mem_take (ho ▸ hx));rw [<-ho] at w hr;have hlo:o.length=(zF l).total:=by rw [ho,List.length_take];omega
 have hP:zBI l=patched o:=by unfold zBI patched;rw [<-ho]
 have ht8:o.getD 8 0=(zF l).ttl:=by rw [<-hr];rfl
 have hpl:(patched o).length=o.length:=by unfold patched;simp only [List.length_set]
 have g:∀ i,i≠8->i≠10->i≠11->(patched o).getD i 0=o.getD i 0:=fun i h8 h10 h11=>by
  unfold patched;rw [zM (fun e=>h11 e.symm),zM (fun e=>h10 e.symm),zM (fun e=>h8 e.symm)]
 have g8:(patched o).getD 8 0=o.getD 8 0-1:=by
  unfold patched;rw [zM (by omega),zM (by omega),vJ (by omega)]
 have gd:∀ i,12<=i->(patched o).drop i=o.drop i:=fun i hi=>by
  unfold patched;rw [List.drop_set_of_lt (by omega),List.drop_set_of_lt (by omega),List.drop_set_of_lt (by omega)]
 have hrP:zF (patched o)={ zF l with ttl:=(zF l).ttl-1 }:=by
  rw [<-hr];unfold zF w16;rw [g 0 (by omega) (by omega) (by omega),g 2 (by omega) (by omega) (by omega),g (2+1) (by omega) (by omega) (by omega),g8,g 9 (by omega) (by omega) (by omega),gd 12 (by omega),gd 16 (by omega)]
 have htk:(patched o).take (zF l).long=patched (o.take (zF l).long):=by
  unfold patched w16;simp only [List.take_set];have e:∀ i,i<20->(o.take (zF l).long).getD i 0=o.getD i 0:=fun i hi=>yP (by omega)
  have e2:∀ (i x:Nat),i<20->((o.take (zF l).long).set 8 x).getD i 0=(o.set 8 x).getD i 0:=fun i x hi=>by
   rw [<-List.take_set,yP (by omega)]
  rw [e 8 (by omega),e (8+1) (by omega),e2 10 _ (by omega),e2 (10+1) _ (by omega),e2 8 _ (by omega),e2 (8+1) _ (by omega)]
 have hv:64<=o.getD 0 0:=by have:=w.v;omega
 have hpk:=zHO (H:=o.take (zF l).long) (fun x hx=>hol x (List.mem_of_mem_take hx)) (by rw [List.length_take];omega) (by rw [yP (by omega)];omega) (by rw [yP (by omega),ht8];exact ht) (by have:=w.chk;rw [hr] at this;exact this)
 rw [hP];refine ⟨⟨by rw [g 0 (by omega) (by omega) (by omega)];exact w.v,by rw [hrP];exact a,by rw [hrP];exact b,by rw [hrP,hpl];show (zF l).total<=_;omega,?_,?_⟩,hrP,?_,by rw [hpl,hlo]⟩
 ·rw [hrP];show XC ((patched o).take (zF l).long)=true;rw [htk];exact hpk.1
 ·rw [g 12 (by omega) (by omega) (by omega),g 16 (by omega) (by omega) (by omega)];exact w.str
 ·rw [htk];exact hpk.2
end Go.Proofs.YtjcbjclhagobiaaGreat
end
section
namespace Go.Proofs.YtjcbjclhagobiaaGreat
open Go Go.KL Go.KM
theorem zF8 {o:List Nat} {k x i n:Nat} (h:i+n<=k):((o.set k x).drop i).take n=(o.drop i).take n:=by
 apply List.ext_getElem?;intro j;rcases Nat.lt_or_ge j n with hj|hj
 ·rw [List.getElem?_take_of_lt hj,List.getElem?_take_of_lt hj,List.getElem?_drop,List.getElem?_drop,List.getElem?_set_ne (by omega)]
 ·rw [List.getElem?_take,List.getElem?_take,if_neg (by omega),if_neg (by omega)]
theorem zHM {l:List Nat} {n:Nat} (h:40<=n):zX (l.take n)=zX l:=by
 unfold zX;rw [yP (show 6<n by omega),yP (show 7<n by omega),wO (show 8+16<=n by omega),wO (show 24+16<=n by omega),wO (show 4+2<=n by omega),List.take_take,show min 4 n=4 by omega]
theorem zJ4 {l:List Nat} {x:Nat} (h:40<=l.length):zX (l.set 7 x)={ zX l with ttl:=x }:=by
 unfold zX;have e:=zF8 (o:=l) (k:=7) (x:=x) (i:=0) (n:=4) (by omega)
 rw [List.drop_zero,List.drop_zero] at e;rw [zM (show 7≠6 by omega),vJ (by omega),e,zF8 (show 4+2<=7 by omega),List.drop_set_of_lt (show 7<8 by omega),List.drop_set_of_lt (show 7<24 by omega)]
structure Well6 (l:List Nat):Prop where
 v:l.getD 0 0 / 16=6
 len:(zX l).pay+40<=l.length
 str:QW (zX l).src (zX l).dst=false
theorem zCK {l:List Nat}:xK l=0↔Well6 l:=by
 constructor
 ·intro h;unfold xK at h;split at h;· cases h
  split at h;· cases h
  split at h;· cases h
  split at h;· cases h
  rename_i h1 h2 h3 h4
  exact ⟨by omega,by omega,by simpa using h4⟩
 ·rintro ⟨h2,h3,h4⟩;unfold xK;rw [if_neg (by omega),if_neg (by omega),if_neg (by omega),if_neg (by rw [h4];simp)]
theorem Well6.take {l:List Nat} (h:Well6 l):Well6 (l.take (40+(zX l).pay))/\zX (l.take (40+(zX l).pay))=zX l:=by
 have a:=h.len;have hr:=zHM (l:=l) (n:=40+(zX l).pay) (by omega)
 exact ⟨⟨by rw [yP (by omega)];exact h.v,by rw [hr,List.length_take];omega,by rw [hr];exact h.str⟩,hr⟩
theorem Well6.hop {l:List Nat} (h:Well6 l):Well6 (zFP l)/\zX (zFP l)={ zX l with ttl:=(zX l).ttl-1 }/\(zFP l).length=40+(zX l).pay:=by
 obtain ⟨w,hr⟩:=h.take;have a:=h.len;have hlo:(l.take (40+(zX l).pay)).length=40+(zX l).pay:=by rw [List.length_take];omega
 have hh:zFP l=(l.take (40+(zX l).pay)).set 7 ((l.take (40+(zX l).pay)).getD 7 0-1):=rfl;have e:=zJ4 (l:=l.take (40+(zX l).pay)) (x:=(l.take (40+(zX l).pay)).getD 7 0-1) (by omega)
 have ht:(l.take (40+(zX l).pay)).getD 7 0=(zX l).ttl:=by rw [yP (by omega)];rfl
 rw [hr,ht] at e;rw [hh,ht];refine ⟨⟨by rw [zM (by omega)];exact w.v,?_,?_⟩,e,by rw [List.length_set,hlo]⟩
 ·rw [e,List.length_set,hlo];show (zX l).pay+40<=_;omega
 ·rw [e];exact h.str
theorem Vj {l:List Nat} (h:Well6 l):wA l=6/\zV l=0/\pdP l=pd6 (zX l):=by
 have a:=h.len;have hk:wA l=6:=zMt.2 ⟨by omega,h.v⟩
 have hw:zV l=0:=by unfold zV;rw [if_neg (by omega),if_pos hk];exact zCK.2 h
 exact ⟨hk,hw,by unfold pdP;rw [if_pos hw,if_neg (by omega)]⟩
theorem wellP {l:List Nat} (h:zV l=0):Well4 l∨Well6 l:=by
 rcases kindP_is l with ⟨k,_⟩|⟨k,_⟩|⟨k,w⟩
 ·left;unfold zV at h;rw [if_pos k] at h;exact Wh.1 h
 ·right;unfold zV at h;rw [if_neg (by omega),if_pos k] at h;exact zCK.1 h
 ·unfold zV at h;rw [if_neg (by omega),if_neg (by omega)] at h;exact absurd h w
structure ChkOk (p:List Nat) (v:Vd):Prop where
 kind:v.kind=0∨v.kind=1∨v.kind=2
 drop:v.kind=0->v.out=[]/\v.why≠0/\(zV p≠0->v.why=zV p)
 wrong:v.kind≠0->zV p=0/\zV v.out=0/\(pdP p).to=(pdP v.out).to/\0<v.out.length
 via:v.kind=1->2<=(pdP p).left/\(pdP v.out).left=(pdP p).left-1
 loc:v.kind=2->(pdP v.out).left=(pdP p).left
 four:v.kind≠0->yK v.out=0->20<=(zF v.out).long/\(zF v.out).long<=v.out.length/\(v.kind=1->Xo (v.out.take (zF v.out).long)=v.out.take (zF v.out).long)
theorem zPd {l:List Nat} (h:Well6 l):yK l≠0:=fun e=>by
 have a:=(Wh.1 e).v;have b:=h.v;omega
theorem zIL (h:HSt) {l:List Nat} (hl:∀ x∈l,x<256):ChkOk l (judgeP h l).2:=by
 unfold judgeP;split
 ·rename_i hw
  exact ⟨.inl rfl,fun _=>⟨rfl,hw,fun _=>rfl⟩,fun h=>absurd rfl h,fun h=>(by cases h),fun h=>(by cases h),fun h=>absurd rfl h⟩
 ·rename_i hw
  have hw:zV l=0:=by simpa using hw
  split
  ·exact ⟨.inl rfl,fun _=>⟨rfl,(show (7:Int)≠0 by decide),fun h=>absurd hw h⟩,fun h=>absurd rfl h,fun h=>(by cases h),fun h=>(by cases h),fun h=>absurd rfl h⟩
  ·rename_i x _
   split
   ·refine ⟨.inr (.inr rfl),fun h=>(by cases h),fun _=>?_,fun h=>(by cases h),fun _=>?_,fun _ h4=>?_⟩
    ·rcases wellP hw with w|w
     ·obtain ⟨k,_,p⟩:=VP w;obtain ⟨w2,r2⟩:=w.take;obtain ⟨k2,q2,p2⟩:=VP w2;have e:(pdP l).long=(zF l).total:=by rw [p];rfl
      show zV l=0/\zV (l.take (pdP l).long)=0/\(pdP l).to=(pdP (l.take (pdP l).long)).to/\0<(l.take (pdP l).long).length;rw [e];refine ⟨hw,q2,by rw [p,p2,r2],?_⟩
      have:=w.tot;have:=w.len;have:=w.le
      rw [List.length_take];omega
     ·obtain ⟨k,_,p⟩:=Vj w;obtain ⟨w2,r2⟩:=w.take;obtain ⟨k2,q2,p2⟩:=Vj w2;have e:(pdP l).long=40+(zX l).pay:=by rw [p];rfl
      show zV l=0/\zV (l.take (pdP l).long)=0/\(pdP l).to=(pdP (l.take (pdP l).long)).to/\0<(l.take (pdP l).long).length;rw [e];refine ⟨hw,q2,by rw [p,p2,r2],?_⟩
      have:=w.len
      rw [List.length_take];omega
    ·rcases wellP hw with w|w
     ·obtain ⟨k,_,p⟩:=VP w;obtain ⟨w2,r2⟩:=w.take;obtain ⟨k2,q2,p2⟩:=VP w2;have e:(pdP l).long=(zF l).total:=by rw [p];rfl
      show (pdP (l.take (pdP l).long)).left=_;rw [e,p,p2,r2]
     ·obtain ⟨k,_,p⟩:=Vj w;obtain ⟨w2,r2⟩:=w.take;obtain ⟨k2,q2,p2⟩:=Vj w2;have e:(pdP l).long=40+(zX l).pay:=by rw [p];rfl
      show (pdP (l.take (pdP l).long)).left=_;rw [e,p,p2,r2]
    ·have w:=Wh.1 h4;exact ⟨w.len,Nat.le_trans w.le w.tot,fun h=>(by cases h)⟩
   ·split
    ·exact ⟨.inl rfl,fun _=>⟨rfl,(show (8:Int)≠0 by decide),fun h=>absurd hw h⟩,fun h=>absurd rfl h,fun h=>(by cases h),fun h=>(by cases h),fun h=>absurd rfl h⟩
    ·rename_i hleft
     rcases wellP hw with w|w
     ·obtain ⟨k,_,p⟩:=VP w;have e:Wl l=zBI l:=by unfold Wl;rw [if_pos k]
      have ht:2<=(zF l).ttl:=by rw [p] at hleft;show 2<=(pd4 (zF l)).left;omega
      obtain ⟨w2,r2,f2,l2⟩:=w.hop hl ht;obtain ⟨k2,q2,p2⟩:=VP w2;have:=w.len;have:=w.le
      refine ⟨.inr (.inl rfl),fun h=>(by cases h),fun _=>?_,fun _=>?_,fun h=>(by cases h),fun _ h4=>?_⟩
      ·show zV l=0/\zV (Wl l)=0/\(pdP l).to=(pdP (Wl l)).to/\0<(Wl l).length;rw [e];exact ⟨hw,q2,by rw [p,p2,r2];rfl,by omega⟩
      ·show 2<=(pdP l).left/\(pdP (Wl l)).left=(pdP l).left-1;rw [e,p,p2,r2];exact ⟨ht,rfl⟩
      ·show 20<=(zF (Wl l)).long/\(zF (Wl l)).long<=(Wl l).length/\(_->Xo ((Wl l).take (zF (Wl l)).long)=(Wl l).take (zF (Wl l)).long);rw [e,r2];exact ⟨w.len,by show (zF l).long<=_;omega,fun _=>f2⟩
     ·obtain ⟨k,_,p⟩:=Vj w;have e:Wl l=zFP l:=by unfold Wl;rw [if_neg (by omega)]
      obtain ⟨w2,r2,l2⟩:=w.hop;obtain ⟨k2,q2,p2⟩:=Vj w2;refine ⟨.inr (.inl rfl),fun h=>(by cases h),fun _=>?_,fun _=>?_,fun h=>(by cases h),fun _ h4=>?_⟩
      ·show zV l=0/\zV (Wl l)=0/\(pdP l).to=(pdP (Wl l)).to/\0<(Wl l).length;rw [e];exact ⟨hw,q2,by rw [p,p2,r2];rfl,by omega⟩
      ·show 2<=(pdP l).left/\(pdP (Wl l)).left=(pdP l).left-1;rw [e,p2,r2];refine ⟨by omega,?_⟩
       rw [p];rfl
      ·have h4:yK (Wl l)=0:=h4;rw [e] at h4;exact absurd h4 (zPd w2)
end Go.Proofs.YtjcbjclhagobiaaGreat
end
