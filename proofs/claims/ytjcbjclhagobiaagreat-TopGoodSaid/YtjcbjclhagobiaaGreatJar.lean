/- Texts joined by a program of ours: Nv. -/
import Derived.Test.YtjcbjclhagobiaaGreatJak
set_option linter.all false
section
namespace Go.Proofs.YtjcbjclhagobiaaGreat
open Go Go.KL Go.KM
theorem zLt {x j:Nat} (hx:x<18446744073709551616) (hj:j<lead x):x.testBit (63-j)=false:=by
 unfold lead blen at hj;by_cases h0:x=0
 ·subst h0;simp
 ·rw [if_neg h0] at hj;have h1:x<2^(x.log2+1):=Nat.lt_log2_self;exact Nat.testBit_lt_two_pow (Nat.lt_of_lt_of_le h1 (Nat.pow_le_pow_right (by decide) (by omega)))
theorem zMD {a:Ad} {i:Nat} (h:i<width a.v6):a.rd.dig i=a.dig i:=by
 unfold Ad.rd;have:=yD a.v6
 rw [ZD (by omega)]
 simp [h]
theorem zAZ {a b:Ad} {j:Nat} (h:j<a.common b):a.dig j=b.dig j:=by
 unfold Ad.common at h;split at h
 ·rename_i hv
  have hw:=yD a.v6;have hj:j<width a.v6:=by omega
  rw [<-zMD hj,<-zMD (a:=b) (by rw [<-hv];exact hj)]
  have key:∀ {x y k:Nat},x<18446744073709551616->y<18446744073709551616->k<lead (x ^^^ y)->x.testBit (63-k)=y.testBit (63-k):=by
   intro x y k hx hy hk;have:=zLt (zA7 hx hy) hk
   rw [Nat.testBit_xor] at this;simpa using this
  unfold Ad.dig;by_cases h64:j<64
  ·rw [if_pos h64,if_pos h64];refine key a.rd.h1 b.rd.h1 ?_;split at h <;> omega
  ·rw [if_neg h64,if_neg h64];have:lead (a.rd.hi ^^^ b.rd.hi)=64:=by
    have l1:lead (a.rd.hi ^^^ b.rd.hi)<=64:=by unfold lead;omega
    split at h
    ·assumption
    ·omega
   rw [if_pos this] at h;have:=key a.rd.h2 b.rd.h2 (k:=j-64) (by omega)
   rwa [show 63-(j-64)=127-j by omega] at this
 ·cases h
theorem zI6 {p:Pf} {a:Ad}:p.has a=true↔p.sane=true/\a.v6=p.a.v6/\∀ i,i<p.n.toNat->a.dig i=p.a.dig i:=by
 unfold Pf.has;rw [Bool.and_eq_true,decide_eq_true_eq];refine and_congr_right fun hs=>?_;obtain ⟨⟨hn1,hn2⟩,hz⟩:=wS.1 hs;have hw:=yD p.a.v6;constructor
 ·intro e;have hv:p.a.v6=a.v6:=congrArg (fun q:Pf=>q.a.v6) e;have hc:yT p.n a.v6=p.n.toNat:=by unfold yT;rw [<-hv];omega
  refine ⟨hv.symm,fun i hi=>?_⟩;have hd:p.a.dig i=(ofP a p.n).a.dig i:=congrArg (fun q:Pf=>q.a.dig i) e;rw [hd];show a.dig i=(a.cut (yT p.n a.v6)).dig i;rw [ZD (by omega),hc]
  simp [hi]
 ·rintro ⟨hv,hd⟩;have hc:yT p.n a.v6=p.n.toNat:=by unfold yT;rw [hv];omega
  refine Pf.ext (zAc hv.symm fun i hi=>?_) ?_
  ·show p.a.dig i=(a.cut (yT p.n a.v6)).dig i;rw [ZD hi,hc];by_cases hlt:i<p.n.toNat
   ·rw [hd i hlt];simp [hlt]
   ·rw [hz i (by omega) hi];simp [hlt]
  ·show p.n=((yT p.n a.v6:Nat):Int);rw [hc];omega
theorem zKf {x y:Pf×Int} (hx:x.1.sane=true) (hy:y.1.sane=true) (h:zFV x y):x.1.apart y.1=true:=by
 unfold Pf.apart;rw [hx,hy,Bool.true_and,Bool.true_and,Bool.or_eq_true];by_cases hv:x.1.a.v6=y.1.a.v6
 ·right
  refine decide_eq_true ?_;apply Classical.byContradiction;intro hc;have s1:=xY hx;have s2:=xY hy;rcases Int.le_total x.1.n y.1.n with g|g
  ·have:x.1.covers y.1=true:=by
    unfold Pf.covers;rw [decide_eq_true g,hy,Bool.true_and,Bool.true_and,zI6];exact ⟨hx,hv.symm,fun i hi=>(zAZ (a:=x.1.a) (b:=y.1.a) (by omega)).symm⟩
   rw [h.1] at this;cases this
  ·have:y.1.covers x.1=true:=by
    unfold Pf.covers;rw [decide_eq_true g,hx,Bool.true_and,Bool.true_and,zI6];exact ⟨hy,hv,fun i hi=>zAZ (a:=x.1.a) (b:=y.1.a) (by omega)⟩
   rw [h.2] at this;cases this
 ·left
  simp [hv]
theorem zNG {a:Ad}:a.sane=true↔∀ i,width a.v6<=i->i<128->a.dig i=false:=by
 have e:a.sane=true↔a.rd=a:=by
  unfold Ad.sane QB;rw [Bool.and_eq_true,decide_eq_true_eq,decide_eq_true_eq];constructor
  ·rintro ⟨h1,h2⟩;exact Ad.ext h1 h2 rfl
  ·intro h;exact ⟨congrArg Ad.hi h,congrArg Ad.lo h⟩
 rw [e];constructor
 ·intro h i h1 h2;rw [<-h];unfold Ad.rd;rw [ZD h2];simp;omega
 ·intro h;refine zAc rfl fun i hi=>?_;unfold Ad.rd;rw [ZD hi];by_cases hlt:i<width a.v6
  ·simp [hlt]
  ·rw [h i (by omega) hi];simp
structure Com (a b:Ad) (n:Nat):Prop where
 le:n<=width a.v6
 eq:∀ i,i<n->a.dig i=b.dig i
 ne:n<width a.v6->a.dig n≠b.dig n
def zL3 (p q:Pf):Int:=if ltB p.key q.key then -1 else if p=q then 0 else 1
theorem zAQ {a:Ad} {n k:Nat} (h:n<=k):∃ l,a.bits k=a.bits n++l/\l.length=k-n/\(n<k->l.head?=some (a.dig n)):=by
 refine ⟨(a.bits k).drop n,?_,?_,fun hl=>?_⟩
 ·have:=List.take_append_drop n (a.bits k)
  rw [vK h] at this;exact this.symm
 ·rw [List.length_drop,yE]
 ·rw [List.head?_drop,QN hl]
theorem zC5 {p q:Pf} (hp:p.sane=true) (hq:q.sane=true) (hv:p.a.v6=q.a.v6) {n:Nat} (h:Com p.a q.a n) (hn:n<width p.a.v6) (h0:p.a.dig n=false) (h1:q.a.dig n=true):ltB p.key q.key=true:=by
 obtain ⟨⟨a1,a2⟩,a3⟩:=wS.1 hp;obtain ⟨⟨b1,b2⟩,b3⟩:=wS.1 hq;have hw:=yD p.a.v6;have hnq:n<q.n.toNat:=by
  apply Classical.byContradiction;intro hc;rw [b3 n (by omega) (by omega)] at h1;cases h1
 have hbe:p.a.bits n=q.a.bits n:=List.map_congr_left fun i hi=>h.eq i (List.mem_range.1 hi);unfold Pf.key;rw [hv];show (if q.a.v6=q.a.v6 then ltB (p.a.bits p.n.toNat) (q.a.bits q.n.toNat) else _)=true;rw [if_pos rfl];obtain ⟨l2,e2,f2,g2⟩:=zAQ (a:=q.a) (Nat.le_of_lt hnq);have g2:=g2 hnq;rcases Nat.lt_or_ge n p.n.toNat with hnp|hnp
 ·obtain ⟨l1,e1,f1,g1⟩:=zAQ (a:=p.a) (Nat.le_of_lt hnp);have g1:=g1 hnp;rw [e1,e2,hbe,zA1];cases l1 with
  | nil=>cases g1
  | cons x l1=>
   cases l2 with
   | nil=>cases g2
   | cons y l2=>
    simp only [List.head?_cons,Option.some.injEq] at g1 g2;rw [g1,g2,h0,h1];rfl
 ·refine zD8 ?_ ?_
  ·have:p.a.bits p.n.toNat=q.a.bits p.n.toNat:=List.map_congr_left fun i hi=>h.eq i (by have:=List.mem_range.1 hi;omega)
   rw [this,<-vK (a:=q.a) (show p.n.toNat<=q.n.toNat by omega)]
   exact List.take_prefix _ _
  ·intro e;have:=congrArg List.length e
   rw [yE,yE] at this;omega
theorem zJL {p q:Pf} (h:ltB p.key q.key=true):zL3 p q = -1:=by unfold zL3;rw [if_pos h]
theorem zIj {p q:Pf} (h:ltB q.key p.key=true):zL3 p q=1:=by
 unfold zL3;rw [if_neg (by rw [JO h];decide),if_neg]
 intro e;rw [e,zZ] at h;cases h
theorem Com.symm {a b:Ad} {n:Nat} (h:Com a b n) (hv:a.v6=b.v6):Com b a n:=⟨by rw [<-hv];exact h.le,fun i hi=>(h.eq i hi).symm,fun hn=>(h.ne (by rw [hv];exact hn)).symm⟩
theorem zPM {p q:Pf} (hp:p.sane=true) (hq:q.sane=true):(p.a.v6≠q.a.v6->zL3 p q=if q.a.v6 then -1 else 1)/\(p.a.v6=q.a.v6->∀ n,Com p.a q.a n->(n=width p.a.v6->zL3 p q=if p.n<q.n then -1 else if q.n<p.n then 1 else 0)/\(n<width p.a.v6->zL3 p q=(if p.a.dig n then 1 else 0)-(if q.a.dig n then 1 else 0))):=by
 obtain ⟨⟨a1,a2⟩,a3⟩:=wS.1 hp;obtain ⟨⟨b1,b2⟩,b3⟩:=wS.1 hq;refine ⟨fun hv=>?_,fun hv n h=>⟨fun hn=>?_,fun hn=>?_⟩⟩
 ·cases e:q.a.v6 with
  | true=>
   have e1:p.a.v6=false:=by cases e1:p.a.v6 with|false=>rfl|true=>exact absurd (e1.trans e.symm) hv
   exact zJL (by unfold Pf.key;rw [e,e1];rfl)
  | false=>
   have e1:p.a.v6=true:=by cases e1:p.a.v6 with|true=>rfl|false=>exact absurd (e1.trans e.symm) hv
   exact zIj (by unfold Pf.key;rw [e,e1];rfl)
 ·have ha:p.a=q.a:=by
   refine zAc hv fun i hi=>?_;by_cases hlt:i<n
   ·exact h.eq i hlt
   ·have hw:width q.a.v6=width p.a.v6:=by rw [hv]
    rw [a3 i (by omega) hi,b3 i (by omega) hi]
  have hpre:∀ {p q:Pf},p.a=q.a->0<=p.n->p.n<q.n->ltB p.key q.key=true:=by
   intro p q ha h0 hlt;refine zD8 ?_ ?_
   ·unfold Pf.key;rw [ha,<-vK (a:=q.a) (show p.n.toNat<=q.n.toNat by omega)]
    exact (List.prefix_cons_inj _).2 (List.take_prefix _ _)
   ·intro e;have:=congrArg List.length e
    rw [wK,wK] at this;omega
  by_cases c1:p.n<q.n
  ·rw [if_pos c1];exact zJL (hpre ha a1 c1)
  ·rw [if_neg c1];by_cases c2:q.n<p.n
   ·rw [if_pos c2];exact zIj (hpre ha.symm b1 c2)
   ·rw [if_neg c2];have:p=q:=Pf.ext ha (by omega)
    subst this;unfold zL3;rw [zZ,if_neg (by decide),if_pos rfl]
 ·have hne:=h.ne hn;cases e1:p.a.dig n <;> cases e2:q.a.dig n
  ·rw [e1,e2] at hne;exact absurd rfl hne
  ·rw [zJL (zC5 hp hq hv h hn e1 e2)];rfl
  ·rw [zIj (zC5 hq hp hv.symm (h.symm hv) (by rw [<-hv];exact hn) e2 e1)];rfl
  ·rw [e1,e2] at hne;exact absurd rfl hne
end Go.Proofs.YtjcbjclhagobiaaGreat
end
