/- Texts joined by a program of ours: Eo Ep Eq Nl Nm Er Es Et Eu Ev Fa No. -/
import Derived.Test.YtjcbjclhagobiaaGreatJae
import Derived.Test.YtjcbjclhagobiaaGreatJah
import Derived.Test.YtjcbjclhagobiaaGreatJaj
set_option linter.all false
section
namespace Go.Proofs.YtjcbjclhagobiaaGreat
set_option maxHeartbeats 1600000
open Go Go.KL Go.KM
variable {E:Env} {X:Xs}
set_option maxRecDepth 100000
set_option maxHeartbeats 2000000 in
theorem zJj (base:Option Addr) (cap:Nat) (key:TE->Int) (cmp:Value) (hcmp:CmpOk E X key cmp) (N:Nat)
  (ihN:∀ (P A B Q:List TE) (n:Nat),n=(P++(A++(B++Q))).length->A.length+B.length<=N->n<=100000->A≠[]->B≠[]->MrgOk key A B->
   Does PR E X 422 [.slice base n cap,.int .i64 (P.length:Int),.int .i64 ((P.length+A.length:Nat):Int),.int .i64 ((P.length+A.length+B.length:Nat):Int),cmp] [teS base cap (P++(A++(B++Q)))] (fun v t=>∃ S,S.Perm (A++B)/\S.Pairwise (rlt key)/\v=.tuple #[]/\t=[teS base cap (P++(S++Q))]))
  (P A B Q:List TE) (n:Nat) (hn:n=(P++(A++(B++Q))).length) (hN:A.length+B.length<=N+1) (hl:n<=100000) (hA1:1<A.length) (hB1:1<B.length) (hm:MrgOk key A B) :
  Does PR E X 422 [.slice base n cap,.int .i64 (P.length:Int),.int .i64 ((P.length+A.length:Nat):Int),.int .i64 ((P.length+A.length+B.length:Nat):Int),cmp] [teS base cap (P++(A++(B++Q)))] (fun v t=>∃ S,S.Perm (A++B)/\S.Pairwise (rlt key)/\v=.tuple #[]/\t=[teS base cap (P++(S++Q))]):=by
 have hn2:P.length+A.length+B.length+Q.length=n:=by rw [hn];simp;omega
 obtain ⟨a,ha⟩:∃ a,a=P.length:=⟨_,rfl⟩;obtain ⟨m,hmm⟩:∃ m,m=a+A.length:=⟨_,rfl⟩;obtain ⟨b,hb⟩:∃ b,b=m+B.length:=⟨_,rfl⟩;obtain ⟨mid,hmid⟩:∃ mid,mid=(a+b) / 2:=⟨_,rfl⟩;rw [<-ha,<-hmm,<-hb];refine Does.of 220 inferInstance rfl (by decide) rfl ?_
 refine zB ?_;refine no ?_;refine zB ?_;refine no ?_;refine zB ?_;rw [zBn (by omega),<-hmid,zK (a:=(mid:Int)+(m:Int)) (by omega)]
 refine zB ?_;refine cut (ι:=Nat×Nat) (fun z=>(m > mid/\z.1=mid+m-b/\z.2=mid)∨(m<=mid/\z.1=a/\z.2=m)) (fun z=>[(0,.slice base n cap),(1,.int .i64 (a:Int)),(2,.int .i64 (m:Int)),(3,.int .i64 (b:Int)),(4,cmp),(18,.int .i64 (mid:Int)),(19,.int .i64 ((mid:Int)+(m:Int))),(20,.int .i64 (z.1:Int)),(21,.int .i64 (z.2:Int))]) (fun _=>[teS base cap (P++(A++(B++Q)))]) (fun k' rest=>?_) ?_
 ·rcases Nat.lt_or_ge mid m with h|h
  ·refine yes ?_;refine zB ?_;have hr:=rest (mid+m-b,mid) (.inl ⟨h,rfl,rfl⟩);(try dsimp only at hr);rw [show ((mid+m-b:Nat):Int)=(mid:Int)+(m:Int)-(b:Int) by omega] at hr
   exact next hr
  ·refine no ?_;refine zB ?_;exact next (rest (a,m) (.inr ⟨h,rfl,rfl⟩))
 rintro ⟨lo,hi⟩ hlo;(try dsimp only at hlo ⊢);have hlh:lo<=hi:=by omega
 obtain ⟨D,hD⟩:∃ D,D=P++(A++(B++Q)):=⟨_,rfl⟩;rw [<-hD] at hn ⊢;refine zB ?_;refine loop (ι:=Nat×Nat) (fun z=>z.2-z.1) (fun z=>(lo<=z.1/\z.1<=z.2/\z.2<=hi)/\(z.1=lo∨∃ u w,D[mid+m-z.1]?=some u/\D[z.1-1]?=some w/\¬ key u<key w)/\(z.2=hi∨∃ u w,D[mid+m-z.2-1]?=some u/\D[z.2]?=some w/\key u<key w)) (fun z=>[(0,.slice base n cap),(1,.int .i64 (a:Int)),(2,.int .i64 (m:Int)),(3,.int .i64 (b:Int)),(4,cmp),(18,.int .i64 (mid:Int)),(19,.int .i64 ((mid:Int)+(m:Int))),(22,.int .i64 ((mid:Int)+(m:Int)-1)),(20,.int .i64 (z.1:Int)),(21,.int .i64 (z.2:Int))]) (fun _=>[teS base cap D]) (lo,hi) ⟨⟨Nat.le_refl _,hlh,Nat.le_refl _⟩,.inl rfl,.inl rfl⟩ ?_;rintro ⟨s,r⟩ ⟨⟨j1,j2,j3⟩,i1,i2⟩ ih;(try dsimp only at j1 j2 j3 i1 i2 ih ⊢);rcases Nat.lt_or_ge s r with hsr|hsr
 ·obtain ⟨c,hc⟩:∃ c,c=(s+r) / 2:=⟨_,rfl⟩;have hcb:s<=c/\c<r/\c<n/\c+1<=mid+m/\mid+m-1-c<n:=by
   clear i1 i2;omega
  have eu:((mid:Int)+(m:Int)-1-(c:Int)).toNat=mid+m-c-1:=by omega
  have ew:((c:Nat):Int).toNat=c:=by omega
  obtain ⟨u,hu⟩:∃ u,D[((mid:Int)+(m:Int)-1-(c:Int)).toNat]?=some u:=⟨D[((mid:Int)+(m:Int)-1-(c:Int)).toNat]'(by omega),by simp⟩
  obtain ⟨w,hw⟩:∃ w,D[((c:Nat):Int).toNat]?=some w:=⟨D[((c:Nat):Int).toNat]'(by omega),by simp⟩
  refine zB ?_;refine yes ?_;refine zB ?_;rw [zBn (by omega),<-hc]
  refine draw [0,0,0,0,12,30,62,0,0,384,896,2047,4095,8191] [11] [5,6,9,10] [0,1,2,3,4,5,6,7,8,9,10,11,12,13] ?_;refine zC ?_;refine XD (hcmp.h u w) ?_;rintro _ _ ⟨c0,hc0,rfl,rfl⟩;refine zJ ?_;refine ddA ?_;rw [eu] at hu;rw [ew] at hw;refine zH (fun hd=>?_) (fun hd=>?_)
  ·have hd:¬ key u<key w:=fun q=>by
    have:=hc0.2 q
    rw [decide_eq_true this] at hd;cases hd
   refine zB ?_;have hr:=ih (c+1,r) ⟨⟨by show lo<=c+1;omega,by show c+1<=r;omega,j3⟩,.inr ⟨u,w,by show D[mid+m-(c+1)]?=_;rw [<-hu];congr 1,hw,hd⟩,i2⟩ (by show r-(c+1)<r-s;omega)
   (try dsimp only at hr);exact next hr
  ·have hd:key u<key w:=by
    rcases Int.lt_or_le c0 0 with q|q
    ·exact hc0.1 q
    ·rw [decide_eq_false (by omega)] at hd;cases hd
   refine zB ?_;have hr:=ih (s,c) ⟨⟨j1,hcb.1,by show c<=hi;omega⟩,i1,.inr ⟨u,w,hu,hw,hd⟩⟩ (by show c-s<r-s;omega)
   (try dsimp only at hr);exact next hr
 obtain rfl:s=r:=by omega
 refine zB ?_;refine no ?_;refine zB ?_;have hcr:=hm.cross (P:=P) (Q:=Q) ha hmm hb hmid hlo j1 j3 (by rw [<-hD];exact i1) (by rw [<-hD];exact i2)
 clear i1 i2 ih;have hps:=hm.parts (s-a) (mid-s);have hs:a<=s/\s<=m/\s<=mid/\m<=mid+m-s/\mid+m-s<=b:=by omega
 have hA:=List.take_append_drop (s-a) A;have hB:=List.take_append_drop (mid-s) B;have la1:(A.take (s-a)).length=s-a:=by rw [List.length_take];omega
 have lb1:(B.take (mid-s)).length=mid-s:=by rw [List.length_take];omega
 have la2:(A.drop (s-a)).length=m-s:=by rw [List.length_drop];omega
 have lb2:(B.drop (mid-s)).length=b-(mid+m-s):=by rw [List.length_drop];omega
 generalize A.take (s-a)=A1 at hcr hps hA la1;generalize A.drop (s-a)=A2 at hcr hps hA la2;generalize B.take (mid-s)=B1 at hcr hps hB lb1;generalize B.drop (mid-s)=B2 at hcr hps hB lb2;subst hA;subst hB;have hPA:(P++A1).length=s:=by rw [List.length_append];omega
 have hl1:(A1++A2).length=A1.length+A2.length:=List.length_append;have hl2:(B1++B2).length=B1.length+B2.length:=List.length_append;obtain ⟨e,he⟩:∃ e,e=mid+m-s:=⟨_,rfl⟩;have hes:m<=e/\e<=b/\mid+m=e+s:=by omega
 rw [zK (a:=(mid:Int)+(m:Int)-(s:Int)) (by omega),show (mid:Int)+(m:Int)-(s:Int)=(e:Int) by omega]
 refine cut (ι:=Unit) (fun _=>True) (fun _=>[(0,.slice base n cap),(1,.int .i64 (a:Int)),(3,.int .i64 (b:Int)),(4,cmp),(18,.int .i64 (mid:Int)),(20,.int .i64 (s:Int)),(24,.int .i64 (e:Int))]) (fun _=>[teS base cap (P++(A1++(B1++(A2++(B2++Q)))))]) (fun k' rest=>?_) ?_
 ·have rest:=rest () trivial;(try dsimp only at rest);rw [hD];by_cases hc:s<m/\m<e
  ·refine yes ?_ rfl (by rw [decide_eq_true (show (s:Int)<(m:Int) by omega),decide_eq_true (show (m:Int)<(e:Int) by omega)];rfl)
   refine zB ?_;have hs:=zE5 (E:=E) (X:=X) base cap (P++A1) A2 B1 (B2++Q) (by simp;omega) (by rintro rfl;simp at la2;omega) (by rintro rfl;simp at lb1;omega) cmp
   have e1:(P++A1)++(A2++(B1++(B2++Q)))=P++(A1++A2++(B1++B2++Q)):=by simp
   have e2:(P++A1)++(B1++(A2++(B2++Q)))=P++(A1++(B1++(A2++(B2++Q)))):=by simp
   rw [e1,e2,hPA,<-hD,<-hn,show s+A2.length=m by omega,show m+B1.length=e by omega] at hs
   rw [<-hD];refine call hs ?_;rintro _ _ ⟨rfl,rfl⟩;refine zB ?_;exact next rest
  ·refine no ?_ rfl (by
    rcases Nat.lt_or_ge s m with q|q
    ·rw [decide_eq_false (show ¬ (m:Int)<(e:Int) by omega),Bool.and_false]
    ·rw [decide_eq_false (show ¬ (s:Int)<(m:Int) by omega),Bool.false_and])
   refine zB ?_;have e3:P++(A1++A2++(B1++B2++Q))=P++(A1++(B1++(A2++(B2++Q)))):=by
    rcases Nat.lt_or_ge s m with q|q
    ·have:B1=[]:=List.length_eq_zero_iff.1 (by omega)
     subst this;simp
    ·have:A2=[]:=List.length_eq_zero_iff.1 (by omega)
     subst this;simp
   rw [e3];exact next rest
 rintro _ _;(try dsimp only);refine zB ?_;have hlen1:∀ U V:List TE,U.length=A1.length+B1.length->V.length=A2.length+B2.length->(P++(U++(V++Q))).length=n:=by
  intro U V h1 h2;rw [List.length_append,List.length_append,List.length_append];omega
 refine cut (ι:=List TE) (fun S1=>S1.Perm (A1++B1)/\S1.Pairwise (rlt key)) (fun _=>[(0,.slice base n cap),(3,.int .i64 (b:Int)),(4,cmp),(18,.int .i64 (mid:Int)),(24,.int .i64 (e:Int))]) (fun S1=>[teS base cap (P++(S1++(A2++(B2++Q))))]) (fun k' rest=>?_) ?_
 ·by_cases hc:a<s/\s<mid
  ·refine yes ?_ rfl (by rw [decide_eq_true (show (a:Int)<(s:Int) by omega),decide_eq_true (show (s:Int)<(mid:Int) by omega)];rfl)
   refine zB ?_;have hs:=ihN P A1 B1 (A2++(B2++Q)) n (by have:=hlen1 (A1++B1) (A2++B2) (by simp) (by simp);rw [<-this];simp) (by omega) hl (by rintro rfl;simp at la1;omega) (by rintro rfl;simp at lb1;omega) hps.1
   rw [<-ha,show a+A1.length=s by omega,show s+B1.length=mid by omega] at hs
   refine call hs ?_;rintro _ _ ⟨S1,p1,p2,rfl,rfl⟩;refine zB ?_;exact next (rest S1 ⟨p1,p2⟩)
  ·refine no ?_ rfl (by
    rcases Nat.lt_or_ge a s with q|q
    ·rw [decide_eq_false (show ¬ (s:Int)<(mid:Int) by omega),Bool.and_false]
    ·rw [decide_eq_false (show ¬ (a:Int)<(s:Int) by omega),Bool.false_and])
   refine zB ?_;have hr:=rest (A1++B1) ⟨List.Perm.refl _,by
    rcases Nat.lt_or_ge a s with q|q
    ·have:B1=[]:=List.length_eq_zero_iff.1 (by omega)
     subst this;rw [List.append_nil];exact hps.1.a
    ·have:A1=[]:=List.length_eq_zero_iff.1 (by omega)
     subst this;exact hps.1.b⟩
   (try dsimp only at hr);rw [show A1++B1++(A2++(B2++Q))=A1++(B1++(A2++(B2++Q))) from List.append_assoc ..] at hr;exact next hr
 rintro S1 ⟨p1,p2⟩;(try dsimp only);have hS1:S1.length=A1.length+B1.length:=by rw [p1.length_eq,List.length_append]
 have fin:∀ S2:List TE,S2.Perm (A2++B2)->S2.Pairwise (rlt key)->(S1++S2).Perm (A1++A2++(B1++B2))/\(S1++S2).Pairwise (rlt key):=fun S2 q1 q2=>⟨zOo p1 q1,zGT p1 q1 p2 q2 hcr⟩;refine zB ?_;by_cases hc:mid<e/\e<b
 ·refine yes ?_ rfl (by rw [decide_eq_true (show (mid:Int)<(e:Int) by omega),decide_eq_true (show (e:Int)<(b:Int) by omega)];rfl)
  refine zB ?_;have hs:=ihN (P++S1) A2 B2 Q n (by have:=hlen1 S1 (A2++B2) hS1 (by simp);rw [<-this];simp) (by omega) hl (by rintro rfl;simp at la2;omega) (by rintro rfl;simp at lb2;omega) hps.2
  rw [show (P++S1).length=mid by rw [List.length_append];omega,show mid+A2.length=e by omega,show e+B2.length=b by omega,List.append_assoc] at hs
  refine call hs ?_;rintro _ _ ⟨S2,q1,q2,rfl,rfl⟩;refine zB ?_;rw [show P++S1++(S2++Q)=P++((S1++S2)++Q) by simp only [List.append_assoc]]
  refine fall ?_;obtain ⟨f1,f2⟩:=fin S2 q1 q2;exact ends ⟨S1++S2,f1,f2,rfl,rfl⟩
 ·refine no ?_ rfl (by
   rcases Nat.lt_or_ge mid e with q|q
   ·rw [decide_eq_false (show ¬ (e:Int)<(b:Int) by omega),Bool.and_false]
   ·rw [decide_eq_false (show ¬ (mid:Int)<(e:Int) by omega),Bool.false_and])
  refine zB ?_;rw [show P++(S1++(A2++(B2++Q)))=P++((S1++(A2++B2))++Q) by simp only [List.append_assoc]]
  refine fall ?_;obtain ⟨f1,f2⟩:=fin (A2++B2) (List.Perm.refl _) (by
   rcases Nat.lt_or_ge mid e with q|q
   ·have:B2=[]:=List.length_eq_zero_iff.1 (by omega)
    subst this;rw [List.append_nil];exact hps.2.a
   ·have:A2=[]:=List.length_eq_zero_iff.1 (by omega)
    subst this;exact hps.2.b)
  exact ends ⟨S1++(A2++B2),f1,f2,rfl,rfl⟩
theorem YU (base:Option Addr) (cap:Nat) (key:TE->Int) (cmp:Value) (hcmp:CmpOk E X key cmp):∀ (N:Nat) (P A B Q:List TE) (n:Nat),n=(P++(A++(B++Q))).length->A.length+B.length<=N->n<=100000->A≠[]->B≠[]->MrgOk key A B->
   Does PR E X 422 [.slice base n cap,.int .i64 (P.length:Int),.int .i64 ((P.length+A.length:Nat):Int),.int .i64 ((P.length+A.length+B.length:Nat):Int),cmp] [teS base cap (P++(A++(B++Q)))] (fun v t=>∃ S,S.Perm (A++B)/\S.Pairwise (rlt key)/\v=.tuple #[]/\t=[teS base cap (P++(S++Q))])
 | 0,P,A,B,Q,n,hn,hN,hl,hA,hB,hm=>by
  have:=List.length_pos_iff.2 hA
  omega
 | N+1,P,A,B,Q,n,hn,hN,hl,hA,hB,hm=>by
  have ha:=List.length_pos_iff.2 hA;have hb:=List.length_pos_iff.2 hB;by_cases h1:A.length=1
  ·obtain ⟨x,rfl⟩:=List.length_eq_one_iff.1 h1;refine (zJv base cap key cmp hcmp P x B Q n hn hl hm.b).post ?_;rintro v t ⟨B1,B2,rfl,h2,h3,h4,h5⟩;have hb:=List.pairwise_append.1 hm.b;refine ⟨B1++x::B2,List.perm_middle,Vf hm.b (fun y hy=>.inl (h2 y hy)) (fun y hy=>ZY (hm.t x (by simp) y (by simp [hy])) (h3 y hy)),h4,?_⟩
   rw [h5];simp
  ·by_cases h2:B.length=1
   ·obtain ⟨x,rfl⟩:=List.length_eq_one_iff.1 h2;refine (zJE base cap key cmp hcmp P x A Q n hn hl hm.a h1).post ?_;rintro v t ⟨A1,A2,rfl,h2,h3,h4,h5⟩;refine ⟨A1++x::A2,List.perm_middle.trans (List.perm_append_comm (l₁:=[x])),Vf hm.a (fun y hy=>ZY (hm.t y (by simp [hy]) x (by simp)) (h2 y hy)) (fun y hy=>.inl (h3 y hy)),h4,?_⟩
    rw [h5];simp
   ·exact zJj base cap key cmp hcmp N (YU base cap key cmp hcmp N) P A B Q n hn hN hl (by omega) (by omega) hm
end Go.Proofs.YtjcbjclhagobiaaGreat
end
section
namespace Go.Proofs.YtjcbjclhagobiaaGreat
set_option maxHeartbeats 1600000
open Go Go.KL Go.KM
variable {E:Env} {X:Xs}
set_option maxRecDepth 100000
abbrev zJH (l:List TE):Prop:=l.Pairwise fun x y=>x.tag<y.tag
theorem Chk.lay {key:TE->Int} {bs:Nat} {D C R S:List TE} (hb:0<bs) (hC:C.length=bs) (hS:S.Perm C) (hs:S.Pairwise (rlt key)) (ht:∀ x∈C,∀ y∈R,x.tag<y.tag) (k:∀ T',T'.Perm (C++R)->Chk key bs T'->Chk key bs (D++T')):∀ T',T'.Perm R->Chk key bs T'->Chk key bs ((D++S)++T'):=by
 intro T' hp hc;rw [List.append_assoc];have hl:=hS.length_eq;exact k (S++T') (hS.append hp) (.cons (by rintro rfl;simp at hl;omega) (by omega) (fun _=>by omega) hs (fun x hx y hy=>ht x (hS.mem_iff.1 hx) y (hp.mem_iff.1 hy)) hc)
set_option maxHeartbeats 2000000 in
theorem zEl (base:Option Addr) (cap:Nat) (key:TE->Int) (cmp:Value) (hcmp:CmpOk E X key cmp) (L:List TE) (n:Nat) (hn:n=L.length) (hl:n<=100000) (hL:zJH L) :
  Does PR E X 419 [.slice base n cap,.int .i64 (n:Int),cmp] [teS base cap L] (fun v t=>∃ S,S.Perm L/\S.Pairwise (rlt key)/\v=.tuple #[]/\t=[teS base cap S]):=by
 refine Does.of 63 inferInstance rfl (by decide) rfl ?_
 refine zB ?_;refine loop (ι:=List TE×List TE) (fun z=>z.2.length) (fun z=>(z.1++z.2).Perm L/\zJH z.2/\∀ T',T'.Perm z.2->Chk key 20 T'->Chk key 20 (z.1++T')) (fun z=>[(0,.slice base n cap),(1,.int .i64 (n:Int)),(2,cmp),(6,.int .i64 20),(7,.int .i64 (z.1.length:Int)),(8,.int .i64 ((z.1.length+20:Nat):Int))]) (fun z=>[teS base cap (z.1++z.2)]) ([],L) ⟨List.Perm.refl _,hL,fun T' _ h=>h⟩ ?_;rintro ⟨D,T⟩ ⟨p1,p2,p3⟩ ih;(try dsimp only at p1 p2 p3 ih ⊢);have hlen:D.length+T.length=n:=by rw [hn,<-p1.length_eq,List.length_append]
 rcases Nat.lt_or_ge T.length 20 with ht|ht
 ·refine zB ?_;refine no ?_;refine zB ?_;have hi:=Xn (E:=E) (X:=X) base cap D T [] key cmp hcmp (by simp;omega) p2
  simp only [List.append_nil] at hi;rw [show (D++T).length=n by rw [List.length_append];omega,hlen] at hi
  refine call hi ?_;rintro _ _ ⟨S,s1,s2,rfl,rfl⟩;have sl:=s1.length_eq;have hk:=p3 S s1 (.one (by omega) s2)
  have hp:(D++S).Perm L:=((List.Perm.refl D).append s1).trans p1;clear ih;generalize D++S=M at hk hp ⊢;refine zB ?_;refine loop (ι:=Nat×List TE) (fun z=>n-z.1) (fun z=>20<=z.1/\z.1<=2*n+20/\z.2.Perm L/\Chk key z.1 z.2) (fun z=>[(0,.slice base n cap),(1,.int .i64 (n:Int)),(2,cmp),(6,.int .i64 (z.1:Int))]) (fun z=>[teS base cap z.2]) (20,M) ⟨by omega,by omega,hp,hk⟩ ?_
  clear hk hp p1 p2 p3 s1 s2 sl hlen hi ht;clear D T M S;rintro ⟨bs,M⟩ ⟨b1,b2,hp,hk⟩ ih;(try dsimp only at b1 b2 hp hk ih ⊢);have hMl:M.length=n:=by rw [hn,hp.length_eq]
  rcases Nat.lt_or_ge bs n with hb|hb
  ·refine zB ?_;refine yes ?_;refine zB ?_;refine loop (ι:=List TE×List TE) (fun z=>z.2.length) (fun z=>(z.1++z.2).Perm L/\Chk key bs z.2/\∀ T',T'.Perm z.2->Chk key (2*bs) T'->Chk key (2*bs) (z.1++T')) (fun z=>[(0,.slice base n cap),(1,.int .i64 (n:Int)),(2,cmp),(6,.int .i64 (bs:Int)),(7,.int .i64 (z.1.length:Int)),(8,.int .i64 ((z.1.length:Int)+2*(bs:Int)))]) (fun z=>[teS base cap (z.1++z.2)]) ([],M) ⟨hp,hk,fun T' _ h=>h⟩ ?_ (.cons rfl (.cons rfl (.cons rfl (.cons rfl (.cons rfl (.eq rfl (by congr 1;show 2*(bs:Int)=((([]:List TE).length:Nat):Int)+2*(bs:Int);simp) .nil))))))
   rintro ⟨D,T⟩ ⟨p1,p2,p3⟩ ih2;(try dsimp only at p1 p2 p3 ih2 ⊢);have hlen:D.length+T.length=n:=by rw [hn,<-p1.length_eq,List.length_append]
   rcases Nat.lt_or_ge T.length (2*bs) with ht|ht
   ·refine zB ?_;refine no ?_;refine zB ?_;have fin:∀ S:List TE,S.Perm T->S.Pairwise (rlt key)->_:=fun S q1 q2=>ih (2*bs,D++S) ⟨by show 20<=2*bs;omega,by show 2*bs<=2*n+20;omega,((List.Perm.refl D).append q1).trans p1,p3 S q1 (.one (by rw [q1.length_eq];omega) q2)⟩ (by show n-2*bs<n-bs;omega)
    (try dsimp only at fin);rcases Nat.lt_or_ge bs T.length with h|h
    ·refine yes ?_;refine zB ?_;obtain ⟨C,R,rfl,hC,c1,c2,c3⟩:=p2.head (by omega) (by omega)
     have hCR:(C++R).length=C.length+R.length:=List.length_append;have c4:=c3.short (by omega)
     have hs:=YU base cap key cmp hcmp (C.length+R.length) D C R [] n (by simp;omega) (Nat.le_refl _) hl (by rintro rfl;simp at hC;omega) (by rintro rfl;simp at h;omega) ⟨c1,c4,c2⟩
     simp only [List.append_nil] at hs;rw [hC,show D.length+bs+R.length=n by omega] at hs
     refine call hs ?_;rintro _ _ ⟨S,s1,s2,rfl,rfl⟩;refine zB ?_;exact next (fin S s1 s2)
    ·refine no ?_;refine zB ?_;exact next (fin T (List.Perm.refl _) (p2.short h))
   ·obtain ⟨C1,R,rfl,hC1,c1,c2,c3⟩:=p2.head (by omega) (by omega)
    have hCR:(C1++R).length=C1.length+R.length:=List.length_append;obtain ⟨C2,R2,rfl,hC2,d1,d2,d3⟩:=c3.head (by omega) (by omega)
    have hCR2:(C2++R2).length=C2.length+R2.length:=List.length_append;refine zB ?_;refine yes ?_;refine zB ?_;have hs:=YU base cap key cmp hcmp (C1.length+C2.length) D C1 C2 R2 n (by simp;omega) (Nat.le_refl _) hl (by rintro rfl;simp at hC1;omega) (by rintro rfl;simp at hC2;omega) ⟨c1,d1,fun x hx y hy=>c2 x hx y (by simp [hy])⟩
    rw [hC1,hC2,show ((D.length+bs:Nat):Int)=(D.length:Int)+(bs:Int) by omega,show ((D.length+bs+bs:Nat):Int)=(D.length:Int)+2*(bs:Int) by omega] at hs
    refine call hs ?_;rintro _ _ ⟨S,s1,s2,rfl,rfl⟩;have sl:=s1.length_eq;rw [List.length_append] at sl;refine zB ?_;have hr:=ih2 (D++S,R2) ⟨by
     refine List.Perm.trans ?_ p1;show ((D++S)++R2).Perm _;rw [List.append_assoc];exact (List.Perm.refl D).append ((s1.append_right R2).trans (by simp)),d3,Chk.lay (C:=C1++C2) (by omega) (by simp;omega) s1 s2 (fun x hx y hy=>by
      rcases List.mem_append.1 hx with hx|hx
      ·exact c2 x hx y (by simp [hy])
      ·exact d2 x hx y hy) (by rw [List.append_assoc];exact p3)⟩ (by show R2.length<(C1++(C2++R2)).length;omega)
    (try dsimp only at hr);rw [show (((D++S).length:Nat):Int)=(D.length:Int)+2*(bs:Int) by simp;omega,List.append_assoc] at hr
    exact next hr
  ·refine zB ?_;refine no ?_;refine zB ?_;refine fall ?_;exact ends ⟨M,hp,hk.short (by omega),rfl,rfl⟩
 ·obtain ⟨C,R,rfl,hC⟩:∃ C R,T=C++R/\C.length=20:=⟨T.take 20,T.drop 20,(List.take_append_drop _ _).symm,by rw [List.length_take];omega⟩
  have hCR:(C++R).length=C.length+R.length:=List.length_append;have q:=List.pairwise_append.1 p2;refine zB ?_;refine yes ?_;refine zB ?_;have hi:=Xn (E:=E) (X:=X) base cap D C R key cmp hcmp (by simp;omega) q.1
  rw [show (D++(C++R)).length=n by rw [List.length_append];omega,hC] at hi
  refine call hi ?_;rintro _ _ ⟨S,s1,s2,rfl,rfl⟩;have sl:=s1.length_eq;refine zB ?_;have hr:=ih (D++S,R) ⟨by
   refine List.Perm.trans ?_ p1;show ((D++S)++R).Perm _;rw [List.append_assoc];exact (List.Perm.refl D).append (s1.append_right R),q.2.1,Chk.lay (by omega) hC s1 s2 q.2.2 p3⟩ (by show R.length<(C++R).length;omega)
  (try dsimp only at hr);rw [show (D++S).length=D.length+20 by simp;omega,List.append_assoc] at hr
  exact next hr
end Go.Proofs.YtjcbjclhagobiaaGreat
end
section
namespace Go.Proofs.YtjcbjclhagobiaaGreat
set_option maxHeartbeats 1600000
open Go Go.KL Go.KM
variable {E:Env} {X:Xs}
set_option maxRecDepth 100000
def zIV (policy:Int):TE->Int:=if policy=1 then (·.sc) else fun _=>0
def zNp (policy:Int):Value:=.func (.func (if policy=1 then 411 else 410)) #[] #[]
theorem zNA (policy:Int):CmpOk E X (zIV policy) (zNp policy):=⟨fun x y=>by
 unfold zIV zNp;by_cases h:policy=1
 ·simp only [h,if_true];exact Does.clo (zGl x y) rfl
 ·simp only [h,if_false];exact Does.clo (zLu x y) rfl⟩
theorem zKx (policy:Int):Does PR E X 390 [.int .i64 policy] [] (fun v t=>v=.agg #[.int .i64 policy,zNp policy]/\t=[]):=by
 refine Does.of 10 inferInstance rfl (by decide) rfl ?_
 refine zB ?_;refine alloc fun b1=>?_;refine zB ?_;refine alloc fun b2=>?_;refine zB ?_;unfold zNp;by_cases h:policy=1
 ·simp only [h];refine yes ?_;refine zB ?_;refine ret ?_;exact ends ⟨rfl,rfl⟩
 ·simp only [h,if_false];refine no ?_;refine zB ?_;refine ret ?_;exact ends ⟨rfl,rfl⟩
theorem zII (base:Option Addr) (cap:Nat) (key:TE->Int) (cmp:Value) (hcmp:CmpOk E X key cmp) (L:List TE) (hl:L.length<=100000) (hL:zJH L) :
  Does PR E X 414 [.slice base L.length cap,cmp] [teS base cap L] (fun v t=>∃ S,S.Perm L/\S.Pairwise (rlt key)/\v=.tuple #[]/\t=[teS base cap S]):=by
 refine Does.of 9 inferInstance rfl (by decide) rfl ?_
 refine zB ?_;refine call (zEl base cap key cmp hcmp L L.length rfl hl hL) ?_;rintro _ _ ⟨S,s1,s2,rfl,rfl⟩;refine zB ?_;refine fall ?_;exact ends ⟨S,s1,s2,rfl,rfl⟩
theorem zDe (policy:Int) (base:Option Addr) (cap:Nat) (l:List TE) (hl:l.length<=100000) (hne:l≠[]) (hL:l.Pairwise fun x y=>y.tag<x.tag) :
  Does PR E X 391 [.agg #[.int .i64 policy,zNp policy],.slice base l.length cap] [teS base cap l] (fun v t=>∃ S b c,S.Perm l.reverse/\S.Pairwise (rlt (zIV policy))/\v=.slice b S.length c/\t=[teS b c S,teS base cap l]):=by
 refine Does.of 15 inferInstance rfl (by decide) rfl ?_
 refine zB ?_;refine zU fun b1=>?_;refine zB ?_;refine call (zCF base cap l hl hne) ?_;rintro _ _ ⟨b2,c2,rfl,rfl⟩;refine zB ?_;refine call (zCM b2 c2 l hl) ?_;rintro _ _ ⟨rfl,rfl⟩;refine zB ?_;rw [<-List.length_reverse];refine call (zII b2 c2 (zIV policy) (zNp policy) (zNA policy) l.reverse (by simpa using hl) (List.pairwise_reverse.2 hL)) ?_
 rintro _ _ ⟨S,s1,s2,rfl,rfl⟩;rw [<-s1.length_eq];refine zB ?_;refine ret ?_;exact ends ⟨S,b2,c2,s1,s2,rfl,rfl⟩
theorem choose_spec (policy:Int) (base:Option Addr) (cap:Nat) (l:List (Int×Int)) (hl:l.length<=100000) (x:Int×Int) (hx:vict policy l=some x) :
  Does PR E X 358 [.int .i64 policy,.slice base l.length cap] [osl base cap 479 2 (l.map fun x=>[.int .i64 x.1,.int .i64 x.2])] (fun v t=>v=.tuple #[.int .i64 x.1,.bool true]/\t=[osl base cap 479 2 (l.map fun x=>[.int .i64 x.1,.int .i64 x.2])]):=by
 have hne:l≠[]:=by rintro rfl;cases hx
 have hpos:=List.length_pos_iff.2 hne;have e:=zMI (l:=l);have e2:=zFR (l:=l);have hv:=zIr policy (l:=l);rw [<-e,<-e2];rw [<-e2] at hl hpos;have hf:=zCV (l:=l);generalize tagL l=T at e2 hv hl hpos hf;refine Does.of 16 inferInstance rfl (by decide) rfl ?_
 refine zB ?_;refine no ?_ rfl (decide_eq_false (by omega))
 refine zB ?_;refine call (zKx policy) ?_;rintro _ _ ⟨rfl,rfl⟩;refine zB ?_;refine call (zDe policy base cap T hl (List.length_pos_iff.1 hpos) hf) ?_;rintro _ _ ⟨S,b2,c2,s1,s2,rfl,rfl⟩;have hh:=zEi hf (s1.trans (List.reverse_perm T)) s2;have hk:zIV policy=(if policy=1 then (·.sc) else fun _=>0):=rfl;rw [<-hk,<-hh,hx] at hv;cases S with
 | nil=>cases hv
 | cons y S=>
  simp only [List.head?_cons,Option.map_some,Option.some.injEq] at hv;subst hv;have hx0:(y::S)[((0:Int)).toNat]?=some y:=rfl;refine zB ?_;refine ret ?_;exact ends ⟨rfl,rfl⟩
end Go.Proofs.YtjcbjclhagobiaaGreat
end
section
namespace Go.Proofs.YtjcbjclhagobiaaGreat
open Go Go.KL Go.KM
theorem Zq {x:Pf×Int} (h:wgood x=true):x.1.sane=true:=by
 unfold wgood at h;simp only [Bool.and_eq_true] at h;exact h.2
theorem ZU {p:Pf} (h:p.sane=true):p.covers p=true:=(zQ h h).2 (List.prefix_refl _)
theorem Vv {p q r:Pf} (h1:p.covers q=true) (h2:q.covers r=true):p.covers r=true:=by
 obtain ⟨a,b⟩:=xQ h1;obtain ⟨_,c⟩:=xQ h2;exact (zQ a c).2 (((zQ a b).1 h1).trans ((zQ b c).1 h2))
theorem covers_line {p q r:Pf} (h1:p.covers r=true) (h2:q.covers r=true):p.covers q=true∨q.covers p=true:=by
 obtain ⟨a,c⟩:=xQ h1;obtain ⟨b,_⟩:=xQ h2;rcases Nat.le_total p.key.length q.key.length with h|h
 ·exact .inl ((zQ a b).2 (List.prefix_of_prefix_length_le ((zQ a c).1 h1) ((zQ b c).1 h2) h))
 ·exact .inr ((zQ b a).2 (List.prefix_of_prefix_length_le ((zQ b c).1 h2) ((zQ a c).1 h1) h))
abbrev zFV (x y:Pf×Int):Prop:=x.1.covers y.1=false/\y.1.covers x.1=false
structure TOk (T:Prs) (C:List Nat) (most:Nat):Prop where
 good:∀ x∈T,wgood x=true
 apart:T.Pairwise zFV
 len:T.length<=most
 most:most<=1024
 sk:SkOk C
theorem ZR {T:Prs} (hs:∀ x∈T,x.1.sane=true) (h:T.Pairwise zFV) {x y:Pf×Int} (hx0:x∈T) (hy0:y∈T) (e:x.1.covers y.1=true):x=y:=by
 induction T with
 | nil=>cases hx0
 | cons z T ih=>
  obtain ⟨h1,h2⟩:=List.pairwise_cons.1 h;rcases List.mem_cons.1 hx0 with e1|hx <;> rcases List.mem_cons.1 hy0 with e2|hy
  ·rw [e1,e2]
  ·subst e1;rw [(h1 y hy).1] at e;cases e
  ·subst e2;rw [(h1 x hx).2] at e;cases e
  ·exact ih (fun x hx=>hs x (List.mem_cons_of_mem _ hx)) h2 hx hy
theorem TOk.sane {T:Prs} {C:List Nat} {most:Nat} (h:TOk T C most):∀ x∈T,x.1.sane=true:=fun x hx=>Zq (h.good x hx)
theorem TOk.uniq {T:Prs} {C:List Nat} {most:Nat} (h:TOk T C most) {x y:Pf×Int} (hx:x∈T) (hy:y∈T) (e:x.1=y.1):x=y:=
 ZR h.sane h.apart hx hy (by rw [<-e];exact ZU (h.sane x hx))
theorem TOk.filter {T:Prs} {C:List Nat} {most:Nat} (h:TOk T C most) (f:Pf×Int->Bool):TOk (T.filter f) C most:=
 ⟨fun x hx=>h.good x ((List.mem_filter.1 hx).1),h.apart.sublist List.filter_sublist,Nat.le_trans (List.length_filter_le ..) h.len,h.most,h.sk⟩
theorem TOk.del {T:Prs} {C:List Nat} {most:Nat} (h:TOk T C most) (p:Pf):TOk (T.del p) C most:=h.filter _
theorem zET {T:Prs} {x:Pf×Int} (hx:x∈T):(T.del x.1).length<T.length:=by
 unfold Prs.del;have:=List.length_filter_lt_length_iff_exists (p:=fun y:Pf×Int=>!decide (y.1=x.1)) (l:=T)
 exact this.2 ⟨x,hx,by simp⟩
theorem Zk {T:Prs} {p:Pf} {y:Pf×Int}:y∈T.del p↔y∈T/\y.1≠p:=by simp [Prs.del]
theorem TOk.use {T:Prs} {C:List Nat} {most:Nat} (h:TOk T C most) {x:Pf×Int} (hx:x∈T):TOk (x::T.del x.1) (Yy C x.1) most:=by
 have hl:=zET hx;have hln:=h.len;refine ⟨fun y hy=>?_,List.pairwise_cons.2 ⟨fun y hy=>?_,(h.del x.1).apart⟩,by simp;omega,h.most,h.sk.add⟩
 ·rcases List.mem_cons.1 hy with rfl|hy
  ·exact h.good _ hx
  ·exact h.good y (Zk.1 hy).1
 ·obtain ⟨h1,h2⟩:=Zk.1 hy;constructor
  ·rcases Bool.eq_false_or_eq_true (x.1.covers y.1) with e|e
   ·exact absurd (congrArg Prod.fst (ZR h.sane h.apart hx h1 e)).symm h2
   ·exact e
  ·rcases Bool.eq_false_or_eq_true (y.1.covers x.1) with e|e
   ·exact absurd (congrArg Prod.fst (ZR h.sane h.apart h1 hx e)) h2
   ·exact e
theorem TOk.add {T:Prs} {C:List Nat} {most:Nat} (h:TOk T C most) {x:Pf×Int} (hx:wgood x=true) (hl:T.length<most) (ha:∀ y∈T,x.1.covers y.1=false/\y.1.covers x.1=false):TOk (x::T) (Yy C x.1) most:=
 ⟨fun y hy=>by
  rcases List.mem_cons.1 hy with rfl|hy
  ·exact hx
  ·exact h.good y hy,List.pairwise_cons.2 ⟨fun y hy=>ha y hy,h.apart⟩,by simp;omega,h.most,h.sk.add⟩
def srtT (T:Prs):Prs:=T.foldr (fun x m=>m.ins x.1 x.2) []
structure Uq (T:Prs):Prop where
 sane:∀ x∈T,x.1.sane=true
 ne:T.Pairwise fun x y=>x.1≠y.1
theorem TOk.uq {T:Prs} {C:List Nat} {most:Nat} (h:TOk T C most):Uq T:=⟨h.sane,h.apart.imp_of_mem fun hx _ q e=>by
 have:=ZU (h.sane _ hx)
 rw [e] at this;rw [<-e] at this;have q1:=q.1;rw [<-e,ZU (h.sane _ hx)] at q1;cases q1⟩
theorem Uq.tail {x:Pf×Int} {T:Prs} (h:Uq (x::T)):Uq T:=⟨fun y hy=>h.sane y (List.mem_cons_of_mem _ hy),(List.pairwise_cons.1 h.ne).2⟩
theorem zFX {m:Prs} {p:Pf} (h:∀ x∈m,x.1≠p):m.get p=none:=by
 unfold Prs.get;rw [List.find?_eq_none.2 (fun x hx=>by simpa using h x hx)];rfl
theorem wM:∀ {T:Prs},Uq T->Srt (srtT T)/\(srtT T).Perm T
 | [],_=>⟨Srt.nil,List.Perm.refl _⟩
 | x::T,h=>by
  obtain ⟨h1,h2⟩:=wM h.tail;have hx:=h.sane x (by simp)
  refine ⟨h1.ins hx x.2,(QJ h1 x.2).trans ?_⟩;have hn:(srtT T).get x.1=none:=zFX fun y hy e=>(List.pairwise_cons.1 h.ne).1 y (h2.mem_iff.1 hy) e.symm;rw [Zh h1 hn];exact h2.cons x
theorem Uq.get {T:Prs} (h:Uq T) {p:Pf} {w:Int}:T.get p=some w↔(p,w)∈T:=by
 induction T with
 | nil=>simp [Prs.get]
 | cons x T ih=>
  have hx:=(List.pairwise_cons.1 h.ne).1;unfold Prs.get;rw [List.find?_cons];by_cases e:x.1=p
  ·subst e;simp only [decide_true,Option.map_some,Option.some.injEq,List.mem_cons];constructor
   ·rintro rfl;exact .inl rfl
   ·rintro (e|e)
    ·rw [<-e]
    ·exact absurd rfl (hx (x.1,w) e)
  ·simp only [decide_eq_false e];have:=ih h.tail
   unfold Prs.get at this;rw [this,List.mem_cons];constructor
   ·exact .inr
   ·rintro (rfl|e2)
    ·exact absurd rfl e
    ·exact e2
structure TabOk (T:Prs) (O:List Nat) (M:yL) (tr:Prs) (most:Nat):Prop where
 at_:O.map M=T.map some
 lt:∀ i∈O,i<most
 nodup:O.Nodup
 srt:Srt tr
 tree:∀ p v,(p,v)∈tr↔∃ i:Nat,i∈O/\v=(i:Int)/\∃ h,M i=some (p,h)
theorem TabOk.new (most:Nat):TabOk [] [] (fun _=>none) [] most:=⟨rfl,by simp,List.nodup_nil,Srt.nil,by simp⟩
theorem TabOk.cnt {T:Prs} {O:List Nat} {M:yL} {tr:Prs} {most:Nat} (h:TabOk T O M tr most):O.length=T.length:=by
 have:=congrArg List.length h.at_;simpa using this
theorem TabOk.has {T:Prs} {O:List Nat} {M:yL} {tr:Prs} {most:Nat} (h:TabOk T O M tr most) {i:Nat} (hi:i∈O):∃ x∈T,M i=some x:=by
 have:M i∈O.map M:=List.mem_map_of_mem hi
 rw [h.at_,List.mem_map] at this;obtain ⟨x,h1,h2⟩:=this;exact ⟨x,h1,h2.symm⟩
theorem TabOk.back {T:Prs} {O:List Nat} {M:yL} {tr:Prs} {most:Nat} (h:TabOk T O M tr most) {x:Pf×Int} (hx:x∈T):∃ i∈O,M i=some x:=by
 have:Option.some x∈T.map Option.some:=List.mem_map_of_mem hx
 rw [<-h.at_,List.mem_map] at this;exact this
theorem TabOk.in_tree {T:Prs} {O:List Nat} {M:yL} {tr:Prs} {most:Nat} (h:TabOk T O M tr most) {p:Pf} {v:Int} (hp:(p,v)∈tr):∃ i:Nat,i∈O/\v=(i:Int)/\∃ w,M i=some (p,w)/\(p,w)∈T:=by
 obtain ⟨i,h1,h2,w,h3⟩:=(h.tree p v).1 hp;obtain ⟨x,h4,h5⟩:=h.has h1;rw [h3] at h5;cases h5;exact ⟨i,h1,h2,w,h3,h4⟩
theorem zJr {M:yL} {i:Nat} {x:Pf×Int}:∀ {O:List Nat} {T:Prs},O.map M=T.map Option.some->(∀ j∈O,∀ y,M j=some y->(j=i↔y.1=x.1))->(O.filter fun j=>!decide (j=i)).map (M.upd i none)=(T.filter fun y=>!decide (y.1=x.1)).map Option.some
 | [],[],_,_=>rfl
 | [],_::_,h,_=>by simp at h
 | _::_,[],h,_=>by simp at h
 | j::O,y::T,h,k=>by
  simp only [List.map_cons,List.cons.injEq] at h;have ih:=zJr h.2 (fun j hj=>k j (List.mem_cons_of_mem _ hj));have hj:=k j (by simp) y h.1
  by_cases e:j=i
  ·have e2:=hj.1 e;simp only [List.filter_cons,e,e2,decide_true,Bool.not_true,Bool.false_eq_true,if_false];exact ih
  ·have e2:¬ y.1=x.1:=fun q=>e (hj.2 q);simp only [List.filter_cons,e,e2,decide_false,Bool.not_false,if_true,List.map_cons];rw [ih];congr 1;simp [yL.upd,e,h.1]
theorem zDR {O:List Nat} {i:Nat} (h:O.Nodup):O.erase i=O.filter fun j=>!decide (j=i):=by
 rw [h.erase_eq_filter];congr 1
theorem TabOk.leave {T:Prs} {C:List Nat} {O:List Nat} {M:yL} {tr:Prs} {most:Nat} (h:TabOk T O M tr most) (ht:TOk T C most) {i:Nat} {x:Pf×Int} (hi:i∈O) (hx:M i=some x):TabOk (T.del x.1) (O.erase i) (M.upd i none) (tr.del x.1) most:=by
 have key:∀ j∈O,∀ y,M j=some y->(j=i↔y.1=x.1):=by
  intro j hj y hy;constructor
  ·rintro rfl;rw [hx] at hy;cases hy;rfl
  ·intro e;have h1:(y.1,(j:Int))∈tr:=(h.tree _ _).2 ⟨j,hj,rfl,y.2,hy⟩;have h2:(x.1,(i:Int))∈tr:=(h.tree _ _).2 ⟨i,hi,rfl,x.2,hx⟩;rw [e] at h1;have:=h.srt.uniq h1 h2
   omega
 refine ⟨?_,fun j hj=>h.lt j (List.mem_of_mem_erase hj),h.nodup.erase i,h.srt.filter _,fun p v=>?_⟩
 ·rw [zDR h.nodup];exact zJr h.at_ key
 ·rw [show ((p,v)∈tr.del x.1)↔_ from Zk,h.tree];constructor
  ·rintro ⟨⟨j,h1,h2,w,h3⟩,h4⟩;have hji:j≠i:=fun e=>h4 ((key j h1 _ h3).1 e);exact ⟨j,(h.nodup.mem_erase_iff).2 ⟨hji,h1⟩,h2,w,by simp [yL.upd,hji,h3]⟩
  ·rintro ⟨j,h1,h2,w,h3⟩;obtain ⟨h5,h6⟩:=h.nodup.mem_erase_iff.1 h1;simp only [yL.upd,h5,if_false] at h3;exact ⟨⟨j,h6,h2,w,h3⟩,fun e=>h5 ((key j h6 _ h3).2 e)⟩
theorem zEf {M:yL} {i j:Nat} (h:j≠i):(M.upd i none) j=M j:=by simp [yL.upd,h]
theorem TabOk.use {T:Prs} {C:List Nat} {O:List Nat} {M:yL} {tr:Prs} {most:Nat} (h:TabOk T O M tr most) (ht:TOk T C most) {i:Nat} {x:Pf×Int} (hi:i∈O) (hx:M i=some x):TabOk (x::T.del x.1) (i::O.erase i) M tr most:=by
 have k:=h.leave ht hi hx;have hni:∀ j∈O.erase i,j≠i:=fun j hj=>(h.nodup.mem_erase_iff.1 hj).1;refine ⟨?_,fun j hj=>?_,List.nodup_cons.2 ⟨fun q=>hni i q rfl,k.nodup⟩,h.srt,fun p v=>?_⟩
 ·rw [List.map_cons,List.map_cons,hx,<-k.at_];congr 1;exact List.map_congr_left fun j hj=>(zEf (hni j hj)).symm
 ·rcases List.mem_cons.1 hj with rfl|hj
  ·exact h.lt _ hi
  ·exact k.lt j hj
 ·rw [h.tree];have:∀ j,j∈i::O.erase i↔j∈O:=by
   intro j;rw [List.mem_cons,h.nodup.mem_erase_iff];by_cases e:j=i
   ·subst e;simp [hi]
   ·simp [e]
  simp only [this]
theorem TabOk.add {T:Prs} {O:List Nat} {M:yL} {tr:Prs} {most:Nat} (h:TabOk T O M tr most) {i:Nat} {x:Pf×Int} (hi:M i=none) (hl:i<most) (hs:x.1.sane=true) (hx:∀ y∈T,y.1≠x.1):TabOk (x::T) (i::O) (M.upd i (Option.some x)) (tr.ins x.1 (i:Int)) most:=by
 have hni:i∉O:=fun q=>by
  obtain ⟨y,_,e⟩:=h.has q;rw [hi] at e;cases e
 refine ⟨?_,fun j hj=>?_,List.nodup_cons.2 ⟨hni,h.nodup⟩,h.srt.ins hs _,fun p v=>?_⟩
 ·rw [List.map_cons,List.map_cons,<-h.at_];congr 1
  ·simp [yL.upd]
  ·exact List.map_congr_left fun j hj=>by
    have:j≠i:=fun e=>hni (e ▸ hj)
    simp [yL.upd,this]
 ·rcases List.mem_cons.1 hj with rfl|hj
  ·exact hl
  ·exact h.lt j hj
 ·rw [Yz h.srt hs,h.tree];constructor
  ·rintro (e|⟨⟨j,h1,h2,w,h3⟩,h4⟩)
   ·cases e;exact ⟨i,by simp,rfl,x.2,by simp [yL.upd]⟩
   ·have:j≠i:=fun e=>hni (e ▸ h1)
    exact ⟨j,List.mem_cons_of_mem _ h1,h2,w,by simp [yL.upd,this,h3]⟩
  ·rintro ⟨j,h1,h2,w,h3⟩;by_cases e:j=i
   ·subst e;simp only [yL.upd,if_true,Option.some.injEq] at h3;left;rw [h3,h2]
   ·right
    simp only [yL.upd,e,if_false] at h3;have hj:j∈O:=by
     rcases List.mem_cons.1 h1 with e2|e2
     ·exact absurd e2 e
     ·exact e2
    refine ⟨⟨j,hj,h2,w,h3⟩,fun e2=>?_⟩;obtain ⟨y,h5,h6⟩:=h.has hj;rw [h3] at h6;cases h6;exact hx _ h5 e2
end Go.Proofs.YtjcbjclhagobiaaGreat
end
section
namespace Go.Proofs.YtjcbjclhagobiaaGreat
open Go Go.KL Go.KM
def vC (T:Prs) (l:Prs):Prs:=l.map fun x=>(x.1,(T.get x.1).getD 0)
def wI (T:Prs) (l:Prs):Prs:=l.foldl (fun T x=>T.del x.1) T
theorem TabOk.in_get {T:Prs} {C:List Nat} {O:List Nat} {M:yL} {tr:Prs} {most:Nat} (h:TabOk T O M tr most) (ht:TOk T C most) {p:Pf} {v:Int} (hp:(p,v)∈tr):∃ i:Nat,i∈O/\v=(i:Int)/\M i=some (p,(T.get p).getD 0)/\(p,(T.get p).getD 0)∈T:=by
 obtain ⟨i,h1,h2,w,h3,h4⟩:=h.in_tree hp;have:=ht.uq.get.2 h4
 rw [this];exact ⟨i,h1,h2,h3,h4⟩
theorem TabOk.srt_is {T:Prs} {C:List Nat} {O:List Nat} {M:yL} {tr:Prs} {most:Nat} (h:TabOk T O M tr most) (ht:TOk T C most):vC T tr=srtT T:=by
 obtain ⟨s1,s2⟩:=wM ht.uq;refine zEa ?_ s1.ltP fun x=>?_
 ·unfold vC;rw [List.pairwise_map];exact h.srt.ltP
 ·rw [s2.mem_iff];unfold vC;rw [List.mem_map];constructor
  ·rintro ⟨⟨p,v⟩,h1,rfl⟩;obtain ⟨i,_,_,_,h2⟩:=h.in_get ht h1;exact h2
  ·intro hx;obtain ⟨i,h1,h2⟩:=h.back hx;exact ⟨(x.1,(i:Int)),(h.tree _ _).2 ⟨i,h1,rfl,x.2,h2⟩,by rw [ht.uq.get.2 (show (x.1,x.2)∈T from hx)];rfl⟩
theorem TabOk.tlen {T:Prs} {C:List Nat} {O:List Nat} {M:yL} {tr:Prs} {most:Nat} (h:TabOk T O M tr most) (ht:TOk T C most):tr.length=T.length:=by
 have:=congrArg List.length (h.srt_is ht)
 rw [(wM ht.uq).2.length_eq] at this;simpa [vC] using this
theorem Vu {T tr:Prs} {f:Pf->Bool}:vC T (tr.filter fun x=>f x.1)=(vC T tr).filter fun x=>f x.1:=by
 unfold vC;rw [List.filter_map];rfl
theorem Qx {T:Prs} {C:List Nat} {O:List Nat} {M:yL} {tr:Prs} {most:Nat} (h:TabOk T O M tr most) (ht:TOk T C most) (p:Pf):vC T (tr.above p)=(srtT T).above p:=by
 rw [<-h.srt_is ht];exact Vu (f:=fun q=>q.covers p)
theorem zC3 {T:Prs} {C:List Nat} {O:List Nat} {M:yL} {tr:Prs} {most:Nat} (h:TabOk T O M tr most) (ht:TOk T C most) (p:Pf):vC T (tr.under p)=(srtT T).under p:=by
 rw [<-h.srt_is ht];exact Vu (f:=fun q=>p.covers q)
theorem Ws:∀ {l T:Prs},wI T l=T.filter fun x=>!(l.any fun y=>decide (y.1=x.1))
 | [],T=>by
  show T=T.filter fun _=>true;exact (List.filter_eq_self.2 fun _ _=>rfl).symm
 | y::l,T=>by
  unfold wI;rw [List.foldl_cons];have:=Ws (l:=l) (T:=T.del y.1)
  unfold wI at this;rw [this];unfold Prs.del;rw [List.filter_filter];congr 1;funext x
  rw [List.any_cons];by_cases e:x.1=y.1
  ·simp [e]
  ·have e':¬ y.1=x.1:=fun q=>e q.symm;simp [e,e']
theorem Yc {T:Prs} {C:List Nat} {O:List Nat} {M:yL} {tr:Prs} {most:Nat} (h:TabOk T O M tr most) {f:Pf->Bool}:wI T (tr.filter fun x=>f x.1)=T.filter fun x=>!f x.1:=by
 rw [Ws];refine List.filter_congr fun x hx=>?_;congr 1;rw [Bool.eq_iff_iff,List.any_eq_true];constructor
 ·rintro ⟨y,h1,h2⟩;have h2:=of_decide_eq_true h2;rw [List.mem_filter] at h1;rw [<-h2];exact h1.2
 ·intro hf;obtain ⟨i,h1,h2⟩:=h.back hx;exact ⟨(x.1,(i:Int)),List.mem_filter.2 ⟨(h.tree _ _).2 ⟨i,h1,rfl,x.2,h2⟩,hf⟩,by simp⟩
theorem ZZ {p:Pf} {a:Ad} (hp:p.sane=true):p.covers (ofP a (width a.v6))=p.has a:=by
 have hq:(ofP a (width a.v6)).sane=true:=ZO;have hw:(ofP a (width a.v6)).n=(width a.v6:Int):=by
  show ((yT (width a.v6) a.v6:Nat):Int)=_;unfold yT;congr 1;omega
 have hb:=xY hp;have e0:ofP (ofP a (width a.v6)).a p.n=ofP a p.n:=by
  unfold ofP;have h1:yT p.n (a.cut (yT (width a.v6) a.v6)).v6=yT p.n a.v6:=rfl;refine Pf.ext ?_ ?_
  ·show (a.cut _).cut (yT p.n a.v6)=a.cut (yT p.n a.v6);exact zIn (by unfold yT;omega)
  ·rfl
 unfold Pf.covers Pf.has;rw [hq,hp,e0,hw];by_cases e:p=ofP a p.n
 ·have e1:=xY hp;have e2:p.a.v6=a.v6:=by rw [e];rfl
  rw [e2] at e1;rw [decide_eq_true e1.2];simp
 ·simp [e]
def WF (T:Prs) (a:Ad):Option (Pf×Int):=T.find? fun x=>x.1.has a
theorem TabOk.find {T:Prs} {C:List Nat} {O:List Nat} {M:yL} {tr:Prs} {most:Nat} (h:TabOk T O M tr most) (ht:TOk T C most) (a:Ad):(WF T a=none/\tr.longest a=none)∨∃ x i,WF T a=some x/\x∈T/\i∈O/\M i=some x/\tr.longest a=some (x.1,(i:Int)):=by
 unfold WF Prs.longest;have hmem:∀ p v,(p,v)∈tr.above (ofP a (width a.v6))↔(p,v)∈tr/\p.has a=true:=by
  intro p v;unfold Prs.above;rw [List.mem_filter];refine and_congr_right fun q=>?_;show p.covers _=true↔_;rw [ZZ (h.srt.sane _ q)]
 cases hf:T.find? fun x=>x.1.has a with
 | none=>
  refine .inl ⟨rfl,?_⟩;rw [List.find?_eq_none] at hf;rw [List.getLast?_eq_none_iff,List.eq_nil_iff_forall_not_mem];rintro ⟨p,v⟩ hp;obtain ⟨h1,h2⟩:=(hmem p v).1 hp;obtain ⟨i,_,_,w,_,h3⟩:=h.in_tree h1;exact hf _ h3 h2
 | some x=>
  have hxa:=List.find?_some hf;have hxT:=List.mem_of_find?_eq_some hf;obtain ⟨i,hi,hM⟩:=h.back hxT;refine .inr ⟨x,i,rfl,hxT,hi,hM,?_⟩;have hin:(x.1,(i:Int))∈tr.above (ofP a (width a.v6)):=(hmem _ _).2 ⟨(h.tree _ _).2 ⟨i,hi,rfl,x.2,hM⟩,hxa⟩;have hone:∀ y∈tr.above (ofP a (width a.v6)),y=(x.1,(i:Int)):=by
   rintro ⟨p,v⟩ hp;obtain ⟨h1,h2⟩:=(hmem p v).1 hp;obtain ⟨j,hj,hv,w,hMj,h3⟩:=h.in_tree h1;have c1:x.1.covers (ofP a (width a.v6))=true:=by rw [ZZ (ht.sane _ hxT)];exact hxa
   have c2:p.covers (ofP a (width a.v6))=true:=by rw [ZZ (h.srt.sane _ h1)];exact h2
   have e:p=x.1:=by
    rcases covers_line c1 c2 with q|q
    ·exact congrArg Prod.fst (ZR ht.sane ht.apart hxT h3 q).symm
    ·exact congrArg Prod.fst (ZR ht.sane ht.apart h3 hxT q)
   subst e;have:=h.srt.uniq h1 ((h.tree _ _).2 ⟨i,hi,rfl,x.2,hM⟩)
   rw [this]
  cases hl:(tr.above (ofP a (width a.v6))).getLast? with
  | none=>rw [List.getLast?_eq_none_iff] at hl;rw [hl] at hin;cases hin
  | some y=>rw [hone y (List.mem_of_getLast? hl)]
def Zf (T:Prs) (p:Pf):Prs×Prs:=if (srtT T).above p=[] then (T.filter fun x=>!p.covers x.1,(srtT T).under p) else (T.filter fun x=>!x.1.covers p,(srtT T).above p)
def VR (pol:Int) (C:List Nat):Prs->Option (Pf×Int)
 | []=>none
 | x::l=>match VR pol C l with
  | none=>some x
  | some y=>if pol=1/\yV C x.1<yV C y.1 then some x else some y
theorem zBN {pol:Int} {C:List Nat} {M:yL}:∀ {O:List Nat} {T:Prs},O.map M=T.map some->T≠[]->∃ i x,i∈O/\x∈T/\M i=some x/\VR pol C T=some x/\vict pol (O.map fun (i:Nat)=>((i:Int),(yV C ((M i).getD prZ).1:Int)))=some ((i:Int),(yV C x.1:Int))
 | [],[],_,h=>absurd rfl h
 | [],_::_,h,_=>by simp at h
 | _::_,[],h,_=>by simp at h
 | i::O,x::T,h,_=>by
  simp only [List.map_cons,List.cons.injEq] at h;by_cases e:T=[]
  ·subst e;have:O=[]:=by have:=congrArg List.length h.2;simpa using this
   subst this;exact ⟨i,x,by simp,by simp,h.1,rfl,by simp [vict,h.1]⟩
  ·obtain ⟨j,y,h1,h2,h3,h4,h5⟩:=zBN (pol:=pol) (C:=C) h.2 e;unfold VR;rw [List.map_cons];unfold vict;rw [h4,h5];by_cases c:pol=1/\yV C x.1<yV C y.1
   ·have c2:pol=1/\((yV C ((M i).getD prZ).1:Int))<(yV C y.1:Int):=by rw [h.1];exact ⟨c.1,by have:=c.2;simp;omega⟩
    refine ⟨i,x,by simp,by simp,h.1,by simp only [c,and_self,if_true],?_⟩
    show (if pol=1/\(yV C ((M i).getD prZ).1:Int)<(yV C y.1:Int) then _ else _)=_;rw [if_pos c2,h.1];rfl
   ·have c2:¬ (pol=1/\((yV C ((M i).getD prZ).1:Int))<(yV C y.1:Int)):=by
     rw [h.1];rintro ⟨a,b⟩;exact c ⟨a,by simp at b;omega⟩
    refine ⟨j,y,List.mem_cons_of_mem _ h1,List.mem_cons_of_mem _ h2,h3,by simp only [c,if_false],?_⟩
    show (if pol=1/\(yV C ((M i).getD prZ).1:Int)<(yV C y.1:Int) then _ else _)=_;rw [if_neg c2]
structure TRep where
 T:Prs
 C:List Nat
 in_:Bool
 absorbed:Prs
 out:Prs
def tInst (T:Prs) (C:List Nat) (most:Nat) (pol:Int) (x:Pf×Int) (soft:Bool):TRep:=
 if most=0∨wgood x=false∨(srtT T).above x.1≠[] then ⟨T,C,false,[],[]⟩
 else if soft=true/\((srtT T).under x.1≠[]∨most<=T.length) then ⟨T,C,false,[],[]⟩
 else
  let T1:Prs:=T.filter fun y=>!x.1.covers y.1
  match (if most<=T1.length then VR pol C T1 else none) with
  | none=>⟨x::T1,Yy C x.1,true,(srtT T).under x.1,[]⟩
  | some v=>⟨x::T1.del v.1,Yy C x.1,true,(srtT T).under x.1,[v]⟩
end Go.Proofs.YtjcbjclhagobiaaGreat
end
section
namespace Go.Proofs.YtjcbjclhagobiaaGreat
set_option maxHeartbeats 1600000
open Go Go.KL Go.KM
variable {E:Env} {X:Xs}
set_option maxRecDepth 100000
structure TQ where
 l:Nat
 s:Nat
 t:Nat
 k:Nat
abbrev rV (x:Pf×Int):Value:=.agg (prC x).toArray
abbrev QQ (b:Nat) (pol:Int) (q:TQ):HP:=box b [pt q.l,.int .i64 pol,pt q.s,pt q.t,pt q.k] 283
abbrev trB (most:Nat):Nat:=128*most+2
theorem xU (b:Nat) (pol:Int) (q:TQ):Does PR E X 148 [pt b] [QQ b pol q] (fun v t=>v=.bool true/\t=[QQ b pol q]):=by
 refine Does.of 12 inferInstance rfl (by decide) rfl ?_
 refine zB ?_;refine ret ?_;exact ends ⟨rfl,rfl⟩
theorem Xa (b:Nat) (pol:Int) (q:TQ) (M:yL) (n most i:Nat):Does PR E X 149 [pt b,.int .i64 (i:Int)] [QQ b pol q,wX q.s M n most] (fun v t=>v=rV ((M i).getD prZ)/\t=[QQ b pol q,wX q.s M n most]):=by
 refine Does.of 17 inferInstance rfl (by decide) rfl ?_
 refine zB ?_;refine alloc fun b1=>?_;refine zB ?_;refine call (zM4 q.s M n most i) ?_;rintro _ _ ⟨rfl,rfl⟩;refine onA ?_;refine alloc fun b2=>?_;refine zB ?_;refine ret ?_;exact ends ⟨rfl,rfl⟩
theorem zAU (b:Nat) (pol:Int) (q:TQ) (O:List Nat) (M:yL) (n most i:Nat) (C:List Nat) (hC:SkOk C) (x:Pf×Int) (hx:M i=some x) (hi:i<most):Does PR E X 178 [pt b,.int .i64 (i:Int)] [QQ b pol q,VC q.l O most,wX q.s M n most,skP q.k C] (fun v t=>v=.tuple #[]/\t=[QQ b pol q,VC q.l (i::O.erase i) most,wX q.s M n most,skP q.k (Yy C x.1)]):=by
 refine Does.of 20 inferInstance rfl (by decide) rfl ?_
 refine zB ?_;refine call (zHF q.l O most i hi) ?_;rintro _ _ ⟨rfl,rfl⟩;refine onA ?_;refine draw [0,1,3,7,0,0,48,112,255] [6,8] [3] [0,1,2,3,4,5,6,7,8] ?_;refine zC ?_;refine call (Xa b pol q M n most i) ?_;rintro _ _ ⟨rfl,rfl⟩;try refine zJ ?_
 rw [hx];refine ddA ?_;refine call (zGk q.k C hC x.1) ?_;rintro _ _ ⟨rfl,rfl⟩;try refine zJ ?_
 refine ddA ?_;refine fall ?_;exact ends ⟨rfl,rfl⟩
theorem zAi (b:Nat) (pol:Int) (q:TQ) (M:yL) (n most:Nat):Does PR E X 305 [pt b] [QQ b pol q,wX q.s M n most] (fun v t=>v=.bool (decide (most<=n))/\t=[QQ b pol q,wX q.s M n most]):=by
 refine Does.of 14 inferInstance rfl (by decide) rfl ?_
 refine zB ?_;refine draw [0,1,3,7,15,0,32,96,224,511,1023,2047] [4,9,11] [3,8] [0,1,2,3,5,6,7,8,4,9,10,11] ?_;refine zC ?_;refine call (zG0 q.s M n most) ?_;rintro _ _ ⟨rfl,rfl⟩;try refine zJ ?_
 refine ddA ?_;refine call (Wr q.s M n most) ?_;rintro _ _ ⟨rfl,rfl⟩;try refine zJ ?_
 refine ddA ?_;rw [show decide ((most:Int)<=(n:Int))=decide (most<=n) by by_cases h:most<=n <;> simp [h]]
 refine ret ?_;exact ends ⟨rfl,rfl⟩
theorem WB (b:Nat) (pol:Int) (q:TQ) (O:List Nat) (M:yL) (n most i:Nat) (hmo:most<=1024) (tr:Prs) (x:Pf×Int) (hx:M i=some x) (hi:i∈O):Does PR E X 237 [pt b,.int .i64 (i:Int)] [QQ b pol q,VC q.l O most,wX q.s M n most,yX q.t tr (trB most)] (fun v t=>v=rV x/\t=[QQ b pol q,VC q.l (O.erase i) most,wX q.s (M.upd i none) (n-1) most,yX q.t (tr.del x.1) (trB most)]):=by
 refine Does.of 30 inferInstance rfl (by decide) rfl ?_
 refine zB ?_;refine alloc fun b1=>?_;refine zB ?_;refine call (Xa b pol q M n most i) ?_;rintro _ _ ⟨rfl,rfl⟩;refine onA ?_;rw [hx];refine alloc fun b2=>?_;refine zB ?_;refine draw [0,1,3,7,0,16,63] [6] [3,5] [0,1,2,3,4,5,6] ?_;refine zC ?_;refine call (zCG q.t tr (trB most) (by unfold trB;omega) x.1) ?_
 rintro _ _ ⟨rfl,rfl⟩;try refine zJ ?_
 refine ddA ?_;refine call (zBt q.l O most i hi) ?_;rintro _ _ ⟨rfl,rfl⟩;refine onA ?_;refine call (zJx q.s M n most i x hx) ?_;rintro _ _ ⟨rfl,rfl⟩;refine onA ?_;refine ret ?_;exact ends ⟨rfl,rfl⟩
end Go.Proofs.YtjcbjclhagobiaaGreat
end
section
namespace Go.Proofs.YtjcbjclhagobiaaGreat
set_option maxHeartbeats 1600000
open Go Go.KL Go.KM
variable {E:Env} {X:Xs}
set_option maxRecDepth 100000
theorem JU {T l:Prs} {x:Pf×Int}:wI T (l++[x])=(wI T l).del x.1:=by simp [wI,List.foldl_append]
theorem zIP {T l:Prs} {C:List Nat} {most:Nat} (h:TOk T C most):TOk (wI T l) C most:=by rw [Ws];exact h.filter _
theorem TabOk.cnt1 {T:Prs} {C O:List Nat} {M:yL} {tr:Prs} {most i:Nat} {x:Pf×Int} (h:TabOk T O M tr most) (ht:TOk T C most) (hi:i∈O) (hx:M i=some x):T.length-1=(T.del x.1).length:=by
 rw [<-h.cnt,<-(h.leave ht hi hx).cnt,List.length_erase_of_mem hi]
set_option maxHeartbeats 1000000 in
theorem Zm (b:Nat) (pol:Int) (q:TQ) (T:Prs) (C O:List Nat) (M:yL) (tr:Prs) (most:Nat) (hok:TabOk T O M tr most) (ht:TOk T C most) (base:Option Addr) (cap:Nat) (l:Prs) (hl:∀ x∈l,x∈tr) (hnd:l.Pairwise fun x y=>x.1≠y.1) (hll:l.length<=100000) :
  Does PR E X 292 [pt b,.slice base l.length cap] [QQ b pol q,VC q.l O most,wX q.s M T.length most,yX q.t tr (trB most),osl base cap 214 5 (l.map prC)] (fun v t=>∃ b' c' O' M' tr',TabOk (wI T l) O' M' tr' most/\v=.slice b' l.length c'/\t=[QQ b pol q,VC q.l O' most,wX q.s M' (wI T l).length most,yX q.t tr' (trB most),osl b' c' 54 5 ((vC T l).map prC),osl base cap 214 5 (l.map prC)]):=by
 refine Does.of 23 inferInstance rfl (by decide) rfl ?_
 refine zB ?_;refine into (Into.nilO (T:=54) (sz:=5)) ?_;refine loop (ι:=Prs×Prs×List Nat×yL×Prs×Option Addr×Nat) (fun z=>z.2.1.length) (fun z=>z.1++z.2.1=l/\TabOk (wI T z.1) z.2.2.1 z.2.2.2.1 z.2.2.2.2.1 most/\∀ x∈z.2.1,x∈z.2.2.2.2.1)
  (fun z=>[(0,pt b),(5,.slice z.2.2.2.2.2.1 z.1.length z.2.2.2.2.2.2),(8,.slice base l.length cap),(9,.int .i64 (l.length:Int)),(10,.int .i64 (z.1.length:Int))])
  (fun z=>[osl z.2.2.2.2.2.1 z.2.2.2.2.2.2 54 5 ((vC T z.1).map prC),QQ b pol q,VC q.l z.2.2.1 most,wX q.s z.2.2.2.1 (wI T z.1).length most,yX q.t z.2.2.2.2.1 (trB most),osl base cap 214 5 (l.map prC)]) ([],l,O,M,tr,none,0) ⟨rfl,hok,hl⟩ ?_
 clear hok hl;rintro ⟨D,R,O,M,tr,ob,oc⟩ ⟨h1,hok,hl⟩ ih;(try dsimp only at h1 hok hl ih ⊢);have hlen:D.length+R.length=l.length:=by rw [<-h1,List.length_append]
 have hmo:=ht.most;cases R with
 | nil=>
  have hnil:([]:Prs).length=0:=rfl;rw [List.append_nil] at h1;subst h1;refine zB ?_;refine no ?_;refine zB ?_;refine ret ?_;exact ends ⟨ob,oc,O,M,tr,hok,rfl,rfl⟩
 | cons x R=>
  have hR:(x::R).length=R.length+1:=rfl;have htd:TOk (wI T D) C most:=zIP ht;obtain ⟨i,hi,hv,hM,hmem⟩:=hok.in_get htd (p:=x.1) (v:=x.2) (hl x (by simp))
  have hsub:∀ y∈wI T D,y∈T:=fun y hy=>by rw [Ws] at hy;exact (List.mem_filter.1 hy).1
  have hTg:T.get x.1=some (((wI T D).get x.1).getD 0):=ht.uq.get.2 (hsub _ hmem);have hlx:l[((D.length:Nat):Int).toNat]?=some x:=by rw [show ((D.length:Nat):Int).toNat=D.length by omega,<-h1];simp
  have hrs:(vC T D).length=D.length:=by simp [vC]
  refine zB ?_;refine yes ?_;refine zB ?_;refine alloc fun b7=>?_;refine zB ?_;rw [hv];refine call (WB b pol q O M (wI T D).length most i hmo tr _ hM hi) ?_;rintro _ _ ⟨rfl,rfl⟩;refine onA ?_;rw [hok.cnt1 htd hi hM];refine buildSlice fun bp=>?_;refine zB ?_;refine xM fun b8 c8=>?_;refine zB ?_;have e1:∀ u:List Value,u=prC (x.1,((wI T D).get x.1).getD 0)->(vC T D).map prC++[u]=(vC T (D++[x])).map prC:=by
   intro u hu;unfold vC;rw [List.map_append,List.map_append,hu];simp only [List.map_cons,List.map_nil,hTg,Option.getD_some]
  rw [e1 (yG (rV (x.1,((wI T D).get x.1).getD 0))) rfl];have hr:=ih (D++[x],R,O.erase i,M.upd i none,tr.del x.1,b8,c8) ⟨by rw [<-h1];simp,by
   show TabOk (wI T (D++[x])) _ _ _ _;rw [JU];have:=hok.leave htd hi hM
   exact this,fun y hy=>by
    refine Zk.2 ⟨hl y (List.mem_cons_of_mem _ hy),fun e=>?_⟩;rw [<-h1,List.pairwise_append] at hnd;exact (List.pairwise_cons.1 hnd.2.1).1 y hy e.symm⟩ (by show R.length<R.length+1;omega)
  (try dsimp only at hr);rw [JU,show (D++[x]).length=D.length+1 by simp] at hr
  exact next hr
set_option maxHeartbeats 1000000 in
theorem zAA (b:Nat) (pol:Int) (q:TQ) (T:Prs) (C O:List Nat) (M:yL) (tr:Prs) (most:Nat) (hok:TabOk T O M tr most) (ht:TOk T C most) (x:Pf×Int) (hx:VR pol C T=some x) :
  Does PR E X 306 [pt b] [QQ b pol q,VC q.l O most,wX q.s M T.length most,yX q.t tr (trB most),skP q.k C] (fun v t=>∃ O' M' tr',TabOk (T.del x.1) O' M' tr' most/\v=rV x/\t=[QQ b pol q,VC q.l O' most,wX q.s M' (T.del x.1).length most,yX q.t tr' (trB most),skP q.k C]):=by
 have hne:T≠[]:=by rintro rfl;cases hx
 have hC:=ht.sk;have hcnt:=hok.cnt;have hlen:=ht.len;have hmo:=ht.most;refine Does.of 46 inferInstance rfl (by decide) rfl ?_
 refine zB ?_;refine alloc fun b2=>?_;refine zB ?_;refine call (WQ q.l O most) ?_;rintro _ _ ⟨ob,oc,rfl,rfl⟩;refine zB ?_;refine into (Into.nilO (T:=479) (sz:=2)) ?_;obtain ⟨F,hF⟩:∃ F:Nat->Int×Int,F=fun (i:Nat)=>((i:Int),(yV C ((M i).getD prZ).1:Int)):=⟨_,rfl⟩;refine loop (ι:=List Nat×List Nat×Option Addr×Nat) (fun z=>z.2.1.length) (fun z=>z.1++z.2.1=O)
  (fun z=>[(0,pt b),(2,pt b2),(3,.slice z.2.2.1 z.1.length z.2.2.2),(13,.slice ob O.length oc),(14,.int .i64 (O.length:Int)),(15,.int .i64 (z.1.length:Int))])
  (fun z=>[osl z.2.2.1 z.2.2.2 479 2 ((z.1.map F).map fun x=>[.int .i64 x.1,.int .i64 x.2]),VC q.l O most,osl ob oc 3 1 (O.map fun (i:Nat)=>[Value.int .i64 (i:Int)]),box b2 (prC prZ) 54,QQ b pol q,wX q.s M T.length most,yX q.t tr (trB most),skP q.k C]) ([],O,none,0) rfl ?_
 rintro ⟨D,R,eb,ec⟩ h1 ih;(try dsimp only at h1 ih ⊢);have hDR:D.length+R.length=O.length:=by rw [<-h1,List.length_append]
 cases R with
 | nil=>
  have hnil:([]:List Nat).length=0:=rfl;rw [List.append_nil] at h1;subst h1;obtain ⟨i,y,g1,g2,g3,g4,g5⟩:=zBN (pol:=pol) (C:=C) hok.at_ hne;rw [hx] at g4;cases g4;refine zB ?_;refine no ?_;refine zB ?_;have hc:=choose_spec (E:=E) (X:=X) pol eb ec (D.map F) (by simp;omega) ((i:Int),(yV C x.1:Int)) (by rw [hF];exact g5)
  rw [List.length_map] at hc;refine call hc ?_;rintro _ _ ⟨rfl,rfl⟩;refine zB ?_;refine call (WB b pol q D M T.length most i hmo tr x g3 g1) ?_;rintro _ _ ⟨rfl,rfl⟩;refine onA ?_;rw [hok.cnt1 ht g1 g3];refine ret ?_;exact ends ⟨D.erase i,M.upd i none,tr.del x.1,hok.leave ht g1 g3,rfl,rfl⟩
 | cons j R=>
  have hR:(j::R).length=R.length+1:=rfl;have hjx:O[((D.length:Nat):Int).toNat]?=some j:=by rw [show ((D.length:Nat):Int).toNat=D.length by omega,<-h1];simp
  have hsk:yV C ((M j).getD prZ).1<=255:=by unfold yV;split <;> omega
  refine zB ?_;refine yes ?_;refine zB ?_;refine draw [0,0,0,4,12,28,0,0,192,448,1020,2046,4094,8191,16383] [8,10,12,13,14] [5] [0,1,2,3,4,5,6,7,8,9,10,11,12,13,14] ?_;refine zC ?_;refine call (Xa b pol q M T.length most j) ?_;rintro _ _ ⟨rfl,rfl⟩;try refine zJ ?_
  refine ddA ?_;refine call (zB7 q.k C hC ((M j).getD prZ).1) ?_;rintro _ _ ⟨rfl,rfl⟩;try refine zJ ?_
  refine ddA ?_;refine yF fun bp=>?_;refine ddA ?_;refine xP fun b8 c8=>?_;refine ddA ?_;have e1:∀ u:List Value,u=[.int .i64 (j:Int),.int .i64 (yV C ((M j).getD prZ).1:Int)]->((D.map F).map fun x=>[Value.int .i64 x.1,.int .i64 x.2])++[u]=((D++[j]).map F).map fun x=>[Value.int .i64 x.1,.int .i64 x.2]:=by
   intro u hu;rw [hu,hF];simp
  rw [e1 (yG (.agg (lay (lay [.int .i64 0,.int .i64 0] 0 (yG (.int .i64 (j:Int)))) 1 (yG (.int .i64 (yV C ((M j).getD prZ).1:Int)))).toArray)) rfl];have hr:=ih (D++[j],R,b8,c8) (by rw [<-h1];simp) (by show R.length<R.length+1;omega)
  (try dsimp only at hr);rw [show (D++[j]).length=D.length+1 by simp] at hr
  exact next hr
end Go.Proofs.YtjcbjclhagobiaaGreat
end
section
namespace Go.Proofs.YtjcbjclhagobiaaGreat
set_option maxHeartbeats 1600000
open Go Go.KL Go.KM
variable {E:Env} {X:Xs}
set_option maxRecDepth 100000
abbrev zPc (T:Prs) (most:Nat):={ x:TQ×List Nat×yL×Prs // TabOk T x.2.1 x.2.2.1 x.2.2.2 most }
abbrev Qs (b:Nat) (T:Prs) (most:Nat) (pol:Int) (C:List Nat) (q:zPc T most):List HP:=[QQ b pol q.1.1,VC q.1.1.l q.1.2.1 most,wX q.1.1.s q.1.2.2.1 T.length most,yX q.1.1.t q.1.2.2.2 (trB most),skP q.1.1.k C]
abbrev Ju (b:Nat) (T:Prs) (most:Nat) (pol:Int) (C:List Nat):HP:=HP.ex (Qs b T most pol C)
theorem zIZ (n pol:Int):Does PR E X 145 [.int .i64 n,.int .i64 pol] [] (fun v t=>∃ b,v=pt b/\t=[Ju b [] (max 0 (min n 1024)).toNat pol (List.replicate 128 0)]):=by
 have hm:(max 0 (min n 1024)).toNat<=1024:=by omega
 refine Does.of 15 inferInstance rfl (by decide) rfl ?_
 refine zB ?_;refine call (zE2 n) ?_;rintro _ _ ⟨l,rfl,rfl⟩;refine zB ?_;refine call (zGZ n) ?_;rintro _ _ ⟨s,rfl,rfl⟩;refine zB ?_;refine call (zCB (trB (max 0 (min n 1024)).toNat) (by unfold trB;omega)) ?_
 rintro _ _ ⟨t,rfl,rfl⟩;refine zB ?_;refine call zHE ?_;rintro _ _ ⟨k,rfl,rfl⟩;refine zB ?_;refine zU fun b=>?_;refine zB ?_;generalize (max 0 (min n 1024)).toNat=most at hm;refine zE (Qs b [] most pol (List.replicate 128 0)) ⟨(⟨l,s,t,k⟩,[],fun _=>none,[]),TabOk.new most⟩ ?_;refine ret ?_;exact ends ⟨b,rfl,rfl⟩
theorem zE3 (b:Nat) (pol:Int) (q:TQ) (tr:Prs) (B:Nat) (a:Ad):Does PR E X 177 [pt b,a.v] [QQ b pol q,yX q.t tr B] (fun v t=>v=.tuple #[.int .i64 ((tr.longest a).getD prZ).2,.bool (tr.longest a).isSome]/\t=[QQ b pol q,yX q.t tr B]):=by
 refine Does.of 23 inferInstance rfl (by decide) rfl ?_
 refine zB ?_;refine zU fun b1=>?_;refine zB ?_;refine call (xU b pol q) ?_;rintro _ _ ⟨rfl,rfl⟩;refine onA ?_;refine no ?_;refine zB ?_;refine draw [0,1,3,7,0,31,63,127,127,0,767,2047] [5,9,10,11] [3,4] [0,1,2,3,4,5,6,7,8,9,10,11] ?_;refine zC ?_;refine call (zBM q.t tr B a) ?_;rintro _ _ ⟨rfl,rfl⟩;try refine zJ ?_
 refine ddA ?_;refine yS fun b2=>?_;refine ddA ?_;refine ret ?_;exact ends ⟨rfl,rfl⟩
def zFo (T:Prs) (C:List Nat) (a:Ad):Prs×List Nat:=match WF T a with
 | none=>(T,C)
 | some x=>(x::T.del x.1,Yy C x.1)
theorem zKP (b:Nat) (T:Prs) (most:Nat) (pol:Int) (C:List Nat) (ht:TOk T C most) (a:Ad):Does PR E X 100 [pt b,a.v] [Ju b T most pol C] (fun v t=>v=prO (WF T a)/\t=[Ju b (zFo T C a).1 most pol (zFo T C a).2]):=by
 refine Does.of 23 inferInstance rfl (by decide) rfl ?_
 refine zW (Qs b T most pol C) fun q=>?_;obtain ⟨⟨q,O,M,tr⟩,hok⟩:=q;(try dsimp only at hok ⊢);refine zB ?_;refine zU fun b1=>?_;refine zB ?_;refine alloc fun b2=>?_;refine zB ?_;refine call (zE3 b pol q tr (trB most) a) ?_;rintro _ _ ⟨rfl,rfl⟩;refine onA ?_;unfold zFo;rcases hok.find ht a with ⟨h1,h2⟩|⟨x,i,h1,h2,h3,h4,h5⟩
 ·rw [h1,h2];refine yes ?_;refine zB ?_;refine zE (Qs b T most pol C) ⟨(q,O,M,tr),hok⟩ ?_;refine ret ?_;exact ends ⟨rfl,rfl⟩
 ·rw [h1,h5];refine no ?_;refine zB ?_;have hu:=hok.use ht h3 h4;have hl:T.length=(x::T.del x.1).length:=by
   rw [<-hok.cnt,<-hu.cnt,List.length_cons,List.length_erase_of_mem h3];have:=List.length_pos_of_mem h3;omega
  refine call (zAU b pol q O M T.length most i C ht.sk x h4 (hok.lt i h3)) ?_;rintro _ _ ⟨rfl,rfl⟩;refine onA ?_;refine call (Xa b pol q M T.length most i) ?_;rintro _ _ ⟨rfl,rfl⟩;refine onA ?_;rw [h4,hl];refine zE (Qs b (x::T.del x.1) most pol (Yy C x.1)) ⟨(q,i::O.erase i,M,tr),hu⟩ ?_;refine ret ?_;exact ends ⟨rfl,rfl⟩
theorem zEd (b:Nat) (T:Prs) (most:Nat) (pol:Int) (C:List Nat) (ht:TOk T C most) (p:Pf):Does PR E X 159 [pt b,p.v] [Ju b T most pol C] (fun v t=>v=.bool (T.get p).isSome/\t=[Ju b (T.del p) most pol C]):=by
 refine Does.of 24 inferInstance rfl (by decide) rfl ?_
 refine zW (Qs b T most pol C) fun q=>?_;obtain ⟨⟨q,O,M,tr⟩,hok⟩:=q;(try dsimp only at hok ⊢);have hmo:=ht.most;refine zB ?_;refine zU fun b1=>?_;refine zB ?_;refine call (xU b pol q) ?_;rintro _ _ ⟨rfl,rfl⟩;refine onA ?_;refine no ?_;refine zB ?_;refine draw [0,1,3,7,0,31,63,127,127,255,1023] [5,9,10] [3,4] [0,1,2,3,4,5,6,7,8,9,10] ?_;refine zC ?_;refine call (Wm q.t tr (trB most) p) ?_;rintro _ _ ⟨rfl,rfl⟩;try refine zJ ?_
 refine ddA ?_;cases hg:tr.get p with
 | none=>
  have h2:T.get p=none:=by
   cases h:T.get p with
   | none=>rfl
   | some w=>
    obtain ⟨i,h3,h4⟩:=hok.back (ht.uq.get.1 h);have:=(XH hok.srt).2 ((hok.tree p i).2 ⟨i,h3,rfl,w,h4⟩)
    rw [hg] at this;cases this
  have h3:T.del p=T:=by
   unfold Prs.del;refine List.filter_eq_self.2 fun y hy=>?_;by_cases e:y.1=p
   ·subst e;have:=ht.uq.get.2 (show (y.1,y.2)∈T from hy)
    rw [h2] at this;cases this
   ·simp [e]
  rw [h2,h3];refine no ?_;refine zB ?_;refine zE (Qs b T most pol C) ⟨(q,O,M,tr),hok⟩ ?_;refine ret ?_;exact ends ⟨rfl,rfl⟩
 | some v=>
  obtain ⟨i,h1,h2,w,h3,h4⟩:=hok.in_tree ((XH hok.srt).1 hg);have h5:=ht.uq.get.2 h4;rw [h5];refine yes ?_;refine zB ?_;rw [Option.getD_some,h2];refine call (WB b pol q O M T.length most i hmo tr _ h3 h1) ?_;rintro _ _ ⟨rfl,rfl⟩;refine onA ?_;rw [hok.cnt1 ht h1 h3];refine zE (Qs b (T.del p) most pol C) ⟨(q,O.erase i,M.upd i none,tr.del p),hok.leave (x:=(p,w)) ht h1 h3⟩ ?_;refine ret ?_;exact ends ⟨rfl,rfl⟩
theorem zHk (b:Nat) (T:Prs) (most:Nat) (pol:Int) (C:List Nat) (ht:TOk T C most):Does PR E X 164 [pt b] [Ju b T most pol C] (fun v t=>v=.tuple #[]/\t=[Ju b T most pol (YV C)]):=by
 refine Does.of 9 inferInstance rfl (by decide) rfl ?_
 refine zW (Qs b T most pol C) fun q=>?_;obtain ⟨⟨q,O,M,tr⟩,hok⟩:=q;(try dsimp only at hok ⊢);refine zB ?_;refine call (xU b pol q) ?_;rintro _ _ ⟨rfl,rfl⟩;refine onA ?_;refine yes ?_;refine zB ?_;refine call (zBw q.k C ht.sk) ?_;rintro _ _ ⟨rfl,rfl⟩;refine onA ?_;refine zE (Qs b T most pol (YV C)) ⟨(q,O,M,tr),hok⟩ ?_;refine fall ?_;exact ends ⟨rfl,rfl⟩
theorem zJf {m:Prs} (h:Srt m):m.Pairwise fun x y=>x.1≠y.1:=h.ltP.imp fun {x y} q e=>by
 have q:ltB x.1.key y.1.key=true:=q;rw [e,zZ] at q;cases q
theorem zEG (b:Nat) (T:Prs) (most:Nat) (pol:Int) (C:List Nat) (ht:TOk T C most) (p:Pf) (hp:p.sane=true):Does PR E X 233 [pt b,p.v] [Ju b T most pol C] (fun v t=>∃ base cap,v=.slice base (Zf T p).2.length cap/\t=[Ju b (Zf T p).1 most pol C,osl base cap 54 5 ((Zf T p).2.map prC)]):=by
 refine Does.of 34 inferInstance rfl (by decide) rfl ?_
 refine zW (Qs b T most pol C) fun q=>?_;obtain ⟨⟨q,O,M,tr⟩,hok⟩:=q;(try dsimp only at hok ⊢);have hmo:=ht.most;have htl:tr.length<=1024:=by have:=hok.tlen ht;have:=ht.len;omega
 have hal:(tr.above p).length<=1024:=Nat.le_trans (List.length_filter_le ..) htl;have hul:(tr.under p).length<=1024:=Nat.le_trans (List.length_filter_le ..) htl;have ea:=Qx hok ht p;have eu:=zC3 hok ht p;have la:(tr.above p).length=((srtT T).above p).length:=by rw [<-ea];simp [vC]
 have lu:(tr.under p).length=((srtT T).under p).length:=by rw [<-eu];simp [vC]
 have hb:(!true)=false:=rfl;have da:=Yc (T:=T) (C:=C) hok (f:=fun q=>q.covers p);have du:=Yc (T:=T) (C:=C) hok (f:=fun q=>p.covers q);refine zB ?_;refine zU fun b1=>?_;refine zB ?_;refine call (xU b pol q) ?_;rintro _ _ ⟨rfl,rfl⟩;refine onA ?_;refine call (yA p) ?_;rintro _ _ ⟨rfl,rfl⟩;refine onA ?_;rw [hp];refine no ?_;refine zB ?_;refine draw [0,1,3,7,0,31,63] [5,6] [3,4] [0,1,2,3,4,5,6] ?_;refine zC ?_;refine call (YT q.t tr (trB most) p hp) ?_;rintro _ _ ⟨ab,ac,rfl,rfl⟩;try refine zJ ?_
 refine ddA ?_;unfold Zf;by_cases h0:(srtT T).above p=[]
 ·have h1:(tr.above p).length=0:=by rw [la,h0];rfl
  rw [if_pos h0,h1];refine no ?_;refine zB ?_;refine draw [0,0,2,6,14,0,62,127,255] [6,7,8] [4,5] [0,1,2,3,4,5,6,7,8] ?_;refine zC ?_;refine call (Ya q.t tr (trB most) (by unfold trB;omega) p hp) ?_
  rintro _ _ ⟨ub,uc,rfl,rfl⟩;try refine zJ ?_
  refine ddA ?_;refine call (Zm b pol q T C O M tr most hok ht ub uc (tr.under p) (fun x hx=>(List.mem_filter.1 hx).1) ((zJf hok.srt).sublist List.filter_sublist) (by omega)) ?_
  rintro _ _ ⟨rb,rc,O',M',tr',hok',rfl,rfl⟩;try refine zJ ?_
  refine ddA ?_;have du:wI T (tr.under p)=_:=du;rw [du] at hok' ⊢;rw [eu,lu];refine zE (Qs b (T.filter fun x=>!p.covers x.1) most pol C) ⟨(q,O',M',tr'),hok'⟩ ?_;refine ret ?_;exact ends ⟨rb,rc,rfl,rfl⟩
 ·have h1:0<(tr.above p).length:=by rw [la];exact List.length_pos_iff.2 h0
  rw [if_neg h0];refine yes ?_ rfl (decide_eq_true (by omega))
  refine zB ?_;refine call (Zm b pol q T C O M tr most hok ht ab ac (tr.above p) (fun x hx=>(List.mem_filter.1 hx).1) ((zJf hok.srt).sublist List.filter_sublist) (by omega)) ?_
  rintro _ _ ⟨rb,rc,O',M',tr',hok',rfl,rfl⟩;refine zB ?_;have da:wI T (tr.above p)=_:=da;rw [da] at hok' ⊢;rw [ea,la];refine zE (Qs b (T.filter fun x=>!x.1.covers p) most pol C) ⟨(q,O',M',tr'),hok'⟩ ?_;refine ret ?_;exact ends ⟨rb,rc,rfl,rfl⟩
end Go.Proofs.YtjcbjclhagobiaaGreat
end
section
namespace Go.Proofs.YtjcbjclhagobiaaGreat
set_option maxHeartbeats 1600000
open Go Go.KL Go.KM
variable {E:Env} {X:Xs}
set_option maxRecDepth 100000
abbrev pfC (p:Pf):List Value:=[u64 p.a.hi,u64 p.a.lo,.bool p.a.v6,.int .i64 p.n]
theorem zJn {T l m:Prs}:vC T (l++m)=vC T l++vC T m:=by simp [vC]
theorem Yq {T l:Prs}:(vC T l).length=l.length:=by simp [vC]
theorem zJ9 (b:Nat) (T:Prs) (most:Nat) (pol:Int) (C:List Nat) (ht:TOk T C most):Does PR E X 75 [pt b] [Ju b T most pol C] (fun v t=>∃ base cap,v=.slice base (srtT T).length cap/\t=[Ju b T most pol C,osl base cap 54 5 ((srtT T).map prC)]):=by
 refine Does.of 40 inferInstance rfl (by decide) rfl ?_
 refine zW (Qs b T most pol C) fun q=>?_;obtain ⟨⟨q,O,M,tr⟩,hok⟩:=q;(try dsimp only at hok ⊢);have hmo:=ht.most;have htl:tr.length<=1024:=by have:=hok.tlen ht;have:=ht.len;omega
 refine zB ?_;refine call (xU b pol q) ?_;rintro _ _ ⟨rfl,rfl⟩;refine onA ?_;refine no ?_;refine zB ?_;refine buildSlice fun bl=>?_;refine zB ?_;refine into (Into.nilO (T:=54) (sz:=5)) ?_;refine loop (ι:=Nat×Option Addr×Nat) (fun i=>2-i.1) (fun i=>i.1<=2) (fun i=>[(0,pt b),(3,.slice i.2.1 (dumpTo tr i.1).length i.2.2),(11,.slice (some ⟨bl,0,none⟩) 2 2),(12,.int .i64 2),(13,.int .i64 (i.1:Int))]) (fun i=>[osl i.2.1 i.2.2 54 5 ((vC T (dumpTo tr i.1)).map prC),osl (some ⟨bl,0,none⟩) 2 4 1 [[.bool false],[.bool true]],QQ b pol q,yX q.t tr (trB most),wX q.s M T.length most,VC q.l O most,skP q.k C]) (0,none,0) (by omega) ?_
 rintro ⟨i,ob,oc⟩ h1 ih;(try dsimp only at h1 ih ⊢);have hz:∀ b,(tr.under (zP b)).length<=tr.length:=fun b=>List.length_filter_le ..;have hout:(dumpTo tr i).length<=20000:=by
  have:=hz true;have:=hz false
  unfold dumpTo;split <;> simp <;> omega
 have hrl:(vC T (dumpTo tr i)).length=(dumpTo tr i).length:=Yq;rcases Nat.lt_or_ge i 2 with hi|hi
 ·have hb:[[Value.bool false],[Value.bool true]][((i:Nat):Int).toNat]?=some [.bool (i == 1)]:=by
   rcases (show i=0∨i=1 by omega) with rfl|rfl <;> rfl
  refine zB ?_;refine yes ?_;refine zB ?_;have hpv:(Value.agg #[u64 0,u64 0,.bool (i == 1),.int .i64 0])=(zP (i == 1)).v:=by cases i == 1 <;> rfl
  refine call (Ya q.t tr (trB most) (by unfold trB;omega) (zP (i == 1)) (zD5 _)) ?_
  rintro _ _ ⟨ub,uc,rfl,rfl⟩;refine zB ?_;have hu:=hz (i == 1);have hnext:dumpTo tr (i+1)=dumpTo tr i++tr.under (zP (i == 1)):=by
   rcases (show i=0∨i=1 by omega) with rfl|rfl <;> rfl
  have hsub:∀ x∈tr.under (zP (i == 1)),x∈tr:=fun x hx=>(List.mem_filter.1 hx).1;generalize tr.under (zP (i == 1))=U at hu hnext hsub;rw [show dumpTo tr i=dumpTo tr i++U.take 0 by simp]
  refine loop (ι:=Nat×Option Addr×Nat) (fun y=>U.length-y.1) (fun y=>y.1<=U.length) (fun y=>[(0,pt b),(3,.slice y.2.1 (dumpTo tr i++U.take y.1).length y.2.2),(11,.slice (some ⟨bl,0,none⟩) 2 2),(12,.int .i64 2),(13,.int .i64 (i:Int)),(24,.slice ub U.length uc),(25,.int .i64 (U.length:Int)),(26,.int .i64 (y.1:Int))])
   (fun y=>[osl y.2.1 y.2.2 54 5 ((vC T (dumpTo tr i++U.take y.1)).map prC),osl ub uc 214 5 (U.map prC),osl (some ⟨bl,0,none⟩) 2 4 1 [[.bool false],[.bool true]],QQ b pol q,yX q.t tr (trB most),wX q.s M T.length most,VC q.l O most,skP q.k C]) (0,ob,oc) (by omega) ?_
  rintro ⟨j,ob',oc'⟩ h2 ih2;(try dsimp only at h2 ih2 ⊢);have htake:(U.take j).length<=U.length:=by simp;omega
  rcases Nat.lt_or_ge j U.length with hj|hj
  ·have hx:U[((j:Nat):Int).toNat]?=some U[j]:=by simp [hj]
   have e1:dumpTo tr i++U.take (j+1)=dumpTo tr i++U.take j++[U[j]]:=by rw [List.append_assoc,List.take_append_getElem hj]
   have hroom2:(dumpTo tr i++U.take j).length<=30000:=by rw [List.length_append];omega
   obtain ⟨k,hk,hv,hM,_⟩:=hok.in_get ht (p:=U[j].1) (v:=U[j].2) (hsub _ (List.getElem_mem hj));generalize dumpTo tr i++U.take j=D at e1 hroom2;have hDl:(vC T D).length=D.length:=Yq;refine zB ?_;refine yes ?_;refine zB ?_;refine alloc fun b7=>?_;refine zB ?_;rw [hv];refine call (Xa b pol q M T.length most k) ?_;rintro _ _ ⟨rfl,rfl⟩;refine onA ?_;rw [hM];refine buildSlice fun bp=>?_;refine zB ?_;refine xM fun ob2 oc2=>?_;refine zB ?_;have e3:D.length+1=(dumpTo tr i++U.take (j+1)).length:=by rw [e1];simp
   have e4:∀ u:List Value,u=prC (U[j].1,(T.get U[j].1).getD 0)->List.map prC (vC T D)++[u]=List.map prC (vC T (dumpTo tr i++U.take (j+1))):=fun u hu=>by rw [e1,zJn,List.map_append,hu];rfl
   rw [e3,e4]
   ·exact next (ih2 (j+1,ob2,oc2) (by simp;omega) (by simp;omega))
   ·rfl
  ·obtain rfl:j=U.length:=by omega
   have e1:U.take U.length=U:=List.take_length;rw [e1];refine zB ?_;refine no ?_;refine zB ?_;rw [<-hnext];exact next (ih (i+1,ob',oc') (by simp;omega) (by simp;omega))
 ·obtain rfl:i=2:=by omega
  refine zB ?_;refine no ?_;refine zB ?_;have e1:dumpTo tr 2=tr:=zHr hok.srt;have e2:tr.length=(srtT T).length:=by rw [hok.tlen ht,(wM ht.uq).2.length_eq]
  rw [e1,hok.srt_is ht,e2];refine zE (Qs b T most pol C) ⟨(q,O,M,tr),hok⟩ ?_;refine ret ?_;exact ends ⟨ob,oc,rfl,rfl⟩
theorem zDy (b:Nat) (T:Prs) (most:Nat) (pol:Int) (C:List Nat) (ht:TOk T C most):Does PR E X 76 [pt b] [Ju b T most pol C] (fun v t=>∃ base cap,v=.slice base T.length cap/\t=[Ju b T most pol C,osl base cap 52 4 (T.map fun x=>pfC x.1)]):=by
 refine Does.of 29 inferInstance rfl (by decide) rfl ?_
 refine zW (Qs b T most pol C) fun q=>?_;obtain ⟨⟨q,O,M,tr⟩,hok⟩:=q;(try dsimp only at hok ⊢);have hmo:=ht.most;have hcnt:=hok.cnt;have hlen:=ht.len;refine zB ?_;refine call (xU b pol q) ?_;rintro _ _ ⟨rfl,rfl⟩;refine onA ?_;refine no ?_;refine zB ?_;refine call (WQ q.l O most) ?_;rintro _ _ ⟨ob,oc,rfl,rfl⟩;refine zB ?_;refine into (Into.nilO (T:=52) (sz:=4)) ?_;refine loop (ι:=Nat×Option Addr×Nat) (fun z=>T.length-z.1) (fun z=>z.1<=T.length)
  (fun z=>[(0,pt b),(3,.slice z.2.1 (T.take z.1).length z.2.2),(14,.slice ob O.length oc),(15,.int .i64 (O.length:Int)),(16,.int .i64 (z.1:Int))])
  (fun z=>[osl z.2.1 z.2.2 52 4 ((T.take z.1).map fun x=>pfC x.1),osl ob oc 3 1 (O.map fun (i:Nat)=>[Value.int .i64 (i:Int)]),QQ b pol q,wX q.s M T.length most,VC q.l O most,yX q.t tr (trB most),skP q.k C]) (0,none,0) (by omega) ?_
 rintro ⟨j,eb,ec⟩ h1 ih;(try dsimp only at h1 ih ⊢);have htk:(T.take j).length=j:=by rw [List.length_take];omega
 rw [htk];rcases Nat.lt_or_ge j T.length with hj|hj
 ·have hjO:j<O.length:=by omega
  have hjx:O[((j:Nat):Int).toNat]?=some O[j]:=by simp [hjO]
  have hM:M O[j]=some T[j]:=by
   have:=congrArg (·[j]?) hok.at_
   simpa [hjO,hj] using this
  refine zB ?_;refine yes ?_;refine zB ?_;refine call (Xa b pol q M T.length most O[j]) ?_;rintro _ _ ⟨rfl,rfl⟩;refine onA ?_;rw [hM];refine buildSlice fun bp=>?_;refine zB ?_;refine xM fun b8 c8=>?_;refine zB ?_;have e1:∀ u:List Value,u=pfC T[j].1->((T.take j).map fun x=>pfC x.1)++[u]=(T.take (j+1)).map fun x=>pfC x.1:=by
   intro u hu;rw [hu,<-List.take_append_getElem hj,List.map_append];rfl
  rw [e1]
  ·have hr:=ih (j+1,b8,c8) (by show j+1<=T.length;omega) (by show T.length-(j+1)<T.length-j;omega)
   (try dsimp only at hr);rw [show (T.take (j+1)).length=j+1 by rw [List.length_take];omega] at hr
   exact next hr
  ·rfl
 ·obtain rfl:j=T.length:=by omega
  refine zB ?_;refine no ?_;refine zB ?_;rw [List.take_length];refine zE (Qs b T most pol C) ⟨(q,O,M,tr),hok⟩ ?_;refine ret ?_;exact ends ⟨eb,ec,rfl,rfl⟩
end Go.Proofs.YtjcbjclhagobiaaGreat
end
section
namespace Go.Proofs.YtjcbjclhagobiaaGreat
set_option maxHeartbeats 1600000
open Go Go.KL Go.KM
variable {E:Env} {X:Xs}
set_option maxRecDepth 100000
abbrev zPe (r:TRep) (b1:Option Addr) (c1:Nat) (b2:Option Addr) (c2:Nat):Value:=.agg #[.bool r.in_,.slice b1 r.absorbed.length c1,.slice b2 r.out.length c2]
abbrev zA6 (b:Nat) (T:Prs) (C:List Nat) (most:Nat) (pol:Int) (x:Pf×Int) (soft:Bool) (v:Value) (t:List HP):Prop:=∃ b1 c1 b2 c2,v=zPe (tInst T C most pol x soft) b1 c1 b2 c2/\t=[Ju b (tInst T C most pol x soft).T most pol (tInst T C most pol x soft).C,osl b1 c1 54 5 ((tInst T C most pol x soft).absorbed.map prC),osl b2 c2 54 5 ((tInst T C most pol x soft).out.map prC)]
theorem Zy {T:Prs} {C:List Nat} {most:Nat} {pol:Int} {x:Pf×Int} {soft:Bool} (h:most=0∨wgood x=false∨(srtT T).above x.1≠[]):tInst T C most pol x soft=⟨T,C,false,[],[]⟩:=by
 unfold tInst;rw [if_pos h]
theorem JB {T:Prs} {C:List Nat} {most:Nat} {pol:Int} {x:Pf×Int} {soft:Bool} (h:soft=true/\((srtT T).under x.1≠[]∨most<=T.length)):tInst T C most pol x soft=⟨T,C,false,[],[]⟩:=by
 unfold tInst;split
 ·rfl
 ·simp only [h,and_self,if_true]
theorem Wj {T:Prs} {C:List Nat} {most:Nat} {pol:Int} {x:Pf×Int} {soft:Bool} (h:¬ (most=0∨wgood x=false∨(srtT T).above x.1≠[])) (h2:¬ (soft=true/\((srtT T).under x.1≠[]∨most<=T.length))) :
  tInst T C most pol x soft=match (if most<=(T.filter fun y=>!x.1.covers y.1).length then VR pol C (T.filter fun y=>!x.1.covers y.1) else none) with
  | none=>⟨x::(T.filter fun y=>!x.1.covers y.1),Yy C x.1,true,(srtT T).under x.1,[]⟩
  | some v=>⟨x::Prs.del (T.filter fun y=>!x.1.covers y.1) v.1,Yy C x.1,true,(srtT T).under x.1,[v]⟩:=by
 unfold tInst;rw [if_neg h,if_neg h2];all_goals rfl
set_option maxHeartbeats 2000000 in
theorem zAR (b:Nat) (T:Prs) (C:List Nat) (most:Nat) (pol:Int) (ht:TOk T C most) (x:Pf×Int) (soft:Bool):Does PR E X 242 [pt b,rV x,.bool soft] [Ju b T most pol C] (zA6 b T C most pol x soft):=by
 unfold zA6;refine Does.of 88 inferInstance rfl (by decide) rfl ?_
 refine zW (Qs b T most pol C) fun q=>?_;obtain ⟨⟨q,O,M,tr⟩,hok⟩:=q;(try dsimp only at hok ⊢);have hmo:=ht.most;have hf:(!true)=false:=rfl;have hg:(!false)=true:=rfl;have htl:tr.length<=1024:=by have:=hok.tlen ht;have:=ht.len;omega
 refine zB ?_;refine zU fun b1=>?_;refine zB ?_;refine alloc fun b2=>?_;refine zB ?_;by_cases h0:most=0
 ·have hm0:decide ((most:Int)=0)=true:=decide_eq_true (by omega)
  rw [Zy (.inl h0)];refine draw [0,1,3,7,15,31,63,127,255,511,1023,2047,4095,8191,16383,32767,65535,131071,262143,524287,1048575,131071,2228223,8388607,16777215,33554431,67108863] [1,8,13,23] [7,12,20,22] [0,1,2,3,4,5,6,7,8,9,10,11,12,13,14,15,16,17,18,19,20,21,22,23,24,25,26] ?_;refine zC ?_;refine call (xU b pol q) ?_;rintro _ _ ⟨rfl,rfl⟩;try refine zJ ?_
  refine ddA ?_;refine call (Wr q.s M T.length most) ?_;rintro _ _ ⟨rfl,rfl⟩;try refine zJ ?_
  refine ddA ?_;refine yes ?_;refine zB ?_;refine zE (Qs b T most pol C) ⟨(q,O,M,tr),hok⟩ ?_;refine into (Into.nilO (T:=54) (sz:=5)) ?_;refine into (Into.nilO (T:=54) (sz:=5)) ?_;refine ret ?_;exact ends ⟨none,0,none,0,rfl,rfl⟩
 have hm0:decide ((most:Int)=0)=false:=decide_eq_false (by omega)
 rcases Bool.eq_false_or_eq_true (wgood x) with hw|hw
 ·have hs:=Zq hw;by_cases ha:(srtT T).above x.1=[]
  ·have ha0:(tr.above x.1).length=0:=by rw [<-Yq (T:=T),Qx hok ht,ha];rfl
   refine draw [0,1,3,7,15,31,63,127,255,511,1023,2047,4095,8191,16383,32767,65535,131071,262143,524287,1048575,131071,2228223,8388607,16777215,33554431,67108863] [1,8,13,23] [7,12,20,22] [0,1,2,3,4,5,6,7,8,9,10,11,12,13,14,15,16,17,18,19,20,21,22,23,24,25,26] ?_;refine zC ?_;refine call (xU b pol q) ?_;rintro _ _ ⟨rfl,rfl⟩;try refine zJ ?_
   refine ddA ?_;refine call (Wr q.s M T.length most) ?_;rintro _ _ ⟨rfl,rfl⟩;try refine zJ ?_
   refine ddA ?_;refine call (Zv x) ?_;rintro _ _ ⟨rfl,rfl⟩;try refine zJ ?_
   rw [hw];refine ddA ?_;refine call (YT q.t tr (trB most) x.1 hs) ?_;rintro _ _ ⟨ab,ac,rfl,rfl⟩;try refine zJ ?_
   refine ddA ?_;rw [ha0];refine no ?_;refine zB ?_;refine draw [0,1,3,7,0,16,63,127] [6,7] [3,5] [0,1,2,3,4,5,6,7] ?_;refine zC ?_;refine call (Ya q.t tr (trB most) (by unfold trB;omega) x.1 hs) ?_
   rintro _ _ ⟨ub,uc,rfl,rfl⟩;try refine zJ ?_
   refine zC ?_;have hsub:∀ y∈tr.under x.1,y∈tr:=fun y hy=>(List.mem_filter.1 hy).1;have hul:(tr.under x.1).length<=1024:=Nat.le_trans (List.length_filter_le ..) htl;have hnd:=(zJf hok.srt).sublist (List.filter_sublist (l:=tr) (p:=fun y=>x.1.covers y.1));have eu:=zC3 hok ht x.1;have du:wI T (tr.under x.1)=_:=Yc (T:=T) (C:=C) hok (f:=fun q=>x.1.covers q);have lu:(tr.under x.1).length=((srtT T).under x.1).length:=by rw [<-eu,Yq]
   have hnd:(tr.under x.1).Pairwise fun x y=>x.1≠y.1:=hnd;generalize tr.under x.1=U at hsub hul hnd eu du lu ⊢;repeat refine W.seq ?_
   refine cut (ι:=Bool) (fun v=>v=decide (soft=true/\((srtT T).under x.1≠[]∨most<=T.length))) (fun v=>[(0,pt b),(4,.pointer (some ⟨b1,0,none⟩)),(6,.pointer (some ⟨b2,0,none⟩)),(7,.slice ub U.length uc),(55,.bool v)])
    (fun _=>[QQ b pol q,VC q.l O most,wX q.s M T.length most,yX q.t tr (trB most),skP q.k C,osl ub uc 214 5 (U.map prC),box b1 (prC x) 54,box b2 [.bool false,.slice none 0 0,.slice none 0 0] 374]) (fun k' rest=>?_) ?_
   ·cases soft with
    | false=>
     refine zB ?_;exact next (rest false (by simp))
    | true=>
     by_cases hu:(srtT T).under x.1=[]
     ·have hu0:U.length=0:=by rw [lu,hu];rfl
      have hu1:decide ((0:Int)<(U.length:Int))=false:=decide_eq_false (by omega)
      refine zB ?_;refine call (zAi b pol q M T.length most) ?_;rintro _ _ ⟨rfl,rfl⟩;refine onA ?_;have hr:=rest (decide (most<=T.length)) (by simp [hu])
      (try dsimp only at hr);exact next hr
     ·have hu0:0<U.length:=by rw [lu];exact List.length_pos_iff.2 hu
      have hu1:decide ((0:Int)<(U.length:Int))=true:=decide_eq_true (by omega)
      refine zB ?_;have hr:=rest true (by simp [hu])
      exact next hr
   rintro v rfl;(try dsimp only);by_cases hr:soft=true/\((srtT T).under x.1≠[]∨most<=T.length)
   ·rw [decide_eq_true hr,JB hr];refine yes ?_;refine zB ?_;refine zE (Qs b T most pol C) ⟨(q,O,M,tr),hok⟩ ?_;refine into (Into.nilO (T:=54) (sz:=5)) ?_;refine into (Into.nilO (T:=54) (sz:=5)) ?_;refine ret ?_;exact ends ⟨none,0,none,0,rfl,rfl⟩
   rw [decide_eq_false hr];refine no ?_;refine zB ?_;refine call (Zm b pol q T C O M tr most hok ht ub uc U hsub hnd (by omega)) ?_
   rintro _ _ ⟨rb,rc,O1,M1,tr1,hok1,rfl,rfl⟩;rw [du] at hok1 ⊢;rw [eu,lu];have hI:=Wj (C:=C) (pol:=pol) (not_or.2 ⟨h0,not_or.2 ⟨by rw [hw];simp,by simp [ha]⟩⟩) hr
   have ht1:=ht.filter fun y=>!x.1.covers y.1;have hmemT:∀ y∈T.filter (fun y=>!x.1.covers y.1),y∈T/\x.1.covers y.1=false:=fun y hy=>by
    obtain ⟨g1,g2⟩:=List.mem_filter.1 hy;exact ⟨g1,by simpa using g2⟩
   generalize T.filter (fun y=>!x.1.covers y.1)=T1 at hok1 hI ht1 hmemT ⊢;refine zB ?_;refine alloc fun b8=>?_;refine zB ?_;refine call (zAi b pol q M1 T1.length most) ?_;rintro _ _ ⟨rfl,rfl⟩;refine onA ?_;generalize (srtT T).under x.1=N at hI eu lu hr ⊢;refine cut (ι:=Prs×Prs×List Nat×yL×Prs×Option Addr×Nat) (fun z=>TabOk z.1 z.2.2.1 z.2.2.2.1 z.2.2.2.2.1 most/\TOk z.1 C most/\z.1.length<most/\(∀ y∈z.1,y∈T1)/\tInst T C most pol x soft=⟨x::z.1,Yy C x.1,true,N,z.2.1⟩) (fun _=>[(0,pt b),(4,.pointer (some ⟨b1,0,none⟩)),(6,.pointer (some ⟨b2,0,none⟩)),(8,.pointer (some ⟨b8,0,none⟩))])
    (fun z=>[QQ b pol q,VC q.l z.2.2.1 most,wX q.s z.2.2.2.1 z.1.length most,yX q.t z.2.2.2.2.1 (trB most),skP q.k C,box b1 (prC x) 54,box b2 [.bool false,.slice none 0 0,.slice none 0 0] 374,box b8 [.bool true,.slice rb N.length rc,.slice z.2.2.2.2.2.1 z.2.1.length z.2.2.2.2.2.2] 374,osl rb rc 54 5 (N.map prC),osl z.2.2.2.2.2.1 z.2.2.2.2.2.2 54 5 (z.2.1.map prC)]) (fun k' rest=>?_) ?_
   ·by_cases hfull:most<=T1.length
    ·have hne:T1≠[]:=by rintro rfl;simp at hfull;omega
     obtain ⟨i,v,g1,g2,g3,g4,g5⟩:=zBN (pol:=pol) (C:=C) hok1.at_ hne;rw [if_pos hfull,g4] at hI;rw [decide_eq_true hfull];refine yes ?_;refine zB ?_;refine call (zAA b pol q T1 C O1 M1 tr1 most hok1 ht1 v g4) ?_;rintro _ _ ⟨O',M',tr',hok2,rfl,rfl⟩;refine zB ?_;refine buildSlice fun bs=>?_;refine zB ?_;have hrr:=rest (Prs.del T1 v.1,[v],O',M',tr',some ⟨bs,0,none⟩,1) ⟨hok2,ht1.del _,by have:=zET g2;have:=ht1.len;show (Prs.del T1 v.1).length<most;omega,fun y hy=>(Zk.1 hy).1,hI⟩
     exact next hrr
    ·rw [if_neg hfull] at hI;rw [decide_eq_false hfull];refine no ?_;refine zB ?_;refine into (Into.nilO (T:=54) (sz:=5)) ?_;have hrr:=rest (T1,[],O1,M1,tr1,none,0) ⟨hok1,ht1,by show T1.length<most;omega,fun y hy=>hy,hI⟩
     exact next hrr
   clear hok1 hI ht1;rintro ⟨T2,out,O2,M2,tr2,ob,oc⟩ ⟨hok2,ht2,hlt,hsub2,hI⟩;(try dsimp only at hok2 ht2 hlt hsub2 hI ⊢);rw [hI];(try dsimp only);refine zB ?_;refine draw [0,1,3,7,0,31,63,127,127,255,1023] [5,9,10] [3,4] [0,1,2,3,4,5,6,7,8,9,10] ?_;refine zC ?_;refine call (zDr q.s M2 T2.length most hlt x) ?_;rintro _ _ ⟨i,hi0,hi1,rfl,rfl⟩;try refine zJ ?_
   refine ddA ?_;refine draw [0,1,3,7,0,16,0,127] [7] [3,5] [0,1,2,3,4,5,6,7] ?_;refine zC ?_;have hdig:2+(tr2.ins x.1 (i:Int)).digits<=trB most:=by
    have g1:=zCX (m:=tr2.ins x.1 (i:Int)) (hok2.srt.ins hs _).sane;have g2:=zHy hok2.srt (p:=x.1) (i:Int);have g3:=hok2.tlen ht2;have g4:(tr2.ins x.1 (i:Int)).length<=most:=by rw [g2];split <;> omega
    unfold trB;have:=Nat.mul_le_mul_left 128 g4
    omega
   refine call (zB2 q.t tr2 (trB most) (by unfold trB;omega) x.1 hs (i:Int) hdig) ?_
   rintro _ _ ⟨rfl,rfl⟩;try refine zJ ?_
   refine ddA ?_;refine call (zAU b pol q O2 (M2.upd i (some x)) (T2.length+1) most i C ht.sk x (by simp [yL.upd]) hi1) ?_
   rintro _ _ ⟨rfl,rfl⟩;refine zB ?_;have hni:i∉O2:=fun g=>by
    obtain ⟨y,_,e⟩:=hok2.has g;rw [hi0] at e;cases e
   rw [List.erase_of_not_mem hni];have hcov:∀ y∈T2,y.1≠x.1:=fun y hy e=>by
    have:=(hmemT y (hsub2 y hy)).2
    rw [e,ZU hs] at this;cases this
   refine zE (Qs b (x::T2) most pol (Yy C x.1)) ⟨(q,i::O2,M2.upd i (some x),tr2.ins x.1 (i:Int)),hok2.add hi0 hi1 hs hcov⟩ ?_;refine ret ?_;exact ends ⟨rb,rc,ob,oc,rfl,rfl⟩
  ·have ha0:0<(tr.above x.1).length:=by rw [<-Yq (T:=T),Qx hok ht];exact List.length_pos_iff.2 ha
   rw [Zy (.inr (.inr ha))];refine draw [0,1,3,7,15,31,63,127,255,511,1023,2047,4095,8191,16383,32767,65535,131071,262143,524287,1048575,131071,2228223,8388607,16777215,33554431,67108863] [1,8,13,23] [7,12,20,22] [0,1,2,3,4,5,6,7,8,9,10,11,12,13,14,15,16,17,18,19,20,21,22,23,24,25,26] ?_;refine zC ?_;refine call (xU b pol q) ?_;rintro _ _ ⟨rfl,rfl⟩;try refine zJ ?_
   refine ddA ?_;refine call (Wr q.s M T.length most) ?_;rintro _ _ ⟨rfl,rfl⟩;try refine zJ ?_
   refine ddA ?_;refine call (Zv x) ?_;rintro _ _ ⟨rfl,rfl⟩;try refine zJ ?_
   rw [hw];refine ddA ?_;refine call (YT q.t tr (trB most) x.1 hs) ?_;rintro _ _ ⟨ab,ac,rfl,rfl⟩;try refine zJ ?_
   refine ddA ?_;refine yes ?_ rfl (decide_eq_true (by omega))
   refine zB ?_;refine zE (Qs b T most pol C) ⟨(q,O,M,tr),hok⟩ ?_;refine into (Into.nilO (T:=54) (sz:=5)) ?_;refine into (Into.nilO (T:=54) (sz:=5)) ?_;refine ret ?_;exact ends ⟨none,0,none,0,rfl,rfl⟩
 ·rw [Zy (.inr (.inl hw))];refine draw [0,1,3,7,15,31,63,127,255,511,1023,2047,4095,8191,16383,32767,65535,131071,262143,524287,1048575,131071,2228223,8388607,16777215,33554431,67108863] [1,8,13,23] [7,12,20,22] [0,1,2,3,4,5,6,7,8,9,10,11,12,13,14,15,16,17,18,19,20,21,22,23,24,25,26] ?_;refine zC ?_;refine call (xU b pol q) ?_;rintro _ _ ⟨rfl,rfl⟩;try refine zJ ?_
  refine ddA ?_;refine call (Wr q.s M T.length most) ?_;rintro _ _ ⟨rfl,rfl⟩;try refine zJ ?_
  refine ddA ?_;refine call (Zv x) ?_;rintro _ _ ⟨rfl,rfl⟩;try refine zJ ?_
  rw [hw];refine ddA ?_;refine yes ?_;refine zB ?_;refine zE (Qs b T most pol C) ⟨(q,O,M,tr),hok⟩ ?_;refine into (Into.nilO (T:=54) (sz:=5)) ?_;refine into (Into.nilO (T:=54) (sz:=5)) ?_;refine ret ?_;exact ends ⟨none,0,none,0,rfl,rfl⟩
end Go.Proofs.YtjcbjclhagobiaaGreat
end
section
namespace Go.Proofs.YtjcbjclhagobiaaGreat
set_option maxHeartbeats 1600000
open Go Go.KL Go.KM
variable {E:Env} {X:Xs}
set_option maxRecDepth 100000
structure St where
 s0:Nat
 s1:Nat
 s2:Nat
 s3:Nat
 s4:Nat
 s5:Nat
 s6:Nat
 s7:Nat
 s8:Nat
 s9:Nat
 s10:Nat
 s11:Nat
 s12:Nat
 s13:Nat
 s14:Nat
 s15:Nat
 s16:Nat
deriving DecidableEq
abbrev St.l (S:St):List Nat:=[S.s0,S.s1,S.s2,S.s3,S.s4,S.s5,S.s6,S.s7,S.s8,S.s9,S.s10,S.s11,S.s12,S.s13,S.s14,S.s15,S.s16]
abbrev St.c (S:St):List Value:=[u64 S.s0,u64 S.s1,u64 S.s2,u64 S.s3,u64 S.s4,u64 S.s5,u64 S.s6,u64 S.s7,u64 S.s8,u64 S.s9,u64 S.s10,u64 S.s11,u64 S.s12,u64 S.s13,u64 S.s14,u64 S.s15,u64 S.s16]
abbrev stV (S:St):Value:=.agg S.c.toArray
def St.of (l:List Nat):St:=⟨l.getD 0 0,l.getD 1 0,l.getD 2 0,l.getD 3 0,l.getD 4 0,l.getD 5 0,l.getD 6 0,l.getD 7 0,l.getD 8 0,l.getD 9 0,l.getD 10 0,l.getD 11 0,l.getD 12 0,l.getD 13 0,l.getD 14 0,l.getD 15 0,l.getD 16 0⟩
def wL (a b:Nat):Nat:=min (a+b) 18446744073709551615
theorem zEw {a b:Nat}:wL a b<18446744073709551616:=by unfold wL;omega
def St.get (S:St) (k:Nat):Nat:=S.l.getD k 0
def St.up (S:St) (n:Nat):Nat->St
 | 0=>{ S with s0:=wL S.s0 n }
 | 1=>{ S with s1:=wL S.s1 n }
 | 2=>{ S with s2:=wL S.s2 n }
 | 3=>{ S with s3:=wL S.s3 n }
 | 4=>{ S with s4:=wL S.s4 n }
 | 5=>{ S with s5:=wL S.s5 n }
 | 6=>{ S with s6:=wL S.s6 n }
 | 7=>{ S with s7:=wL S.s7 n }
 | 8=>{ S with s8:=wL S.s8 n }
 | 9=>{ S with s9:=wL S.s9 n }
 | 10=>{ S with s10:=wL S.s10 n }
 | 11=>{ S with s11:=wL S.s11 n }
 | 12=>{ S with s12:=wL S.s12 n }
 | 13=>{ S with s13:=wL S.s13 n }
 | 14=>{ S with s14:=wL S.s14 n }
 | 15=>{ S with s15:=wL S.s15 n }
 | 16=>{ S with s16:=wL S.s16 n }
 | _=>S
def St.bump (S:St) (k n:Nat):St:=if n=0 then S else S.up n k
structure St.Ok (S:St):Prop where
 lt:∀ x∈S.l,x<18446744073709551616
theorem St.Ok.bump {S:St} (h:S.Ok) (k n:Nat):(S.bump k n).Ok:=by
 unfold St.bump;split
 ·exact h
 ·refine ⟨fun x hx=>?_⟩;have h:=h.lt;unfold St.up at hx;split at hx <;> simp only [St.l,List.mem_cons,List.not_mem_nil,or_false] at hx h <;> (rcases hx with rfl|rfl|rfl|rfl|rfl|rfl|rfl|rfl|rfl|rfl|rfl|rfl|rfl|rfl|rfl|rfl|rfl <;> first|exact zEw|exact h _ (by simp))
theorem St.Ok.of {l:List Nat} (h:∀ x∈l,x<18446744073709551616):(St.of l).Ok:=⟨fun x hx=>by
 have hd:∀ i,l.getD i 0<18446744073709551616:=fun i=>by
  rw [List.getD_eq_getElem?_getD];cases e:l[i]? with
  | none=>simp
  | some y=>exact h y (List.mem_of_getElem? e)
 simp only [St.of,St.l,List.mem_cons,List.not_mem_nil,or_false] at hx;rcases hx with rfl|rfl|rfl|rfl|rfl|rfl|rfl|rfl|rfl|rfl|rfl|rfl|rfl|rfl|rfl|rfl|rfl <;> exact hd _⟩
theorem zAS (a c:Nat) (ha:a<18446744073709551616) (hc:c<18446744073709551616):DoesG PR E X 288 [u64 a,u64 c,.int .u64 0] [] (fun v t=>v=.tuple #[u64 ((a+c)%18446744073709551616),u64 ((a+c) / 18446744073709551616)]/\t=[]):=by
 refine DoesG.extern (fnc:=Go.Proofs.Tryz.f288) (by kernel_rfl) rfl (by kernel_rfl) (by kernel_rfl) (by kernel_rfl) (e:=Extern.MathBitsCarry.rows[0].2) ?_
 have em:Extern.MathBitsCarry.m64=18446744073709551616:=by decide
 refine T.calm (a:=Extern.MathBitsCarry.pair ((a+c+0)%Extern.MathBitsCarry.m64) ((a+c+0) / Extern.MathBitsCarry.m64)) (fun _ _=>rfl) ⟨?_,rfl⟩;rw [em,Nat.add_zero];rfl
theorem zJT (a c:Nat) (ha:a<18446744073709551616) (hc:c<18446744073709551616):Does PR E X 252 [u64 a,u64 c] [] (fun v t=>v=u64 (wL a c)/\t=[]):=by
 refine Does.of 16 inferInstance rfl (by decide) rfl ?_
 refine zB ?_;refine zNP (zAS a c ha hc) ?_;rintro _ _ ⟨rfl,rfl⟩;refine zB ?_;unfold wL;by_cases h:a+c<18446744073709551616
 ·rw [show (a+c) / 18446744073709551616=0 by omega,show (a+c)%18446744073709551616=a+c by omega,show min (a+c) 18446744073709551615=a+c by omega]
  refine no ?_;refine zB ?_;refine ret ?_;exact ends ⟨rfl,rfl⟩
 ·rw [show (a+c) / 18446744073709551616=1 by omega,show min (a+c) 18446744073709551615=18446744073709551615 by omega]
  refine yes ?_;refine zB ?_;refine ret ?_;exact ends ⟨rfl,rfl⟩
set_option maxHeartbeats 4000000 in
theorem zJc (S:St) (k:Nat) (hk:k<17):Does PR E X 50 [stV S,.int .i64 (k:Int)] [] (fun v t=>v=u64 (S.get k)/\t=[]):=by
 rcases (show k=0∨k=1∨k=2∨k=3∨k=4∨k=5∨k=6∨k=7∨k=8∨k=9∨k=10∨k=11∨k=12∨k=13∨k=14∨k=15∨k=16 by omega) with rfl|rfl|rfl|rfl|rfl|rfl|rfl|rfl|rfl|rfl|rfl|rfl|rfl|rfl|rfl|rfl|rfl
 all_goals
  refine Does.of 12 inferInstance rfl (by decide) rfl ?_
  refine zB ?_;refine zU fun b1=>?_;refine zB ?_;refine call (Qo _) ?_;rintro _ _ ⟨rfl,rfl⟩;refine zB ?_;refine no ?_;refine zB ?_;refine ret ?_;exact ends ⟨rfl,rfl⟩
set_option maxHeartbeats 8000000 in
theorem zCl (S:St) (hS:S.Ok) (k n:Nat) (hk:k<17) (hn:n<=1000000000):Does PR E X 176 [stV S,.int .i64 (k:Int),.int .i64 (n:Int)] [] (fun v t=>v=stV (S.bump k n)/\t=[]):=by
 have hb:(decide (0<=(k:Int))&&decide ((k:Int)<17))=true:=by rw [decide_eq_true (by omega),decide_eq_true (by omega)];rfl
 by_cases h0:n=0
 ·subst h0;refine Does.of 24 inferInstance rfl (by decide) rfl ?_
  refine zB ?_;refine zU fun b1=>?_;refine zB ?_;refine alloc fun b2=>?_;refine zB ?_;refine call (Qo k) ?_;rintro _ _ ⟨rfl,rfl⟩;refine zB ?_;refine no ?_;refine zB ?_;refine ret ?_;exact ends ⟨rfl,rfl⟩
 ·have hn1:decide ((0:Int)<(n:Int))=true:=decide_eq_true (by omega)
  have hu:S.bump k n=S.up n k:=if_neg h0;rw [hu];have hl:=hS.lt;rcases (show k=0∨k=1∨k=2∨k=3∨k=4∨k=5∨k=6∨k=7∨k=8∨k=9∨k=10∨k=11∨k=12∨k=13∨k=14∨k=15∨k=16 by omega) with rfl|rfl|rfl|rfl|rfl|rfl|rfl|rfl|rfl|rfl|rfl|rfl|rfl|rfl|rfl|rfl|rfl
  all_goals
   refine Does.of 24 inferInstance rfl (by decide) rfl ?_
   refine zB ?_;refine zU fun b1=>?_;refine zB ?_;refine alloc fun b2=>?_;refine zB ?_;refine call (Qo _) ?_;rintro _ _ ⟨rfl,rfl⟩;refine zB ?_;refine yes ?_;refine zB ?_;refine call (zJT _ n (hl _ (by simp)) (by omega)) ?_
   rintro _ _ ⟨rfl,rfl⟩;refine zB ?_;refine ret ?_;exact ends ⟨rfl,rfl⟩
end Go.Proofs.YtjcbjclhagobiaaGreat
end
section
namespace Go.Proofs.YtjcbjclhagobiaaGreat
open Go Go.KL Go.KM
structure QE where
 a:Ad
 x:Pf×Int
 st:Bool
deriving DecidableEq
abbrev qeC (e:QE):List Value:=[u64 e.a.hi,u64 e.a.lo,.bool e.a.v6,u64 e.x.1.a.hi,u64 e.x.1.a.lo,.bool e.x.1.a.v6,.int .i64 e.x.1.n,.int .i64 e.x.2,.bool e.st]
def zN (a:Ad):Pf:=ofP a (width a.v6)
def VN (a:Ad) (x:Pf×Int):Bool:=a.sane&&wgood x&&x.1.has a
def vG (l:List QE) (a:Ad):Option Nat:=l.findIdx? fun e=>e.x.1.has a
def fiV (o:Option Nat):Int:=match o with|none=>-1|some k=>(k:Int)
structure QOk (l:List QE) (bound:Nat):Prop where
 most:bound<=1024
 len:l.length<=bound
 fits:∀ e∈l,VN e.a e.x=true
 st:∀ e∈l,e.st=true->e.x.1=zN e.a
 first:l.Pairwise fun e e'=>e.x.1.has e'.a=false
theorem zEu {l:List QE} {bound:Nat} (h:QOk l bound) {k:Nat} (hk:k<l.length):vG (l.take k) l[k].a=none:=by
 unfold vG;rw [List.findIdx?_eq_none_iff];intro e he;obtain ⟨i,hi,rfl⟩:=List.getElem_of_mem he;rw [List.length_take] at hi;rw [List.getElem_take];have:=List.pairwise_iff_getElem.1 h.first i k (by omega) hk (by omega)
 simp [this]
theorem QOk.nil {bound:Nat} (h:bound<=1024):QOk [] bound:=⟨h,by simp,by simp,by simp,.nil⟩
theorem QOk.add {l:List QE} {bound:Nat} (h:QOk l bound) {a:Ad} {x:Pf×Int} (hl:l.length<bound) (hf:VN a x=true) (h1:vG l a=none):QOk (l++[⟨a,x,false⟩]) bound:=by
 refine ⟨h.most,by simp;omega,fun e he=>?_,fun e he hs=>?_,?_⟩
 ·rcases List.mem_append.1 he with he|he
  ·exact h.fits e he
  ·simp at he;subst he;exact hf
 ·rcases List.mem_append.1 he with he|he
  ·exact h.st e he hs
  ·simp at he;subst he;cases hs
 ·rw [List.pairwise_append];refine ⟨h.first,by simp,fun e he e' he'=>?_⟩
  simp at he';subst he';unfold vG at h1;rw [List.findIdx?_eq_none_iff] at h1;simpa using h1 e he
theorem QOk.sub {l m:List QE} {bound:Nat} (h:QOk l bound) (hs:m.Sublist l):QOk m bound:=
 ⟨h.most,Nat.le_trans hs.length_le h.len,fun e he=>h.fits e (hs.subset he),fun e he=>h.st e (hs.subset he),h.first.sublist hs⟩
def wJ (p:Pf) (e:QE):QE:=if p.covers e.x.1||e.x.1.covers p then ⟨e.a,(zN e.a,e.x.2),true⟩ else e
def ZH (l:List QE) (p:Pf):List QE:=l.map (wJ p)
theorem zGR {a b:Ad} (h:(zN a).has b=true):zN a=zN b:=by
 unfold Pf.has at h;simp only [Bool.and_eq_true,decide_eq_true_eq] at h;have h2:=h.2;have hv:a.v6=b.v6:=congrArg (fun p:Pf=>p.a.v6) h2;have hw:(zN a).n=(width a.v6:Int):=by
  show ((yT (width a.v6) a.v6:Nat):Int)=_;unfold yT;congr 1;omega
 rw [hw,hv] at h2;exact h2
theorem vR {a:Ad} {x:Pf×Int} (h:VN a x=true):a.sane=true/\wgood x=true/\x.1.has a=true:=by
 unfold VN at h;simp only [Bool.and_eq_true] at h;exact ⟨h.1.1,h.1.2,h.2⟩
theorem zJk {a:Ad}:(zN a).has a=true:=by
 unfold Pf.has;have hw:(zN a).n=(width a.v6:Int):=by
  show ((yT (width a.v6) a.v6:Nat):Int)=_;unfold yT;congr 1;omega
 rw [hw,show (zN a).sane=true from ZO];simp [zN]
theorem QOk.narrow {l:List QE} {bound:Nat} (h:QOk l bound) (p:Pf):QOk (ZH l p) bound:=by
 have hin:∀ e∈l,∀ b,(wJ p e).x.1.has b=true->e.x.1.has b=true:=by
  intro e he b hb;unfold wJ at hb;split at hb
  ·have hf:=(vR (h.fits e he)).2.2;have hw:=zGR hb;have hg:=(vR (h.fits e he)).2.1;rw [<-ZZ (Zq hg)] at hf ⊢;have:ofP e.a (width e.a.v6)=ofP b (width b.v6):=hw
   rw [<-this];exact hf
  ·exact hb
 have ha:∀ e,(wJ p e).a=e.a:=fun e=>by unfold wJ;split <;> rfl
 refine ⟨h.most,by unfold ZH;rw [List.length_map];exact h.len,fun e he=>?_,fun e he hs=>?_,?_⟩
 ·obtain ⟨e,he2,rfl⟩:=List.mem_map.1 he;have hf:=h.fits e he2;unfold wJ;split
  ·obtain ⟨h1,h2,h3⟩:=vR hf;unfold VN;unfold wgood at h2 ⊢;simp only [Bool.and_eq_true] at h2 ⊢;exact ⟨⟨h1,h2.1,ZO⟩,zJk⟩
  ·exact hf
 ·obtain ⟨e,he2,rfl⟩:=List.mem_map.1 he;unfold wJ at hs ⊢;split
  ·rfl
  ·rename_i hc
   rw [if_neg hc] at hs;exact h.st e he2 hs
 ·unfold ZH;rw [List.pairwise_map];refine h.first.imp_of_mem fun {e e'} he he' q=>?_;rw [ha e'];cases hb:(wJ p e).x.1.has e'.a with
  | false=>rfl
  | true=>rw [hin e he _ hb] at q;cases q
theorem QOk.del {l:List QE} {bound:Nat} (h:QOk l bound) (n:Nat):QOk (l.eraseIdx n) bound:=h.sub (List.eraseIdx_sublist ..)
end Go.Proofs.YtjcbjclhagobiaaGreat
end
