/- Texts joined by a program of ours: Fz Ga Gb Mb Gf Gg Gh. -/
import Derived.Test.YtjcbjclhagobiaaGreatJae
import Derived.Test.YtjcbjclhagobiaaGreatJag
import Derived.Test.YtjcbjclhagobiaaGreatJam
set_option linter.all false
section
namespace Go.Proofs.YtjcbjclhagobiaaGreat
set_option maxHeartbeats 1600000
open Go Go.KL Go.KM
variable {E:Env} {X:Xs}
set_option maxRecDepth 100000
def yQ:List PtE->Int->Nat->List PtE
 | [],y,n=>[⟨y,1,n⟩]
 | p::P,y,n=>if p.hop<y then p::yQ P y n else if p.hop=y then ⟨y,wL p.pk 1,wL p.by_ n⟩::P else ⟨y,1,n⟩::p::P
def zNm (P:List PtE) (v:Vd):List PtE:=
 if v.kind≠1/\v.kind≠2∨zMJ v.hop=false then P else yQ P (if v.kind=2 then 0 else v.hop) v.out.length
theorem WK {y:Int} {n:Nat}:∀ {A B:List PtE},(∀ q∈A,q.hop<y)->yQ (A++B) y n=A++yQ B y n
 | [],_,_=>rfl
 | p::A,B,h=>by
  rw [List.cons_append,yQ,if_pos (h p (by simp)),WK fun q hq=>h q (by simp [hq])];rfl
theorem zKU {P:List PtE} (h:PoOk P) {y:Int} (hy:0<=y/\y<=65535) {n:Nat} (hn:n<18446744073709551616):PoOk (yQ P y n)/\∀ m:Int,m<y->(∀ q∈P,m<q.hop)->∀ q∈yQ P y n,m<q.hop:=by
 induction P with
 | nil=>
  refine ⟨⟨by simp [yQ],fun p hp=>?_,fun p hp=>?_⟩,fun m hm _ q hq=>?_⟩
  ·simp [yQ] at hp;subst hp;exact hy
  ·simp [yQ] at hp;subst hp;exact ⟨by show 1<_;omega,hn⟩
  ·simp [yQ] at hq;subst hq;exact hm
 | cons p P ih=>
  have hu:=List.pairwise_cons.1 h.up;have hP:PoOk P:=⟨hu.2,fun q hq=>h.in_ q (by simp [hq]),fun q hq=>h.lt q (by simp [hq])⟩
  obtain ⟨ih1,ih2⟩:=ih hP;unfold yQ;split
  ·rename_i hl
   refine ⟨⟨List.pairwise_cons.2 ⟨ih2 p.hop hl hu.1,ih1.up⟩,fun q hq=>?_,fun q hq=>?_⟩,fun m hm hq q hq'=>?_⟩
   ·rcases List.mem_cons.1 hq with rfl|hq
    ·exact h.in_ _ (by simp)
    ·exact ih1.in_ q hq
   ·rcases List.mem_cons.1 hq with rfl|hq
    ·exact h.lt _ (by simp)
    ·exact ih1.lt q hq
   ·rcases List.mem_cons.1 hq' with rfl|hq'
    ·exact hq _ (by simp)
    ·exact ih2 m hm (fun q hq''=>hq q (by simp [hq''])) q hq'
  ·split
   ·rename_i he
    refine ⟨⟨List.pairwise_cons.2 ⟨fun q hq=>by have:=hu.1 q hq;show y<_;omega,hu.2⟩,fun q hq=>?_,fun q hq=>?_⟩,fun m hm hq q hq'=>?_⟩
    ·rcases List.mem_cons.1 hq with rfl|hq
     ·exact hy
     ·exact h.in_ q (by simp [hq])
    ·rcases List.mem_cons.1 hq with rfl|hq
     ·exact ⟨zEw,zEw⟩
     ·exact h.lt q (by simp [hq])
    ·rcases List.mem_cons.1 hq' with rfl|hq'
     ·exact hm
     ·exact hq q (by simp [hq'])
   ·rename_i h1 h2
    refine ⟨⟨List.pairwise_cons.2 ⟨fun q hq=>?_,h.up⟩,fun q hq=>?_,fun q hq=>?_⟩,fun m hm hq q hq'=>?_⟩
    ·rcases List.mem_cons.1 hq with rfl|hq
     ·show y<_;omega
     ·have:=hu.1 q hq;show y<_;omega
    ·rcases List.mem_cons.1 hq with rfl|hq
     ·exact hy
     ·exact h.in_ q hq
    ·rcases List.mem_cons.1 hq with rfl|hq
     ·exact ⟨by show 1<_;omega,hn⟩
     ·exact h.lt q hq
    ·rcases List.mem_cons.1 hq' with rfl|hq'
     ·exact hm
     ·exact hq q hq'
theorem PoOk.acc {P:List PtE} (h:PoOk P) {v:Vd} (hn:v.out.length<18446744073709551616):PoOk (zNm P v):=by
 unfold zNm;split
 ·exact h
 ·rename_i h1
  rw [not_or] at h1;have hm:=h1.2;have hm:zMJ v.hop=true:=by simpa using hm
  unfold zMJ at hm;rw [Bool.and_eq_true] at hm;have a:=of_decide_eq_true hm.1;have b:=of_decide_eq_true hm.2;refine (zKU h ?_ hn).1;split
  ·omega
  ·exact ⟨a,b⟩
set_option maxHeartbeats 4000000 in
theorem zCg (base:Option Addr) (cap:Nat) (P:List PtE) (h:PoOk P) (v:Vd) (ob:Option Addr) (oc:Nat) (hv:v.out.length<=1000000):Does PR E X 152 [.slice base P.length cap,vdV v ob oc] [rsl base cap 3 (P.map ptC)] (fun w t=>∃ b' c',w=.slice b' (zNm P v).length c'/\t=[rsl b' c' 3 ((zNm P v).map ptC)]):=by
 have hlen:=h.len;unfold zNm;refine Does.of 75 inferInstance rfl (by decide) rfl ?_
 refine zDx base fun hcap=>?_;simp only [List.length_map] at hcap;refine zB ?_;refine zU fun b3=>?_;refine zB ?_;refine orc (y:=!zMJ v.hop) (fun h gk=>?_) ?_
 ·refine zB ?_;refine call (zBm v.hop) ?_;rintro _ _ ⟨rfl,rfl⟩;exact YD
 refine zB ?_;refine orc (y:=!true) (fun hh gk=>?_) ?_
 ·refine zB ?_;refine call (zE1 base cap P h) ?_;rintro _ _ ⟨rfl,rfl⟩;exact YD
 refine zB ?_;by_cases hc:v.kind≠1/\v.kind≠2∨zMJ v.hop=false
 ·rw [if_pos hc];refine yes ?_ rfl (by
   rcases hc with ⟨c1,c2⟩|c
   ·rw [decide_eq_false c1,decide_eq_false c2];rfl
   ·rw [c];simp)
  refine zB ?_;refine ret ?_;exact ends ⟨base,cap,rfl,rfl⟩
 ·rw [if_neg hc];rw [not_or] at hc;have hm:zMJ v.hop=true:=by simpa using hc.2
  have hk:v.kind=1∨v.kind=2:=by have:=hc.1;omega
  refine no ?_ rfl (by
   rw [hm];rcases hk with k|k <;> rw [k] <;> rfl)
  refine zB ?_;by_cases k2:v.kind=2
  ·rw [if_pos k2];refine yes ?_ rfl (by rw [k2];rfl)
   refine zB ?_;refine call (Ys base cap P (by omega)) ?_
   rintro _ _ ⟨b1,c1,rfl,rfl⟩;refine zHN b1 fun hc1=>?_;simp only [List.length_map] at hc1;refine zB ?_;refine call (Vt b1 c1 P h (0)) ?_;rintro _ _ ⟨k,k1,k2',k3,rfl,rfl⟩;refine zB ?_;have hacc:yQ P (0) v.out.length=P.take k++yQ (P.drop k) (0) v.out.length:=by
    conv=>lhs;rw [<-List.take_append_drop k P]
    exact WK k2'
   by_cases hx:∃ p,P[k]?=some p/\p.hop=0
   ·obtain ⟨p,hp,hpy⟩:=hx;obtain ⟨hkl,hpk⟩:=List.getElem?_eq_some_iff.1 hp;have hd:P.drop k=p::P.drop (k+1):=by rw [List.drop_eq_getElem_cons hkl,hpk]
    have hpm:=h.lt p (List.mem_of_getElem? hp);have hx:P[(k:Int).toNat]?=some p:=by rw [Int.toNat_natCast];exact hp
    refine no ?_ rfl (by rw [hp];simp [hpy])
    refine zB ?_;refine draw [0,0,0,4,12,28,60,0,128,384,896,0,2048,6144,14336,32764,65533,131069,262141,524287,1048575,2097151] [6,15,18,21] [5,10,12,14] [0,1,2,3,4,5,7,8,9,10,11,12,13,14,6,15,16,17,18,19,20,21] ?_;refine zC ?_;refine call (vV p.pk 1 hpm.1 (by decide)) ?_
    rintro _ _ ⟨rfl,rfl⟩;try refine zJ ?_
    refine ddA ?_;refine call (vV p.by_ v.out.length hpm.2 (by omega)) ?_
    rintro _ _ ⟨rfl,rfl⟩;try refine zJ ?_
    refine ddA ?_;have hset:(P.map ptC).set (k:Int).toNat [.int .i64 p.hop,u64 (wL p.pk 1),u64 p.by_]=(P.set k ⟨p.hop,wL p.pk 1,p.by_⟩).map ptC:=by rw [List.map_set,Int.toNat_natCast];rfl
    rw [hset];have hx2:(P.set k ⟨p.hop,wL p.pk 1,p.by_⟩)[(k:Int).toNat]?=some ⟨p.hop,wL p.pk 1,p.by_⟩:=by rw [Int.toNat_natCast,List.getElem?_set_self hkl]
    generalize hP2:P.set k ⟨p.hop,wL p.pk 1,p.by_⟩=P2 at hx2 ⊢;refine ddA ?_;have hfin:(P2.map ptC).set (k:Int).toNat [.int .i64 p.hop,u64 (wL p.pk 1),u64 (wL p.by_ v.out.length)]=(yQ P (0) v.out.length).map ptC:=by
     rw [hacc,hd,yQ,if_neg (by omega),if_pos hpy,Int.toNat_natCast,<-hP2,<-hpy]
     have:([.int .i64 p.hop,u64 (wL p.pk 1),u64 (wL p.by_ v.out.length)]:List Value)=ptC ⟨p.hop,wL p.pk 1,wL p.by_ v.out.length⟩:=rfl
     rw [this,<-List.map_set,List.set_set,List.set_eq_take_append_cons_drop,if_pos hkl]
    have hfl:(yQ P (0) v.out.length).length=P.length:=by
     rw [hacc,hd,yQ,if_neg (by omega),if_pos hpy,List.length_append,List.length_take,List.length_cons,List.length_drop];omega
    rw [hfin,<-hfl];refine xE b1 ?_;refine ret ?_;exact ends ⟨_,_,rfl,rfl⟩
   ·have hno:(P[k]?.map fun p=>decide (p.hop=0)).getD false=false:=by
     cases hp:P[k]? with
     | none=>rfl
     | some p=>exact decide_eq_false fun e=>hx ⟨p,hp,e⟩
    have hput:yQ (P.drop k) (0) v.out.length=⟨0,1,v.out.length⟩::P.drop k:=by
     cases hdk:P.drop k with
     | nil=>rfl
     | cons q r=>
      have hq:=k3 q (by rw [hdk];simp)
      have hkq:P[k]?=some q:=by
       have:=congrArg (fun l=>l[0]?) hdk
       simpa using this
      have hne:q.hop≠0:=fun e=>hx ⟨q,hkq,e⟩;rw [yQ,if_neg (by omega),if_neg hne]
    refine yes ?_ rfl (by rw [hno];rfl)
    refine zB ?_;refine buildSlice fun bv=>?_;refine zB ?_;obtain ⟨p,hpd⟩:∃ p:PtE,p=⟨0,0,0⟩:=⟨_,rfl⟩;refine call (Qt b1 c1 P (by omega) k k1 bv ⟨0,0,0⟩) ?_
    rintro _ _ ⟨b2,c2,rfl,rfl⟩;rw [<-hpd];have hpy:p.hop=0:=by rw [hpd]
    have hp0:p.pk=0:=by rw [hpd]
    have hp1:p.by_=0:=by rw [hpd]
    have htk:(P.take k).length=k:=by rw [List.length_take];omega
    obtain ⟨Q,hQ⟩:∃ Q,Q=P.take k++p::P.drop k:=⟨_,rfl⟩;have hQl:Q.length=P.length+1:=by rw [hQ,List.length_append,List.length_cons,htk,List.length_drop];omega
    have hx:Q[(k:Int).toNat]?=some p:=by rw [Int.toNat_natCast,hQ,List.getElem?_append_right (by omega),htk,Nat.sub_self];rfl
    rw [<-hQ,<-hQl];refine zB ?_;refine draw [0,0,0,4,12,28,60,0,128,384,896,0,2048,6144,14336,32764,65533,131069,262141,524287,1048575,2097151] [6,15,18,21] [5,10,12,14] [0,1,2,3,4,5,7,8,9,10,11,12,13,14,6,15,16,17,18,19,20,21] ?_;refine zC ?_;refine call (vV p.pk 1 (by omega) (by decide)) ?_
    rintro _ _ ⟨rfl,rfl⟩;try refine zJ ?_
    refine ddA ?_;refine call (vV p.by_ v.out.length (by omega) (by omega)) ?_
    rintro _ _ ⟨rfl,rfl⟩;try refine zJ ?_
    refine ddA ?_;have hset:(Q.map ptC).set (k:Int).toNat [.int .i64 p.hop,u64 (wL p.pk 1),u64 p.by_]=(Q.set k ⟨p.hop,wL p.pk 1,p.by_⟩).map ptC:=by rw [List.map_set,Int.toNat_natCast];rfl
    rw [hset];have hx2:(Q.set k ⟨p.hop,wL p.pk 1,p.by_⟩)[(k:Int).toNat]?=some ⟨p.hop,wL p.pk 1,p.by_⟩:=by rw [Int.toNat_natCast,List.getElem?_set_self (by omega)]
    generalize hP2:Q.set k ⟨p.hop,wL p.pk 1,p.by_⟩=P2 at hx2 ⊢;refine ddA ?_;have hfin:(P2.map ptC).set (k:Int).toNat [.int .i64 p.hop,u64 (wL p.pk 1),u64 (wL p.by_ v.out.length)]=(yQ P (0) v.out.length).map ptC:=by
     have e1:wL p.pk 1=1:=by rw [hp0];rfl
     have e2:wL p.by_ v.out.length=v.out.length:=by rw [hp1];unfold wL;omega
     rw [hacc,hput,e1,e2,hpy,Int.toNat_natCast];have:([.int .i64 (0),u64 1,u64 v.out.length]:List Value)=ptC ⟨0,1,v.out.length⟩:=rfl
     rw [this,<-List.map_set,<-hP2,List.set_set,hQ,List.set_append_right _ _ (by omega),htk,Nat.sub_self];rfl
    have hfl:(yQ P (0) v.out.length).length=Q.length:=by
     rw [hacc,hput,hQl,List.length_append,htk,List.length_cons,List.length_drop];omega
    rw [hfin,<-hfl];refine xE b2 ?_;refine ret ?_;exact ends ⟨_,_,rfl,rfl⟩
  ·rw [if_neg k2];refine no ?_ rfl (decide_eq_false k2);refine zB ?_;refine call (Ys base cap P (by omega)) ?_
   rintro _ _ ⟨b1,c1,rfl,rfl⟩;refine zHN b1 fun hc1=>?_;simp only [List.length_map] at hc1;refine zB ?_;refine call (Vt b1 c1 P h (v.hop)) ?_;rintro _ _ ⟨k,k1,k2',k3,rfl,rfl⟩;refine zB ?_;have hacc:yQ P (v.hop) v.out.length=P.take k++yQ (P.drop k) (v.hop) v.out.length:=by
    conv=>lhs;rw [<-List.take_append_drop k P]
    exact WK k2'
   by_cases hx:∃ p,P[k]?=some p/\p.hop=v.hop
   ·obtain ⟨p,hp,hpy⟩:=hx;obtain ⟨hkl,hpk⟩:=List.getElem?_eq_some_iff.1 hp;have hd:P.drop k=p::P.drop (k+1):=by rw [List.drop_eq_getElem_cons hkl,hpk]
    have hpm:=h.lt p (List.mem_of_getElem? hp);have hx:P[(k:Int).toNat]?=some p:=by rw [Int.toNat_natCast];exact hp
    refine no ?_ rfl (by rw [hp];simp [hpy])
    refine zB ?_;refine draw [0,0,0,4,12,28,60,0,128,384,896,0,2048,6144,14336,32764,65533,131069,262141,524287,1048575,2097151] [6,15,18,21] [5,10,12,14] [0,1,2,3,4,5,7,8,9,10,11,12,13,14,6,15,16,17,18,19,20,21] ?_;refine zC ?_;refine call (vV p.pk 1 hpm.1 (by decide)) ?_
    rintro _ _ ⟨rfl,rfl⟩;try refine zJ ?_
    refine ddA ?_;refine call (vV p.by_ v.out.length hpm.2 (by omega)) ?_
    rintro _ _ ⟨rfl,rfl⟩;try refine zJ ?_
    refine ddA ?_;have hset:(P.map ptC).set (k:Int).toNat [.int .i64 p.hop,u64 (wL p.pk 1),u64 p.by_]=(P.set k ⟨p.hop,wL p.pk 1,p.by_⟩).map ptC:=by rw [List.map_set,Int.toNat_natCast];rfl
    rw [hset];have hx2:(P.set k ⟨p.hop,wL p.pk 1,p.by_⟩)[(k:Int).toNat]?=some ⟨p.hop,wL p.pk 1,p.by_⟩:=by rw [Int.toNat_natCast,List.getElem?_set_self hkl]
    generalize hP2:P.set k ⟨p.hop,wL p.pk 1,p.by_⟩=P2 at hx2 ⊢;refine ddA ?_;have hfin:(P2.map ptC).set (k:Int).toNat [.int .i64 p.hop,u64 (wL p.pk 1),u64 (wL p.by_ v.out.length)]=(yQ P (v.hop) v.out.length).map ptC:=by
     rw [hacc,hd,yQ,if_neg (by omega),if_pos hpy,Int.toNat_natCast,<-hP2,<-hpy]
     have:([.int .i64 p.hop,u64 (wL p.pk 1),u64 (wL p.by_ v.out.length)]:List Value)=ptC ⟨p.hop,wL p.pk 1,wL p.by_ v.out.length⟩:=rfl
     rw [this,<-List.map_set,List.set_set,List.set_eq_take_append_cons_drop,if_pos hkl]
    have hfl:(yQ P (v.hop) v.out.length).length=P.length:=by
     rw [hacc,hd,yQ,if_neg (by omega),if_pos hpy,List.length_append,List.length_take,List.length_cons,List.length_drop];omega
    rw [hfin,<-hfl];refine xE b1 ?_;refine ret ?_;exact ends ⟨_,_,rfl,rfl⟩
   ·have hno:(P[k]?.map fun p=>decide (p.hop=v.hop)).getD false=false:=by
     cases hp:P[k]? with
     | none=>rfl
     | some p=>exact decide_eq_false fun e=>hx ⟨p,hp,e⟩
    have hput:yQ (P.drop k) (v.hop) v.out.length=⟨v.hop,1,v.out.length⟩::P.drop k:=by
     cases hdk:P.drop k with
     | nil=>rfl
     | cons q r=>
      have hq:=k3 q (by rw [hdk];simp)
      have hkq:P[k]?=some q:=by
       have:=congrArg (fun l=>l[0]?) hdk
       simpa using this
      have hne:q.hop≠v.hop:=fun e=>hx ⟨q,hkq,e⟩;rw [yQ,if_neg (by omega),if_neg hne]
    refine yes ?_ rfl (by rw [hno];rfl)
    refine zB ?_;refine buildSlice fun bv=>?_;refine zB ?_;obtain ⟨p,hpd⟩:∃ p:PtE,p=⟨v.hop,0,0⟩:=⟨_,rfl⟩;refine call (Qt b1 c1 P (by omega) k k1 bv ⟨v.hop,0,0⟩) ?_
    rintro _ _ ⟨b2,c2,rfl,rfl⟩;rw [<-hpd];have hpy:p.hop=v.hop:=by rw [hpd]
    have hp0:p.pk=0:=by rw [hpd]
    have hp1:p.by_=0:=by rw [hpd]
    have htk:(P.take k).length=k:=by rw [List.length_take];omega
    obtain ⟨Q,hQ⟩:∃ Q,Q=P.take k++p::P.drop k:=⟨_,rfl⟩;have hQl:Q.length=P.length+1:=by rw [hQ,List.length_append,List.length_cons,htk,List.length_drop];omega
    have hx:Q[(k:Int).toNat]?=some p:=by rw [Int.toNat_natCast,hQ,List.getElem?_append_right (by omega),htk,Nat.sub_self];rfl
    rw [<-hQ,<-hQl];refine zB ?_;refine draw [0,0,0,4,12,28,60,0,128,384,896,0,2048,6144,14336,32764,65533,131069,262141,524287,1048575,2097151] [6,15,18,21] [5,10,12,14] [0,1,2,3,4,5,7,8,9,10,11,12,13,14,6,15,16,17,18,19,20,21] ?_;refine zC ?_;refine call (vV p.pk 1 (by omega) (by decide)) ?_
    rintro _ _ ⟨rfl,rfl⟩;try refine zJ ?_
    refine ddA ?_;refine call (vV p.by_ v.out.length (by omega) (by omega)) ?_
    rintro _ _ ⟨rfl,rfl⟩;try refine zJ ?_
    refine ddA ?_;have hset:(Q.map ptC).set (k:Int).toNat [.int .i64 p.hop,u64 (wL p.pk 1),u64 p.by_]=(Q.set k ⟨p.hop,wL p.pk 1,p.by_⟩).map ptC:=by rw [List.map_set,Int.toNat_natCast];rfl
    rw [hset];have hx2:(Q.set k ⟨p.hop,wL p.pk 1,p.by_⟩)[(k:Int).toNat]?=some ⟨p.hop,wL p.pk 1,p.by_⟩:=by rw [Int.toNat_natCast,List.getElem?_set_self (by omega)]
    generalize hP2:Q.set k ⟨p.hop,wL p.pk 1,p.by_⟩=P2 at hx2 ⊢;refine ddA ?_;have hfin:(P2.map ptC).set (k:Int).toNat [.int .i64 p.hop,u64 (wL p.pk 1),u64 (wL p.by_ v.out.length)]=(yQ P (v.hop) v.out.length).map ptC:=by
     have e1:wL p.pk 1=1:=by rw [hp0];rfl
     have e2:wL p.by_ v.out.length=v.out.length:=by rw [hp1];unfold wL;omega
     rw [hacc,hput,e1,e2,hpy,Int.toNat_natCast];have:([.int .i64 (v.hop),u64 1,u64 v.out.length]:List Value)=ptC ⟨v.hop,1,v.out.length⟩:=rfl
     rw [this,<-List.map_set,<-hP2,List.set_set,hQ,List.set_append_right _ _ (by omega),htk,Nat.sub_self];rfl
    have hfl:(yQ P (v.hop) v.out.length).length=Q.length:=by
     rw [hacc,hput,hQl,List.length_append,htk,List.length_cons,List.length_drop];omega
    rw [hfin,<-hfl];refine xE b2 ?_;refine ret ?_;exact ends ⟨_,_,rfl,rfl⟩
end Go.Proofs.YtjcbjclhagobiaaGreat
end
section
namespace Go.Proofs.YtjcbjclhagobiaaGreat
set_option maxHeartbeats 1600000
open Go Go.KL Go.KM
variable {E:Env} {X:Xs}
set_option maxRecDepth 100000
structure En where
 h:HSt
 P:List PtE
 fetch:Int
structure EnOk (e:En):Prop where
 h:HOk e.h
 P:PoOk e.P
structure EB where
 hb:Nat
 pb:Option Addr
 pc:Nat
abbrev zMY (b:Nat) (q:EB) (n:Nat) (f:Int):HP:=box b [pt q.hb,.slice q.pb n q.pc,.int .i64 f] 184
abbrev VB (b:Nat) (e:En) (q:EB):List HP:=[zMY b q e.P.length e.fetch,xZ q.hb e.h,rsl q.pb q.pc 3 (e.P.map ptC)]
abbrev zGh (b:Nat) (e:En):HP:=HP.ex (VB b e)
structure Cfg where
 cap:Int
 pol:Int
 bound:Int
 n:Int
 h:Int
 fetch:Int
 pre:List Nat
abbrev zJy (c:Cfg) (base:Option Addr) (k:Nat):Value:=.agg #[.int .i64 c.cap,.int .i64 c.pol,.int .i64 c.bound,.int .i64 c.n,.int .i64 c.h,.int .i64 c.fetch,.slice base c.pre.length k]
abbrev Jw (c:Cfg):En:=⟨hNew c.cap c.pol c.bound c.n c.h c.pre,[],c.fetch⟩
theorem EnOk.new {c:Cfg} (h:∀ x∈c.pre,x<18446744073709551616):EnOk (Jw c):=⟨HOk.new h,⟨.nil,by simp,by simp⟩⟩
theorem zCs (c:Cfg) (base:Option Addr) (k:Nat) (hl:c.pre.length<=100000):Does PR E X 25 [zJy c base k] [rsl base k 1 (c.pre.map fun x=>[u64 x])] (fun v t=>∃ b,v=pt b/\t=[zGh b (Jw c)]):=by
 refine Does.of 21 inferInstance rfl (by decide) rfl ?_
 refine zB ?_;refine zU fun b1=>?_;refine zB ?_;refine draw [0,1,0,4,0,16,0,64,0,256,0,1024,4095,8191,0,16384,65535,131071,262143] [13,17,18] [1,3,5,7,9,11,15] [0,1,2,3,4,5,6,7,8,9,10,11,12,14,15,13,16,17,18] ?_;refine zC ?_;refine call (zJl c.cap c.pol c.bound c.n c.h base k c.pre hl) ?_;rintro _ _ ⟨hb,rfl,rfl⟩;refine zJ ?_;refine ddA ?_;refine YN fun b2=>?_;refine ddA ?_;refine into (Into.nilR (sz:=3)) ?_;refine zE (VB b2 (Jw c)) ⟨hb,none,0⟩ ?_;refine ret ?_;exact ends ⟨b2,rfl,rfl⟩
theorem yN (b:Nat) (q:EB) (n:Nat) (f:Int):Does PR E X 27 [pt b] [zMY b q n f] (fun v t=>v=pt q.hb/\t=[zMY b q n f]):=by
 refine Does.of 9 inferInstance rfl (by decide) rfl ?_
 refine zB ?_;refine no ?_ rfl rfl;refine zB ?_;refine ret ?_;exact ends ⟨rfl,rfl⟩
theorem VU (h:HSt) (l:List Nat):(judgeP h l).2.out.length<=l.length:=by
 unfold judgeP;split
 ·exact Nat.zero_le _
 ·split
  ·exact Nat.zero_le _
  ·split
   ·exact List.length_take_le' _ _
   ·split
    ·exact Nat.zero_le _
    ·show (Wl l).length<=_;unfold Wl;split
     ·rw [zLL];exact List.length_take_le' _ _
     ·unfold zFP;rw [List.length_set];exact List.length_take_le' _ _
def WE (e:En) (l:List Nat):En×Vd:=(⟨(vN e.h l).1,zNm e.P (vN e.h l).2,e.fetch⟩,(vN e.h l).2)
theorem EnOk.packet {e:En} (h:EnOk e) {l:List Nat} (hm:l.length<=1000000):EnOk (WE e l).1:=⟨h.h.decide l,h.P.acc (by have:=VU e.h l;show (judgeP e.h l).2.out.length<_;omega)⟩
theorem zCv (b:Nat) (e:En) (he:EnOk e) (base:Option Addr) (cap:Nat) (l:List Nat) (hl:∀ x∈l,x<256) (hm:l.length<=1000000):Does PR E X 77 [pt b,.slice base l.length cap] [zGh b e,rsl base cap 1 (l.map u8e)] (fun v t=>∃ ob oc,v=vdV (WE e l).2 ob oc/\t=[zGh b (WE e l).1,rsl ob oc 1 ((WE e l).2.out.map u8e)]):=by
 have ho:=VU e.h l;refine Does.of 23 inferInstance rfl (by decide) rfl ?_
 refine zW (VB b e) fun q=>?_;refine zB ?_;refine alloc fun b4=>?_;refine zB ?_;refine call (yN b q e.P.length e.fetch) ?_;rintro _ _ ⟨rfl,rfl⟩;refine zB ?_;refine call (zEA q.hb e.h he.h base cap l hl hm) ?_;rintro _ _ ⟨ob,oc,rfl,rfl⟩;refine zB ?_;refine alloc fun b5=>?_;refine zB ?_;refine call (yN b q e.P.length e.fetch) ?_;rintro _ _ ⟨rfl,rfl⟩;refine zB ?_;refine yes ?_ rfl rfl;refine zB ?_;refine draw [0,0,2,6,14,0,62,127,255,511] [6,9] [4,5] [0,1,2,3,4,5,6,7,8,9] ?_;refine zC ?_;refine call (zCg q.pb q.pc e.P he.P (vN e.h l).2 ob oc (by show (judgeP e.h l).2.out.length<=_;omega)) ?_
 rintro _ _ ⟨b',c',rfl,rfl⟩;try refine zJ ?_
 refine ddA ?_;refine zE (VB b (WE e l).1) ⟨q.hb,b',c'⟩ ?_;refine ret ?_;exact ends ⟨ob,oc,rfl,rfl⟩
theorem zGN (b:Nat) (e:En) (he:EnOk e) (k:Int):Does PR E X 81 [pt b,.int .i64 k] [zGh b e] (fun v t=>∃ b1 c1 b2 c2 b3 c3,v=.tuple #[.agg (zO5 (pfPick e.h k e.fetch).r.done (pfPick e.h k e.fetch).r.x b1 (pfPick e.h k e.fetch).r.absorbed.length c1 b2 (pfPick e.h k e.fetch).r.out.length c2).toArray,.slice b3 (pfPick e.h k e.fetch).l.length c3]/\t=[zGh b { e with h:=(pfPick e.h k e.fetch).h },osl b1 c1 54 5 ((pfPick e.h k e.fetch).r.absorbed.map prC),osl b2 c2 54 5 ((pfPick e.h k e.fetch).r.out.map prC),osl b3 c3 54 5 ((pfPick e.h k e.fetch).l.map prC)]):=by
 refine Does.of 22 inferInstance rfl (by decide) rfl ?_
 refine zW (VB b e) fun q=>?_;refine zB ?_;refine alloc fun b4=>?_;refine zB ?_;refine call (yN b q e.P.length e.fetch) ?_;rintro _ _ ⟨rfl,rfl⟩;refine zB ?_;refine no ?_ rfl rfl;refine zB ?_;refine draw [0,1,3,7,0,0,32,96,224,511,1023,1023,4095,8191] [9,12,13] [3,8] [0,1,2,3,4,5,6,7,8,9,10,11,12,13] ?_;refine zC ?_;refine call (zEJ q.hb e.h he.h k e.fetch) ?_;rintro _ _ ⟨b1,c1,b2,c2,b3,c3,rfl,rfl⟩;try refine zJ ?_
 refine ddA ?_;refine zE (VB b { e with h:=(pfPick e.h k e.fetch).h }) q ?_
 refine ret ?_;exact ends ⟨b1,c1,b2,c2,b3,c3,rfl,rfl⟩
def zKe (S:St):Nat->List Nat:=fun n=>(List.range n).map S.get
theorem zES (b:Nat) (h:HSt):Does PR E X 48 [pt b] [xZ b h] (fun v t=>v=stV h.S/\t=[xZ b h]):=by
 refine Does.of 10 inferInstance rfl (by decide) rfl ?_
 refine zW (xH b h) fun q=>?_;refine zB ?_;refine alloc fun b2=>?_;refine zB ?_;refine no ?_;refine zB ?_;refine zE (xH b h) q ?_;refine ret ?_;exact ends ⟨rfl,rfl⟩
theorem zLG (S:St) (n:Nat):(zKe S n).length=n:=by simp [zKe]
theorem zB0 (b:Nat) (e:En) (he:EnOk e):Does PR E X 80 [pt b] [zGh b e] (fun v t=>∃ b1 c1,v=.slice b1 17 c1/\t=[zGh b e,osl b1 c1 48 1 ((zKe e.h.S 17).map fun x=>[u64 x])]):=by
 refine Does.of 25 inferInstance rfl (by decide) rfl ?_
 refine zW (VB b e) fun q=>?_;refine zB ?_;refine call (yN b q e.P.length e.fetch) ?_;rintro _ _ ⟨rfl,rfl⟩;refine zB ?_;refine no ?_ rfl rfl;refine zB ?_;refine call (zES q.hb e.h) ?_;rintro _ _ ⟨rfl,rfl⟩;refine zB ?_;refine alloc fun b3=>?_;refine zB ?_;refine into (Into.nilO (T:=48) (sz:=1)) ?_;refine loop (ι:=Nat×Option Addr×Nat) (fun z=>17-z.1) (fun z=>z.1<=17) (fun z=>[(2,.slice none 0 0),(3,.pointer (some ⟨b3,0,none⟩)),(4,.slice z.2.1 z.1 z.2.2),(14,.int .i64 (z.1:Int))]) (fun z=>[osl z.2.1 z.2.2 48 1 ((zKe e.h.S z.1).map fun x=>[u64 x]),box b3 e.h.S.c 136,zMY b q e.P.length e.fetch,xZ q.hb e.h,rsl q.pb q.pc 3 (e.P.map ptC)]) (0,none,0) (by simp) ?_
 rintro ⟨i,b1,c1⟩ h1 ih;(try dsimp only at h1 ih ⊢);have hll:((zKe e.h.S i).map fun x=>[u64 x]).length=i:=by rw [List.length_map,zLG]
 rcases Nat.lt_or_ge i 17 with hi|hi
 ·refine zB ?_;refine yes ?_ rfl (decide_eq_true (by omega))
  refine zB ?_;refine call (zJc e.h.S i hi) ?_;rintro _ _ ⟨rfl,rfl⟩;refine zB ?_;refine buildSlice fun b5=>?_;refine zB ?_;refine xM fun b6 c6=>?_;refine zB ?_;have hs:((zKe e.h.S i).map fun x=>[u64 x])++[yG (u64 (e.h.S.get i))]=(zKe e.h.S (i+1)).map fun x=>[u64 x]:=by unfold zKe;rw [List.range_succ,List.map_append,List.map_append];rfl
  rw [hs];exact next (ih (i+1,b6,c6) (by show i+1<=17;omega) (by show 17-(i+1)<17-i;omega))
 ·have:i=17:=by omega
  subst this;refine zB ?_;refine no ?_ rfl rfl;refine zB ?_;refine zE (VB b e) q ?_;refine ret ?_;exact ends ⟨b1,c1,rfl,rfl⟩
end Go.Proofs.YtjcbjclhagobiaaGreat
end
section
namespace Go.Proofs.YtjcbjclhagobiaaGreat
set_option maxHeartbeats 1600000
open Go Go.KL Go.KM
variable {E:Env} {X:Xs}
set_option maxRecDepth 100000
structure Sp where
 what:Int
 p:Pf
 hop:Int
 n:Int
 pkt:List Nat
abbrev spV (s:Sp) (base:Option Addr) (cap:Nat):Value:=.agg #[.int .i64 s.what,u64 s.p.a.hi,u64 s.p.a.lo,.bool s.p.a.v6,.int .i64 s.p.n,.int .i64 s.hop,.int .i64 s.n,.slice base s.pkt.length cap]
structure An where
 what:Int
 e:Int
 v:Vd
 done:Bool
 x:Pf×Int
 abs:Prs
 out:Prs
 routes:Prs
 counts:List Nat
 ports:List PtE
 ok:Bool
structure AB where
 ob:Option Addr
 oc:Nat
 ab:Option Addr
 ac:Nat
 ub:Option Addr
 uc:Nat
 rb:Option Addr
 rc:Nat
 cb:Option Addr
 cc:Nat
 pb:Option Addr
 pc:Nat
abbrev anC (a:An) (q:AB):List Value:=[.int .i64 a.what,.int .i64 a.e,.int .i64 a.v.kind,.int .i64 a.v.why,.int .i64 a.v.hop,.int .i64 a.v.cls,.slice q.ob a.v.out.length q.oc,.bool a.done,u64 a.x.1.a.hi,u64 a.x.1.a.lo,.bool a.x.1.a.v6,.int .i64 a.x.1.n,.int .i64 a.x.2,.slice q.ab a.abs.length q.ac,.slice q.ub a.out.length q.uc,.slice q.rb a.routes.length q.rc,.slice q.cb a.counts.length q.cc,.slice q.pb a.ports.length q.pc,.bool a.ok]
abbrev anV (a:An) (q:AB):Value:=.agg (anC a q).toArray
abbrev anS (a:An) (q:AB):List HP:=[rsl q.ob q.oc 1 (a.v.out.map u8e),rsl q.ab q.ac 5 (a.abs.map prC),rsl q.ub q.uc 5 (a.out.map prC),rsl q.rb q.rc 5 (a.routes.map prC),rsl q.cb q.cc 1 (a.counts.map fun x=>[u64 x]),rsl q.pb q.pc 3 (a.ports.map ptC)]
abbrev aZ (what:Int):An:=⟨what,0,⟨0,0,0,0,[]⟩,false,prZ,[],[],[],[],[],false⟩
def eStep (e:En) (s:Sp):En×An:=
 if s.what=0 then ((WE e s.pkt).1,{ aZ s.what with v:=(WE e s.pkt).2 })
 else if s.what=1 then ({ e with h:=(zHp e.h s.p s.hop).h },{ aZ s.what with e:=(zHp e.h s.p s.hop).e,routes:=(zHp e.h s.p s.hop).gone })
 else if s.what=2 then ({ e with h:=(xS e.h s.p).h },{ aZ s.what with e:=(xS e.h s.p).e,routes:=(xS e.h s.p).gone })
 else if s.what=3 then (e,{ aZ s.what with routes:=e.h.m })
 else if s.what=4 then (e,{ aZ s.what with counts:=zKe e.h.S 17 })
 else if s.what=5 then ({ e with h:=(pfPick e.h s.n e.fetch).h },{ aZ s.what with done:=(pfPick e.h s.n e.fetch).r.done,x:=(pfPick e.h s.n e.fetch).r.x,abs:=(pfPick e.h s.n e.fetch).r.absorbed,out:=(pfPick e.h s.n e.fetch).r.out,routes:=(pfPick e.h s.n e.fetch).l })
 else if s.what=6 then ({ e with h:=(JA e.h s.p).1 },{ aZ s.what with ok:=(JA e.h s.p).2 })
 else if s.what=7 then ({ e with h:=(Vo e.h s.p s.n).1 },{ aZ s.what with routes:=(Vo e.h s.p s.n).2 })
 else if s.what=8 then ({ e with h:=zJC e.h },aZ s.what)
 else if s.what=9 then (e,{ aZ s.what with ports:=e.P })
 else (e,aZ s.what)
theorem zHo {s:List HP}:Into s (rsl none 0 1 (([]:List Nat).map u8e)::s):=Into.nilR
theorem zI5 {s:List HP}:Into s (rsl none 0 5 (([]:Prs).map prC)::s):=Into.nilR
theorem zJ7 {s:List HP}:Into s (rsl none 0 1 (([]:List Nat).map fun x=>[u64 x])::s):=Into.nilR
theorem zIq {s:List HP}:Into s (rsl none 0 3 (([]:List PtE).map ptC)::s):=Into.nilR
set_option maxHeartbeats 4000000 in
theorem Xg (b:Nat) (e:En) (he:EnOk e) (s:Sp) (base:Option Addr) (cap:Nat) (hl:∀ x∈s.pkt,x<256) (hm:s.pkt.length<=1000000):Does PR E X 31 [pt b,spV s base cap] [zGh b e,rsl base cap 1 (s.pkt.map u8e)] (fun v t=>∃ q,v=anV (eStep e s).2 q/\t=zGh b (eStep e s).1::anS (eStep e s).2 q):=by
 unfold eStep;refine Does.of 98 inferInstance rfl (by decide) rfl ?_
 refine zW (VB b e) fun q=>?_;refine zB ?_;refine zU fun b3=>?_;refine zB ?_;refine alloc fun b4=>?_;refine zB ?_;refine alloc fun b5=>?_;refine zB ?_;refine call (yN b q e.P.length e.fetch) ?_;rintro _ _ ⟨rfl,rfl⟩;refine zB ?_;by_cases w0:s.what=0
 ·rw [if_pos w0];refine yes ?_ rfl (decide_eq_true w0);refine zB ?_;refine VV (VB b e) q ?_;refine call (zCv b e he base cap s.pkt hl hm) ?_;rintro _ _ ⟨ob,oc,rfl,rfl⟩;refine zB ?_;refine into zHo ?_;refine into zI5 ?_;refine into zJ7 ?_;refine into zIq ?_;refine ret ?_;exact ends ⟨⟨ob,oc,none,0,none,0,none,0,none,0,none,0⟩,rfl,rfl⟩
 ·rw [if_neg w0];refine no ?_ rfl (decide_eq_false w0);refine zB ?_;by_cases w1:s.what=1
  ·rw [if_pos w1];refine yes ?_ rfl (decide_eq_true w1);refine zB ?_;refine call (zH1 q.hb e.h he.h s.p s.hop) ?_;rintro _ _ ⟨rb,rc,rfl,rfl⟩;refine zB ?_;refine xE rb ?_;refine zE (VB b { e with h:=(zHp e.h s.p s.hop).h }) q ?_
   refine into zHo ?_;refine into zI5 ?_;refine into zJ7 ?_;refine into zIq ?_;refine ret ?_;exact ends ⟨⟨none,0,none,0,none,0,rb,rc,none,0,none,0⟩,rfl,rfl⟩
  ·rw [if_neg w1];refine no ?_ rfl (decide_eq_false w1);refine zB ?_;by_cases w2:s.what=2
   ·rw [if_pos w2];refine yes ?_ rfl (decide_eq_true w2);refine zB ?_;refine call (Js q.hb e.h he.h s.p) ?_;rintro _ _ ⟨rb,rc,rfl,rfl⟩;refine zB ?_;refine xE rb ?_;refine zE (VB b { e with h:=(xS e.h s.p).h }) q ?_
    refine into zHo ?_;refine into zI5 ?_;refine into zJ7 ?_;refine into zIq ?_;refine ret ?_;exact ends ⟨⟨none,0,none,0,none,0,rb,rc,none,0,none,0⟩,rfl,rfl⟩
   ·rw [if_neg w2];refine no ?_ rfl (decide_eq_false w2);refine zB ?_;by_cases w3:s.what=3
    ·rw [if_pos w3];refine yes ?_ rfl (decide_eq_true w3);refine zW (xH q.hb e.h) fun hq=>?_;refine zB ?_;refine call (wD q.hb hq e.h.Q.length e.h.bound e.h.S) ?_;rintro _ _ ⟨rfl,rfl⟩;refine zB ?_;refine call (zIl hq.r e.h.rmost e.h.rhops he.h.rm e.h.m he.h.srt (by have:=he.h.len;have:=he.h.rm;omega)) ?_
     rintro _ _ ⟨rb,rc,rfl,rfl⟩;refine zB ?_;refine xE rb ?_;refine zE (xH q.hb e.h) hq ?_;refine zE (VB b e) q ?_;refine into zHo ?_;refine into zI5 ?_;refine into zJ7 ?_;refine into zIq ?_;refine ret ?_;exact ends ⟨⟨none,0,none,0,none,0,rb,rc,none,0,none,0⟩,rfl,rfl⟩
    ·rw [if_neg w3];refine no ?_ rfl (decide_eq_false w3);refine zB ?_;by_cases w4:s.what=4
     ·rw [if_pos w4];refine yes ?_ rfl (decide_eq_true w4);refine zB ?_;refine VV (VB b e) q ?_;refine call (zB0 b e he) ?_;rintro _ _ ⟨cb,cc,rfl,rfl⟩;refine zB ?_;refine xE cb ?_;refine into zHo ?_;refine into zI5 ?_;refine into zJ7 ?_;refine into zIq ?_;refine ret ?_;exact ends ⟨⟨none,0,none,0,none,0,none,0,cb,cc,none,0⟩,rfl,rfl⟩
     ·rw [if_neg w4];refine no ?_ rfl (decide_eq_false w4);refine zB ?_;by_cases w5:s.what=5
      ·rw [if_pos w5];refine yes ?_ rfl (decide_eq_true w5);refine zB ?_;refine VV (VB b e) q ?_;refine call (zGN b e he s.n) ?_;rintro _ _ ⟨ab,ac,ub,uc,rb,rc,rfl,rfl⟩;refine zB ?_;refine xE ab ?_;refine xE ub ?_;refine xE rb ?_;refine into zHo ?_;refine into zI5 ?_;refine into zJ7 ?_;refine into zIq ?_;refine ret ?_;exact ends ⟨⟨none,0,ab,ac,ub,uc,rb,rc,none,0,none,0⟩,rfl,rfl⟩
      ·rw [if_neg w5];refine no ?_ rfl (decide_eq_false w5);refine zB ?_;by_cases w6:s.what=6
       ·rw [if_pos w6];refine yes ?_ rfl (decide_eq_true w6);refine zB ?_;refine call (zDh q.hb e.h he.h s.p) ?_;rintro _ _ ⟨rfl,rfl⟩;refine zB ?_;refine zE (VB b { e with h:=(JA e.h s.p).1 }) q ?_
        refine into zHo ?_;refine into zI5 ?_;refine into zJ7 ?_;refine into zIq ?_;refine ret ?_;exact ends ⟨⟨none,0,none,0,none,0,none,0,none,0,none,0⟩,rfl,rfl⟩
       ·rw [if_neg w6];refine no ?_ rfl (decide_eq_false w6);refine zB ?_;by_cases w7:s.what=7
        ·rw [if_pos w7];refine yes ?_ rfl (decide_eq_true w7);refine zB ?_;refine call (Vm q.hb e.h he.h s.p s.n) ?_;rintro _ _ ⟨rb,rc,rfl,rfl⟩;refine zB ?_;refine xE rb ?_;refine zE (VB b { e with h:=(Vo e.h s.p s.n).1 }) q ?_
         refine into zHo ?_;refine into zI5 ?_;refine into zJ7 ?_;refine into zIq ?_;refine ret ?_;exact ends ⟨⟨none,0,none,0,none,0,rb,rc,none,0,none,0⟩,rfl,rfl⟩
        ·rw [if_neg w7];refine no ?_ rfl (decide_eq_false w7);refine zB ?_;by_cases w8:s.what=8
         ·rw [if_pos w8];refine yes ?_ rfl (decide_eq_true w8);refine zB ?_;refine call (zHd q.hb e.h he.h) ?_;rintro _ _ ⟨rfl,rfl⟩;refine zB ?_;refine zE (VB b { e with h:=zJC e.h }) q ?_
          refine into zHo ?_;refine into zI5 ?_;refine into zJ7 ?_;refine into zIq ?_;refine ret ?_;exact ends ⟨⟨none,0,none,0,none,0,none,0,none,0,none,0⟩,rfl,rfl⟩
         ·rw [if_neg w8];refine no ?_ rfl (decide_eq_false w8);refine zB ?_;by_cases w9:s.what=9
          ·rw [if_pos w9];refine yes ?_ rfl (decide_eq_true w9);refine zB ?_;refine yes ?_ rfl rfl;refine zB ?_;refine call (Ys q.pb q.pc e.P (by have:=he.P.len;omega)) ?_
           rintro _ _ ⟨pb,pc,rfl,rfl⟩;refine zB ?_;refine xE pb ?_;refine zE (VB b e) q ?_;refine into zHo ?_;refine into zI5 ?_;refine into zJ7 ?_;refine into zIq ?_;refine ret ?_;exact ends ⟨⟨none,0,none,0,none,0,none,0,none,0,pb,pc⟩,rfl,rfl⟩
          ·rw [if_neg w9];refine no ?_ rfl (decide_eq_false w9);refine zB ?_;refine zE (VB b e) q ?_;refine into zHo ?_;refine into zI5 ?_;refine into zJ7 ?_;refine into zIq ?_;refine ret ?_;exact ends ⟨⟨none,0,none,0,none,0,none,0,none,0,none,0⟩,rfl,rfl⟩
theorem EnOk.step {e:En} (he:EnOk e) (s:Sp) (hm:s.pkt.length<=1000000):EnOk (eStep e s).1:=by
 unfold eStep;split;· exact he.packet hm
 split;· exact ⟨he.h.add _ _,he.P⟩
 split;· exact ⟨he.h.withdraw _,he.P⟩
 split;· exact he
 split;· exact he
 split;· exact ⟨he.h.pfPick _ _,he.P⟩
 split;· exact ⟨he.h.evict _,he.P⟩
 split;· exact ⟨he.h.run,he.P⟩
 split;· exact ⟨he.h.tick,he.P⟩
 split;· exact he
 exact he
end Go.Proofs.YtjcbjclhagobiaaGreat
end
section
namespace Go.Proofs.YtjcbjclhagobiaaGreat
set_option maxHeartbeats 1600000
open Go Go.KL Go.KM
theorem WM:∀ (k:Nat) (l:List Nat),(yI k l).length<=l.length
 | 0,l=>by simp [yI]
 | k+1,[]=>by simp [yI]
 | k+1,a::l=>by
  have h1:=WM k (zT (a%10) l).2;have h2:=VX (a%10) l;simp only [yI,List.length_cons];omega
theorem zDE (l:List Nat):(xD l).length<=l.length-7:=by
 have:=WM 4096 (l.drop (7+8*(yC l 6%18)))
 unfold xD;rw [List.length_drop] at this;omega
end Go.Proofs.YtjcbjclhagobiaaGreat
end
section
namespace Go.Proofs.YtjcbjclhagobiaaGreat
set_option maxHeartbeats 1600000
open Go Go.KL Go.KM
variable {E:Env} {X:Xs}
set_option maxRecDepth 100000
set_option maxHeartbeats 1000000 in
theorem zCb (ba:Option Addr) (bb off cap:Nat) (cs:List Value) (T:TypeId) (l:List Nat) (hba:l≠[]->ba=some ⟨bb,off,none⟩) (hc:Cel cs off l) (hcap:l.length<=cap) (hl:∀ x∈l,x<256) (hll:l.length<=1000000) (each:Value) (A:Nat->HP) (h:∀ n w,n+w<1000000000000000->DoesV PR E X each [u64 w] [A n] (fun v t=>v=.tuple #[]/\t=[A (n+w)])):Does PR E X 141 [.slice ba l.length cap,each] [box bb cs T,A 0] (fun v t=>v=.tuple #[]/\t=[box bb cs T,A (wsum l)]):=by
 have hs:=JR hl;refine Does.of 31 inferInstance rfl (by decide) rfl ?_
 refine zB ?_;refine loop (ι:=Option Addr×Nat×Nat×List Nat×Nat) (fun z=>z.2.2.2.1.length) (fun z=>(∀ x∈z.2.2.2.1,x<256)/\z.2.2.2.2+wsum z.2.2.2.1=wsum l/\z.2.2.2.1.length<=l.length/\(z.2.2.2.1≠[]->z.1=some ⟨bb,z.2.1,none⟩)/\Cel cs z.2.1 z.2.2.2.1/\z.2.2.2.1.length<=z.2.2.1) (fun z=>[(0,.slice z.1 z.2.2.2.1.length z.2.2.1),(1,each)]) (fun z=>[box bb cs T,A z.2.2.2.2]) (ba,off,cap,l,0) ⟨hl,by simp,Nat.le_refl _,hba,hc,hcap⟩ ?_
 clear hl hba hc hcap;rintro ⟨ba,off,cap,m,n⟩ ⟨h1,h2,h3,h4,h5,h6⟩ ih;(try dsimp only at h1 h2 h3 h4 h5 h6 ih ⊢);match m,h1,h2,h3,h4,h5,h6,ih with
 | [],h1,h2,h3,h4,h5,h6,ih=>
  have h0:([]:List Nat).length=0:=rfl;have h2:n=wsum l:=h2;subst h2;refine zB ?_;refine no ?_;refine zB ?_;refine no ?_;refine zB ?_;refine fall ?_;exact ends ⟨rfl,rfl⟩
 | [a],h1,h2,h3,h4,h5,h6,ih=>
  have h0:([a]:List Nat).length=1:=rfl;have ha:=h1 a (by simp)
  have h2:n+a*256=wsum l:=h2;have e1:WO .u64 (a:Int) 8=((a*256:Nat):Int):=by
   unfold WO;show ((a:Int)*256)%18446744073709551616=_;omega
  have hb:=h4 (by simp)
  subst hb;have hx:cs[off+(0:Int).toNat*1]?=some (.int .u8 (a:Int)):=h5.at_ 0 a rfl;refine zB ?_;refine no ?_;refine zB ?_;refine yes ?_;refine zB ?_;refine cmW (zR inferInstance inferInstance rfl rfl (by omega) (by omega)) ?_
  refine zB ?_;rw [e1];refine XD (h n (a*256) (by omega)) ?_
  rintro _ _ ⟨rfl,rfl⟩;rw [h2];refine zB ?_;refine fall ?_;exact ends ⟨rfl,rfl⟩
 | a::b::r,h1,h2,h3,h4,h5,h6,ih=>
  have h0:(a::b::r).length=r.length+2:=rfl;have ha:=h1 a (by simp)
  have hb:=h1 b (by simp)
  have h2:n+(a*256+b+wsum r)=wsum l:=h2;have e1:WO .u64 (a:Int) 8=((a*256:Nat):Int):=by
   unfold WO;show ((a:Int)*256)%18446744073709551616=_;omega
  have e2:orI .u64 ((a*256:Nat):Int) ((b:Nat):Int)=((a*256+b:Nat):Int):=by
   rw [zBG (by omega) (by omega)]
   congr 1;rw [show a*256=a <<< 8 by rw [Nat.shiftLeft_eq],Nat.shiftLeft_add_eq_or_of_lt (by omega)]
  have hbb:=h4 (by simp)
  subst hbb;have hx:cs[off+(0:Int).toNat*1]?=some (.int .u8 (a:Int)):=h5.at_ 0 a rfl;have hx1:cs[off+(1:Int).toNat*1]?=some (.int .u8 (b:Int)):=h5.at_ 1 b rfl;refine zB ?_;refine yes ?_;refine zB ?_;refine draw [0,0,2,6,14,30,0,64,192,448,1022,2047] [11] [2,3,4,7,8,9] [0,1,2,3,4,5,6,7,8,9,10,11] ?_;refine zC ?_;refine DA.cmr (by exact zO) rfl rfl rfl rfl (zR inferInstance inferInstance rfl rfl (by omega) (by omega)) ?_
  refine ddA ?_;refine DA.cmr (by exact zO) rfl rfl rfl rfl (zR inferInstance inferInstance rfl rfl (by omega) (by omega)) ?_
  refine ddA ?_;rw [e1,e2];refine XD (h n (a*256+b) (by omega)) ?_
  rintro _ _ ⟨rfl,rfl⟩;try refine zJ ?_
  refine ddA ?_;have hr:=ih (slB (some ⟨bb,off,none⟩) cap 2 1,off+2,cap-2,r,n+(a*256+b)) ⟨fun x hx=>h1 x (by simp [hx]),by show n+(a*256+b)+wsum r=wsum l;omega,by show r.length<=l.length;omega,fun hne=>?_,?_,by show r.length<=cap-2;omega⟩ (by show r.length<(a::b::r).length;omega)
  ·(try dsimp only at hr);exact next hr
  ·have:0<r.length:=by
    cases r with
    | nil=>exact absurd rfl hne
    | cons=>simp
   show slB (some ⟨bb,off,none⟩) cap 2 1=_;unfold slB;rw [if_neg (by omega)];simp only [Option.map_some];rw [Qw]
  ·have hl5:=h5.len;refine ⟨fun j x hj=>?_,by show off+2+r.length<=_;omega⟩
   have:=h5.at_ (j+2) x (by simpa using hj)
   rw [show off+(j+2)=off+2+j by omega] at this;exact this
theorem zCL (bb off n cap:Nat) (cs:List Value) (T:TypeId) (l:List Nat) (hn:l.length=n) (hc:Cel cs off l) (hcap:l.length<=cap) (hl:∀ x∈l,x<256) (hll:l.length<=1000000):Does PR E X 71 [.slice (some ⟨bb,off,none⟩) n cap] [box bb cs T] (fun v t=>v=.int .u16 (xV (ZC (wsum l)):Int)/\t=[box bb cs T]):=by
 subst hn;have hs:=JR hl;refine Does.of 10 inferInstance rfl (by decide) rfl ?_
 refine zB ?_;refine alloc fun b3=>?_;refine zB ?_;refine call (zCb (some ⟨bb,off,none⟩) bb off cap cs T l (fun _=>rfl) hc hcap hl hll (.func (.func 142) #[] #[pt b3]) (fun n=>zOf b3 n) (fun n w h=>Does.clo (vs:=[u64 w]) (ca:=#[pt b3]) (zBz b3 n w h) rfl)) ?_;rintro _ _ ⟨rfl,rfl⟩;refine zB ?_;refine call (Jn (wsum l) (by omega)) ?_
 rintro _ _ ⟨rfl,rfl⟩;refine zB ?_;rw [VA zBd];refine ret ?_;exact ends ⟨rfl,rfl⟩
end Go.Proofs.YtjcbjclhagobiaaGreat
end
section
namespace Go.Proofs.YtjcbjclhagobiaaGreat
set_option maxHeartbeats 1600000
open Go Go.KL Go.KM
variable {E:Env} {X:Xs}
set_option maxRecDepth 100000
def ZA (l:List Nat):List Nat:=(l.set 10 0).set 11 0
def sum10 (l:List Nat):Nat:=xV (ZC (wsum (ZA l)))
def Xo (l:List Nat):List Nat:=((ZA l).set 10 (sum10 l / 256)).set 11 (sum10 l%256)
theorem Cel.lay2 {cs:List Value} {off:Nat} {o:List Nat} (h:Cel cs off o) {k y z:Nat} (hk:k+1<o.length):Cel (lay cs (off+k) [.int .u8 (y:Int),.int .u8 (z:Int)]) off ((o.set k y).set (k+1) z):=by
 have h1:=h.lay1 (k:=k) (y:=y) (by omega)
 have h2:=h1.lay1 (k:=k+1) (y:=z) (by rw [List.length_set];omega)
 exact h2
theorem zL9 {l:List Nat} (hl:∀ x∈l,x<256) {k y:Nat} (hy:y<256):∀ x∈l.set k y,x<256:=fun x hx=>by
 rcases List.mem_or_eq_of_mem_set hx with h|h
 ·exact hl x h
 ·omega
set_option maxHeartbeats 1000000 in
theorem zCA (base:Option Addr) (cap:Nat) (l:List Nat) (hl:∀ x∈l,x<256) (hm:l.length<=1000000) (h12:12<=l.length):Does PR E X 24 [.slice base l.length cap,.int .i64 10] [rsl base cap 1 (l.map u8e)] (fun v t=>∃ b' c',v=.tuple #[.slice b' (Xo l).length c',.bool true]/\t=[rsl b' c' 1 ((Xo l).map u8e)]):=by
 refine Does.of 44 inferInstance rfl (by decide) rfl ?_
 refine zDx base fun hcap=>?_;rw [List.length_map] at hcap;refine zB ?_;refine call (ZP l base cap l.length rfl (by omega)) ?_
 rintro _ _ ⟨b',c',rfl,rfl⟩;refine zHN b' fun hc'=>?_;rw [List.length_map] at hc';refine Xb b' (cap:=c') (by omega) fun bb off c hb q1 q2 q3 q4=>?_
 subst hb;have Q0:Cel c off l:=Cel.of q4 q2 q3;refine zB ?_;have ha:XX .i64 10 1=0:=by decide
 rw [ha];refine no ?_ rfl (by rw [decide_eq_false (show ¬ (l.length:Int)-1<=10 by omega)];rfl)
 refine zB ?_;have e10:slB (some ⟨bb,off,none⟩) c' 10 1=some ⟨bb,off+10,none⟩:=by
  unfold slB;rw [if_neg (by omega)];simp only [Option.map_some];rw [Qw]
 rw [show Int.toNat 10=10 from rfl,show ((10:Int)+2).toNat-10=2 from rfl,e10];refine zJb (n:=2) (sz:=1) (off:=off+10) (c:=c) ?_ (by have:=Q0.len;omega)
 have Q1:Cel (lay c (off+10) (List.replicate 2 [Value.int .u8 0]).flatten) off (ZA l):=Q0.lay2 (k:=10) (y:=0) (z:=0) (by omega)
 have hl1:(lay c (off+10) (List.replicate 2 [Value.int .u8 0]).flatten).length=c.length:=zG _ _ _;generalize lay c (off+10) (List.replicate 2 [Value.int .u8 0]).flatten=c1 at Q1 hl1 ⊢;have hz:∀ x∈ZA l,x<256:=zL9 (zL9 hl (by decide)) (by decide)
 have hzl:(ZA l).length=l.length:=by unfold ZA;rw [List.length_set,List.length_set]
 refine zB ?_;refine call (zCL bb off l.length c' c1 5 (ZA l) hzl Q1 (by omega) hz (by omega)) ?_
 rintro _ _ ⟨rfl,rfl⟩;have hS:sum10 l<=65535:=by unfold sum10 xV;omega
 have hSd:xV (ZC (wsum (ZA l)))=sum10 l:=rfl;rw [hSd];have hfin:Xo l=((ZA l).set 10 (sum10 l / 256)).set 11 (sum10 l%256):=rfl;have hfl:(Xo l).length=l.length:=by rw [hfin,List.length_set,List.length_set,hzl]
 generalize sum10 l=S at hS hfin ⊢;refine zB ?_;have e1:IntKind.u8.wrap (Wa .u16 (S:Int) 8)=((S / 256:Nat):Int):=by
  have:Wa .u16 (S:Int) 8=((S / 256:Nat):Int):=by
   unfold Wa;show Int.fdiv (S:Int) (2^8)=_;rw [Int.fdiv_eq_ediv_of_nonneg _ (by decide)];simp
  rw [this];exact zEz (by omega)
 have e2:IntKind.u8.wrap (S:Int)=((S%256:Nat):Int):=by show (S:Int)%256=_;omega
 rw [e1,e2];have hc1:=Q1.len;refine cmW (zR inferInstance inferInstance rfl rfl (by omega) (by omega)) ?_
 refine zB ?_;have Q2:=Q1.lay1 (k:=10) (y:=S / 256) (by omega)
 have y1:lay c1 (off+10+(0:Int).toNat*1) (yG (.int .u8 ((S / 256:Nat):Int)))=lay c1 (off+10) [.int .u8 ((S / 256:Nat):Int)]:=rfl;have hl2:(lay c1 (off+10) [.int .u8 ((S / 256:Nat):Int)]).length=c.length:=by rw [zG];exact hl1
 rw [y1];generalize lay c1 (off+10) [.int .u8 ((S / 256:Nat):Int)]=c2 at Q2 hl2 ⊢;refine cmW (zR inferInstance inferInstance rfl rfl (by omega) (by omega)) ?_
 refine zB ?_;have Q3:=Q2.lay1 (k:=11) (y:=S%256) (by rw [List.length_set];omega)
 rw [<-hfin] at Q3;have y2:lay c2 (off+10+(1:Int).toNat*1) (yG (.int .u8 ((S%256:Nat):Int)))=lay c2 (off+11) [.int .u8 ((S%256:Nat):Int)]:=rfl;rw [y2,<-hfl];refine into (Into.box (es:=(Xo l).map u8e) (off:=off) (cap:=c') (sz:=1) .here (zGo _) (by rw [List.length_map];omega) (by rw [zG,hl2];exact q3) Q3.back) ?_
 refine xE (some ⟨bb,off,none⟩) ?_;refine ret ?_;exact ends ⟨_,_,rfl,rfl⟩
end Go.Proofs.YtjcbjclhagobiaaGreat
end
section
namespace Go.Proofs.YtjcbjclhagobiaaGreat
set_option maxHeartbeats 1600000
open Go Go.KL Go.KM
variable {E:Env} {X:Xs}
set_option maxRecDepth 100000
def exA:Ad:=⟨720575944674246656,0,false,by decide,by decide⟩
def zI7:H4:=⟨0,0,9,0,exA,exA⟩
def zCk:List Nat:=[69,0,0,20,0,0,0,0,9,0,157,233,10,0,0,1,10,0,0,1]
theorem Cel.layN {cs:List Value} {off:Nat} {o:List Nat} (h:Cel cs off o) {k:Nat} {m:List Nat} (hk:k+m.length<=o.length):Cel (lay cs (off+k) (m.map u8e).flatten) off (o.take k++m++o.drop (k+m.length)):=by
 have hf:(m.map u8e).flatten.length=m.length:=by rw [zAk,List.length_map]
 have hl:=h.len;have hb:off+k+(m.map u8e).flatten.length<=cs.length:=by rw [hf];omega
 refine ⟨fun j x hj=>?_,by rw [zG];simp;omega⟩
 have htk:(o.take k).length=k:=by rw [List.length_take];omega
 rcases Nat.lt_or_ge j k with h1|h1
 ·rw [Xr hb (by omega)]
  rw [List.append_assoc,List.getElem?_append_left (by omega),List.getElem?_take_of_lt h1] at hj
  exact h.at_ j x hj
 ·rcases Nat.lt_or_ge j (k+m.length) with h2|h2
  ·rw [zFD hb (by omega) (by rw [hf];omega),show off+j-(off+k)=j-k by omega,zAk,List.getElem?_map]
   rw [List.append_assoc,List.getElem?_append_right (by omega),htk,List.getElem?_append_left (by omega)] at hj
   rw [hj];rfl
  ·rw [Xr hb (by rw [hf];omega)]
   rw [List.append_assoc,List.getElem?_append_right (by omega),htk,List.getElem?_append_right (by omega),List.getElem?_drop,show k+m.length+(j-k-m.length)=j by omega] at hj
   exact h.at_ j x hj
theorem zHG:Does PR E X 54 [h4V zI7,.slice none 0 0] [] (fun v t=>∃ b c,v=.slice b 20 c/\t=[rsl b c 1 (zCk.map u8e)]):=by
 refine Does.of 67 inferInstance rfl (by decide) rfl ?_
 refine zB ?_;refine zU fun b2=>?_;refine zB ?_;rw [show ((min ((0:Nat):Int) 2028).toNat-0)=0 from rfl,show (20+((0:Nat):Int))=20 from rfl];refine makeSlice fun b5=>?_;rw [show Int.toNat 20=20 from rfl];refine Xb (some ⟨b5,0,none⟩) (cap:=20) (by omega) fun bb off c hb q1 q2 q3 q4=>?_
 cases hb
 have Q0:Cel c 0 (List.replicate 20 0):=Cel.of (cap:=20) q4 q2 q3;have hl0:20<=c.length:=by omega
 clear q1 q2 q3 q4;refine zB ?_;refine cmW (zR inferInstance inferInstance rfl rfl (by omega) (by omega)) ?_
 refine zB ?_;have Q1:=Q0.lay1 (k:=0) (y:=69) (by decide)
 have y1:lay c (0+(0:Int).toNat*1) (yG (.int .u8 69))=lay c (0+0) [.int .u8 ((69:Nat):Int)]:=rfl;rw [y1];have hl1:20<=(lay c (0+0) [.int .u8 ((69:Nat):Int)]).length:=by rw [zG];exact hl0
 generalize lay c (0+0) [.int .u8 ((69:Nat):Int)]=c1 at Q1 hl1 ⊢;clear Q0 hl0 y1;have e2:slB (some ⟨b5,0,none⟩) 20 2 1=some ⟨b5,0+2,none⟩:=rfl;rw [show IntKind.u16.wrap (20+((0:Nat):Int))=((20:Nat):Int) from rfl,show Int.toNat 2=2 from rfl];refine call (JS (slB (some ⟨b5,0,none⟩) 20 2 1) b5 (0+2) (20-2) (20-2) e2 c1 5 20 (by decide) (by decide) (by omega)) ?_
 rintro _ _ ⟨rfl,rfl⟩;have Q2:=(Q1.lay1 (k:=2) (y:=20 / 256) (by decide)).lay1 (k:=3) (y:=20%256) (by decide)
 have hl2:20<=(lay (lay c1 (0+2) [.int .u8 ((20 / 256:Nat):Int)]) (0+2+1) [.int .u8 ((20%256:Nat):Int)]).length:=by rw [zG,zG];exact hl1
 have y2:lay (lay c1 (0+2) [.int .u8 ((20 / 256:Nat):Int)]) (0+3) [.int .u8 ((20%256:Nat):Int)]=lay (lay c1 (0+2) [.int .u8 ((20 / 256:Nat):Int)]) (0+2+1) [.int .u8 ((20%256:Nat):Int)]:=rfl;rw [y2] at Q2;generalize lay (lay c1 (0+2) [.int .u8 ((20 / 256:Nat):Int)]) (0+2+1) [.int .u8 ((20%256:Nat):Int)]=c2 at Q2 hl2 ⊢;clear Q1 hl1 y2 e2;refine zB ?_;refine draw [0,0,0,4,12,0,32,96,29,285,1023,2047] [9,11] [3,4,6,7,8,10] [0,1,2,3,4,5,6,7,8,9,10,11] ?_;refine zC ?_;refine DA.cmr (by exact zO) rfl rfl rfl rfl (zR inferInstance inferInstance rfl rfl (by omega) (by omega)) ?_
 refine ddA ?_;have Q3:=Q2.lay1 (k:=8) (y:=9) (by decide)
 have y3:lay c2 (0+(8:Int).toNat*1) (yG (.int .u8 (IntKind.u8.wrap (zI7.ttl:Int))))=lay c2 (0+8) [.int .u8 ((9:Nat):Int)]:=rfl;rw [y3];have hl3:20<=(lay c2 (0+8) [.int .u8 ((9:Nat):Int)]).length:=by rw [zG];exact hl2
 generalize lay c2 (0+8) [.int .u8 ((9:Nat):Int)]=c3 at Q3 hl3 ⊢;clear Q2 hl2 y3;refine DA.cmr (by exact zO) rfl rfl rfl rfl (zR inferInstance inferInstance rfl rfl (by omega) (by omega)) ?_
 refine ddA ?_;have Q4:=Q3.lay1 (k:=9) (y:=0) (by decide)
 have y4:lay c3 (0+(9:Int).toNat*1) (yG (.int .u8 (IntKind.u8.wrap (zI7.proto:Int))))=lay c3 (0+9) [.int .u8 ((0:Nat):Int)]:=rfl;rw [y4];have hl4:20<=(lay c3 (0+9) [.int .u8 ((0:Nat):Int)]).length:=by rw [zG];exact hl3
 generalize lay c3 (0+9) [.int .u8 ((0:Nat):Int)]=c4 at Q4 hl4 ⊢;clear Q3 hl3 y4;refine buildSlice fun b40=>?_;refine zB ?_;have hbs:Ze (topN (min (width false) 64) exA.hi) (topN (width false-64) exA.lo) false=[10,0,0,1]:=by decide
 refine Wc ?_;refine zB ?_;refine yes ?_ rfl rfl;refine zB ?_;refine alloc fun b71=>?_;refine zB ?_;refine yes ?_ rfl rfl;refine zB ?_;refine draw [0,0,2,6,15,0,32,127] [6,7] [4,5] [0,1,2,3,4,5,6,7] ?_;refine zC ?_;refine call (Xc exA.hi exA.lo false exA.h1 exA.h2) ?_;rintro _ _ ⟨b81,rfl,rfl⟩;try refine zJ ?_
 refine ddA ?_;rw [hbs];refine zJi (bb:=b5) (off:=0+12) (n:=8) (cap:=8) (n2:=4) (es2:=[10,0,0,1].map u8e) ?_ ?hr1
 case hr1=>omega
 have Q5:=Q4.layN (k:=12) (m:=[10,0,0,1]) (by decide)
 have z1:lay c4 (0+12) (List.take (min 4 8) (List.map u8e [10,0,0,1])).flatten=lay c4 (0+12) (List.map u8e [10,0,0,1]).flatten:=rfl;rw [z1];have hl5:20<=(lay c4 (0+12) (List.map u8e [10,0,0,1]).flatten).length:=by rw [zG];exact hl4
 generalize lay c4 (0+12) (List.map u8e [10,0,0,1]).flatten=c5 at Q5 hl5 ⊢;clear Q4 hl4 z1;refine ddA ?_;refine again ?_;refine zB ?_;refine yes ?_ rfl rfl;refine zB ?_;refine alloc fun b72=>?_;refine zB ?_;refine yes ?_ rfl rfl;refine zB ?_;refine draw [0,0,2,6,15,0,32,127] [6,7] [4,5] [0,1,2,3,4,5,6,7] ?_;refine zC ?_;refine call (Xc exA.hi exA.lo false exA.h1 exA.h2) ?_;rintro _ _ ⟨b82,rfl,rfl⟩;try refine zJ ?_
 refine ddA ?_;rw [hbs];refine zJi (bb:=b5) (off:=0+16) (n:=4) (cap:=4) (n2:=4) (es2:=[10,0,0,1].map u8e) ?_ ?hr2
 case hr2=>omega
 have Q6:=Q5.layN (k:=16) (m:=[10,0,0,1]) (by decide)
 have z2:lay c5 (0+16) (List.take (min 4 4) (List.map u8e [10,0,0,1])).flatten=lay c5 (0+16) (List.map u8e [10,0,0,1]).flatten:=rfl;rw [z2];have hl6:20<=(lay c5 (0+16) (List.map u8e [10,0,0,1]).flatten).length:=by rw [zG];exact hl5
 generalize lay c5 (0+16) (List.map u8e [10,0,0,1]).flatten=c6 at Q6 hl6 ⊢;clear Q5 hl5 z2;refine ddA ?_;refine again ?_;refine zB ?_;refine no ?_ rfl rfl;replace Q6:Cel c6 0 [69,0,0,20,0,0,0,0,9,0,0,0,10,0,0,1,10,0,0,1]:=Q6
 have hsm:xV (ZC (wsum [69,0,0,20,0,0,0,0,9,0,0,0,10,0,0,1,10,0,0,1]))=40425:=by decide
 have e10:slB (some ⟨b5,0,none⟩) 20 10 1=some ⟨b5,0+10,none⟩:=rfl;refine zB ?_;refine draw [0,1,0,4,15] [3,4] [1] [0,1,2,3,4] ?_;refine zC ?_;refine call (zCL b5 0 20 20 c6 5 [69,0,0,20,0,0,0,0,9,0,0,0,10,0,0,1,10,0,0,1] rfl Q6 (by decide) (by decide) (by decide)) ?_
 rintro _ _ ⟨rfl,rfl⟩;try refine zJ ?_
 refine ddA ?_;rw [hsm];refine call (JS (slB (some ⟨b5,0,none⟩) 20 10 1) b5 (0+10) (20-10) (20-10) e10 c6 5 40425 (by decide) (by decide) (by omega)) ?_
 rintro _ _ ⟨rfl,rfl⟩;try refine zJ ?_
 refine ddA ?_;have Q7:=(Q6.lay1 (k:=10) (y:=40425 / 256) (by decide)).lay1 (k:=11) (y:=40425%256) (by decide)
 replace Q7:Cel (lay (lay c6 (0+10) [.int .u8 ((40425 / 256:Nat):Int)]) (0+10+1) [.int .u8 ((40425%256:Nat):Int)]) 0 zCk:=Q7
 have l7:20<=(lay (lay c6 (0+10) [.int .u8 ((40425 / 256:Nat):Int)]) (0+10+1) [.int .u8 ((40425%256:Nat):Int)]).length:=by rw [zG,zG];exact hl6
 generalize lay (lay c6 (0+10) [.int .u8 ((40425 / 256:Nat):Int)]) (0+10+1) [.int .u8 ((40425%256:Nat):Int)]=c7 at Q7 l7 ⊢;refine WL.into (Into.box (es:=zCk.map u8e) (off:=0) (cap:=20) (sz:=1) .here (zGo _) (by decide) (by omega) Q7.back) ?_
 refine WL.into (Into.nilR (sz:=1)) ?_;refine zA8 (base2:=none) (cap2:=0) (n2:=0) (es2:=[]) fun b9 c9=>?_;refine zB ?_;rw [List.append_nil];refine xE b9 ?_;refine ret ?_;exact ends ⟨b9,c9,rfl,rfl⟩
end Go.Proofs.YtjcbjclhagobiaaGreat
end
