/- Texts joined by a program of ours: Df Dg Dh Di Ta Tb Tc Td. -/
import Derived.Test.YtjcbjclhagobiaaGreatJag
set_option linter.all false
section
namespace Go.Proofs.YtjcbjclhagobiaaGreat
open Go Go.KL Go.KM
variable {E:Env} {X:Xs}
set_option maxRecDepth 100000
theorem zKk (t:Nat) (T:Tr) (p:Pf) (hA:T.A≠[]) (hp:p.sane=true->∃ l,T.path (vS p.a.v6) (p.a.bits p.n.toNat)=some l):Does PR E X 230 [pt t,p.v] [yU t T] (fun v u=>v=.tuple #[.int .i64 ((T.get p).getD 0),.bool (T.get p).isSome]/\u=[yU t T]):=by
 have ht:true=true:=rfl;refine Does.of 31 inferInstance rfl (by decide) rfl ?_
 refine zB ?_;refine zU fun b3=>?_;refine zB ?_;refine call (XG t T p hA hp) ?_;rintro _ _ ⟨rfl,rfl⟩;refine onA ?_;by_cases hf:T.find p = -1
 ·have c1:decide (T.find p = -1)=true:=decide_eq_true hf;have hg:T.get p=none:=by unfold Tr.get;rw [if_pos hf]
  rw [hg];refine zB ?_;refine yes ?_;refine zB ?_;refine ret ?_;exact ends ⟨rfl,rfl⟩
 ·obtain ⟨m,hm,x,hx⟩:=zBa hf;have c1:decide (T.find p = -1)=false:=decide_eq_false hf;have hml:m<T.A.length:=(List.getElem?_eq_some_iff.1 hx).1;have hg:T.get p=if x.ends then some x.v else none:=by unfold Tr.get;rw [if_neg hf,hm];simp only [Int.toNat_natCast];rw [hx]
  rw [hm] at c1 ⊢;refine YG (yM t T) fun q=>?_;refine zB ?_;refine zH (fun h=>?_) (fun h=>?_)
  ·have he:x.ends=false:=by simpa using h
   rw [hg,he];refine zB ?_;refine zE (yM t T) q ?_;refine ret ?_;exact ends ⟨rfl,rfl⟩
  ·have he:x.ends=true:=by simpa using h
   rw [hg,he];refine zB ?_;refine zE (yM t T) q ?_;refine ret ?_;exact ends ⟨rfl,rfl⟩
theorem zLQ (t:Nat) (T U:Tr) (p:Pf) (v:Int) (hs:p.sane=true) (hA:T.A≠[]) (hok:T.Ok 200) (hu:T.put p v=some U) (hn:0<=T.n/\T.n<=100000000):Does PR E X 232 [pt t,p.v,.int .i64 v] [yU t T] (fun w u=>w=.int .i64 0/\u=[yU t U]):=by
 have ht:true=true:=rfl;have hnt:(!true)=false:=rfl;have hss:=xY hs;have hw:=yD p.a.v6;obtain ⟨⟨T2,m2⟩,hg,hmk⟩:∃ q,T.grow (vS p.a.v6) (p.a.bits p.n.toNat)=some q/\q.1.mark q.2 v=some U:=by
  unfold Tr.put at hu;cases e:T.grow (vS p.a.v6) (p.a.bits p.n.toNat) with
  | none=>rw [e] at hu;cases hu
  | some q=>rw [e] at hu;exact ⟨q,rfl,hu⟩
 refine Does.of 85 inferInstance rfl (by decide) rfl ?_
 refine zB ?_;refine zU fun b4=>?_;refine zB ?_;refine call (YJ t T hA) ?_;rintro _ _ ⟨rfl,rfl⟩;refine onA ?_;refine call (yA p) ?_;rintro _ _ ⟨rfl,rfl⟩;refine onA ?_;have c1:(!p.sane)=false:=by rw [hs];rfl
 refine no ?_;refine zB ?_;refine call (zDQ _) ?_;rintro _ _ ⟨rfl,rfl⟩;refine onA ?_;refine loop (ι:=Nat×Tr×Nat) (fun i=>p.n.toNat-i.1) (fun i=>i.1<=p.n.toNat/\i.2.1.Ok (200-i.1)/\i.2.1.n=T.n/\i.2.1.grow i.2.2 ((p.a.bits p.n.toNat).drop i.1)=some (T2,m2)) (fun i=>[(0,pt t),(2,.int .i64 v),(4,.pointer (some ⟨b4,0,none⟩)),(7,.int .i64 (i.2.2:Int)),(25,.int .i64 p.n),(26,.int .i64 (i.1:Int))]) (fun i=>[box b4 (yG p.v) 52,yU t i.2.1]) (0,T,vS p.a.v6) (by simp;exact ⟨hok,hg⟩) ?_
 rintro ⟨i,T1,m⟩ ⟨hi,hok1,hn1,hg1⟩ ih;(try dsimp only at hi hok1 hn1 hg1 ih ⊢);refine zB ?_;refine zH (fun h=>?_) (fun h=>?_)
 ·have hin:(i:Int)<p.n:=of_decide_eq_true h;have hbd:(p.a.bits p.n.toNat).drop i=p.a.dig i::(p.a.bits p.n.toNat).drop (i+1):=by
   rw [List.drop_eq_getElem_cons (by rw [yE];omega)]
   congr 1;have:=QN (a:=p.a) (n:=p.n.toNat) (i:=i) (by omega)
   rw [List.getElem?_eq_some_iff] at this;exact this.2
  rw [hbd] at hg1;unfold Tr.grow at hg1;cases hx:T1.A[m]? with
  | none=>rw [hx] at hg1;cases hg1
  | some x=>
   rw [hx] at hg1;simp only at hg1;have hml:m<T1.A.length:=(List.getElem?_eq_some_iff.1 hx).1;have hbit:p.a.bit (i:Int)=if p.a.dig i then 1 else 0:=by
    unfold Ad.bit;rw [show isD p.a (i:Int)=true by unfold isD;simp;omega,if_pos rfl,Int.toNat_natCast]
   refine zB ?_;refine call (zA3 p.a _) ?_;rintro _ _ ⟨rfl,rfl⟩;refine onA ?_;cases hd:p.a.dig i with
   | false=>
    have hz:((p.a.bit (i:Int):Nat):Int)=((0:Nat):Int):=by rw [hbit,hd];rfl
    rw [hd] at hg1;refine YG (yM t T1) fun q=>?_;refine zB ?_;refine zH (fun h=>?_) (fun h=>?_)
    ·have hk:x.kid false = -1:=of_decide_eq_true h;rw [if_pos hk] at hg1;refine zE (yM t T1) q ?_;have hok2:=Tr.Ok.take (T:=T1) (k:=200-(i+1)) (hok1.less (by omega)) (m:Int)
     refine zB ?_;refine call (zCC t T1 m hok1.fr (by have:=hok1.A;omega) hok1.F) ?_
     rintro _ _ ⟨rfl,rfl⟩;refine onA ?_;have hn2:(T1.take (m:Int)).1.n=T1.n:=by unfold Tr.take;split <;> rfl
     generalize (T1.take (m:Int)).2=m3 at hg1;generalize (T1.take (m:Int)).1=T3 at hg1 hok2 hn2;cases hy:T3.A[m]? with
     | none=>rw [hy] at hg1;cases hg1
     | some y=>
      rw [hy] at hg1;simp only at hg1;have hml3:m<T3.A.length:=(List.getElem?_eq_some_iff.1 hy).1;refine YG (yM t T3) fun q=>?_;refine zB ?_;have e1:(List.map Nd.c T3.A).set ((m:Int)).toNat [.int .i64 (m3:Int),.int .i64 y.k1,.int .i64 y.up,.bool y.ends,.int .i64 y.v]=List.map Nd.c (T3.A.set m (y.setKid false (m3:Int))):=by rw [List.map_set];rfl
      have e3:T3.A.length=(T3.A.set m (y.setKid false (m3:Int))).length:=by simp
      rw [e1,e3];refine zE (yM t ⟨T3.A.set m (y.setKid false (m3:Int)),T3.fr,T3.n⟩) q ?_;exact next (ih (i+1,⟨T3.A.set m (y.setKid false (m3:Int)),T3.fr,T3.n⟩,m3) (by simp only;exact ⟨by omega,hok2.set _ _,hn2.trans hn1,hg1⟩) (by simp only;omega))
    ·have hk:¬ x.kid false = -1:=of_decide_eq_false h;rw [if_neg hk] at hg1;split at hg1
     ·rename_i hk0
      refine zE (yM t T1) q ?_;have hk2:x.k0=(((x.kid false).toNat:Nat):Int):=(Int.toNat_of_nonneg hk0).symm;refine zB ?_;rw [hk2];exact next (ih (i+1,T1,(x.kid false).toNat) (by simp only;refine ⟨by omega,hok1.less (by omega),hn1,hg1⟩) (by simp only;omega))
     ·cases hg1
   | true=>
    have hz:((p.a.bit (i:Int):Nat):Int)=((1:Nat):Int):=by rw [hbit,hd];rfl
    rw [hd] at hg1;refine YG (yM t T1) fun q=>?_;refine zB ?_;refine zH (fun h=>?_) (fun h=>?_)
    ·have hk:x.kid true = -1:=of_decide_eq_true h;rw [if_pos hk] at hg1;refine zE (yM t T1) q ?_;have hok2:=Tr.Ok.take (T:=T1) (k:=200-(i+1)) (hok1.less (by omega)) (m:Int)
     refine zB ?_;refine call (zCC t T1 m hok1.fr (by have:=hok1.A;omega) hok1.F) ?_
     rintro _ _ ⟨rfl,rfl⟩;refine onA ?_;have hn2:(T1.take (m:Int)).1.n=T1.n:=by unfold Tr.take;split <;> rfl
     generalize (T1.take (m:Int)).2=m3 at hg1;generalize (T1.take (m:Int)).1=T3 at hg1 hok2 hn2;cases hy:T3.A[m]? with
     | none=>rw [hy] at hg1;cases hg1
     | some y=>
      rw [hy] at hg1;simp only at hg1;have hml3:m<T3.A.length:=(List.getElem?_eq_some_iff.1 hy).1;refine YG (yM t T3) fun q=>?_;refine zB ?_;have e1:(List.map Nd.c T3.A).set ((m:Int)).toNat [.int .i64 y.k0,.int .i64 (m3:Int),.int .i64 y.up,.bool y.ends,.int .i64 y.v]=List.map Nd.c (T3.A.set m (y.setKid true (m3:Int))):=by rw [List.map_set];rfl
      have e3:T3.A.length=(T3.A.set m (y.setKid true (m3:Int))).length:=by simp
      rw [e1,e3];refine zE (yM t ⟨T3.A.set m (y.setKid true (m3:Int)),T3.fr,T3.n⟩) q ?_;exact next (ih (i+1,⟨T3.A.set m (y.setKid true (m3:Int)),T3.fr,T3.n⟩,m3) (by simp only;exact ⟨by omega,hok2.set _ _,hn2.trans hn1,hg1⟩) (by simp only;omega))
    ·have hk:¬ x.kid true = -1:=of_decide_eq_false h;rw [if_neg hk] at hg1;split at hg1
     ·rename_i hk0
      refine zE (yM t T1) q ?_;have hk2:x.k1=(((x.kid true).toNat:Nat):Int):=(Int.toNat_of_nonneg hk0).symm;refine zB ?_;rw [hk2];exact next (ih (i+1,T1,(x.kid true).toNat) (by simp only;refine ⟨by omega,hok1.less (by omega),hn1,hg1⟩) (by simp only;omega))
     ·cases hg1
 ·have hin:¬ (i:Int)<p.n:=of_decide_eq_false h;have hie:i=p.n.toNat:=by omega
  have hbd:(p.a.bits p.n.toNat).drop i=[]:=by rw [List.drop_eq_nil_iff,yE];omega
  rw [hbd] at hg1;unfold Tr.grow at hg1;injection hg1 with hg1
  injection hg1 with hT hm
  subst hT;subst hm;unfold Tr.mark at hmk;cases hx:T1.A[m]? with
  | none=>rw [hx] at hmk;cases hmk
  | some x=>
   rw [hx] at hmk;simp only [Option.some.injEq] at hmk;subst hmk;have hml:m<T1.A.length:=(List.getElem?_eq_some_iff.1 hx).1;refine zW (yM t T1) fun q=>?_;refine zB ?_;refine zH (fun h=>?_) (fun h=>?_)
   ·have he:x.ends=false:=by simpa using h
    refine zB ?_;have e1:(List.map Nd.c T1.A).set ((m:Int)).toNat [.int .i64 x.k0,.int .i64 x.k1,.int .i64 x.up,.bool true,.int .i64 x.v]=List.map Nd.c (T1.A.set m { x with ends:=true }):=by rw [List.map_set];rfl
    have hx2:(T1.A.set m { x with ends:=true })[m]?=some { x with ends:=true }:=by rw [List.getElem?_set_self hml]
    rw [e1];refine zB ?_;have e2:(List.map Nd.c (T1.A.set m { x with ends:=true })).set ((m:Int)).toNat [.int .i64 x.k0,.int .i64 x.k1,.int .i64 x.up,.bool true,.int .i64 v]=List.map Nd.c (T1.A.set m { x with ends:=true,v:=v }):=by
     rw [List.map_set,Int.toNat_natCast,List.set_set,List.map_set]
    have e3:T1.A.length=(T1.A.set m { x with ends:=true,v:=v }).length:=by simp
    rw [e2,e3];refine zE (yM t ⟨T1.A.set m { x with ends:=true,v:=v },T1.fr,T1.n+1⟩) q ?_
    refine ret ?_;exact ends ⟨rfl,by rw [he]⟩
   ·have he:x.ends=true:=by simpa using h
    refine zB ?_;have e1:(List.map Nd.c T1.A).set ((m:Int)).toNat [.int .i64 x.k0,.int .i64 x.k1,.int .i64 x.up,.bool true,.int .i64 x.v]=List.map Nd.c (T1.A.set m { x with ends:=true }):=by rw [List.map_set];rfl
    have hx2:(T1.A.set m { x with ends:=true })[m]?=some { x with ends:=true }:=by rw [List.getElem?_set_self hml]
    rw [e1];refine zB ?_;have e2:(List.map Nd.c (T1.A.set m { x with ends:=true })).set ((m:Int)).toNat [.int .i64 x.k0,.int .i64 x.k1,.int .i64 x.up,.bool true,.int .i64 v]=List.map Nd.c (T1.A.set m { x with ends:=true,v:=v }):=by
     rw [List.map_set,Int.toNat_natCast,List.set_set,List.map_set]
    have e3:T1.A.length=(T1.A.set m { x with ends:=true,v:=v }).length:=by simp
    rw [e2,e3];refine zE (yM t ⟨T1.A.set m { x with ends:=true,v:=v },T1.fr,T1.n⟩) q ?_
    refine ret ?_;exact ends ⟨rfl,by rw [he]⟩
end Go.Proofs.YtjcbjclhagobiaaGreat
end
section
namespace Go.Proofs.YtjcbjclhagobiaaGreat
set_option maxHeartbeats 1600000
open Go Go.KL Go.KM
variable {E:Env} {X:Xs}
set_option maxRecDepth 100000
abbrev prC (x:Pf×Int):List Value:=[u64 x.1.a.hi,u64 x.1.a.lo,.bool x.1.a.v6,.int .i64 x.1.n,.int .i64 x.2]
def Tr.abN (T:Tr) (p:Pf) (l:List Nat) (j:Nat):List (Pf×Int):=match l[j]? with
 | some m=>match T.A[m]? with
  | some x=>if x.ends then [(ofP p.a j,x.v)] else []
  | none=>[]
 | none=>[]
def Tr.abs (T:Tr) (p:Pf) (l:List Nat) (i:Nat):List (Pf×Int):=(List.range i).flatMap (T.abN p l)
theorem zBT {T:Tr} {p:Pf} {l:List Nat} {i:Nat}:T.abs p l (i+1)=T.abs p l i++T.abN p l i:=by
 unfold Tr.abs;rw [List.range_succ,List.flatMap_append];simp
theorem zKQ {T:Tr} {p:Pf} {l:List Nat} {i:Nat}:(T.abs p l i).length<=i:=by
 induction i with
 | zero=>simp [Tr.abs]
 | succ i ih=>
  rw [zBT,List.length_append];have:(T.abN p l i).length<=1:=by unfold Tr.abN;split <;> (try split) <;> (try split) <;> simp
  omega
def Tr.above (T:Tr) (p:Pf):List (Pf×Int):=match T.path (vS p.a.v6) (p.a.bits p.n.toNat) with
 | some l=>T.abs p l l.length
 | none=>[]
abbrev abA (b2 b5 b3 t:Nat) (p:Pf) (out:List (Pf×Int)) (q:Option Addr×Nat):List HP:=[box b2 [pt t] 210,box b3 (yG p.v) 52,box b5 [.slice q.1 out.length q.2] 209,osl q.1 q.2 214 5 (out.map prC)]
abbrev abS (b2 b5 b3 t:Nat) (p:Pf) (out:List (Pf×Int)):HP:=HP.ex (abA b2 b5 b3 t p out)
theorem zEE (t:Nat) (T:Tr) (b2 b5 b3:Nat) (p:Pf) (l:List Nat) (i m:Nat) (hm:l[i]?=some m) (hi:i<=1000) {x:Nd} (hx:T.A[m]?=some x):Does PR E X 266 [.int .i64 (m:Int),.int .i64 (i:Int),.pointer (some ⟨b2,0,none⟩),.pointer (some ⟨b5,0,none⟩),.pointer (some ⟨b3,0,none⟩)] [yU t T,abS b2 b5 b3 t p (T.abs p l i)] (fun v u=>v=.bool true/\u=[yU t T,abS b2 b5 b3 t p (T.abs p l (i+1))]):=by
 have hml:m<T.A.length:=(List.getElem?_eq_some_iff.1 hx).1;have hlen:=zKQ (T:=T) (p:=p) (l:=l) (i:=i);have hs:T.abN p l i=if x.ends then [(ofP p.a i,x.v)] else []:=by unfold Tr.abN;rw [hm];simp only;rw [hx]
 rw [zBT,hs];generalize T.abs p l i=out at hlen;refine Does.of 28 inferInstance rfl (by decide) rfl ?_
 refine zW (abA b2 b5 b3 t p out) fun q=>?_;refine zW (yM t T) fun w=>?_;refine zB ?_;refine alloc fun b8=>?_;refine zB ?_;refine zH (fun h=>?_) (fun h=>?_)
 ·have h:x.ends=true:=h;rw [h];refine zB ?_;refine draw [0,0,2,0,14,0,32,126,254,511,1023] [4,8,9,10] [0,2,6] [0,1,2,3,5,6,4,7,8,9,10] ?_;refine zC ?_;refine call (vU p.a _) ?_;rintro _ _ ⟨rfl,rfl⟩;refine onA ?_;refine yF fun b26=>?_;refine zC ?_;refine xP fun b1 c1=>?_;refine ddA ?_;have e1:∀ u:List Value,u=prC (ofP p.a i,x.v)->List.map prC out++[u]=List.map prC (out++[(ofP p.a i,x.v)]):=fun u hu=>by rw [List.map_append,hu];rfl
  have e3:out.length+1=(out++[(ofP p.a (i:Int),x.v)]).length:=by simp
  rw [if_pos trivial,e3,e1]
  ·refine zE (abA b2 b5 b3 t p _) (b1,c1) ?_;refine zE (yM t T) w ?_;refine ret ?_;exact ends ⟨rfl,rfl⟩
  ·rfl
 ·have h:x.ends=false:=h;rw [h,if_neg (by decide),List.append_nil]
  refine zB ?_;refine zE (yM t T) w ?_;refine zE (abA b2 b5 b3 t p _) q ?_;refine ret ?_;exact ends ⟨rfl,rfl⟩
theorem zAg (t:Nat) (T:Tr) (p:Pf) (hs:p.sane=true) (hA:T.A≠[]) (hp:∃ l,T.path (vS p.a.v6) (p.a.bits p.n.toNat)=some l):Does PR E X 192 [pt t,p.v] [yU t T] (fun v u=>∃ base cap,v=.slice base (T.above p).length cap/\u=[yU t T,osl base cap 214 5 ((T.above p).map prC)]):=by
 have ht:true=true:=rfl;have hnt:(!true)=false:=rfl;obtain ⟨l,hl⟩:=hp;have hn:=xY hs;have hw:=yD p.a.v6;have ha:T.above p=T.abs p l l.length:=by unfold Tr.above;rw [hl]
 obtain ⟨k1,k2⟩:=Zt hl;rw [yE] at k1;rw [ha];refine Does.of 19 inferInstance rfl (by decide) rfl ?_
 refine zB ?_;refine zU fun b2=>?_;refine zB ?_;refine zU fun b3=>?_;refine zB ?_;refine call (YJ t T hA) ?_;rintro _ _ ⟨rfl,rfl⟩;refine onA ?_;refine call (yA p) ?_;rintro _ _ ⟨rfl,rfl⟩;refine onA ?_;have c1:(!p.sane)=false:=by rw [hs];rfl
 refine no ?_;refine zB ?_;refine alloc fun b5=>?_;refine zB ?_;refine cinto (Into.nilO (T:=214) (sz:=5)) ?_;refine VV (abA b2 b5 b3 t p []) (none,0) ?_;refine call (zCd t T p _ (fun i=>abS b2 b5 b3 t p (T.abs p l i)) l hn.1 hn.2 hl (fun i m hm=>?_)) ?_
 ·obtain ⟨x,hx,_⟩:=k2 i m hm;have hil:=(List.getElem?_eq_some_iff.1 hm).1;exact Does.clo (zEE t T b2 b5 b3 p l i m hm (by omega) hx) rfl
 rintro _ _ ⟨rfl,rfl⟩;refine YG (abA b2 b5 b3 t p (T.abs p l l.length)) fun q=>?_;refine zB ?_;refine ret ?_;exact ends ⟨q.1,q.2,rfl,rfl⟩
theorem zK6 (t:Nat) (T:Tr) (hA:T.A≠[]):Does PR E X 113 [pt t] [yU t T] (fun v u=>v=.int .i64 T.n/\u=[yU t T]):=by
 have hnt:(!true)=false:=rfl;refine Does.of 10 inferInstance rfl (by decide) rfl ?_
 refine zB ?_;refine call (YJ t T hA) ?_;rintro _ _ ⟨rfl,rfl⟩;refine onA ?_;refine no ?_;refine zB ?_;refine YG (yM t T) fun q=>?_;refine zB ?_;refine zE (yM t T) q ?_;refine ret ?_;exact ends ⟨rfl,rfl⟩
theorem zIn {a:Ad} {c d:Nat} (h:d<=c):(a.cut c).cut d=a.cut d:=by
 unfold Ad.cut;simp only [zLX];refine Ad.ext ?_ ?_ rfl
 ·simp only;congr 1;omega
 ·simp only;congr 1;omega
theorem ZO {a:Ad} {n:Int}:(ofP a n).sane=true:=by
 unfold Pf.sane;refine decide_eq_true ?_;unfold ofP;have e:yT ((yT n a.v6:Nat):Int) (a.cut (yT n a.v6)).v6=yT n a.v6:=by
  show yT ((yT n a.v6:Nat):Int) a.v6=_;unfold yT;omega
 simp only [e,zIn (Nat.le_refl _)]
def Tr.longest (T:Tr) (a:Ad):Option (Pf×Int):=(T.above (ofP a (width a.v6))).getLast?
def prZ:Pf×Int:=(Pf.zero,0)
theorem zIF {T:Tr} {p:Pf}:(T.above p).length<=p.n.toNat+1:=by
 unfold Tr.above;split
 ·rename_i l hl
  have:=(Zt hl).1
  rw [yE] at this;have:=zKQ (T:=T) (p:=p) (l:=l) (i:=l.length)
  omega
 ·simp
theorem zDO (t:Nat) (T:Tr) (a:Ad) (hA:T.A≠[]) (hp:∃ l,T.path (vS a.v6) ((a.cut (width a.v6)).bits (width a.v6))=some l):Does PR E X 253 [pt t,a.v] [yU t T] (fun v u=>v=.tuple #[.agg (prC ((T.longest a).getD prZ)).toArray,.bool (T.longest a).isSome]/\u=[yU t T]):=by
 have hw:=yD a.v6;have hc:yT (width a.v6:Int) a.v6=width a.v6:=by unfold yT;omega
 have hp':∃ l,T.path (vS (ofP a (width a.v6)).a.v6) ((ofP a (width a.v6)).a.bits (ofP a (width a.v6)).n.toNat)=some l:=by
  obtain ⟨l,hl⟩:=hp;refine ⟨l,?_⟩;unfold ofP;simp only [hc,Int.toNat_natCast];exact hl
 refine Does.of 24 inferInstance rfl (by decide) rfl ?_
 refine zB ?_;repeat ((first|(refine alloc fun _=>?_)|(refine zU fun _=>?_)|(refine yS fun _=>?_)|(refine YN fun _=>?_));(refine onA ?_))
 refine draw [0,0,0,4,12,30,63,127] [4,5,6,7] [1,3] [0,1,2,3,4,5,6,7] ?_;refine zC ?_;refine call (yO _) ?_;rintro _ _ ⟨rfl,rfl⟩;refine onA ?_;refine call (vU a _) ?_;rintro _ _ ⟨rfl,rfl⟩;refine onA ?_;refine call (zAg t T (ofP a (width a.v6)) ZO hA hp') ?_;rintro _ _ ⟨base,cap,rfl,rfl⟩;refine zJ ?_;refine ddA ?_;have hb:(T.above (ofP a (width a.v6))).length<=1000:=by
  have:=zIF (T:=T) (p:=ofP a (width a.v6))
  have e:(ofP a (width a.v6)).n.toNat=yT (width a.v6:Int) a.v6:=by unfold ofP;simp
  rw [e,hc] at this;omega
 unfold Tr.longest;generalize T.above (ofP a (width a.v6))=l at hb;refine zH (fun h=>?_) (fun h=>?_)
 ·have hl:l=[]:=by have:=of_decide_eq_true h;exact List.length_eq_zero_iff.1 (by omega)
  subst hl;refine zB ?_;refine ret ?_;exact ends ⟨rfl,rfl⟩
 ·have hl:0<l.length:=by have:=of_decide_eq_false h;omega
  obtain ⟨x,hx⟩:∃ x,l.getLast?=some x:=by
   cases e:l.getLast? with
   | none=>rw [List.getLast?_eq_none_iff] at e;rw [e] at hl;simp at hl
   | some m=>exact ⟨m,rfl⟩
  have hi:l[((l.length:Int)-1).toNat]?=some x:=by
   rw [List.getLast?_eq_getElem?] at hx;rw [show ((l.length:Int)-1).toNat=l.length-1 by omega];exact hx
  rw [hx];refine zMn base fun hcap=>?_;rw [List.length_map] at hcap;refine zB ?_;refine ret ?_;exact ends ⟨rfl,rfl⟩
end Go.Proofs.YtjcbjclhagobiaaGreat
end
section
namespace Go.Proofs.YtjcbjclhagobiaaGreat
set_option maxHeartbeats 1600000
open Go Go.KL Go.KM
variable {E:Env} {X:Xs}
set_option maxRecDepth 100000
def Tr.inside (T:Tr) (p:Pf):Bool:=if T.find p = -1 then false else match T.A[(T.find p).toNat]? with
 | some x=>!decide ([x.k0,x.k1]=[-1,-1])
 | none=>false
theorem zEQ (t:Nat) (T:Tr) (p:Pf) (hA:T.A≠[]) (hp:p.sane=true->∃ l,T.path (vS p.a.v6) (p.a.bits p.n.toNat)=some l):Does PR E X 193 [pt t,p.v] [yU t T] (fun v u=>v=.bool (T.inside p)/\u=[yU t T]):=by
 have ht:true=true:=rfl;refine Does.of 23 inferInstance rfl (by decide) rfl ?_
 refine zB ?_;refine zU fun b3=>?_;refine zB ?_;refine call (XG t T p hA hp) ?_;rintro _ _ ⟨rfl,rfl⟩;refine onA ?_;by_cases hf:T.find p = -1
 ·have c1:(!decide (T.find p = -1))=false:=by rw [decide_eq_true hf];rfl
  have hg:T.inside p=false:=by unfold Tr.inside;rw [if_pos hf]
  rw [hg];refine zB ?_;refine ret ?_;exact ends ⟨rfl,rfl⟩
 ·obtain ⟨m,hm,x,hx⟩:=zBa hf;have c1:(!decide (T.find p = -1))=true:=by rw [decide_eq_false hf];rfl
  have hml:m<T.A.length:=(List.getElem?_eq_some_iff.1 hx).1;have hg:T.inside p=!decide ([x.k0,x.k1]=[-1,-1]):=by unfold Tr.inside;rw [if_neg hf,hm];simp only [Int.toNat_natCast];rw [hx]
  rw [hm] at c1 ⊢;rw [hg];refine YG (yM t T) fun q=>?_;refine zB ?_;refine zE (yM t T) q ?_;refine ret ?_;exact ends ⟨rfl,rfl⟩
def Nd.clr (x:Nd) (m:Int):Nd:={ x with k0:=if x.k0=m then -1 else x.k0,k1:=if x.k1=m then -1 else x.k1 }
def Tr.prune:Nat->Tr->Nat->Option Tr
 | 0,_,_=>none
 | k+1,T,m=>match T.A[m]? with
  | none=>none
  | some x=>if (x.ends||decide (x.up = -1))||!decide ([x.k0,x.k1]=[-1,-1]) then some T
   else if x.up<0 then none else match T.A[x.up.toNat]? with
    | none=>none
    | some u=>Tr.prune k ⟨T.A.set x.up.toNat (u.clr m),T.fr++[(m:Int)],T.n⟩ x.up.toNat
theorem zGq (t:Nat) (T U:Tr) (m k:Nat) (h:T.prune k m=some U) (hF:T.fr.length+k<=100000000):Does PR E X 295 [pt t,.int .i64 (m:Int)] [yU t T] (fun v u=>v=.tuple #[]/\u=[yU t U]):=by
 refine Does.of 63 inferInstance rfl (by decide) rfl ?_
 refine zB ?_;refine loop (ι:=Nat×Tr×Nat) (fun i=>i.1) (fun i=>i.2.1.prune i.1 i.2.2=some U/\i.2.1.fr.length+i.1<=100000000) (fun i=>[(0,pt t),(1,.int .i64 (i.2.2:Int))]) (fun i=>[yU t i.2.1]) (k,T,m) (by exact ⟨h,hF⟩) ?_
 rintro ⟨k,T1,m⟩ ⟨h1,h2⟩ ih;(try dsimp only at h1 h2 ih ⊢);cases k with
 | zero=>cases h1
 | succ k=>
  unfold Tr.prune at h1;cases hx:T1.A[m]? with
  | none=>rw [hx] at h1;cases h1
  | some x=>
   rw [hx] at h1;simp only at h1;have hml:m<T1.A.length:=(List.getElem?_eq_some_iff.1 hx).1;refine zW (yM t T1) fun q=>?_;refine zB ?_;refine alloc fun b4=>?_;refine zB ?_;refine zH (fun h=>?_) (fun h=>?_)
   ·rw [if_pos h] at h1;injection h1 with h1
    subst h1;refine zB ?_;refine zE (yM t T1) q ?_;refine ret ?_;exact ends ⟨rfl,rfl⟩
   ·rw [if_neg (by rw [h];decide)] at h1
    split at h1
    ·cases h1
    ·rename_i hup
     obtain ⟨xk0,xk1,xup,xe,xv⟩:=x;(try dsimp only at h1 h hup ⊢);obtain ⟨w,rfl⟩:=Int.eq_ofNat_of_zero_le (by omega:0<=xup)
     simp only [Int.toNat_natCast] at h1;cases hu:T1.A[w]? with
     | none=>rw [hu] at h1;cases h1
     | some y=>
      rw [hu] at h1;simp only at h1;have hul:w<T1.A.length:=(List.getElem?_eq_some_iff.1 hu).1;refine zB ?_;refine draw [0,1,3,7,0,16,63,127] [7] [3,5,6] [0,1,2,3,4,5,6,7] ?_;refine zC ?_;refine zB ?_;refine Wc ?_;refine zB ?_;refine yes ?_;refine zB ?_;refine zH (fun ha=>?_) (fun ha=>?_)
      ·have ha:y.k0=(m:Int):=of_decide_eq_true ha;refine zB ?_;have e1:(List.map Nd.c T1.A).set ((w:Int)).toNat [.int .i64 (-1),.int .i64 y.k1,.int .i64 y.up,.bool y.ends,.int .i64 y.v]=List.map Nd.c (T1.A.set w { y with k0:=-1 }):=by rw [List.map_set,Int.toNat_natCast]
       have hx2:(T1.A.set w { y with k0:=-1 })[w]?=some { y with k0:=-1 }:=by rw [List.getElem?_set_self hul]
       rw [e1];refine again ?_;refine zB ?_;refine yes ?_;refine zB ?_;refine zH (fun hb=>?_) (fun hb=>?_)
       ·have hb:y.k1=(m:Int):=of_decide_eq_true hb;have hc:y.clr (m:Int)={ y with k0:=-1,k1:=-1 }:=by unfold Nd.clr;simp only [ha,hb,if_true,if_false]
        rw [hc] at h1;refine zB ?_;have e2:(List.map Nd.c (T1.A.set w { y with k0:=-1 })).set ((w:Int)).toNat [.int .i64 (-1),.int .i64 (-1),.int .i64 y.up,.bool y.ends,.int .i64 y.v]=List.map Nd.c (T1.A.set w { y with k0:=-1,k1:=-1 }):=by rw [List.map_set,Int.toNat_natCast,List.set_set,List.map_set]
        rw [e2];refine again ?_;refine zB ?_;refine no ?_;refine zB ?_;refine buildSlice fun b57=>?_;refine zB ?_;refine xM fun b1 c1=>?_;refine zB ?_;have e5:List.map zHl T1.fr++[yG (.int .i64 (m:Int))]=List.map zHl (T1.fr++[(m:Int)]):=by rw [List.map_append];rfl
        have e6:T1.fr.length+1=(T1.fr++[(m:Int)]).length:=by simp
        have e7:T1.A.length=(T1.A.set w { y with k0:=-1,k1:=-1 }).length:=by simp
        rw [e5,e6,e7];refine zE (yM t ⟨T1.A.set w { y with k0:=-1,k1:=-1 },T1.fr++[(m:Int)],T1.n⟩) (q.1,q.2.1,b1,c1) ?_
        exact next (ih (k,⟨T1.A.set w { y with k0:=-1,k1:=-1 },T1.fr++[(m:Int)],T1.n⟩,w) ⟨h1,by simp;omega⟩ (by simp))
       ·have hb:¬ y.k1=(m:Int):=of_decide_eq_false hb;have hc:y.clr (m:Int)={ y with k0:=-1,k1:=y.k1 }:=by unfold Nd.clr;simp only [ha,hb,if_true,if_false]
        rw [hc] at h1;refine zB ?_;refine again ?_;refine zB ?_;refine no ?_;refine zB ?_;refine buildSlice fun b57=>?_;refine zB ?_;refine xM fun b1 c1=>?_;refine zB ?_;have e5:List.map zHl T1.fr++[yG (.int .i64 (m:Int))]=List.map zHl (T1.fr++[(m:Int)]):=by rw [List.map_append];rfl
        have e6:T1.fr.length+1=(T1.fr++[(m:Int)]).length:=by simp
        have e7:T1.A.length=(T1.A.set w { y with k0:=-1,k1:=y.k1 }).length:=by simp
        rw [e5,e6,e7];refine zE (yM t ⟨T1.A.set w { y with k0:=-1,k1:=y.k1 },T1.fr++[(m:Int)],T1.n⟩) (q.1,q.2.1,b1,c1) ?_
        exact next (ih (k,⟨T1.A.set w { y with k0:=-1,k1:=y.k1 },T1.fr++[(m:Int)],T1.n⟩,w) ⟨h1,by simp;omega⟩ (by simp))
      ·have ha:¬ y.k0=(m:Int):=of_decide_eq_false ha;refine zB ?_;refine again ?_;refine zB ?_;refine yes ?_;refine zB ?_;refine zH (fun hb=>?_) (fun hb=>?_)
       ·have hb:y.k1=(m:Int):=of_decide_eq_true hb;have hc:y.clr (m:Int)={ y with k0:=y.k0,k1:=-1 }:=by unfold Nd.clr;simp only [ha,hb,if_true,if_false]
        rw [hc] at h1;refine zB ?_;have e2:(List.map Nd.c T1.A).set ((w:Int)).toNat [.int .i64 y.k0,.int .i64 (-1),.int .i64 y.up,.bool y.ends,.int .i64 y.v]=List.map Nd.c (T1.A.set w { y with k0:=y.k0,k1:=-1 }):=by rw [List.map_set,Int.toNat_natCast]
        rw [e2];refine again ?_;refine zB ?_;refine no ?_;refine zB ?_;refine buildSlice fun b57=>?_;refine zB ?_;refine xM fun b1 c1=>?_;refine zB ?_;have e5:List.map zHl T1.fr++[yG (.int .i64 (m:Int))]=List.map zHl (T1.fr++[(m:Int)]):=by rw [List.map_append];rfl
        have e6:T1.fr.length+1=(T1.fr++[(m:Int)]).length:=by simp
        have e7:T1.A.length=(T1.A.set w { y with k0:=y.k0,k1:=-1 }).length:=by simp
        rw [e5,e6,e7];refine zE (yM t ⟨T1.A.set w { y with k0:=y.k0,k1:=-1 },T1.fr++[(m:Int)],T1.n⟩) (q.1,q.2.1,b1,c1) ?_
        exact next (ih (k,⟨T1.A.set w { y with k0:=y.k0,k1:=-1 },T1.fr++[(m:Int)],T1.n⟩,w) ⟨h1,by simp;omega⟩ (by simp))
       ·have hb:¬ y.k1=(m:Int):=of_decide_eq_false hb;have hc:y.clr (m:Int)={ y with k0:=y.k0,k1:=y.k1 }:=by unfold Nd.clr;simp only [ha,hb,if_true,if_false]
        rw [hc] at h1;refine zB ?_;have e2:T1.A=T1.A.set w { y with k0:=y.k0,k1:=y.k1 }:=by
         apply List.ext_getElem?;intro j;by_cases hj:w=j
         ·subst hj;rw [hu,List.getElem?_set_self hul]
         ·rw [List.getElem?_set_ne hj]
        refine again ?_;refine zB ?_;refine no ?_;refine zB ?_;refine buildSlice fun b57=>?_;refine zB ?_;refine xM fun b1 c1=>?_;refine zB ?_;have e5:List.map zHl T1.fr++[yG (.int .i64 (m:Int))]=List.map zHl (T1.fr++[(m:Int)]):=by rw [List.map_append];rfl
        have e6:T1.fr.length+1=(T1.fr++[(m:Int)]).length:=by simp
        rw [e5,e6,e2];refine zE (yM t ⟨T1.A.set w { y with k0:=y.k0,k1:=y.k1 },T1.fr++[(m:Int)],T1.n⟩) (q.1,q.2.1,b1,c1) ?_
        exact next (ih (k,⟨T1.A.set w { y with k0:=y.k0,k1:=y.k1 },T1.fr++[(m:Int)],T1.n⟩,w) ⟨h1,by simp;omega⟩ (by simp))
theorem zCW (t:Nat) (T:Tr) (p:Pf) (hA:T.A≠[]) (hs:p.sane=true) (hp:∃ l,T.path (vS p.a.v6) (p.a.bits p.n.toNat)=some l) (hg:T.get p=none):Does PR E X 235 [pt t,p.v] [yU t T] (fun v u=>v=.int .i64 2/\u=[yU t T]):=by
 have ht:true=true:=rfl;have c0:(!p.sane)=false:=by rw [hs];rfl
 refine Does.of 42 inferInstance rfl (by decide) rfl ?_
 refine zB ?_;refine zU fun b3=>?_;refine zB ?_;refine call (yA p) ?_;rintro _ _ ⟨rfl,rfl⟩;refine onA ?_;refine no ?_;refine zB ?_;refine call (XG t T p hA (fun _=>hp)) ?_;rintro _ _ ⟨rfl,rfl⟩;refine onA ?_;by_cases hf:T.find p = -1
 ·have c1:decide (T.find p = -1)=true:=decide_eq_true hf;refine zB ?_;refine yes ?_;refine zB ?_;refine ret ?_;exact ends ⟨rfl,rfl⟩
 ·obtain ⟨m,hm,x,hx⟩:=zBa hf;have c1:decide (T.find p = -1)=false:=decide_eq_false hf;have hml:m<T.A.length:=(List.getElem?_eq_some_iff.1 hx).1;have he:x.ends=false:=by
   unfold Tr.get at hg;rw [if_neg hf,hm] at hg;simp only [Int.toNat_natCast] at hg;rw [hx] at hg;cases e:x.ends with
   | false=>rfl
   | true=>simp [e] at hg
  rw [hm] at c1 ⊢;refine YG (yM t T) fun q=>?_;refine zB ?_;refine yes ?_ rfl (by simp [he])
  refine zB ?_;refine zE (yM t T) q ?_;refine ret ?_;exact ends ⟨rfl,rfl⟩
def Tr.del (T:Tr) (p:Pf):Option Tr:=match T.A[(T.find p).toNat]? with
 | some x=>Tr.prune 200 ⟨T.A.set (T.find p).toNat { x with ends:=false },T.fr,T.n-1⟩ (T.find p).toNat
 | none=>none
theorem zLS (t:Nat) (T U:Tr) (p:Pf) (hA:T.A≠[]) (hs:p.sane=true) (hp:∃ l,T.path (vS p.a.v6) (p.a.bits p.n.toNat)=some l) (hg:(T.get p).isSome=true) (hu:T.del p=some U) (hn:0<=T.n/\T.n<=100000000) (hF:T.fr.length+200<=100000000):Does PR E X 235 [pt t,p.v] [yU t T] (fun v u=>v=.int .i64 0/\u=[yU t U]):=by
 have ht:true=true:=rfl;have c0:(!p.sane)=false:=by rw [hs];rfl
 have hf:T.find p≠-1:=by intro h;unfold Tr.get at hg;rw [if_pos h] at hg;cases hg
 obtain ⟨m,hm,x,hx⟩:=zBa hf;have hml:m<T.A.length:=(List.getElem?_eq_some_iff.1 hx).1;have he:x.ends=true:=by
  unfold Tr.get at hg;rw [if_neg hf,hm] at hg;simp only [Int.toNat_natCast] at hg;rw [hx] at hg;cases e:x.ends with
  | true=>rfl
  | false=>simp [e] at hg
 unfold Tr.del at hu;rw [hm] at hu;simp only [Int.toNat_natCast] at hu;rw [hx] at hu;simp only at hu;refine Does.of 42 inferInstance rfl (by decide) rfl ?_
 refine zB ?_;refine zU fun b3=>?_;refine zB ?_;refine call (yA p) ?_;rintro _ _ ⟨rfl,rfl⟩;refine onA ?_;refine no ?_;refine zB ?_;refine call (XG t T p hA (fun _=>hp)) ?_;rintro _ _ ⟨rfl,rfl⟩;refine onA ?_;have c1:decide (T.find p = -1)=false:=decide_eq_false hf;rw [hm] at c1 ⊢;refine YG (yM t T) fun q=>?_;refine zB ?_;refine no ?_ rfl (by simp [he])
 refine zB ?_;have e1:(List.map Nd.c T.A).set ((m:Int)).toNat [.int .i64 x.k0,.int .i64 x.k1,.int .i64 x.up,.bool false,.int .i64 x.v]=List.map Nd.c (T.A.set m { x with ends:=false }):=by rw [List.map_set,Int.toNat_natCast]
 have e3:T.A.length=(T.A.set m { x with ends:=false }).length:=by simp
 rw [e1,e3];refine VV (yM t ⟨T.A.set m { x with ends:=false },T.fr,T.n-1⟩) q ?_
 refine call (zGq t _ U m 200 hu hF) ?_;rintro _ _ ⟨rfl,rfl⟩;refine onA ?_;refine ret ?_;exact ends ⟨rfl,rfl⟩
end Go.Proofs.YtjcbjclhagobiaaGreat
end
section
namespace Go.Proofs.YtjcbjclhagobiaaGreat
set_option maxHeartbeats 1600000
open Go Go.KL Go.KM
variable {E:Env} {X:Xs}
set_option maxRecDepth 100000
theorem Qo (k:Int):Does PR E X 116 [.int .i64 k] [] (fun v t=>v=.bool (decide (0<=k)&&decide (k<17))/\t=[]):=by
 refine Does.of 9 inferInstance rfl (by decide) rfl ?_
 refine zB ?_;refine ret ?_;exact ends ⟨rfl,rfl⟩
end Go.Proofs.YtjcbjclhagobiaaGreat
end
section
namespace Go.Proofs.YtjcbjclhagobiaaGreat
open Go Go.KL Go.KM
inductive Bt where
 | nil
 | node (m:Nat) (v:Option Int) (l r:Bt)
namespace Bt
def idx:Bt->Int
 | nil=>-1
 | node m _ _ _=>(m:Int)
def kid:Bt->Bool->Bt
 | nil,_=>nil
 | node _ _ l _,false=>l
 | node _ _ _ r,true=>r
def setKid:Bt->Bool->Bt->Bt
 | nil,_,_=>nil
 | node m v _ r,false,t=>node m v t r
 | node m v l _,true,t=>node m v l t
def ids:Bt->List Nat
 | nil=>[]
 | node m _ l r=>m::(ids l++ids r)
def down:Bt->List Bool->Bt
 | t,[]=>t
 | t,q::bs=>(t.kid q).down bs
def val:Bt->List Bool->Option Int
 | nil,_=>none
 | node _ v _ _,[]=>v
 | node _ _ l _,false::bs=>l.val bs
 | node _ _ _ r,true::bs=>r.val bs
def way:Bt->List Bool->List Nat
 | nil,_=>[]
 | node m _ _ _,[]=>[m]
 | node m _ l _,false::bs=>m::l.way bs
 | node m _ _ r,true::bs=>m::r.way bs
def cnt:Bt->Nat
 | nil=>0
 | node _ v l r=>(if v.isSome then 1 else 0)+cnt l+cnt r
def full:Bt->Prop
 | nil=>True
 | node _ v l r=>(v≠none∨l≠nil∨r≠nil)/\full l/\full r
def trim:Bt->Prop
 | nil=>True
 | node _ _ l r=>full l/\full r
def trimP:Bt->List Bool->Prop
 | t,[]=>t.trim
 | nil,_::_=>True
 | node _ _ l r,false::bs=>l.trimP bs/\full r
 | node _ _ l r,true::bs=>full l/\r.trimP bs
def clear:Bt->List Bool->Bt
 | nil,_=>nil
 | node m _ l r,[]=>node m none l r
 | node m v l r,false::bs=>node m v (l.clear bs) r
 | node m v l r,true::bs=>node m v l (r.clear bs)
theorem full.trim {t:Bt} (h:t.full):t.trim:=by
 cases t with
 | nil=>trivial
 | node m v l r=>exact h.2
@[simp] theorem val_nil {bs:List Bool}:val nil bs=none:=by cases bs <;> rfl
theorem zF6 {m:Nat} {v:Option Int} {l r:Bt} {q:Bool} {bs:List Bool}:val (node m v l r) (q::bs)=((node m v l r).kid q).val bs:=by cases q <;> rfl
@[simp] theorem down_nil {bs:List Bool}:down nil bs=nil:=by
 induction bs with
 | nil=>rfl
 | cons q bs ih=>exact ih
theorem XT {t:Bt} {bs cs:List Bool}:(t.down bs).val cs=t.val (bs++cs):=by
 induction bs generalizing t with
 | nil=>rfl
 | cons q bs ih=>
  cases t with
  | nil=>simp [down,kid]
  | node m v l r=>rw [List.cons_append,zF6];exact ih
end Bt
open Bt
def At (A:List Nd):Int->Bt->Prop
 | _,.nil=>True
 | up,.node m v l r=>(∃ x,A[m]?=some x/\x.k0=l.idx/\x.k1=r.idx/\x.up=up/\x.ends=v.isSome/\∀ w,v=some w->x.v=w)/\At A m l/\At A m r
theorem xW {A A':List Nd}:∀ {t:Bt} {up:Int},At A up t->(∀ i∈t.ids,A'[i]?=A[i]?)->At A' up t
 | .nil,_,_,_=>trivial
 | .node m v l r,up,⟨⟨x,h1,h2⟩,h3,h4⟩,hf=>
  ⟨⟨x,(hf m (by simp [ids])).trans h1,h2⟩,xW h3 fun i hi=>hf i (by simp [ids,hi]),xW h4 fun i hi=>hf i (by simp [ids,hi])⟩
theorem Wt {A:List Nd} {m:Nat} {v:Option Int} {l r:Bt} {up:Int} (h:At A up (.node m v l r)) (q:Bool):At A m ((Bt.node m v l r).kid q):=by
 cases q
 ·exact h.2.1
 ·exact h.2.2
theorem zIQ {A:List Nd} {m:Nat} {v:Option Int} {l r:Bt} {up:Int} (h:At A up (.node m v l r)):∃ x,A[m]?=some x/\(∀ q,x.kid q=((Bt.node m v l r).kid q).idx)/\x.up=up/\x.ends=v.isSome/\∀ w,v=some w->x.v=w:=by
 obtain ⟨⟨x,h1,h2,h3,h4⟩,_⟩:=h;exact ⟨x,h1,fun q=>by cases q <;> assumption,h4⟩
theorem Zp {t:Bt}:t.idx = -1↔t=.nil:=by
 cases t with
 | nil=>simp [idx]
 | node m v l r=>simp [idx]
theorem zDk {T:Tr}:∀ {bs:List Bool} {t:Bt} {up:Int},t≠.nil->At T.A up t->T.path t.idx.toNat bs=some (t.way bs)
 | [],t,up,hn,h=>by
  cases t with
  | nil=>exact absurd rfl hn
  | node m v l r=>
   obtain ⟨x,hx,_⟩:=zIQ h;have:m<T.A.length:=(List.getElem?_eq_some_iff.1 hx).1
   unfold Tr.path;simp [idx,this,way]
 | q::bs,t,up,hn,h=>by
  cases t with
  | nil=>exact absurd rfl hn
  | node m v l r=>
   obtain ⟨x,hx,hk,_⟩:=zIQ h;unfold Tr.path;have e:(Bt.node m v l r).idx.toNat=m:=by simp [idx]
   rw [e,hx];simp only;rw [hk q];have hw:way (.node m v l r) (q::bs)=m::((Bt.node m v l r).kid q).way bs:=by cases q <;> rfl
   rw [hw];cases hc:(Bt.node m v l r).kid q with
   | nil=>simp [idx,way]
   | node m' v' l' r'=>
    have ih:=zDk (T:=T) (bs:=bs) (t:=.node m' v' l' r') (up:=m) (by simp) (hc ▸ Wt h q)
    rw [if_neg (by simp [idx]),if_pos (by simp [idx]),ih];rfl
theorem zN3 {t:Bt} {bs:List Bool}:atV (t.way bs) bs.length=(t.down bs).idx:=by
 induction bs generalizing t with
 | nil=>cases t <;> simp [way,down,atV,idx]
 | cons q bs ih=>
  cases t with
  | nil=>simp [way,atV,idx]
  | node m v l r=>
   have hw:way (.node m v l r) (q::bs)=m::((Bt.node m v l r).kid q).way bs:=by cases q <;> rfl
   rw [hw];have:=ih (t:=(Bt.node m v l r).kid q)
   unfold atV at this ⊢;simpa [down] using this
theorem zDg {A:List Nd}:∀ {bs:List Bool} {t:Bt} {up:Int},At A up t->∃ up',At A up' (t.down bs)
 | [],_,up,h=>⟨up,h⟩
 | q::bs,.nil,up,h=>⟨up,by rw [down_nil];trivial⟩
 | q::bs,.node m v l r,up,h=>zDg (t:=(Bt.node m v l r).kid q) (Wt h q)
theorem zFj {t:Bt} {bs:List Bool}:∀ i∈(t.down bs).ids,i∈t.ids:=by
 induction bs generalizing t with
 | nil=>exact fun i h=>h
 | cons q bs ih=>
  intro i hi;cases t with
  | nil=>simp [ids] at hi
  | node m v l r=>
   have:=ih (t:=(Bt.node m v l r).kid q) i hi
   cases q <;> simp [kid] at this <;> simp [ids,this]
def Inv (T:Tr) (s:Bt) (F:List Nat):Prop:=∃ f:List Nat,T.fr=f.map Int.ofNat/\(s.ids++(F++f)).Perm (List.range T.A.length)
theorem Inv.nodup {T:Tr} {s:Bt} {F:List Nat} (h:Inv T s F):(s.ids++F).Nodup:=by
 obtain ⟨f,_,hp⟩:=h;have:=hp.nodup_iff.2 List.nodup_range
 rw [<-List.append_assoc,List.nodup_append] at this;exact this.1
theorem Inv.lt {T:Tr} {s:Bt} {F:List Nat} (h:Inv T s F) {i:Nat} (hi:i∈s.ids∨i∈F):i<T.A.length:=by
 obtain ⟨f,_,hp⟩:=h;have:=hp.mem_iff (a:=i)
 simp only [List.mem_append,List.mem_range] at this;exact this.1 (by (rcases hi with h|h <;> simp [h]))
theorem Inv.perm {T:Tr} {s s':Bt} {F F':List Nat} (h:Inv T s F) (hp:(s'.ids++F').Perm (s.ids++F)):Inv T s' F':=by
 obtain ⟨f,h1,h2⟩:=h;refine ⟨f,h1,List.Perm.trans ?_ h2⟩;rw [<-List.append_assoc,<-List.append_assoc];exact hp.append_right f
theorem zIG {T:Tr} {m:Nat} {v:Option Int} {l r:Bt} {F:List Nat} (h:Inv T (.node m v l r) F) (q:Bool):Inv T ((Bt.node m v l r).kid q) (m::(((Bt.node m v l r).kid (!q)).ids++F)):=by
 refine h.perm ?_;cases q
 ·show (l.ids++m::(r.ids++F)).Perm (m::(l.ids++r.ids)++F);refine List.perm_middle.trans ?_;simp
 ·show (r.ids++m::(l.ids++F)).Perm (m::(l.ids++r.ids)++F);refine List.perm_middle.trans ?_;simp only [List.cons_append,List.append_assoc];refine List.Perm.cons m ?_;rw [<-List.append_assoc,<-List.append_assoc];exact (List.perm_append_comm).append_right F
theorem Wk {T:Tr} {m:Nat} {v:Option Int} {l r c:Bt} {F:List Nat} (q:Bool) (h:Inv T c (m::(((Bt.node m v l r).kid (!q)).ids++F))):Inv T ((Bt.node m v l r).setKid q c) F:=by
 refine h.perm ?_;cases q
 ·show (m::(c.ids++r.ids)++F).Perm (c.ids++m::(r.ids++F));refine List.Perm.trans ?_ List.perm_middle.symm;simp
 ·show (m::(l.ids++c.ids)++F).Perm (c.ids++m::(l.ids++F));refine List.Perm.trans ?_ List.perm_middle.symm;simp only [List.cons_append,List.append_assoc];refine List.Perm.cons m ?_;rw [<-List.append_assoc,<-List.append_assoc];exact (List.perm_append_comm).append_right F
theorem zNS {T:Tr} {s:Bt} {F:List Nat} (h:Inv T s F) (up:Int):(T.take up).2∉s.ids/\(T.take up).2∉F/\(T.take up).1.A[(T.take up).2]?=some (xJ up)/\
  (∀ i,i∈s.ids∨i∈F->(T.take up).1.A[i]?=T.A[i]?)/\(∃ f:List Nat,(T.take up).1.fr=f.map Int.ofNat/\((T.take up).2::(s.ids++(F++f))).Perm (List.range (T.take up).1.A.length))/\(T.take up).1.n=T.n/\
  ((T.take up).1.A.length=T.A.length∨(T.take up).1.fr=[])/\T.A.length<=(T.take up).1.A.length/\(T.fr=[]->(T.take up).1.fr=[]):=by
 have hlt:=fun i=>h.lt (i:=i);obtain ⟨f,h1,h2⟩:=h;rcases List.eq_nil_or_concat f with rfl|⟨f',k,rfl⟩
 ·have e:T.take up=(⟨T.A++[xJ up],T.fr,T.n⟩,T.A.length):=by unfold Tr.take;rw [h1];rfl
  rw [e];refine ⟨fun hi=>Nat.lt_irrefl _ (hlt _ (.inl hi)),fun hi=>Nat.lt_irrefl _ (hlt _ (.inr hi)),by simp,fun i hi=>?_,⟨[],h1,?_⟩,rfl,.inr h1,by simp,fun _=>h1⟩
  ·have:=hlt i hi
   show (T.A++[xJ up])[i]?=_;rw [List.getElem?_append_left this]
  ·simp only [List.append_nil,List.length_append,List.length_cons,List.length_nil,Nat.zero_add] at h2 ⊢;rw [List.range_succ];exact ((List.Perm.cons _ h2).trans (List.perm_append_comm (l₁:=[T.A.length]) (l₂:=List.range T.A.length)))
 ·rw [List.concat_eq_append] at h1 h2;have hl:T.fr.getLast?=some (k:Int):=by rw [h1];simp
  have e:T.take up=(⟨T.A.set k (xJ up),T.fr.dropLast,T.n⟩,k):=by unfold Tr.take;rw [hl];simp
  have hnd:=h2.nodup_iff.2 List.nodup_range;have hk:k<T.A.length:=by
   have:=h2.mem_iff (a:=k)
   simp only [List.mem_append,List.mem_range,List.mem_singleton,or_true,true_iff] at this;exact this
  have hp:(k::(s.ids++(F++f'))).Perm (List.range T.A.length):=by
   refine List.Perm.trans ?_ h2;have:s.ids++(F++(f'++[k]))=(s.ids++(F++f'))++[k]:=by simp
   rw [this];exact List.perm_append_comm (l₁:=[k])
  have hnd2:=hp.nodup_iff.2 List.nodup_range;rw [List.nodup_cons] at hnd2;have hk1:k∉s.ids:=fun hi=>hnd2.1 (by simp [hi])
  have hk2:k∉F:=fun hi=>hnd2.1 (by simp [hi])
  rw [e];refine ⟨hk1,hk2,by simp [hk],fun i hi=>?_,⟨f',by rw [h1];simp,by simpa using hp⟩,rfl,.inl (by simp),by simp,fun h=>by rw [h1] at h;simp at h⟩
  show (T.A.set k (xJ up))[i]?=_;rw [List.getElem?_set_ne];rintro rfl;exact hi.elim hk1 hk2
theorem XP {s c:Bt} {q:Bool}:(s.setKid q c).idx=s.idx:=by cases s <;> cases q <;> rfl
theorem zAd {m:Nat} {v:Option Int} {l r c:Bt} {q:Bool} {w:Option Int} {bs:List Bool} (h:∀ b,c.val b=if b=bs then w else ((Bt.node m v l r).kid q).val b) (b:List Bool):((Bt.node m v l r).setKid q c).val b=if b=q::bs then w else (Bt.node m v l r).val b:=by
 cases b with
 | nil=>cases q <;> simp [setKid,val]
 | cons a b=>
  cases q <;> cases a <;> simp [setKid,val,h,kid]
theorem Jc {m:Nat} {v:Option Int} {l r c:Bt} {q:Bool} (h:∀ b,c.val b=((Bt.node m v l r).kid q).val b) (b:List Bool):((Bt.node m v l r).setKid q c).val b=(Bt.node m v l r).val b:=by
 cases b with
 | nil=>cases q <;> simp [setKid,val]
 | cons a b=>cases q <;> cases a <;> simp [setKid,val,h,kid]
theorem Vi {m:Nat} {v:Option Int} {l r c:Bt} {q:Bool}:((Bt.node m v l r).setKid q c).cnt+((Bt.node m v l r).kid q).cnt=(Bt.node m v l r).cnt+c.cnt:=by
 cases q <;> simp only [setKid,cnt,kid] <;> omega
theorem WX {A:List Nd} {m:Nat} {v:Option Int} {l r c:Bt} {up:Int} {q:Bool} {x:Nd} (hx:A[m]?=some x) (hq:x.kid q=c.idx) (hn:x.kid (!q)=((Bt.node m v l r).kid (!q)).idx) (hu:x.up=up) (he:x.ends=v.isSome) (hv:∀ w,v=some w->x.v=w)
  (h1:At A m c) (h2:At A m ((Bt.node m v l r).kid (!q))):At A up ((Bt.node m v l r).setKid q c):=by
 cases q
 ·exact ⟨⟨x,hx,hq,hn,hu,he,hv⟩,h1,h2⟩
 ·exact ⟨⟨x,hx,hn,hq,hu,he,hv⟩,h2,h1⟩
def Tr.plant (T:Tr) (m:Nat) (bs:List Bool) (w:Int):Option Tr:=(T.grow m bs).bind fun q=>q.1.mark q.2 w
theorem zOC (T:Tr) (p:Pf) (w:Int):T.put p w=T.plant (vS p.a.v6) (p.a.bits p.n.toNat) w:=by
 unfold Tr.put Tr.plant;cases T.grow (vS p.a.v6) (p.a.bits p.n.toNat) with
 | none=>rfl
 | some q=>rfl
theorem zBF (w:Int):∀ (bs:List Bool) (T:Tr) (s:Bt) (up:Int) (F:List Nat),s≠.nil->At T.A up s->Inv T s F->s.trim->
  ∃ U s',T.plant s.idx.toNat bs w=some U/\At U.A up s'/\s'.idx=s.idx/\Inv U s' F/\(∀ i∈F,U.A[i]?=T.A[i]?)/\(∀ b,s'.val b=if b=bs then some w else s.val b)/\s'.full/\
   U.n+(if (s.val bs).isSome then 1 else 0)=T.n+1/\s'.cnt+(if (s.val bs).isSome then 1 else 0)=s.cnt+1/\(U.A.length=T.A.length∨U.fr=[])/\T.A.length<=U.A.length/\(T.fr=[]->U.fr=[])
 | [],T,s,up,F,hn,ha,hi,ht=>by
  cases s with
  | nil=>exact absurd rfl hn
  | node m v l r=>
   obtain ⟨x,hx,hk,hu,he,hv⟩:=zIQ ha;have hml:m<T.A.length:=(List.getElem?_eq_some_iff.1 hx).1;have hnd:=hi.nodup;simp only [ids,List.cons_append,List.nodup_cons,List.mem_append,List.append_assoc,not_or] at hnd;have e1:(Bt.node m v l r).idx.toNat=m:=by simp [idx]
   rw [e1];have hset:∀ i,i≠m->(T.A.set m { x with ends:=true,v:=w })[i]?=T.A[i]?:=fun i h=>List.getElem?_set_ne (Ne.symm h)
   refine ⟨⟨T.A.set m { x with ends:=true,v:=w },T.fr,if x.ends then T.n else T.n+1⟩,.node m (some w) l r,?_,?_,rfl,?_,?_,?_,?_,?_,?_,.inl (by simp),by simp,fun h=>h⟩
   ·unfold Tr.plant Tr.grow Tr.mark;simp [hx]
   ·refine ⟨⟨_,List.getElem?_set_self hml,hk false,hk true,hu,rfl,fun w' hw=>by cases hw;rfl⟩,xW ha.2.1 fun j hj=>hset j ?_,xW ha.2.2 fun j hj=>hset j ?_⟩
    ·rintro rfl;exact hnd.1.1 hj
    ·rintro rfl;exact hnd.1.2.1 hj
   ·obtain ⟨f,h1,h2⟩:=hi;exact ⟨f,h1,by simpa [ids] using h2⟩
   ·intro j hj;refine hset j ?_;rintro rfl;exact hnd.1.2.2 hj
   ·intro b;cases b with
    | nil=>simp [val]
    | cons a b=>cases a <;> simp [val]
   ·exact ⟨.inl (by simp),ht⟩
   ·rw [he];cases v <;> simp [val]
   ·cases v <;> simp [val,cnt] <;> omega
 | q::bs,T,s,up,F,hn,ha,hi,ht=>by
  cases s with
  | nil=>exact absurd rfl hn
  | node m v l r=>
   obtain ⟨x,hx,hk,hu,he,hv⟩:=zIQ ha;have hml:m<T.A.length:=(List.getElem?_eq_some_iff.1 hx).1;have e1:(Bt.node m v l r).idx.toNat=m:=by simp [idx]
   have hik:=zIG hi q;have hnd:=hik.nodup;have hfk:∀ q,((Bt.node m v l r).kid q).full:=fun q=>by cases q <;> first|exact ht.1|exact ht.2
   have hvc:(Bt.node m v l r).val (q::bs)=((Bt.node m v l r).kid q).val bs:=zF6;rw [e1,hvc];by_cases hc:(Bt.node m v l r).kid q=.nil
   ·
    have hxq:x.kid q = -1:=by rw [hk,hc];rfl
    obtain ⟨g1,g2,g3,g4,⟨f,g5,g6⟩,g7,g8,g9,g10⟩:=zNS hik (m:Int);have hplant:∀ y,(T.take (m:Int)).1.A[m]?=some y->T.plant m (q::bs) w=Tr.plant { (T.take (m:Int)).1 with A:=(T.take (m:Int)).1.A.set m (y.setKid q (T.take (m:Int)).2) } (T.take (m:Int)).2 bs w:=by
     intro y hy;unfold Tr.plant;conv=>lhs;unfold Tr.grow
     rw [hx];simp only;rw [if_pos hxq,hy]
    have hy:(T.take (m:Int)).1.A[m]?=some x:=by rw [g4 m (.inr (by simp)),hx]
    rw [hplant x hy];generalize hT1:(T.take (m:Int)).1=T1 at *;generalize hk1:(T.take (m:Int)).2=k at *;have hkm:k≠m:=fun e=>g2 (by simp [e])
    have hml1:m<T1.A.length:=(List.getElem?_eq_some_iff.1 hy).1;let T2:Tr:={ T1 with A:=T1.A.set m (x.setKid q k) }
    have hA2:∀ i,i≠m->T2.A[i]?=T1.A[i]?:=fun i h=>List.getElem?_set_ne (Ne.symm h);have hi2:Inv T2 (.node k none .nil .nil) (m::(((Bt.node m v l r).kid (!q)).ids++F)):=by
     refine ⟨f,g5,?_⟩;rw [hc] at g6;show (k::([]++[])++_).Perm (List.range (T1.A.set m (x.setKid q k)).length);simpa [ids] using g6
    have ha2:At T2.A m (.node k none .nil .nil):=⟨⟨_,(hA2 k hkm).trans g3,rfl,rfl,rfl,rfl,fun w hw=>by cases hw⟩,trivial,trivial⟩
    obtain ⟨U,s',k1,k2,k3,k4,k5,k6,k7,k8,k9,k10,k11,k12⟩:=zBF w bs T2 (.node k none .nil .nil) m (m::(((Bt.node m v l r).kid (!q)).ids++F)) (by simp) ha2 hi2 ⟨trivial,trivial⟩
    have e2:(Bt.node k none .nil .nil).idx.toNat=k:=by simp [idx]
    rw [e2] at k1;have hvn:(Bt.node k none .nil .nil).val bs=none:=by
     cases bs with
     | nil=>rfl
     | cons a bs=>cases a <;> simp [val]
    have hvn':∀ b,(Bt.node k none .nil .nil).val b=none:=fun b=>by
     cases b with
     | nil=>rfl
     | cons a b=>cases a <;> simp [val]
    rw [hvn] at k8 k9;have hUm:U.A[m]?=some (x.setKid q k):=by rw [k5 m (by simp)];exact List.getElem?_set_self hml1
    have hfr:∀ i,i∈((Bt.node m v l r).kid (!q)).ids∨i∈F->i≠m:=by
     intro i h e;subst e;rw [hc] at hnd;simp only [ids,List.nil_append,List.nodup_cons,List.mem_append] at hnd;exact hnd.1 h
    refine ⟨U,(Bt.node m v l r).setKid q s',k1,?_,XP,Wk q k4,?_,?_,?_,?_,?_,?_,?_,fun h=>k12 (g10 h)⟩
    ·refine WX hUm ?_ ?_ ?_ ?_ ?_ k2 (xW (Wt ha (!q)) fun i hi=>?_)
     ·rw [k3];cases q <;> rfl
     ·rw [<-hk];cases q <;> rfl
     ·cases q <;> exact hu
     ·cases q <;> exact he
     ·intro w' hw';cases q <;> exact hv w' hw'
     ·rw [k5 i (by simp [hi]),hA2 i (hfr i (.inl hi)),g4 i (.inr (by simp [hi]))]
    ·intro i hi;rw [k5 i (by simp [hi]),hA2 i (hfr i (.inr hi)),g4 i (.inr (by simp [hi]))]
    ·refine zAd fun b=>?_;rw [k6,hc,hvn' b];simp
    ·have hne:s'≠.nil:=by rintro rfl;simp [idx] at k3
     cases q
     ·exact ⟨.inr (.inl hne),k7,hfk true⟩
     ·exact ⟨.inr (.inr hne),hfk false,k7⟩
    ·rw [hc];simp only [val_nil];rw [<-g7];exact k8
    ·have:=Vi (m:=m) (v:=v) (l:=l) (r:=r) (c:=s') (q:=q)
     rw [hc] at this ⊢;simp [cnt] at k9 this ⊢;omega
    ·rcases k10 with k10|k10
     ·rcases g8 with g8|g8
      ·left;rw [k10];show (T1.A.set m _).length=_;simp [g8]
      ·exact .inr (k12 g8)
     ·exact .inr k10
    ·refine Nat.le_trans g9 (Nat.le_trans ?_ k11);show _<=(T1.A.set m _).length;simp
   ·have hxq:x.kid q≠-1:=by rw [hk];intro h;exact hc (Zp.1 h)
    have hplant:T.plant m (q::bs) w=T.plant ((Bt.node m v l r).kid q).idx.toNat bs w:=by
     unfold Tr.plant;conv=>lhs;unfold Tr.grow
     rw [hx];simp only;rw [if_neg hxq,hk q];rw [if_pos];cases h:(Bt.node m v l r).kid q with
     | nil=>exact absurd h hc
     | node a b c d=>simp [idx]
    rw [hplant];obtain ⟨U,s',k1,k2,k3,k4,k5,k6,k7,k8,k9,k10,k11,k12⟩:=zBF w bs T ((Bt.node m v l r).kid q) m (m::(((Bt.node m v l r).kid (!q)).ids++F)) hc (Wt ha q) hik (hfk q).trim;refine ⟨U,(Bt.node m v l r).setKid q s',k1,?_,XP,Wk q k4,?_,?_,?_,k8,?_,k10,k11,k12⟩
    ·refine WX ((k5 m (by simp)).trans hx) ?_ (hk _) hu he hv k2 (xW (Wt ha (!q)) fun i hi=>k5 i (by simp [hi]))
     rw [k3,hk]
    ·intro i hi;exact k5 i (by simp [hi])
    ·exact zAd k6
    ·have hne:s'≠.nil:=by rintro rfl;simp [idx] at k3;exact hc (Zp.1 k3.symm)
     cases q
     ·exact ⟨.inr (.inl hne),k7,hfk true⟩
     ·exact ⟨.inr (.inr hne),hfk false,k7⟩
    ·have:=Vi (m:=m) (v:=v) (l:=l) (r:=r) (c:=s') (q:=q)
     omega
end Go.Proofs.YtjcbjclhagobiaaGreat
end
section
namespace Go.Proofs.YtjcbjclhagobiaaGreat
open Go Go.KL Go.KM
open Bt
theorem XA {t:Bt} {bs:List Bool}:(t.clear bs).idx=t.idx:=by
 cases t with
 | nil=>rfl
 | node m v l r=>cases bs with
  | nil=>rfl
  | cons q bs=>cases q <;> rfl
theorem zJA {t:Bt} {bs:List Bool}:(t.clear bs).ids=t.ids:=by
 induction bs generalizing t with
 | nil=>cases t <;> rfl
 | cons q bs ih=>
  cases t with
  | nil=>rfl
  | node m v l r=>cases q <;> simp [clear,ids,ih]
theorem zIw {t:Bt} {bs:List Bool} (b:List Bool):(t.clear bs).val b=if b=bs then none else t.val b:=by
 induction bs generalizing t b with
 | nil=>
  cases t with
  | nil=>simp [clear]
  | node m v l r=>cases b with
   | nil=>simp [clear,val]
   | cons a b=>cases a <;> simp [clear,val]
 | cons q bs ih=>
  cases t with
  | nil=>simp [clear]
  | node m v l r=>cases b with
   | nil=>cases q <;> simp [clear,val]
   | cons a b=>cases q <;> cases a <;> simp [clear,val,ih]
theorem zAN {t:Bt} {bs:List Bool}:((t.clear bs).down bs).idx=(t.down bs).idx:=by
 induction bs generalizing t with
 | nil=>exact XA
 | cons q bs ih=>
  cases t with
  | nil=>rfl
  | node m v l r=>cases q <;> exact ih
theorem zFA {t:Bt} {bs:List Bool} (h:t.trim):(t.clear bs).trimP bs:=by
 induction bs generalizing t with
 | nil=>cases t with
  | nil=>trivial
  | node m v l r=>exact h
 | cons q bs ih=>
  cases t with
  | nil=>trivial
  | node m v l r=>
           cases q
           ·exact ⟨ih h.1.trim,h.2⟩
           ·exact ⟨h.1,ih h.2.trim⟩
theorem zIO {t:Bt} {bs:List Bool}:(t.clear bs).cnt+(if (t.val bs).isSome then 1 else 0)=t.cnt:=by
 induction bs generalizing t with
 | nil=>cases t with
  | nil=>rfl
  | node m v l r=>cases v <;> simp [clear,cnt,val] <;> omega
 | cons q bs ih=>
  cases t with
  | nil=>simp [clear,cnt]
  | node m v l r=>
   cases q
   ·have:=ih (t:=l);have e:(Bt.node m v l r).val (false::bs)=l.val bs:=rfl;rw [e];simp only [clear,cnt];omega
   ·have:=ih (t:=r);have e:(Bt.node m v l r).val (true::bs)=r.val bs:=rfl;rw [e];simp only [clear,cnt];omega
theorem zA9 {A:List Nd} {x:Nd}:∀ {bs:List Bool} {t:Bt} {up:Int} {m:Nat},At A up t->(t.down bs).idx=(m:Int)->A[m]?=some x->t.ids.Nodup->At (A.set m { x with ends:=false }) up (t.clear bs)
 | [],t,up,m,h,hm,hx,hnd=>by
  cases t with
  | nil=>trivial
  | node m' v l r=>
   have e:m'=m:=by simp [down,idx] at hm;omega
   subst e;obtain ⟨x',hx',hk,h3,h4,h5⟩:=zIQ h;have h1:=hk false;have h2:=hk true;rw [hx] at hx';cases hx'
   have hml:m'<A.length:=(List.getElem?_eq_some_iff.1 hx).1;simp only [ids,List.nodup_cons,List.mem_append,not_or] at hnd;refine ⟨⟨_,List.getElem?_set_self hml,h1,h2,h3,rfl,fun w hw=>by cases hw⟩,xW h.2.1 fun i hi=>List.getElem?_set_ne ?_,xW h.2.2 fun i hi=>List.getElem?_set_ne ?_⟩
   ·rintro rfl;exact hnd.1.1 hi
   ·rintro rfl;exact hnd.1.2 hi
 | q::bs,t,up,m,h,hm,hx,hnd=>by
  cases t with
  | nil=>trivial
  | node m' v l r=>
   obtain ⟨x',hx',hk,h3,h4,h5⟩:=zIQ h;have hmem:m∈((Bt.node m' v l r).kid q).ids:=by
    have hd:m∈(((Bt.node m' v l r).kid q).down bs).ids:=by
     have hm:(((Bt.node m' v l r).kid q).down bs).idx=(m:Int):=hm;cases hc:((Bt.node m' v l r).kid q).down bs with
     | nil=>rw [hc] at hm;simp [idx] at hm
     | node a b c d=>rw [hc] at hm;have hm:(a:Int)=(m:Int):=hm;simp [ids];left;omega
    exact zFj _ hd
   simp only [ids,List.nodup_cons,List.mem_append,not_or,List.nodup_append] at hnd;have hne:m≠m':=by
    rintro rfl;cases q
    ·exact hnd.1.1 hmem
    ·exact hnd.1.2 hmem
   cases q
   ·refine ⟨⟨x',(List.getElem?_set_ne hne).trans hx',(hk false).trans XA.symm,hk true,h3,h4,h5⟩,zA9 h.2.1 hm hx hnd.2.1,xW h.2.2 fun i hi=>List.getElem?_set_ne ?_⟩;rintro rfl;exact hnd.2.2.2 _ hmem _ hi rfl
   ·refine ⟨⟨x',(List.getElem?_set_ne hne).trans hx',hk false,(hk true).trans XA.symm,h3,h4,h5⟩,xW h.2.1 fun i hi=>List.getElem?_set_ne ?_,zA9 h.2.2 hm hx hnd.2.2.1⟩;rintro rfl;exact hnd.2.2.2 _ hi _ hmem rfl
theorem XO {T:Tr} {m:Nat} {v:Option Int} {l r:Bt} {up:Int} {k:Nat} (h:At T.A up (.node m v l r)) (hs:v≠none∨l≠.nil∨r≠.nil∨up = -1):T.prune (k+1) m=some T:=by
 obtain ⟨x,hx,hk,hu,he,hv⟩:=zIQ h;unfold Tr.prune;rw [hx];simp only;rw [if_pos];have h0:x.k0=l.idx:=hk false;have h1:x.k1=r.idx:=hk true;simp only [Bool.or_eq_true,decide_eq_true_eq,Bool.not_eq_true',decide_eq_false_iff_not];rcases hs with hs|hs|hs|hs
 ·left;left;rw [he];cases v with
  | none=>exact absurd rfl hs
  | some _=>rfl
 ·right;intro e
  simp only [List.cons.injEq,and_true] at e;exact hs (Zp.1 (h0.symm.trans e.1))
 ·right;intro e
  simp only [List.cons.injEq,and_true] at e;exact hs (Zp.1 (h1.symm.trans e.2))
 ·left;right;rw [hu,hs]
theorem zF0:∀ (bs:List Bool) (T:Tr) (s:Bt) (up:Int) (F:List Nat) (k:Nat),s.down bs≠.nil->At T.A up s->Inv T s F->s.trimP bs->
  ∃ T1 s1,T.prune (bs.length+1+k) (s.down bs).idx.toNat=T1.prune (1+k) s.idx.toNat/\At T1.A up s1/\s1.idx=s.idx/\Inv T1 s1 F/\(∀ i∈F,T1.A[i]?=T.A[i]?)/\(∀ b,s1.val b=s.val b)/\s1.trim/\T1.n=T.n/\T1.A.length=T.A.length/\s1.cnt=s.cnt
 | [],T,s,up,F,k,hd,ha,hi,ht=>⟨T,s,by rw [List.length_nil,Nat.zero_add];rfl,ha,rfl,hi,fun _ _=>rfl,fun _=>rfl,by cases s <;> exact ht,rfl,rfl,rfl⟩
 | q::bs,T,s,up,F,k,hd,ha,hi,ht=>by
  cases s with
  | nil=>exact absurd down_nil hd
  | node m v l r=>
   obtain ⟨x,hx,hk,hu,he,hv⟩:=zIQ ha;have hml:m<T.A.length:=(List.getElem?_eq_some_iff.1 hx).1;have hik:=zIG hi q;have hd':((Bt.node m v l r).kid q).down bs≠.nil:=hd;have htq:((Bt.node m v l r).kid q).trimP bs:=by cases q <;> first|exact ht.1|exact ht.2
   have hto:((Bt.node m v l r).kid (!q)).full:=by cases q <;> first|exact ht.2|exact ht.1
   have hcn:(Bt.node m v l r).kid q≠.nil:=fun e=>hd' (by rw [e];exact down_nil)
   obtain ⟨T1,s1,g1,g2,g3,g4,g5,g6,g7,g8,g9,g10⟩:=zF0 bs T ((Bt.node m v l r).kid q) m (m::(((Bt.node m v l r).kid (!q)).ids++F)) (k+1) hd' (Wt ha q) hik htq;have e1:(q::bs).length+1+k=bs.length+1+(k+1):=by simp;omega
   have e2:(Bt.node m v l r).down (q::bs)=((Bt.node m v l r).kid q).down bs:=rfl;have e3:(Bt.node m v l r).idx.toNat=m:=by simp [idx]
   rw [e1,e2,g1,e3];have hx1:T1.A[m]?=some x:=(g5 m (by simp)).trans hx
   have hml1:m<T1.A.length:=(List.getElem?_eq_some_iff.1 hx1).1;have hoth:At T1.A m ((Bt.node m v l r).kid (!q)):=xW (Wt ha (!q)) fun i hi=>g5 i (by simp [hi])
   cases s1 with
   | nil=>rw [Zp.1 (g3.symm.trans rfl)] at hcn;exact absurd rfl hcn
   | node c v1 l1 r1=>
    have hxq:x.kid q=(c:Int):=by rw [hk,<-g3];rfl
    have e4:((Bt.node m v l r).kid q).idx.toNat=c:=by rw [<-g3];simp [idx]
    rw [e4];have hcnt:=fun c=>Vi (m:=m) (v:=v) (l:=l) (r:=r) (q:=q) (c:=c);by_cases hl:v1=none/\l1=.nil/\r1=.nil
    ·obtain ⟨rfl,rfl,rfl⟩:=hl;obtain ⟨y,hy,hyk,hyu,hye,_⟩:=zIQ g2;have hnd4:=g4.nodup;simp only [ids,List.nil_append,List.cons_append,List.nodup_cons,List.mem_cons,List.mem_append,not_or,List.append_nil] at hnd4;have hcm:c≠m:=hnd4.1.1;have hother:x.kid (!q)≠(c:Int):=by
      rw [hk];intro e;cases ho:(Bt.node m v l r).kid (!q) with
      | nil=>rw [ho] at e;simp [idx] at e
      | node a1 a2 a3 a4=>
       rw [ho] at e;have e:(a1:Int)=(c:Int):=e;refine hnd4.1.2.1 ?_;rw [ho];simp [ids];left;omega
     have hclr:x.clr (c:Int)=x.setKid q (-1):=by
      unfold Nd.clr Nd.setKid;cases q
      ·have h0:x.k0=(c:Int):=hxq;have h1:x.k1≠(c:Int):=hother;simp [h0,h1]
      ·have h0:x.k1=(c:Int):=hxq;have h1:x.k0≠(c:Int):=hother;simp [h0,h1]
     have hy0:y.k0 = -1:=hyk false;have hy1:y.k1 = -1:=hyk true;have hye:y.ends=false:=hye;have hstep:T1.prune (1+(k+1)) c=Tr.prune (k+1) ⟨T1.A.set m (x.setKid q (-1)),T1.fr++[(c:Int)],T1.n⟩ m:=by
      rw [show 1+(k+1)=(k+1)+1 by omega]
      conv=>lhs;unfold Tr.prune
      rw [hy];simp only [hy0,hy1,hye,hyu];rw [if_neg (by simp),if_neg (by omega),Int.toNat_natCast,hx1]
      simp only;rw [hclr]
     rw [hstep,show k+1=1+k by omega]
     refine ⟨_,(Bt.node m v l r).setKid q .nil,rfl,?_,XP,?_,?_,?_,?_,g8,?_,?_⟩
     ·refine WX (x:=x.setKid q (-1)) (List.getElem?_set_self hml1) ?_ ?_ ?_ ?_ ?_ trivial (xW hoth fun i hi=>List.getElem?_set_ne ?_)
      ·cases q <;> rfl
      ·rw [<-hk];cases q <;> rfl
      ·cases q <;> exact hu
      ·cases q <;> exact he
      ·intro w hw;cases q <;> exact hv w hw
      ·rintro rfl;exact hnd4.2.1.1 hi
     ·refine Wk q ?_;obtain ⟨f,j1,j2⟩:=g4;refine ⟨f++[c],by show T1.fr++[(c:Int)]=_;rw [j1];simp,?_⟩
      simp only [ids,List.nil_append,List.length_set,List.append_nil] at j2 ⊢;refine List.Perm.trans ?_ j2;have:m::(((Bt.node m v l r).kid (!q)).ids++F)++(f++[c])=(m::(((Bt.node m v l r).kid (!q)).ids++F)++f)++[c]:=by simp
      rw [this];exact List.perm_append_comm (l₂:=[c])
     ·intro i hi;show (T1.A.set m _)[i]?=_;rw [List.getElem?_set_ne,g5 i (by simp [hi])]
      rintro rfl;exact hnd4.2.1.2 hi
     ·refine Jc fun b=>?_;rw [<-g6];cases b with
      | nil=>rfl
      | cons a b=>cases a <;> simp [val]
     ·cases q
      ·exact ⟨trivial,hto⟩
      ·exact ⟨hto,trivial⟩
     ·show (T1.A.set m _).length=_;simp [g9]
     ·have:=hcnt .nil;simp [cnt] at this g10 ⊢;omega
    ·have hs:v1≠none∨l1≠.nil∨r1≠.nil:=by
      by_cases a:v1=none
      ·by_cases b:l1=.nil
       ·exact .inr (.inr fun c=>hl ⟨a,b,c⟩)
       ·exact .inr (.inl b)
      ·exact .inl a
     have hat:At T1.A up ((Bt.node m v l r).setKid q (.node c v1 l1 r1)):=WX hx1 hxq (hk _) hu he hv g2 hoth;have hstop1:T1.prune (1+(k+1)) c=some T1:=by
      rw [show 1+(k+1)=(k+1)+1 by omega]
      exact XO g2 (hs.elim .inl fun h=>.inr (h.elim .inl fun h=>.inr (.inl h)))
     have hstop2:T1.prune (1+k) m=some T1:=by
      rw [show 1+k=k+1 by omega]
      cases q
      ·exact XO hat (.inr (.inl (by simp)))
      ·exact XO hat (.inr (.inr (.inl (by simp))))
     refine ⟨T1,(Bt.node m v l r).setKid q (.node c v1 l1 r1),hstop1.trans hstop2.symm,hat,XP,Wk q g4,?_,?_,?_,g8,g9,?_⟩
     ·intro i hi;exact g5 i (by simp [hi])
     ·exact Jc g6
     ·cases q
      ·exact ⟨⟨hs,g7⟩,hto⟩
      ·exact ⟨hto,⟨hs,g7⟩⟩
     ·have:=hcnt (.node c v1 l1 r1);omega
structure Rep (T:Tr) (t:Bool->Bt):Prop where
 at_:∀ q,At T.A (-1) (t q)
 idx:∀ q,(t q).idx=vS q
 inv:Inv T (t false) (t true).ids
 trim:∀ q,(t q).trim
 n:T.n=(((t false).cnt+(t true).cnt:Nat):Int)
def upd (t:Bool->Bt) (q:Bool) (s:Bt):Bool->Bt:=fun q'=>if q'=q then s else t q'
theorem Yj {t:Bool->Bt} {q:Bool} {s:Bt}:upd t q s q=s:=by simp [upd]
theorem upd_ne {t:Bool->Bt} {q:Bool} {s:Bt}:upd t q s (!q)=t (!q):=by cases q <;> simp [upd]
theorem both {p:Bool->Prop} (q:Bool) (h1:p q) (h2:p (!q)):∀ q',p q':=by
 intro q';cases q <;> cases q' <;> assumption
theorem Rep.ne {T:Tr} {t:Bool->Bt} (h:Rep T t) (q:Bool):t q≠.nil:=by
 intro e;have:=h.idx q;rw [e] at this;simp [Bt.idx] at this
theorem zN9 {T:Tr} {t:Bool->Bt} (h:Inv T (t false) (t true).ids) (q:Bool):Inv T (t q) (t (!q)).ids:=by
 cases q
 ·exact h
 ·exact h.perm List.perm_append_comm
theorem zMB {T:Tr} {t:Bool->Bt} (q:Bool) (h:Inv T (t q) (t (!q)).ids):Inv T (t false) (t true).ids:=by
 cases q
 ·exact h
 ·exact h.perm List.perm_append_comm
theorem Rep.idxN {T:Tr} {t:Bool->Bt} (h:Rep T t) (q:Bool):(t q).idx.toNat=vS q:=by rw [h.idx];simp
theorem zOY {t:Bool->Bt} (q:Bool):(t false).cnt+(t true).cnt=(t q).cnt+(t (!q)).cnt:=by cases q <;> simp <;> omega
theorem Rep.new:Rep Tr.new (fun q=>.node (vS q) none .nil .nil):=by
 refine ⟨fun q=>?_,fun q=>rfl,⟨[],rfl,?_⟩,fun q=>⟨trivial,trivial⟩,rfl⟩
 ·cases q
  ·exact ⟨⟨xJ (-1),rfl,rfl,rfl,rfl,rfl,fun w hw=>by cases hw⟩,trivial,trivial⟩
  ·exact ⟨⟨xJ (-1),rfl,rfl,rfl,rfl,rfl,fun w hw=>by cases hw⟩,trivial,trivial⟩
 ·exact List.Perm.refl _
theorem Rep.put {T:Tr} {t:Bool->Bt} (h:Rep T t) (q:Bool) (bs:List Bool) (w:Int):∃ U t',T.plant (vS q) bs w=some U/\Rep U t'/\(∀ q' b,(t' q').val b=if q'=q/\b=bs then some w else (t q').val b)/\(U.A.length=T.A.length∨U.fr=[])/\T.A.length<=U.A.length:=by
 obtain ⟨U,s',k1,k2,k3,k4,k5,k6,k7,k8,k9,k10,k11,_⟩:=zBF w bs T (t q) (-1) (t (!q)).ids (h.ne q) (h.at_ q) (zN9 h.inv q) (h.trim q);rw [h.idxN] at k1;refine ⟨U,upd t q s',k1,⟨?_,?_,?_,?_,?_⟩,?_,k10,k11⟩
 ·exact both q (by rw [Yj];exact k2) (by rw [upd_ne];exact xW (h.at_ _) k5)
 ·exact both q (by rw [Yj,k3];exact h.idx q) (by rw [upd_ne];exact h.idx _)
 ·exact zMB (t:=upd t q s') q (by rw [Yj,upd_ne];exact k4)
 ·exact both q (by rw [Yj];exact k7.trim) (by rw [upd_ne];exact h.trim _)
 ·have hn:=h.n;rw [zOY q] at hn ⊢;rw [Yj,upd_ne];split at k8 <;> simp_all <;> omega
 ·exact both q (fun b=>by rw [Yj,k6];simp) (fun b=>by rw [upd_ne];cases q <;> simp)
theorem Rep.find {T:Tr} {t:Bool->Bt} (h:Rep T t) {p:Pf} (hs:p.sane=true):T.find p=((t p.a.v6).down (p.a.bits p.n.toNat)).idx:=by
 unfold Tr.find;rw [if_pos hs];have:=zDk (bs:=p.a.bits p.n.toNat) (h.ne p.a.v6) (h.at_ p.a.v6)
 rw [h.idxN] at this;rw [this];simp only;have e:=zN3 (t:=t p.a.v6) (bs:=p.a.bits p.n.toNat);rw [yE] at e;exact e
theorem Rep.path {T:Tr} {t:Bool->Bt} (h:Rep T t) (p:Pf):T.path (vS p.a.v6) (p.a.bits p.n.toNat)=some ((t p.a.v6).way (p.a.bits p.n.toNat)):=by
 have:=zDk (bs:=p.a.bits p.n.toNat) (h.ne p.a.v6) (h.at_ p.a.v6)
 rwa [h.idxN] at this
theorem zFK {T:Tr} {t:Bool->Bt} (h:Rep T t) {q:Bool} {bs:List Bool} {m:Nat} {v:Option Int} {l r:Bt} (e:(t q).down bs=.node m v l r):∃ x,T.A[m]?=some x/\x.k0=l.idx/\x.k1=r.idx/\x.ends=v.isSome/\(∀ w,v=some w->x.v=w)/\(t q).val bs=v:=by
 obtain ⟨up',hu⟩:=zDg (bs:=bs) (h.at_ q);rw [e] at hu;obtain ⟨x,h1,h2,h3,h4,h5⟩:=zIQ hu;refine ⟨x,h1,h2 false,h2 true,h4,h5,?_⟩;have:=XT (t:=t q) (bs:=bs) (cs:=[])
 rw [List.append_nil,e] at this;exact this.symm
theorem JM {t:Bt} {bs:List Bool} (e:t.down bs=.nil):t.val bs=none:=by
 have:=XT (t:=t) (bs:=bs) (cs:=[])
 rw [List.append_nil,e] at this;simpa using this.symm
theorem Rep.get {T:Tr} {t:Bool->Bt} (h:Rep T t) {p:Pf} (hs:p.sane=true):T.get p=(t p.a.v6).val (p.a.bits p.n.toNat):=by
 unfold Tr.get;rw [h.find hs];cases e:(t p.a.v6).down (p.a.bits p.n.toNat) with
 | nil=>rw [JM e];simp [Bt.idx]
 | node m v l r=>
  obtain ⟨x,h1,_,_,h4,h5,h6⟩:=zFK h e;rw [h6];simp only [Bt.idx,Int.toNat_natCast,h1,h4];rw [if_neg (by omega)]
  cases v with
  | none=>rfl
  | some w=>simp [h5 w rfl]
theorem Rep.del {T:Tr} {t:Bool->Bt} (h:Rep T t) {p:Pf} (hs:p.sane=true) (hv:((t p.a.v6).val (p.a.bits p.n.toNat)).isSome=true) (hn:p.a.bits p.n.toNat=p.a.bits p.n.toNat/\(p.a.bits p.n.toNat).length<=199):∃ U t',T.del p=some U/\Rep U t'/\(∀ q' b,(t' q').val b=if q'=p.a.v6/\b=p.a.bits p.n.toNat then none else (t q').val b)/\U.A.length=T.A.length:=by
 generalize hbs:p.a.bits p.n.toNat=bs at *;generalize hq:p.a.v6=q at *;cases e:(t q).down bs with
 | nil=>rw [JM e] at hv;cases hv
 | node m v l r=>
  obtain ⟨x,h1,_⟩:=zFK h e;have hi:=zN9 h.inv q;have hnd:=hi.nodup;rw [List.nodup_append] at hnd;have hml:m<T.A.length:=(List.getElem?_eq_some_iff.1 h1).1;have hmq:m∈(t q).ids:=zFj (bs:=bs) m (by rw [e];simp [ids])
  have hat:At (T.A.set m { x with ends:=false }) (-1) ((t q).clear bs):=zA9 (h.at_ q) (by rw [e];rfl) h1 hnd.1
  have hi2:Inv ⟨T.A.set m { x with ends:=false },T.fr,T.n-1⟩ ((t q).clear bs) (t (!q)).ids:=by
   obtain ⟨f,j1,j2⟩:=hi;exact ⟨f,j1,by rw [zJA];simpa using j2⟩
  have hdn:((t q).clear bs).down bs≠.nil:=by
   intro e2;have:=zAN (t:=t q) (bs:=bs)
   rw [e2,e] at this;simp [Bt.idx] at this
  obtain ⟨T1,s1,g1,g2,g3,g4,g5,g6,g7,g8,g9,g10⟩:=zF0 bs ⟨T.A.set m { x with ends:=false },T.fr,T.n-1⟩ ((t q).clear bs) (-1) (t (!q)).ids (199-bs.length) hdn hat hi2 (zFA (h.trim q));have hfd:T.find p=(m:Int):=by rw [h.find hs,hq,hbs,e];rfl
  have hdel:T.del p=T1.prune (1+(199-bs.length)) ((t q).clear bs).idx.toNat:=by
   unfold Tr.del;rw [hfd,Int.toNat_natCast,h1];simp only;rw [<-g1,zAN,e,show bs.length+1+(199-bs.length)=200 by omega]
   simp [Bt.idx]
  have hne:s1≠.nil:=by
   rintro rfl;rw [XA,h.idx] at g3;simp [Bt.idx] at g3
  have hstop:T1.prune (1+(199-bs.length)) ((t q).clear bs).idx.toNat=some T1:=by
   rw [<-g3];cases s1 with
   | nil=>exact absurd rfl hne
   | node a b c d=>
    rw [show 1+(199-bs.length)=(199-bs.length)+1 by omega]
    have:(Bt.node a b c d).idx.toNat=a:=by simp [Bt.idx]
    rw [this];exact XO g2 (.inr (.inr (.inr rfl)))
  refine ⟨T1,upd t q s1,hdel.trans hstop,⟨?_,?_,?_,?_,?_⟩,?_,by rw [g9];simp⟩
  ·refine both q (by rw [Yj];exact g2) ?_
   rw [upd_ne];refine xW (h.at_ _) fun i hi=>?_;rw [g5 i hi];refine List.getElem?_set_ne ?_;rintro rfl;exact hnd.2.2 _ hmq _ hi rfl
  ·exact both q (by rw [Yj,g3,XA];exact h.idx q) (by rw [upd_ne];exact h.idx _)
  ·exact zMB (t:=upd t q s1) q (by rw [Yj,upd_ne];exact g4)
  ·exact both q (by rw [Yj];exact g7) (by rw [upd_ne];exact h.trim _)
  ·have hn':=h.n;have hc:=zIO (t:=t q) (bs:=bs);rw [hv] at hc;rw [zOY q] at hn' ⊢;rw [Yj,upd_ne,g8];simp at hc ⊢;omega
  ·exact both q (fun b=>by rw [Yj,g6,zIw];simp) (fun b=>by rw [upd_ne];cases q <;> simp)
theorem Rep.inside {T:Tr} {t:Bool->Bt} (h:Rep T t) {p:Pf} (hs:p.sane=true):T.inside p=true↔∃ b,b≠[]/\(((t p.a.v6).val (p.a.bits p.n.toNat++b)).isSome=true):=by
 have hfull:∀ (s:Bt),s.full->s≠.nil->∃ b,(s.val b).isSome=true:=by
  intro s;induction s with
  | nil=>exact fun _ h=>absurd rfl h
  | node m v l r ihl ihr=>
   intro hf _;rcases hf.1 with hv|hl|hr
   ·exact ⟨[],by cases v with
     | none=>exact absurd rfl hv
     | some w=>rfl⟩
   ·obtain ⟨b,hb⟩:=ihl hf.2.1 hl;exact ⟨false::b,hb⟩
   ·obtain ⟨b,hb⟩:=ihr hf.2.2 hr;exact ⟨true::b,hb⟩
 have hdt:∀ (bs:List Bool) (s:Bt),s.trim->(s.down bs).trim:=by
  intro bs;induction bs with
  | nil=>exact fun s h=>h
  | cons q bs ih=>
   intro s hst;cases s with
   | nil=>exact ih _ trivial
   | node m v l r=>exact ih _ (by cases q <;> first|exact hst.1.trim|exact hst.2.trim)
 unfold Tr.inside;rw [h.find hs];have ht:=hdt (p.a.bits p.n.toNat) _ (h.trim p.a.v6);have hvd:=fun cs=>XT (t:=t p.a.v6) (bs:=p.a.bits p.n.toNat) (cs:=cs);cases e:(t p.a.v6).down (p.a.bits p.n.toNat) with
 | nil=>
  rw [e] at hvd;simp only [Bt.idx,if_true,Bool.false_eq_true,false_iff];rintro ⟨b,_,hb⟩;rw [<-hvd b] at hb;simp at hb
 | node m v l r=>
  obtain ⟨x,h1,h2,h3,_⟩:=zFK h e;rw [e] at hvd ht;have e0:(Bt.node m v l r).idx=(m:Int):=rfl;rw [e0,if_neg (by omega)]
  simp only [Int.toNat_natCast,h1,h2,h3];constructor
  ·intro hk;simp only [Bool.not_eq_true',decide_eq_false_iff_not,List.cons.injEq,and_true] at hk;by_cases hl:l=.nil
   ·have hr:r≠.nil:=by rintro rfl;subst hl;exact hk ⟨rfl,rfl⟩
    obtain ⟨b,hb⟩:=hfull r ht.2 hr;exact ⟨true::b,by simp,by rw [<-hvd];exact hb⟩
   ·obtain ⟨b,hb⟩:=hfull l ht.1 hl;exact ⟨false::b,by simp,by rw [<-hvd];exact hb⟩
  ·rintro ⟨b,hne,hb⟩;rw [<-hvd b] at hb;have hgoal:¬ (l.idx = -1/\r.idx = -1):=by
    rintro ⟨a1,a2⟩;rw [Zp] at a1 a2;subst a1;subst a2;cases b with
    | nil=>exact hne rfl
    | cons a b=>cases a <;> simp [val] at hb
   simp only [Bool.not_eq_true',decide_eq_false_iff_not,List.cons.injEq,and_true];exact hgoal
end Go.Proofs.YtjcbjclhagobiaaGreat
end
section
namespace Go.Proofs.YtjcbjclhagobiaaGreat
open Go Go.KL Go.KM
open Bt
theorem zL2 {a:Ad} {j:Nat} (h:j<64):a.hi.testBit j=a.dig (63-j):=by
 unfold Ad.dig;rw [if_pos (by omega)];congr 1;omega
theorem zL8 {a:Ad} {j:Nat} (h:j<64):a.lo.testBit j=a.dig (127-j):=by
 unfold Ad.dig;rw [if_neg (by omega)];congr 1;omega
theorem zBQ {x j:Nat} (h:x<18446744073709551616) (hj:64<=j):x.testBit j=false:=by
 refine Nat.testBit_lt_two_pow (Nat.lt_of_lt_of_le h ?_);exact Nat.pow_le_pow_right (n:=2) (by omega) hj
theorem zAc {a b:Ad} (h0:a.v6=b.v6) (h:∀ i,i<128->a.dig i=b.dig i):a=b:=by
 refine Ad.ext ?_ ?_ h0
 ·apply Nat.eq_of_testBit_eq;intro j;by_cases hj:j<64
  ·rw [zL2 hj,zL2 hj,h _ (by omega)]
  ·rw [zBQ a.h1 (by omega),zBQ b.h1 (by omega)]
 ·apply Nat.eq_of_testBit_eq;intro j;by_cases hj:j<64
  ·rw [zL8 hj,zL8 hj,h _ (by omega)]
  ·rw [zBQ a.h2 (by omega),zBQ b.h2 (by omega)]
theorem ZD {a:Ad} {c i:Nat} (h:i<128):(a.cut c).dig i=(a.dig i&&decide (i<c)):=by
 unfold Ad.dig Ad.cut;split
 ·simp only [wT];congr 1;exact decide_eq_decide.2 (by omega)
 ·simp only [wT];congr 1;exact decide_eq_decide.2 (by omega)
theorem wS {p:Pf}:p.sane=true↔(0<=p.n/\p.n<=(width p.a.v6:Int))/\∀ i,p.n.toNat<=i->i<128->p.a.dig i=false:=by
 have hc:0<=p.n->p.n<=(width p.a.v6:Int)->yT p.n p.a.v6=p.n.toNat:=fun h1 h2=>by unfold yT;omega
 constructor
 ·intro h;have hn:=xY h;refine ⟨hn,fun i hi h128=>?_⟩;unfold Pf.sane at h;have h:=congrArg Pf.a (of_decide_eq_true h);rw [h];show (p.a.cut (yT p.n p.a.v6)).dig i=false;rw [ZD h128,hc hn.1 hn.2];simp;omega
 ·rintro ⟨hn,h⟩;unfold Pf.sane;refine decide_eq_true (Pf.ext (zAc rfl fun i hi=>?_) ?_)
  ·show p.a.dig i=(p.a.cut (yT p.n p.a.v6)).dig i;rw [ZD hi,hc hn.1 hn.2];by_cases hlt:i<p.n.toNat
   ·simp [hlt]
   ·rw [h i (by omega) hi];simp
  ·show p.n=((yT p.n p.a.v6:Nat):Int);rw [hc hn.1 hn.2];omega
def Pf.key (p:Pf):List Bool:=p.a.v6::p.a.bits p.n.toNat
theorem wK {p:Pf}:p.key.length=p.n.toNat+1:=by simp [Pf.key,yE]
theorem vK {a:Ad} {m n:Nat} (h:m<=n):(a.bits n).take m=a.bits m:=by
 unfold Ad.bits;rw [<-List.map_take,List.take_range,Nat.min_eq_left h]
theorem zIK {a b:Ad} {n:Nat} (h:a.bits n=b.bits n) {i:Nat} (hi:i<n):a.dig i=b.dig i:=by
 have:=congrArg (·[i]?) h
 simpa [QN hi] using this
theorem Za {p q:Pf} (hp:p.sane=true) (hq:q.sane=true) (h:p.key=q.key):p=q:=by
 obtain ⟨hpn,hpd⟩:=wS.1 hp;obtain ⟨hqn,hqd⟩:=wS.1 hq;have hl:p.n.toNat=q.n.toNat:=by have:=congrArg List.length h;rw [wK,wK] at this;omega
 unfold Pf.key at h;injection h with h1 h2
 refine Pf.ext (zAc h1 fun i hi=>?_) (by omega)
 by_cases hlt:i<p.n.toNat
 ·rw [hl] at h2;exact zIK h2 (by omega)
 ·rw [hpd i (by omega) hi,hqd i (by omega) hi]
theorem zQ {p q:Pf} (hp:p.sane=true) (hq:q.sane=true):p.covers q=true↔p.key <+: q.key:=by
 obtain ⟨hpn,hpd⟩:=wS.1 hp;obtain ⟨hqn,hqd⟩:=wS.1 hq;unfold Pf.covers Pf.has;simp only [hp,hq,Bool.true_and,Bool.and_eq_true,decide_eq_true_eq];constructor
 ·rintro ⟨hle,he⟩;have hv:p.a.v6=q.a.v6:=congrArg (·.a.v6) he;have hc:yT p.n q.a.v6=p.n.toNat:=by unfold yT;rw [hv] at hpn;omega
  have ha:p.a=q.a.cut p.n.toNat:=by have:=congrArg Pf.a he;rw [this];show _=_;unfold ofP;simp only [hc]
  unfold Pf.key;rw [<-hv];refine (List.prefix_cons_inj _).2 ?_;have:p.a.bits p.n.toNat=(q.a.bits q.n.toNat).take p.n.toNat:=by
   rw [vK (by omega)]
   unfold Ad.bits;apply List.map_congr_left;intro i hi;have hi:=List.mem_range.1 hi;rw [ha,ZD (by have:=yD p.a.v6;omega)]
   simp [hi]
  rw [this];exact List.take_prefix _ _
 ·intro h;unfold Pf.key at h;obtain ⟨hv,h⟩:=List.cons_prefix_cons.1 h;have hlen:=h.length_le;rw [yE,yE] at hlen;refine ⟨by omega,Pf.ext (zAc hv fun i hi=>?_) ?_⟩
  ·have hc:yT p.n q.a.v6=p.n.toNat:=by unfold yT;rw [hv] at hpn;omega
   show p.a.dig i=(q.a.cut (yT p.n q.a.v6)).dig i;rw [hc,ZD hi];by_cases hlt:i<p.n.toNat
   ·have e:=List.prefix_iff_eq_take.1 h;rw [yE,vK (by omega)] at e
    simp [hlt,zIK e hlt]
   ·rw [hpd i (by omega) hi];simp [hlt]
  ·show p.n=((yT p.n q.a.v6:Nat):Int);unfold yT;rw [hv] at hpn;omega
theorem zFb {x k j:Nat} {q:Bool} (hk:k<64) (hj:j<64):(zMH x k q).testBit j=if j=k then q else x.testBit j:=by
 unfold zMH;cases q
 ·simp only [Bool.false_eq_true,if_false,ZV,Nat.testBit_two_pow];by_cases e:j=k
  ·simp [e]
  ·simp [e,hj,Ne.symm e]
 ·simp only [if_true,Nat.testBit_or,ZV,Nat.testBit_two_pow];by_cases e:j=k
  ·simp [e]
  ·simp [e,hj,Ne.symm e]
theorem zNX {a:Ad} {i j:Nat} {q:Bool} (hi:i<128) (hj:j<128):(a.put i q).dig j=if j=i then q else a.dig j:=by
 unfold Ad.put;by_cases h:i<64
 ·rw [if_pos h];unfold Ad.dig;by_cases g:j<64
  ·simp only [g,if_true];rw [zFb (by omega) (by omega)]
   by_cases e:j=i
   ·rw [if_pos (by omega),if_pos e]
   ·rw [if_neg (by omega),if_neg e]
  ·simp only [g,if_false];rw [if_neg (by omega)]
 ·rw [if_neg h];unfold Ad.dig;by_cases g:j<64
  ·simp only [g,if_true];rw [if_neg (by omega)]
  ·simp only [g,if_false];rw [zFb (by omega) (by omega)]
   by_cases e:j=i
   ·rw [if_pos (by omega),if_pos e]
   ·rw [if_neg (by omega),if_neg e]
theorem zN1 {a:Ad} {i:Nat} {q:Bool}:(a.put i q).v6=a.v6:=by unfold Ad.put;split <;> rfl
theorem zBU {p:Pf} (hp:p.sane=true) (hw:p.n≠(width p.a.v6:Int)) (v:Int):(p.down v).2=true/\(p.down v).1.sane=true/\(p.down v).1.key=p.key++[decide (v%2=1)]:=by
 obtain ⟨hpn,hpd⟩:=wS.1 hp;have hwl:=yD p.a.v6;have e:p.down v=(⟨p.a.rd.put p.n.toNat (decide (v%2=1)),p.n+1⟩,true):=by
  unfold Pf.down;rw [hp,decide_eq_false hw];simp only [Bool.not_true,Bool.false_or,Bool.false_eq_true,if_false];unfold Ad.set;rw [if_pos (by unfold isD;simp;omega)]
 rw [e];have hdig:∀ i,i<128->(p.a.rd.put p.n.toNat (decide (v%2=1))).dig i=if i=p.n.toNat then decide (v%2=1) else (p.a.dig i&&decide (i<width p.a.v6)):=fun i hi=>by
  rw [zNX (by omega) hi]
  unfold Ad.rd;rw [ZD hi]
 have hv:(p.a.rd.put p.n.toNat (decide (v%2=1))).v6=p.a.v6:=zN1;have hn1:(p.n+1).toNat=p.n.toNat+1:=by omega
 refine ⟨rfl,wS.2 ⟨⟨?_,?_⟩,fun i h1 h2=>?_⟩,?_⟩
 ·show 0<=p.n+1;omega
 ·show p.n+1<=_;simp only [hv];omega
 ·simp only [hn1] at h1;show (p.a.rd.put p.n.toNat (decide (v%2=1))).dig i=false;rw [hdig i h2,if_neg (by omega),hpd i (by omega) h2];rfl
 ·unfold Pf.key;simp only [hv,hn1,List.cons_append];congr 1;unfold Ad.bits;rw [List.range_succ,List.map_append];congr 1
  ·apply List.map_congr_left;intro i hi;have hi:=List.mem_range.1 hi;rw [hdig i (by omega),if_neg (by omega)]
   simp;omega
  ·simp [hdig p.n.toNat (by omega)]
theorem Jp {p:Pf} (hw:p.n=(width p.a.v6:Int)) (v:Int):(p.down v).2=false:=by
 unfold Pf.down;rw [decide_eq_true hw];simp
theorem zCH {a:Ad} {n:Int}:(ofP a n).sane=true:=by
 refine wS.2 ⟨⟨?_,?_⟩,fun i h1 h2=>?_⟩
 ·show 0<=((yT n a.v6:Nat):Int);omega
 ·show ((yT n a.v6:Nat):Int)<=(width a.v6:Int);have:=zIk n a.v6;omega
 ·show (a.cut (yT n a.v6)).dig i=false;rw [ZD h2];have h1:yT n a.v6<=i:=by simpa [ofP] using h1
  simp;omega
theorem zNb {a:Ad} {j:Nat} (h:j<=width a.v6):(ofP a (j:Int)).key=a.v6::a.bits j:=by
 have hc:yT (j:Int) a.v6=j:=by unfold yT;omega
 unfold Pf.key ofP;simp only [hc,Int.toNat_natCast];congr 1;unfold Ad.bits;apply List.map_congr_left;intro i hi;have hi:=List.mem_range.1 hi;rw [ZD (by have:=yD a.v6;omega)]
 simp [hi]
def ltB:List Bool->List Bool->Bool
 | [],[]=>false
 | [],_::_=>true
 | _::_,[]=>false
 | a::x,b::y=>if a=b then ltB x y else b
theorem zZ:∀ x,ltB x x=false
 | []=>rfl
 | a::x=>by simp [ltB,zZ x]
theorem Yo:∀ {x y z},ltB x y=true->ltB y z=true->ltB x z=true
 | [],[],_,h,_=>by cases h
 | [],_::_,[],_,h=>by cases h
 | [],_::_,_::_,_,_=>rfl
 | _::_,[],_,h,_=>by cases h
 | _::_,_::_,[],_,h=>by cases h
 | a::x,b::y,c::z,h,k=>by
  unfold ltB at h k ⊢;by_cases e:a=b
  ·subst e;rw [if_pos rfl] at h;by_cases f:a=c
   ·rw [if_pos f] at k ⊢;exact Yo h k
   ·rw [if_neg f] at k ⊢;exact k
  ·rw [if_neg e] at h;by_cases f:b=c
   ·subst f;rw [if_neg e];exact h
   ·rw [if_neg f] at k;exfalso;subst h;subst k;exact f rfl
theorem JO {x y:List Bool} (h:ltB x y=true):ltB y x=false:=by
 cases e:ltB y x with
 | false=>rfl
 | true=>have:=Yo h e;rw [zZ] at this;cases this
theorem ltB_total:∀ x y,ltB x y=true∨x=y∨ltB y x=true
 | [],[]=>.inr (.inl rfl)
 | [],_::_=>.inl rfl
 | _::_,[]=>.inr (.inr rfl)
 | a::x,b::y=>by
  by_cases e:a=b
  ·subst e;rcases ltB_total x y with h|h|h
   ·exact .inl (by simp [ltB,h])
   ·exact .inr (.inl (by rw [h]))
   ·exact .inr (.inr (by simp [ltB,h]))
  ·cases a <;> cases b <;> simp [ltB] at e ⊢
theorem zA1 (p x y:List Bool):ltB (p++x) (p++y)=ltB x y:=by
 induction p with
 | nil=>rfl
 | cons a p ih=>simp [ltB,ih]
theorem zD8 {x y:List Bool} (h:x <+: y) (hne:x≠y):ltB x y=true:=by
 obtain ⟨z,rfl⟩:=h;have:=zA1 x [] z
 rw [List.append_nil] at this;rw [this];cases z with
 | nil=>exact absurd (by simp) hne
 | cons _ _=>rfl
theorem VZ {α:Type} {R:α->α->Prop} (hir:∀ x,¬ R x x) (has:∀ x y,R x y->¬ R y x):∀ {l1 l2:List α},l1.Pairwise R->l2.Pairwise R->(∀ x,x∈l1↔x∈l2)->l1=l2
 | [],[],_,_,_=>rfl
 | [],b::l2,_,_,h=>by have:=(h b).2 (by simp);simp at this
 | a::l1,[],_,_,h=>by have:=(h a).1 (by simp);simp at this
 | a::l1,b::l2,h1,h2,h=>by
  rw [List.pairwise_cons] at h1 h2;have e:a=b:=by
   have ha:=(h a).1 (by simp)
   have hb:=(h b).2 (by simp)
   rcases List.mem_cons.1 ha with rfl|ha
   ·rfl
   rcases List.mem_cons.1 hb with rfl|hb
   ·rfl
   exact absurd (h1.1 _ hb) (has _ _ (h2.1 _ ha))
  subst e;congr 1;refine VZ hir has h1.2 h2.2 fun x=>?_;have:=h x
  simp only [List.mem_cons] at this;constructor
  ·intro hx;rcases this.1 (.inr hx) with rfl|hx'
   ·exact absurd (h1.1 _ hx) (hir _)
   ·exact hx'
  ·intro hx;rcases this.2 (.inr hx) with rfl|hx'
   ·exact absurd (h2.1 _ hx) (hir _)
   ·exact hx'
def Bt.toL:Bt->List Bool->List (List Bool×Int)
 | .nil,_=>[]
 | .node _ v l r,pre=>v.toList.map (fun w=>(pre,w))++(l.toL (pre++[false])++r.toL (pre++[true]))
theorem VD {t:Bt}:∀ {pre:List Bool} {k:List Bool} {w:Int},(k,w)∈t.toL pre↔∃ b,k=pre++b/\t.val b=some w:=by
 induction t with
 | nil=>intro pre k w;simp [Bt.toL]
 | node m v l r ihl ihr=>
  intro pre k w;simp only [Bt.toL,List.mem_append,ihl,ihr];constructor
  ·rintro (h|⟨b,rfl,h⟩|⟨b,rfl,h⟩)
   ·cases v with
    | none=>simp at h
    | some v=>simp at h;exact ⟨[],by simp [h.1],by simp [val,h.2]⟩
   ·exact ⟨false::b,by simp,h⟩
   ·exact ⟨true::b,by simp,h⟩
  ·rintro ⟨b,rfl,h⟩;cases b with
   | nil=>left;simp [val] at h;simp [h]
   | cons a b=>
    cases a
    ·right;left;exact ⟨b,by simp,h⟩
    ·right;right;exact ⟨b,by simp,h⟩
theorem WD {t:Bt} {pre:List Bool} {x:List Bool×Int} (h:x∈t.toL pre):∃ b,x.1=pre++b:=by
 obtain ⟨b,h,_⟩:=VD (k:=x.1) (w:=x.2).1 h;exact ⟨b,h⟩
abbrev ltK (x y:List Bool×Int):Prop:=ltB x.1 y.1=true
theorem VQ {t:Bt}:∀ {pre:List Bool},(t.toL pre).Pairwise ltK:=by
 induction t with
 | nil=>intro pre;exact List.Pairwise.nil
 | node m v l r ihl ihr=>
  intro pre;unfold Bt.toL;rw [List.pairwise_append];refine ⟨by cases v <;> simp,?_,?_⟩
  ·rw [List.pairwise_append];refine ⟨ihl,ihr,fun x hx y hy=>?_⟩;obtain ⟨b,hb⟩:=WD hx;obtain ⟨c,hc⟩:=WD hy;show ltB x.1 y.1=true;rw [hb,hc,List.append_assoc,List.append_assoc,zA1];rfl
  ·intro x hx y hy;have hx1:x.1=pre:=by cases v <;> simp at hx;rw [hx]
   have:∃ a c,y.1=pre++a::c:=by
    rcases List.mem_append.1 hy with hy|hy
    ·obtain ⟨c,hc⟩:=WD hy;exact ⟨false,c,by simpa using hc⟩
    ·obtain ⟨c,hc⟩:=WD hy;exact ⟨true,c,by simpa using hc⟩
   obtain ⟨a,c,hc⟩:=this;show ltB x.1 y.1=true;rw [hx1,hc];have:=zA1 pre [] (a::c)
   rw [List.append_nil] at this;rw [this];rfl
def content (t:Bool->Bt):List (List Bool×Int):=(t false).toL [false]++(t true).toL [true]
theorem Jz {t:Bool->Bt}:(content t).Pairwise ltK:=by
 unfold content;rw [List.pairwise_append];refine ⟨VQ,VQ,fun x hx y hy=>?_⟩;obtain ⟨b,hb⟩:=WD hx;obtain ⟨c,hc⟩:=WD hy;show ltB x.1 y.1=true;rw [hb,hc];rfl
theorem Xx {t:Bool->Bt} {k:List Bool} {w:Int}:(k,w)∈content t↔∃ q b,k=q::b/\(t q).val b=some w:=by
 unfold content;rw [List.mem_append,VD,VD];constructor
 ·rintro (⟨b,h1,h2⟩|⟨b,h1,h2⟩)
  ·exact ⟨false,b,h1,h2⟩
  ·exact ⟨true,b,h1,h2⟩
 ·rintro ⟨q,b,h1,h2⟩;cases q
  ·exact .inl ⟨b,h1,h2⟩
  ·exact .inr ⟨b,h1,h2⟩
theorem zKW {l1 l2:List (List Bool×Int)} (h1:l1.Pairwise ltK) (h2:l2.Pairwise ltK) (h:∀ k w,(k,w)∈l1↔(k,w)∈l2):l1=l2:=
 VZ (fun x hx=>by have:ltB x.1 x.1=true:=hx;rw [zZ] at this;cases this) (fun x y hx hy=>by have:=JO hx;rw [show ltB y.1 x.1=true from hy] at this;cases this) h1 h2 fun ⟨k,w⟩=>h k w
abbrev Prs:=List (Pf×Int)
abbrev pk (x:Pf×Int):List Bool×Int:=(x.1.key,x.2)
structure Srt (m:Prs):Prop where
 lt:(m.map pk).Pairwise ltK
 sane:∀ x∈m,x.1.sane=true
def Prs.get (m:Prs) (p:Pf):Option Int:=(m.find? (fun x=>decide (x.1=p))).map (·.2)
def Prs.ins:Prs->Pf->Int->Prs
 | [],p,v=>[(p,v)]
 | x::m,p,v=>if ltB p.key x.1.key then (p,v)::x::m else if x.1=p then (p,v)::m else x::Prs.ins m p v
def Prs.del (m:Prs) (p:Pf):Prs:=m.filter fun x=>!decide (x.1=p)
def Prs.above (m:Prs) (p:Pf):Prs:=m.filter fun x=>x.1.covers p
def Prs.under (m:Prs) (p:Pf):Prs:=m.filter fun x=>p.covers x.1
def Prs.inside (m:Prs) (p:Pf):Bool:=m.any fun x=>!decide (x.1=p)&&p.covers x.1
theorem Srt.nil:Srt []:=⟨List.Pairwise.nil,fun x h=>by cases h⟩
theorem Srt.tail {x:Pf×Int} {m:Prs} (h:Srt (x::m)):Srt m:=⟨(List.pairwise_cons.1 h.lt).2,fun y hy=>h.sane y (List.mem_cons_of_mem _ hy)⟩
theorem Srt.head {x:Pf×Int} {m:Prs} (h:Srt (x::m)):∀ y∈m,ltB x.1.key y.1.key=true:=fun y hy=>(List.pairwise_cons.1 h.lt).1 (pk y) (List.mem_map_of_mem hy)
theorem Srt.filter {m:Prs} (h:Srt m) (f:Pf×Int->Bool):Srt (m.filter f):=
 ⟨h.lt.sublist ((List.filter_sublist).map pk),fun x hx=>h.sane x (List.mem_filter.1 hx).1⟩
theorem Srt.uniq {m:Prs} (h:Srt m):∀ {p:Pf} {a b:Int},(p,a)∈m->(p,b)∈m->a=b:=by
 induction m with
 | nil=>intro p a b ha;cases ha
 | cons x m ih=>
  intro p a b ha hb;rcases List.mem_cons.1 ha with rfl|ha' <;> rcases List.mem_cons.1 hb with hb'|hb'
  ·exact (congrArg Prod.snd hb').symm
  ·have:=h.head (p,b) hb';rw [zZ] at this;cases this
  ·subst hb';have:=h.head (p,a) ha';rw [zZ] at this;cases this
  ·exact ih h.tail ha' hb'
theorem XH {m:Prs} (h:Srt m) {p:Pf} {w:Int}:m.get p=some w↔(p,w)∈m:=by
 unfold Prs.get;constructor
 ·intro e;obtain ⟨x,hx,rfl⟩:=Option.map_eq_some_iff.1 e;have h1:=List.mem_of_find?_eq_some hx;have h2:=List.find?_some hx;have:x.1=p:=of_decide_eq_true h2
  rw [<-this];exact h1
 ·intro hm;cases e:m.find? (fun x=>decide (x.1=p)) with
  | none=>have:=List.find?_eq_none.1 e _ hm;simp at this
  | some x=>
   have h1:=List.mem_of_find?_eq_some e;have h2:x.1=p:=of_decide_eq_true (List.find?_some (p:=fun x:Pf×Int=>decide (x.1=p)) e);have:(p,x.2)∈m:=by rw [<-h2];exact h1
   rw [Option.map_some,h.uniq this hm]
theorem Yz {m:Prs} (h:Srt m) {p:Pf} (hp:p.sane=true) {v:Int} {y:Pf×Int}:y∈m.ins p v↔y=(p,v)∨(y∈m/\y.1≠p):=by
 induction m with
 | nil=>simp [Prs.ins]
 | cons x m ih=>
  have hh:=h.head;unfold Prs.ins;by_cases c:ltB p.key x.1.key=true
  ·rw [if_pos c];simp only [List.mem_cons];have hx:∀ y∈x::m,y.1≠p:=by
    intro y hy e;rcases List.mem_cons.1 hy with rfl|hy
    ·rw [e,zZ] at c;cases c
    ·have:=Yo c (hh y hy);rw [e,zZ] at this;cases this
   constructor
   ·rintro (e|e|e)
    ·exact .inl e
    ·exact .inr ⟨.inl e,hx y (by simp [e])⟩
    ·exact .inr ⟨.inr e,hx y (by simp [e])⟩
   ·rintro (e|⟨e,_⟩)
    ·exact .inl e
    ·exact .inr e
  ·rw [if_neg c];by_cases c2:x.1=p
   ·rw [if_pos c2];simp only [List.mem_cons];have hx:∀ y∈m,y.1≠p:=by
     intro y hy e;have:=hh y hy;rw [e,c2,zZ] at this;cases this
    constructor
    ·rintro (e|e)
     ·exact .inl e
     ·exact .inr ⟨.inr e,hx y e⟩
    ·rintro (e|⟨e|e,ne⟩)
     ·exact .inl e
     ·subst e;exact absurd c2 ne
     ·exact .inr e
   ·rw [if_neg c2];simp only [List.mem_cons,ih h.tail];constructor
    ·rintro (e|e|⟨e,ne⟩)
     ·subst e;exact .inr ⟨.inl rfl,c2⟩
     ·exact .inl e
     ·exact .inr ⟨.inr e,ne⟩
    ·rintro (e|⟨e|e,ne⟩)
     ·exact .inr (.inl e)
     ·exact .inl e
     ·exact .inr (.inr ⟨e,ne⟩)
theorem Srt.ins {m:Prs} (h:Srt m) {p:Pf} (hp:p.sane=true) (v:Int):Srt (m.ins p v):=by
 refine ⟨?_,fun y hy=>?_⟩
 ·induction m with
  | nil=>simp [Prs.ins]
  | cons x m ih=>
   have hh:=h.head;unfold Prs.ins;by_cases c:ltB p.key x.1.key=true
   ·rw [if_pos c];simp only [List.map_cons];refine List.pairwise_cons.2 ⟨fun y hy=>?_,h.lt⟩;rcases List.mem_cons.1 hy with rfl|hy
    ·exact c
    ·obtain ⟨z,hz,rfl⟩:=List.mem_map.1 hy;exact Yo c (hh z hz)
   ·rw [if_neg c];by_cases c2:x.1=p
    ·rw [if_pos c2];refine List.pairwise_cons.2 ⟨fun y hy=>?_,h.tail.lt⟩;obtain ⟨z,hz,rfl⟩:=List.mem_map.1 hy;show ltB p.key z.1.key=true;rw [<-c2];exact hh z hz
    ·rw [if_neg c2];refine List.pairwise_cons.2 ⟨fun y hy=>?_,ih h.tail⟩;obtain ⟨z,hz,rfl⟩:=List.mem_map.1 hy;rcases (Yz h.tail hp).1 hz with rfl|⟨hz,_⟩
     ·show ltB x.1.key p.key=true;rcases ltB_total x.1.key p.key with a|a|a
      ·exact a
      ·exact absurd (Za (h.sane x (by simp)) hp a) c2
      ·exact absurd a c
     ·exact hh z hz
 ·rcases (Yz h hp).1 hy with rfl|⟨hy,_⟩
  ·exact hp
  ·exact h.sane y hy
structure Hold (t:Bool->Bt) (m:Prs):Prop where
 srt:Srt m
 eq:content t=m.map pk
theorem Hold.val {t:Bool->Bt} {m:Prs} (h:Hold t m) {p:Pf} (hp:p.sane=true):(t p.a.v6).val (p.a.bits p.n.toNat)=m.get p:=by
 have key:∀ w,(t p.a.v6).val (p.a.bits p.n.toNat)=some w↔m.get p=some w:=by
  intro w;rw [XH h.srt];have:(p.key,w)∈content t↔(t p.a.v6).val (p.a.bits p.n.toNat)=some w:=by
   rw [Xx];constructor
   ·rintro ⟨q,b,h1,h2⟩;unfold Pf.key at h1;injection h1 with h1 h3;subst h1;subst h3;exact h2
   ·intro h2;exact ⟨_,_,rfl,h2⟩
  rw [<-this,h.eq,List.mem_map];constructor
  ·rintro ⟨x,hx,e⟩;have e1:=congrArg Prod.fst e;have e2:=congrArg Prod.snd e;have:=Za (h.srt.sane x hx) hp e1
   have e2:x.2=w:=e2;rw [<-this,<-e2];exact hx
  ·intro hx;exact ⟨_,hx,rfl⟩
 cases e:(t p.a.v6).val (p.a.bits p.n.toNat) with
 | some w=>exact ((key w).1 e).symm
 | none=>
  cases e2:m.get p with
  | none=>rfl
  | some w=>rw [(key w).2 e2] at e;cases e
theorem Hold.mem {t:Bool->Bt} {m:Prs} (h:Hold t m) {q:Bool} {b:List Bool} {w:Int}:(t q).val b=some w↔∃ x∈m,x.1.key=q::b/\x.2=w:=by
 have:(q::b,w)∈content t↔(t q).val b=some w:=by
  rw [Xx];constructor
  ·rintro ⟨q',b',h1,h2⟩;injection h1 with h1 h3;subst h1;subst h3;exact h2
  ·intro h2;exact ⟨_,_,rfl,h2⟩
 rw [<-this,h.eq,List.mem_map];constructor
 ·rintro ⟨x,hx,e⟩;exact ⟨x,hx,congrArg Prod.fst e,congrArg Prod.snd e⟩
 ·rintro ⟨x,hx,e1,e2⟩;exact ⟨x,hx,Prod.ext e1 e2⟩
theorem Hold.of {t:Bool->Bt} {m:Prs} (hs:Srt m) (h:∀ q b w,(t q).val b=some w↔∃ x∈m,x.1.key=q::b/\x.2=w):Hold t m:=by
 refine ⟨hs,zKW Jz hs.lt fun k w=>?_⟩;rw [Xx,List.mem_map];constructor
 ·rintro ⟨q,b,rfl,e⟩;obtain ⟨x,hx,e1,e2⟩:=(h q b w).1 e;exact ⟨x,hx,Prod.ext e1 e2⟩
 ·rintro ⟨x,hx,e⟩;have e1:=congrArg Prod.fst e;have e2:=congrArg Prod.snd e;exact ⟨x.1.a.v6,x.1.a.bits x.1.n.toNat,e1.symm,(h _ _ _).2 ⟨x,hx,rfl,e2⟩⟩
theorem Hold.new:Hold (fun q=>.node (vS q) none .nil .nil) []:=⟨Srt.nil,by rfl⟩
theorem Hold.put {t t':Bool->Bt} {m:Prs} (h:Hold t m) {p:Pf} (hp:p.sane=true) {w:Int} (hv:∀ q b,(t' q).val b=if q=p.a.v6/\b=p.a.bits p.n.toNat then some w else (t q).val b):Hold t' (m.ins p w):=by
 refine Hold.of (h.srt.ins hp w) fun q b u=>?_;rw [hv];constructor
 ·intro e;split at e
  ·rename_i c
   cases e
   exact ⟨(p,w),(Yz h.srt hp).2 (.inl rfl),by rw [c.1,c.2];rfl,rfl⟩
  ·rename_i c
   obtain ⟨x,hx,e1,e2⟩:=h.mem.1 e;refine ⟨x,(Yz h.srt hp).2 (.inr ⟨hx,?_⟩),e1,e2⟩;rintro rfl;unfold Pf.key at e1;injection e1 with a1 a2
   exact c ⟨a1.symm,a2.symm⟩
 ·rintro ⟨x,hx,e1,e2⟩;rcases (Yz h.srt hp).1 hx with rfl|⟨hx,hne⟩
  ·unfold Pf.key at e1;injection e1 with a1 a2
   rw [if_pos ⟨a1.symm,a2.symm⟩,<-e2]
  ·rw [if_neg]
   ·exact h.mem.2 ⟨x,hx,e1,e2⟩
   ·rintro ⟨a1,a2⟩;refine hne (Za (h.srt.sane x hx) hp ?_);rw [e1,a1,a2];rfl
theorem Hold.del {t t':Bool->Bt} {m:Prs} (h:Hold t m) {p:Pf} (hp:p.sane=true) (hv:∀ q b,(t' q).val b=if q=p.a.v6/\b=p.a.bits p.n.toNat then none else (t q).val b):Hold t' (m.del p):=by
 refine Hold.of (h.srt.filter _) fun q b u=>?_;rw [hv];constructor
 ·intro e;split at e
  ·cases e
  ·rename_i c
   obtain ⟨x,hx,e1,e2⟩:=h.mem.1 e;refine ⟨x,List.mem_filter.2 ⟨hx,?_⟩,e1,e2⟩;simp only [Bool.not_eq_true',decide_eq_false_iff_not];rintro rfl;unfold Pf.key at e1;injection e1 with a1 a2
   exact c ⟨a1.symm,a2.symm⟩
 ·rintro ⟨x,hx,e1,e2⟩;obtain ⟨hx,hne⟩:=List.mem_filter.1 hx;simp only [Bool.not_eq_true',decide_eq_false_iff_not] at hne;rw [if_neg]
  ·exact h.mem.2 ⟨x,hx,e1,e2⟩
  ·rintro ⟨a1,a2⟩;refine hne (Za (h.srt.sane x hx) hp ?_);rw [e1,a1,a2];rfl
theorem Hold.inside {t:Bool->Bt} {m:Prs} (h:Hold t m) {p:Pf} (hp:p.sane=true):(∃ b,b≠[]/\((t p.a.v6).val (p.a.bits p.n.toNat++b)).isSome=true)↔m.inside p=true:=by
 unfold Prs.inside;rw [List.any_eq_true];constructor
 ·rintro ⟨b,hb,hv⟩;obtain ⟨w,hw⟩:=Option.isSome_iff_exists.1 hv;obtain ⟨x,hx,e1,e2⟩:=h.mem.1 hw;have e1:x.1.key=p.key++b:=e1;refine ⟨x,hx,?_⟩;simp only [Bool.and_eq_true,Bool.not_eq_true',decide_eq_false_iff_not];refine ⟨?_,(zQ hp (h.srt.sane x hx)).2 ⟨b,e1.symm⟩⟩;intro e;rw [e] at e1;have:=congrArg List.length e1
  rw [List.length_append] at this;have:b.length=0:=by omega
  exact hb (List.length_eq_zero_iff.1 this)
 ·rintro ⟨x,hx,e⟩;simp only [Bool.and_eq_true,Bool.not_eq_true',decide_eq_false_iff_not] at e;obtain ⟨b,hb⟩:=(zQ hp (h.srt.sane x hx)).1 e.2;refine ⟨b,?_,?_⟩
  ·rintro rfl;rw [List.append_nil] at hb;exact e.1 (Za (h.srt.sane x hx) hp hb.symm)
  ·rw [Option.isSome_iff_exists];exact ⟨x.2,h.mem.2 ⟨x,hx,hb.symm,rfl⟩⟩
end Go.Proofs.YtjcbjclhagobiaaGreat
end
section
namespace Go.Proofs.YtjcbjclhagobiaaGreat
open Go Go.KL Go.KM
open Bt
theorem zJG:∀ {bs:List Bool} {t:Bt} {j:Nat},j<=bs.length->(∀ m,(t.way bs)[j]?=some m↔∃ v l r,t.down (bs.take j)=.node m v l r)
 | bs,.nil,j,_,m=>by simp [way]
 | [],.node m' v l r,0,_,m=>by
  simp only [way,List.take_nil,down,List.getElem?_cons_zero,Option.some.injEq,Bt.node.injEq];constructor
  ·rintro rfl;exact ⟨v,l,r,rfl,rfl,rfl,rfl⟩
  ·rintro ⟨_,_,_,h,_⟩;exact h
 | [],.node m' v l r,j+1,h,m=>by simp at h
 | q::bs,.node m' v l r,0,_,m=>by
  have hw:way (.node m' v l r) (q::bs)=m'::((Bt.node m' v l r).kid q).way bs:=by cases q <;> rfl
  rw [hw];simp only [List.take_zero,down,List.getElem?_cons_zero,Option.some.injEq,Bt.node.injEq];constructor
  ·rintro rfl;exact ⟨v,l,r,rfl,rfl,rfl,rfl⟩
  ·rintro ⟨_,_,_,h,_⟩;exact h
 | q::bs,.node m' v l r,j+1,h,m=>by
  have hw:way (.node m' v l r) (q::bs)=m'::((Bt.node m' v l r).kid q).way bs:=by cases q <;> rfl
  rw [hw,List.getElem?_cons_succ,List.take_succ_cons];exact zJG (by simpa using h) m
theorem zIh:∀ {bs:List Bool} {t:Bt},(t.way bs).length<=bs.length+1
 | bs,.nil=>by simp [way]
 | [],.node _ _ _ _=>by simp [way]
 | q::bs,.node m v l r=>by
  have hw:way (.node m v l r) (q::bs)=m::((Bt.node m v l r).kid q).way bs:=by cases q <;> rfl
  rw [hw];have:=zIh (bs:=bs) (t:=(Bt.node m v l r).kid q)
  simp;omega
theorem zMW {T:Tr} {t:Bool->Bt} (h:Rep T t) (p:Pf) {j:Nat} (hj:j<=p.n.toNat):T.abN p ((t p.a.v6).way (p.a.bits p.n.toNat)) j=((t p.a.v6).val (p.a.bits j)).toList.map fun w=>(ofP p.a j,w):=by
 have hw:=zJG (bs:=p.a.bits p.n.toNat) (t:=t p.a.v6) (j:=j) (by rw [yE];exact hj)
 rw [vK hj] at hw;unfold Tr.abN;cases e:((t p.a.v6).way (p.a.bits p.n.toNat))[j]? with
 | none=>
  have:(t p.a.v6).down (p.a.bits j)=.nil:=by
   cases d:(t p.a.v6).down (p.a.bits j) with
   | nil=>rfl
   | node m v l r=>rw [(hw m).2 ⟨v,l,r,d⟩] at e;cases e
  rw [JM this];rfl
 | some m=>
  obtain ⟨v,l,r,d⟩:=(hw m).1 e;obtain ⟨x,h1,_,_,h4,h5,h6⟩:=zFK h d;rw [h6];simp only [h1,h4];cases v with
  | none=>rfl
  | some w=>simp [h5 w rfl]
theorem zMw {T:Tr} {t:Bool->Bt} (h:Rep T t) (p:Pf):T.above p=(List.range (p.n.toNat+1)).flatMap fun j=>((t p.a.v6).val (p.a.bits j)).toList.map fun w=>(ofP p.a (j:Nat),w):=by
 unfold Tr.above;rw [h.path p];simp only;have hl:=zIh (bs:=p.a.bits p.n.toNat) (t:=t p.a.v6);rw [yE] at hl;have hx:∀ k,T.abs p ((t p.a.v6).way (p.a.bits p.n.toNat)) (((t p.a.v6).way (p.a.bits p.n.toNat)).length+k)=T.abs p ((t p.a.v6).way (p.a.bits p.n.toNat)) ((t p.a.v6).way (p.a.bits p.n.toNat)).length:=by
  intro k;induction k with
  | zero=>rfl
  | succ k ih=>
   rw [<-Nat.add_assoc,zBT,ih];unfold Tr.abN;rw [List.getElem?_eq_none (by omega)]
   simp
 rw [<-hx (p.n.toNat+1-((t p.a.v6).way (p.a.bits p.n.toNat)).length),Nat.add_sub_cancel' hl];unfold Tr.abs;have:∀ n,n<=p.n.toNat+1->(List.range n).flatMap (T.abN p ((t p.a.v6).way (p.a.bits p.n.toNat)))=(List.range n).flatMap fun j=>((t p.a.v6).val (p.a.bits j)).toList.map fun w=>(ofP p.a (j:Nat),w):=by
  intro n;induction n with
  | zero=>intro _;rfl
  | succ n ih=>
   intro hn;rw [List.range_succ,List.flatMap_append,List.flatMap_append,ih (by omega)]
   simp [zMW h p (j:=n) (by omega)]
 exact this _ (Nat.le_refl _)
abbrev ltP (x y:Pf×Int):Prop:=ltB x.1.key y.1.key=true
theorem Srt.ltP {m:Prs} (h:Srt m):m.Pairwise ltP:=by have:=h.lt;rwa [List.pairwise_map] at this
theorem zEa {l1 l2:Prs} (h1:l1.Pairwise ltP) (h2:l2.Pairwise ltP) (h:∀ x,x∈l1↔x∈l2):l1=l2:=
 VZ (fun x hx=>by have:ltB x.1.key x.1.key=true:=hx;rw [zZ] at this;cases this) (fun x y hx hy=>by have:=JO hx;rw [show ltB y.1.key x.1.key=true from hy] at this;cases this) h1 h2 h
theorem Hold.above {T:Tr} {t:Bool->Bt} {m:Prs} (hr:Rep T t) (h:Hold t m) {p:Pf} (hp:p.sane=true):T.above p=m.above p:=by
 have hn:=xY hp;have hk:∀ j,j<=p.n.toNat->(ofP p.a (j:Nat)).key=p.a.v6::p.a.bits j:=fun j hj=>zNb (by omega)
 rw [zMw hr p];refine zEa ?_ ((h.srt.filter _).ltP) fun x=>?_
 ·rw [List.pairwise_flatMap];refine ⟨fun j _=>by cases (t p.a.v6).val (p.a.bits j) <;> simp,?_⟩
  refine List.Pairwise.imp_of_mem (R:=fun a b=>a<b) ?_ List.pairwise_lt_range;intro i j hi hj hlt x hx y hy;have hi:=List.mem_range.1 hi;have hj:=List.mem_range.1 hj;have ex:x.1=ofP p.a (i:Nat):=by cases e:(t p.a.v6).val (p.a.bits i) <;> rw [e] at hx <;> simp at hx;rw [hx]
  have ey:y.1=ofP p.a (j:Nat):=by cases e:(t p.a.v6).val (p.a.bits j) <;> rw [e] at hy <;> simp at hy;rw [hy]
  show ltB x.1.key y.1.key=true;rw [ex,ey,hk i (by omega),hk j (by omega)]
  refine zD8 ((List.prefix_cons_inj _).2 ?_) ?_
  ·rw [<-vK (Nat.le_of_lt hlt)];exact List.take_prefix _ _
  ·intro e;have:=congrArg List.length e
   simp [yE] at this;omega
 ·rw [List.mem_flatMap];constructor
  ·rintro ⟨j,hj,hx⟩;have hj:=List.mem_range.1 hj;cases e:(t p.a.v6).val (p.a.bits j) with
   | none=>rw [e] at hx;simp at hx
   | some w=>
    rw [e] at hx;simp at hx;obtain ⟨y,hy,e1,e2⟩:=h.mem.1 e;have:y.1=ofP p.a (j:Nat):=Za (h.srt.sane y hy) zCH (by rw [e1,hk j (by omega)])
    have hxy:x=y:=by rw [hx,<-this,<-e2]
    rw [hxy];refine List.mem_filter.2 ⟨hy,(zQ (h.srt.sane y hy) hp).2 ?_⟩;rw [e1];refine (List.prefix_cons_inj _).2 ?_;rw [<-vK (show j<=p.n.toNat by omega)];exact List.take_prefix _ _
  ·intro hx;obtain ⟨hx,hc⟩:=List.mem_filter.1 hx;have hsx:=h.srt.sane x hx;have hpre:=(zQ hsx hp).1 hc;unfold Pf.key at hpre;obtain ⟨hv,hb⟩:=List.cons_prefix_cons.1 hpre;have hle:=hb.length_le;rw [yE,yE] at hle;have hbe:x.1.a.bits x.1.n.toNat=p.a.bits x.1.n.toNat:=by
    have:=List.prefix_iff_eq_take.1 hb
    rwa [yE,vK hle] at this
   refine ⟨x.1.n.toNat,List.mem_range.2 (by omega),?_⟩
   have hval:(t p.a.v6).val (p.a.bits x.1.n.toNat)=some x.2:=h.mem.2 ⟨x,hx,by unfold Pf.key;rw [hv,hbe],rfl⟩
   rw [hval];have:x.1=ofP p.a (x.1.n.toNat:Nat):=Za hsx zCH (by rw [hk _ hle];unfold Pf.key;rw [hv,hbe])
   simp only [Option.toList_some,List.map_cons,List.map_nil,List.mem_singleton];exact Prod.ext this rfl
theorem Hold.under {t:Bool->Bt} {m:Prs} (h:Hold t m) {p:Pf} (hp:p.sane=true):(((t p.a.v6).down (p.a.bits p.n.toNat)).toL p.key)=(m.under p).map pk:=by
 refine zKW VQ (h.srt.filter _).lt fun k w=>?_;rw [VD,List.mem_map];constructor
 ·rintro ⟨b,rfl,e⟩;rw [XT] at e;obtain ⟨x,hx,e1,e2⟩:=h.mem.1 e;exact ⟨x,List.mem_filter.2 ⟨hx,(zQ hp (h.srt.sane x hx)).2 ⟨b,by rw [e1];rfl⟩⟩,Prod.ext (by show x.1.key=p.key++b;rw [e1];rfl) e2⟩
 ·rintro ⟨x,hx,e⟩;obtain ⟨hx,hc⟩:=List.mem_filter.1 hx;obtain ⟨b,hb⟩:=(zQ hp (h.srt.sane x hx)).1 hc;have e1:x.1.key=k:=congrArg Prod.fst e;have e2:x.2=w:=congrArg Prod.snd e;refine ⟨b,by rw [<-e1,<-hb],?_⟩
  rw [XT];exact h.mem.2 ⟨x,hx,by rw [<-hb];rfl,e2⟩
end Go.Proofs.YtjcbjclhagobiaaGreat
end
