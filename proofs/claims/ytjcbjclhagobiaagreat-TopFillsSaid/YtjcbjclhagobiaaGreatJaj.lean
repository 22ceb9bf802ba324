/- Texts joined by a program of ours: Ng Ef Eg Eh Ei Ej Nh Ek Ni Nj El Nk Em En. -/
import Derived.Test.YtjcbjclhagobiaaGreatJae
import Derived.Test.YtjcbjclhagobiaaGreatJag
import Derived.Test.YtjcbjclhagobiaaGreatJai
set_option linter.all false
section
namespace Go.Proofs.YtjcbjclhagobiaaGreat
open Go Go.KL Go.KM
abbrev Lk:=List (Int×Int)
def nx (K:Lk) (x:Nat):Option Int:=K[x]?.map (·.2)
def pv (K:Lk) (x:Nat):Option Int:=K[x]?.map (·.1)
def zDb (K:Lk) (a:Nat) (b:Int):Lk:=K.set a ((K.getD a (0,0)).1,b)
def zMS (K:Lk) (b:Nat) (a:Int):Lk:=K.set b (a,(K.getD b (0,0)).2)
def VJ (K:Lk) (a b:Nat):Lk:=zMS (zDb K a b) b a
theorem wQ {K:Lk} {a b:Nat}:(VJ K a b).length=K.length:=by simp [VJ,zMS,zDb]
theorem zMU {K:Lk} {a:Nat} {b:Int} {x:Nat} (h:a<K.length):nx (zDb K a b) x=if x=a then some b else nx K x:=by
 unfold nx zDb;by_cases e:x=a
 ·subst e;simp [h]
 ·rw [List.getElem?_set_ne (fun y=>e y.symm),if_neg e]
theorem zNf {K:Lk} {a:Nat} {b:Int} {x:Nat} (h:a<K.length):pv (zDb K a b) x=pv K x:=by
 unfold pv zDb;by_cases e:x=a
 ·subst e;simp [h,List.getD]
 ·rw [List.getElem?_set_ne (fun y=>e y.symm)]
theorem zMT {K:Lk} {a:Nat} {b:Int} {x:Nat} (h:a<K.length):pv (zMS K a b) x=if x=a then some b else pv K x:=by
 unfold pv zMS;by_cases e:x=a
 ·subst e;simp [h]
 ·rw [List.getElem?_set_ne (fun y=>e y.symm),if_neg e]
theorem zMq {K:Lk} {a:Nat} {b:Int} {x:Nat} (h:a<K.length):nx (zMS K a b) x=nx K x:=by
 unfold nx zMS;by_cases e:x=a
 ·subst e;simp [h,List.getD]
 ·rw [List.getElem?_set_ne (fun y=>e y.symm)]
theorem Vz {K:Lk} {a b x:Nat} (ha:a<K.length) (hb:b<K.length):nx (VJ K a b) x=if x=a then some (b:Int) else nx K x:=by
 unfold VJ;rw [zMq (by simp [zDb];exact hb),zMU ha]
theorem Vk {K:Lk} {a b x:Nat} (ha:a<K.length) (hb:b<K.length):pv (VJ K a b) x=if x=b then some (a:Int) else pv K x:=by
 unfold VJ;rw [zMT (by simp [zDb];exact hb),zNf ha]
def lnk (K:Lk):List Nat->Prop
 | x::y::r=>nx K x=some (y:Int)/\pv K y=some (x:Int)/\lnk K (y::r)
 | _=>True
theorem Ve {K:Lk}:∀ {P:List Nat} {x:Nat} {Q:List Nat},lnk K (P++x::Q)↔lnk K (P++[x])/\lnk K (x::Q)
 | [],x,Q=>by simp [lnk]
 | [p],x,Q=>by simp [lnk,and_assoc]
 | p::p2::P,x,Q=>by
  have:=Ve (K:=K) (P:=p2::P) (x:=x) (Q:=Q)
  simp only [List.cons_append,lnk] at this ⊢;rw [this];simp only [and_assoc]
theorem WP {K K':Lk}:∀ {P:List Nat},lnk K P->(∀ x∈P.dropLast,nx K' x=nx K x)->(∀ y∈P.tail,pv K' y=pv K y)->lnk K' P
 | [],_,_,_=>trivial
 | [x],_,_,_=>trivial
 | x::y::r,⟨h1,h2,h3⟩,a,b=>by
  refine ⟨(a x (by simp [List.dropLast])).trans h1,(b y (by simp)).trans h2,WP h3 (fun z hz=>a z ?_) (fun z hz=>b z ?_)⟩
  ·simp only [List.dropLast];exact List.mem_cons_of_mem _ hz
  ·simp only [List.tail_cons] at hz ⊢;exact List.mem_cons_of_mem _ hz
theorem zL7 {K:Lk}:∀ {P:List Nat} {j x y:Nat},lnk K P->P[j]?=some x->P[j+1]?=some y->nx K x=some (y:Int)/\pv K y=some (x:Int)
 | [],j,x,y,_,h,_=>by simp at h
 | [a],j,x,y,_,_,h=>by simp at h
 | a::b::r,0,x,y,⟨h1,h2,_⟩,e1,e2=>by simp at e1 e2;subst e1;subst e2;exact ⟨h1,h2⟩
 | a::b::r,j+1,x,y,⟨_,_,h3⟩,e1,e2=>by
  simp only [List.getElem?_cons_succ] at e1 e2;exact zL7 (j:=j) h3 e1 (by simpa using e2)
structure RecOk (K:Lk) (is:List Bool) (O:List Nat) (most:Nat):Prop where
 len:K.length=most+1
 isl:is.length=most
 nodup:O.Nodup
 lt:∀ i∈O,i<most
 mem:∀ i,i<most->is[i]?=some (decide (i∈O))
 ok:lnk K (most::(O++[most]))
 most:most<=1024
theorem zFl:∀ {n:Nat} {O:List Nat},O.Nodup->(∀ i∈O,i<n)->O.length<=n
 | 0,[],_,_=>by simp
 | 0,a::O,_,h=>by have:=h a (by simp);omega
 | n+1,O,hn,h=>by
  have h1:=zFl (n:=n) (hn.erase n) fun i hi=>by
   have:=(hn.mem_erase_iff.1 hi)
   have:=h i this.2
   omega
  by_cases x:n∈O
  ·rw [List.length_erase_of_mem x] at h1;omega
  ·rw [List.erase_of_not_mem x] at h1;omega
theorem RecOk.cnt {K:Lk} {is:List Bool} {O:List Nat} {most:Nat} (h:RecOk K is O most):O.length<=most:=zFl h.nodup h.lt
theorem zMm {K:Lk} {most:Nat} {p q:List Nat} {i:Nat} (hk:lnk K (most::(p++i::q++[most]))) (hn:(p++i::q).Nodup) (hm:∀ j∈p++i::q,j<most) (hlen:K.length=most+1) :
  ∃ a b:Nat,pv K i=some (a:Int)/\nx K i=some (b:Int)/\a<=most/\b<=most/\lnk (VJ K a b) (most::(p++q++[most])):=by
 obtain ⟨P,a,hPa⟩:∃ P a,most::p=P++[a]:=by
  rcases List.eq_nil_or_concat (most::p) with h|⟨P,a,h⟩
  ·cases h
  ·exact ⟨P,a,by rw [h,List.concat_eq_append]⟩
 obtain ⟨b,Q,hbQ⟩:∃ b Q,q++[most]=b::Q:=by
  cases q with
  | nil=>exact ⟨most,[],rfl⟩
  | cons b q=>exact ⟨b,q++[most],rfl⟩
 have ham:a∈most::p:=by rw [hPa];simp
 have hbm:b∈q++[most]:=by rw [hbQ];simp
 have hpm:∀ x∈p,x<most:=fun x hx=>hm x (by simp [hx])
 have hqm:∀ x∈q,x<most:=fun x hx=>hm x (by simp [hx])
 have hal:a<=most:=by
  rcases List.mem_cons.1 ham with h|h
  ·omega
  ·have:=hpm a h;omega
 have hbl:b<=most:=by
  rcases List.mem_append.1 hbm with h|h
  ·have:=hqm b h;omega
  ·simp at h;omega
 have e1:most::(p++i::q++[most])=P++a::i::b::Q:=by
  have:most::(p++i::q++[most])=(most::p)++i::(q++[most]):=by simp
  rw [this,hPa,hbQ];simp
 have e2:most::(p++q++[most])=P++a::b::Q:=by
  have:most::(p++q++[most])=(most::p)++(q++[most]):=by simp
  rw [this,hPa,hbQ];simp
 rw [e1] at hk;rw [e2];obtain ⟨k1,k2⟩:=Ve.1 hk;obtain ⟨m1,m2,m3,m4,m5⟩:nx K a=some (i:Int)/\pv K i=some (a:Int)/\nx K i=some (b:Int)/\pv K b=some (i:Int)/\lnk K (b::Q):=⟨k2.1,k2.2.1,k2.2.2.1,k2.2.2.2.1,k2.2.2.2.2⟩;have hnd:=List.nodup_append.1 hn;have hnq:q.Nodup:=(List.nodup_cons.1 hnd.2.1).2;have hpq:∀ x∈p,∀ y∈q,x≠y:=fun x hx y hy=>hnd.2.2 x hx y (List.mem_cons_of_mem _ hy);have ha':a<K.length:=by omega
 have hb':b<K.length:=by omega
 have hPn:(P++[a]).Nodup:=by rw [<-hPa];exact List.nodup_cons.2 ⟨fun h=>by have:=hpm _ h;omega,hnd.1⟩
 have hQn:(b::Q).Nodup:=by rw [<-hbQ];exact List.nodup_append.2 ⟨hnq,by simp,fun x hx y hy=>by simp at hy;have:=hqm x hx;omega⟩
 have htl:∀ y∈(P++[a]).tail,y∈p:=by rw [<-hPa];exact fun y hy=>hy
 have hdl:∀ x∈(b::Q).dropLast,x∈q:=by rw [<-hbQ];simp
 refine ⟨a,b,m2,m3,hal,hbl,Ve.2 ⟨WP k1 (fun x hx=>?_) (fun y hy=>?_),?_,?_,WP m5 (fun x hx=>?_) (fun y hy=>?_)⟩⟩
 ·rw [Vz ha' hb',if_neg];rintro rfl;simp only [List.dropLast_concat] at hx;exact (List.nodup_append.1 hPn).2.2 x hx x (by simp) rfl
 ·rw [Vk ha' hb',if_neg];rintro rfl;have hyp:=htl y hy;rcases List.mem_append.1 hbm with h|h
  ·exact hpq y hyp y h rfl
  ·simp at h;have:=hpm y hyp;omega
 ·rw [Vz ha' hb',if_pos rfl]
 ·rw [Vk ha' hb',if_pos rfl]
 ·rw [Vz ha' hb',if_neg];rintro rfl;have hxq:=hdl x hx;rcases List.mem_cons.1 ham with h|h
  ·have:=hqm x hxq;omega
  ·exact hpq x h x hxq rfl
 ·rw [Vk ha' hb',if_neg];rintro rfl;exact (List.nodup_cons.1 hQn).1 hy
theorem zMl {K:Lk} {most:Nat} {R:List Nat} {i:Nat} (hk:lnk K (most::(R++[most]))) (hn:R.Nodup) (hm:∀ j∈R,j<most) (hlen:K.length=most+1) (hi:i<most) (hiR:i∉R) :
  ∃ b:Nat,nx K most=some (b:Int)/\b<=most/\lnk (VJ (VJ K most i) i b) (most::(i::R++[most])):=by
 obtain ⟨b,Q,hbQ⟩:∃ b Q,R++[most]=b::Q:=by
  cases R with
  | nil=>exact ⟨most,[],rfl⟩
  | cons b q=>exact ⟨b,q++[most],rfl⟩
 have hbm:b∈R++[most]:=by rw [hbQ];simp
 have hbl:b<=most:=by
  rcases List.mem_append.1 hbm with h|h
  ·have:=hm b h;omega
  ·simp at h;omega
 have hib:i≠b:=by
  rintro rfl;rcases List.mem_append.1 hbm with h|h
  ·exact hiR h
  ·simp at h;omega
 rw [hbQ] at hk;have e2:most::(i::R++[most])=most::i::b::Q:=by rw [List.cons_append,hbQ]
 rw [e2];obtain ⟨m1,m2,m3⟩:nx K most=some (b:Int)/\pv K b=some (most:Int)/\lnk K (b::Q):=hk;have hQn:(b::Q).Nodup:=by rw [<-hbQ];exact List.nodup_append.2 ⟨hn,by simp,fun x hx y hy=>by simp at hy;have:=hm x hx;omega⟩
 have hQi:∀ y∈Q,y≠i:=by
  rintro y hy rfl;have:y∈R++[most]:=by rw [hbQ];exact List.mem_cons_of_mem _ hy
  rcases List.mem_append.1 this with h|h
  ·exact hiR h
  ·simp at h;omega
 have hdl:∀ x∈(b::Q).dropLast,x∈R:=by rw [<-hbQ];simp
 have h1:most<K.length:=by omega
 have h2:i<K.length:=by omega
 have h3:i<(VJ K most i).length:=by rw [wQ];omega
 have h4:b<(VJ K most i).length:=by rw [wQ];omega
 refine ⟨b,m1,hbl,?_,?_,?_,?_,WP m3 (fun x hx=>?_) (fun y hy=>?_)⟩
 ·rw [Vz h3 h4,if_neg (by omega),Vz h1 h2,if_pos rfl]
 ·rw [Vk h3 h4,if_neg hib,Vk h1 h2,if_pos rfl]
 ·rw [Vz h3 h4,if_pos rfl]
 ·rw [Vk h3 h4,if_pos rfl]
 ·have hxR:=hdl x hx;have:=hm x hxR
  rw [Vz h3 h4,if_neg (by rintro rfl;exact hiR hxR),Vz h1 h2,if_neg (by omega)]
 ·rw [Vk h3 h4,if_neg (by rintro rfl;exact (List.nodup_cons.1 hQn).1 hy),Vk h1 h2,if_neg (hQi y hy)]
theorem RecOk.new (most:Nat) (h:most<=1024):RecOk ((List.replicate (most+1) ((0:Int),(0:Int))).set most ((most:Int),(most:Int))) (List.replicate most false) [] most:=by
 refine ⟨by simp,by simp,List.nodup_nil,by simp,fun i hi=>by simp [hi],⟨?_,?_,trivial⟩,h⟩
 ·unfold nx;simp
 ·unfold pv;simp
theorem zJ0 {O:List Nat} {i:Nat} (h:i∈O) (hn:O.Nodup):∃ p q,O=p++i::q/\O.erase i=p++q:=by
 obtain ⟨p,q,rfl⟩:=List.append_of_mem h;refine ⟨p,q,rfl,?_⟩;have:i∉p:=fun hp=>(List.nodup_append.1 hn).2.2 i hp i (by simp) rfl
 rw [List.erase_append_right _ this,List.erase_cons_head]
theorem RecOk.cut {K:Lk} {is:List Bool} {O:List Nat} {most i:Nat} (h:RecOk K is O most) (hi:i∈O):∃ a b:Nat,K[i]?=some ((a:Int),(b:Int))/\a<=most/\b<=most/\lnk (VJ K a b) (most::(O.erase i++[most])):=by
 obtain ⟨p,q,e1,e2⟩:=zJ0 hi h.nodup;have hk:=h.ok;have hn:=h.nodup;have hm:=h.lt;rw [e1] at hk hn hm;obtain ⟨a,b,h1,h2,h3,h4,h5⟩:=zMm hk hn hm h.len;rw [e2];refine ⟨a,b,?_,h3,h4,h5⟩;unfold pv at h1;unfold nx at h2;cases hK:K[i]? with
 | none=>rw [hK] at h1;cases h1
 | some k=>
  rw [hK] at h1 h2;simp at h1 h2;rw [<-h1,<-h2]
theorem RecOk.ins {K:Lk} {is:List Bool} {R:List Nat} {most i:Nat} (hl:K.length=most+1) (hil:is.length=most) (hn:R.Nodup) (hlt:∀ j∈R,j<most) (hmem:∀ j,j<most->is[j]?=some (decide (j∈i::R))) (hk:lnk K (most::(R++[most]))) (hmo:most<=1024) (hi:i<most) (hiR:i∉R) :
  ∃ b:Nat,nx K most=some (b:Int)/\b<=most/\RecOk (VJ (VJ K most i) i b) is (i::R) most:=by
 obtain ⟨b,h1,h2,h3⟩:=zMl hk hn hlt hl hi hiR;refine ⟨b,h1,h2,by rw [wQ,wQ];exact hl,hil,List.nodup_cons.2 ⟨hiR,hn⟩,fun j hj=>?_,hmem,h3,hmo⟩
 rcases List.mem_cons.1 hj with rfl|hj
 ·exact hi
 ·exact hlt j hj
theorem RecOk.drop {K:Lk} {is:List Bool} {O:List Nat} {most i:Nat} (h:RecOk K is O most) (hi:i∈O) {a b:Nat} (hk:lnk (VJ K a b) (most::(O.erase i++[most]))):RecOk (VJ K a b) (is.set i false) (O.erase i) most:=by
 refine ⟨by rw [wQ];exact h.len,by simpa using h.isl,h.nodup.erase i,fun j hj=>h.lt j (List.mem_of_mem_erase hj),fun j hj=>?_,hk,h.most⟩
 by_cases e:j=i
 ·subst e;rw [List.getElem?_set_self (by rw [h.isl];exact hj)]
  have:j∉O.erase j:=fun x=>(h.nodup.mem_erase_iff.1 x).1 rfl
  simp [this]
 ·rw [List.getElem?_set_ne (fun y=>e y.symm),h.mem j hj];have:j∈O.erase i↔j∈O:=by rw [h.nodup.mem_erase_iff];exact ⟨fun x=>x.2,fun x=>⟨e,x⟩⟩
  simp [this]
end Go.Proofs.YtjcbjclhagobiaaGreat
end
section
namespace Go.Proofs.YtjcbjclhagobiaaGreat
set_option maxHeartbeats 1600000
open Go Go.KL Go.KM
variable {E:Env} {X:Xs}
set_option maxRecDepth 100000
abbrev lkC (k:Int×Int):List Value:=[.int .i64 k.1,.int .i64 k.2]
abbrev isC (b:Bool):List Value:=[.bool b]
structure RB where
 lb:Option Addr
 lc:Nat
 ib:Option Addr
 ic:Nat
abbrev zBj (l:Nat) (K is:Nat) (n:Nat) (q:RB):HP:=box l [.slice q.lb K q.lc,.slice q.ib is q.ic,.int .i64 (n:Int)] 356
abbrev zIi (K:Lk) (q:RB):HP:=osl q.lb q.lc 303 2 (K.map lkC)
abbrev zNz (is:List Bool) (q:RB):HP:=osl q.ib q.ic 4 1 (is.map isC)
abbrev zEj (l:Nat) (O:List Nat) (most:Nat) (q:{ x:Lk×List Bool×RB // RecOk x.1 x.2.1 O most }):List HP:=[zBj l q.1.1.length q.1.2.1.length O.length q.1.2.2,zIi q.1.1 q.1.2.2,zNz q.1.2.1 q.1.2.2]
abbrev VC (l:Nat) (O:List Nat) (most:Nat):HP:=HP.ex (zEj l O most)
theorem zBe (l K is n:Nat) (q:RB):Does PR E X 220 [pt l] [zBj l K is n q] (fun v t=>v=.int .i64 (is:Int)/\t=[zBj l K is n q]):=by
 refine Does.of 8 inferInstance rfl (by decide) rfl ?_
 refine zB ?_;refine ret ?_;exact ends ⟨rfl,rfl⟩
theorem zEr (l:Nat) (O:List Nat) (most:Nat):Does PR E X 219 [pt l] [VC l O most] (fun v t=>v=.int .i64 (O.length:Int)/\t=[VC l O most]):=by
 refine Does.of 9 inferInstance rfl (by decide) rfl ?_
 refine zW (zEj l O most) fun q=>?_;refine zB ?_;refine no ?_;refine zB ?_;refine zE (zEj l O most) q ?_;refine ret ?_;exact ends ⟨rfl,rfl⟩
theorem zFz (l K is n:Nat) (q:RB) (i:Nat) (h:i<is):Does PR E X 313 [pt l,.int .i64 (i:Int)] [zBj l K is n q] (fun v t=>v=.bool true/\t=[zBj l K is n q]):=by
 refine Does.of 20 inferInstance rfl (by decide) rfl ?_
 refine zB ?_;have e:(!(some (⟨l,0,none⟩:Addr)).isNone&&decide (0<=((i:Nat):Int))&&decide (((i:Nat):Int)<(is:Int)))=true:=by
  have h1:decide (0<=((i:Nat):Int))=true:=decide_eq_true (by omega)
  have h2:decide (((i:Nat):Int)<(is:Int))=true:=decide_eq_true (by omega)
  rw [h1,h2];rfl
 rw [e];refine ret ?_;exact ends ⟨rfl,rfl⟩
theorem zAr (l:Nat) (K:Lk) (is n:Nat) (q:RB) (a b:Nat) (ha:a<K.length) (hb:b<K.length):Does PR E X 315 [pt l,.int .i64 (a:Int),.int .i64 (b:Int)] [zBj l K.length is n q,zIi K q] (fun v t=>v=.tuple #[]/\t=[zBj l K.length is n q,zIi (VJ K a b) q]):=by
 have ea:((a:Nat):Int).toNat=a:=by omega
 have eb:((b:Nat):Int).toNat=b:=by omega
 have hx:K[((a:Nat):Int).toNat]?=some K[a]:=by rw [ea];simp [ha]
 have eB:(K.map lkC).set a (lkC (K[a].1,(b:Int)))=(zDb K a b).map lkC:=by unfold zDb;rw [List.map_set];simp [List.getD,ha]
 have hbB:b<(zDb K a b).length:=by simp [zDb];exact hb
 have hx2:((List.map lkC K).set ((a:Nat):Int).toNat [.int .i64 K[a].1,.int .i64 (b:Int)])[((b:Nat):Int).toNat]?=some (lkC (zDb K a b)[b]):=by
  rw [ea,eb];show ((K.map lkC).set a (lkC (K[a].1,(b:Int))))[b]?=_;rw [eB];simp [hbB]
 have eT:((zDb K a b).map lkC).set b (lkC ((a:Int),(zDb K a b)[b].2))=(VJ K a b).map lkC:=by unfold VJ zMS;rw [List.map_set];simp [List.getD,hbB]
 refine Does.of 22 inferInstance rfl (by decide) rfl ?_
 refine draw [0,1,3,7,0,0,32,96,224,0,0,0,31,5631,13823,992,65535,131071] [14,17] [3,8,12,13,15,16] [0,1,2,3,4,5,6,7,8,9,10,11,12,13,15,14,16,17] ?_;refine zC ?_;refine ddA ?_;rw [ea,eb];refine (show W _ _ _ _ _ _ _ [osl q.lb q.lc _ 2 (((K.map lkC).set a (lkC (K[a].1,(b:Int)))).set b (lkC ((a:Int),(zDb K a b)[b].2))),_] from ?_);rw [eB,eT];refine fall ?_;exact ends ⟨rfl,rfl⟩
theorem Jh (l:Nat) (K:Lk) (is n:Nat) (q:RB) (i a b:Nat) (hi:K[i]?=some ((a:Int),(b:Int))) (ha:a<K.length) (hb:b<K.length):Does PR E X 314 [pt l,.int .i64 (i:Int)] [zBj l K.length is n q,zIi K q] (fun v t=>v=.tuple #[]/\t=[zBj l K.length is n q,zIi (VJ K a b) q]):=by
 have ei:((i:Nat):Int).toNat=i:=by omega
 have hx:K[((i:Nat):Int).toNat]?=some ((a:Int),(b:Int)):=by rw [ei];exact hi
 have hil:i<K.length:=(List.getElem?_eq_some_iff.1 hi).1;refine Does.of 22 inferInstance rfl (by decide) rfl ?_
 refine draw [0,0,2,6,14,0,62,126,254,0,512,1536,3584,0,15872,32256,65024,131071] [17] [4,6,7,8,12,14,15,16] [0,1,2,3,4,5,6,7,8,9,10,11,12,13,14,15,16,17] ?_;refine zC ?_;refine call (zAr l K is n q a b ha hb) ?_;rintro _ _ ⟨rfl,rfl⟩;try refine zJ ?_
 refine ddA ?_;refine fall ?_;exact ends ⟨rfl,rfl⟩
theorem zDp (l:Nat) (O:List Nat) (most i:Nat) (hi:i<most):Does PR E X 354 [pt l,.int .i64 (i:Int)] [VC l O most] (fun v t=>v=.bool (decide (i∈O))/\t=[VC l O most]):=by
 refine Does.of 17 inferInstance rfl (by decide) rfl ?_
 refine zW (zEj l O most) fun q=>?_;obtain ⟨⟨K,is,q⟩,hok⟩:=q;(try dsimp only at hok ⊢);have ei:((i:Nat):Int).toNat=i:=by omega
 have hx:is[((i:Nat):Int).toNat]?=some (decide (i∈O)):=by rw [ei];exact hok.mem i hi
 have hisl:=hok.isl;refine zB ?_;refine call (zFz l K.length is.length O.length q i (by omega)) ?_
 rintro _ _ ⟨rfl,rfl⟩;refine onA ?_;refine zE (zEj l O most) ⟨(K,is,q),hok⟩ ?_;refine ret ?_;exact ends ⟨rfl,rfl⟩
theorem zBt (l:Nat) (O:List Nat) (most i:Nat) (hi:i∈O):Does PR E X 297 [pt l,.int .i64 (i:Int)] [VC l O most] (fun v t=>v=.bool true/\t=[VC l (O.erase i) most]):=by
 refine Does.of 25 inferInstance rfl (by decide) rfl ?_
 refine zW (zEj l O most) fun q=>?_;have hil:i<most:=q.2.lt i hi;refine zE (zEj l O most) q ?_;refine zB ?_;refine call (zDp l O most i hil) ?_;rintro _ _ ⟨rfl,rfl⟩;rw [decide_eq_true hi];refine zB ?_;refine no ?_;refine zW (zEj l O most) fun q=>?_;obtain ⟨⟨K,is,q⟩,hok⟩:=q;(try dsimp only at hok ⊢);obtain ⟨a,b,hK,ha,hb,hl⟩:=hok.cut hi;have hlen:=hok.len;have hisl:=hok.isl;refine zB ?_;refine call (Jh l K is.length O.length q i a b hK (by omega) (by omega)) ?_
 rintro _ _ ⟨rfl,rfl⟩;refine onA ?_;have ei:((i:Nat):Int).toNat=i:=by omega
 have hx:is[((i:Nat):Int).toNat]?=some (decide (i∈O)):=by rw [ei];exact hok.mem i hil
 have hcnt:=hok.cnt;have hmo:=hok.most;have hpos:=List.length_pos_of_mem hi;refine zB ?_;have e1:(is.map isC).set i (isC false)=(is.set i false).map isC:=by rw [List.map_set]
 have e2:((O.length:Int)-1)=((O.erase i).length:Int):=by rw [List.length_erase_of_mem hi];omega
 rw [ei];refine (show W _ _ _ _ _ _ _ [box l [.slice q.lb K.length q.lc,.slice q.ib is.length q.ic,.int .i64 ((O.length:Int)-1)] _,osl q.ib q.ic _ 1 ((is.map isC).set i (isC false)),zIi (VJ K a b) q] from ?_);rw [e1,e2,<-wQ (K:=K) (a:=a) (b:=b),show is.length=(is.set i false).length by simp]
 refine zE (zEj l (O.erase i) most) ⟨(VJ K a b,is.set i false,q),hok.drop hi hl⟩ ?_;refine ret ?_;exact ends ⟨rfl,rfl⟩
theorem zHF (l:Nat) (O:List Nat) (most i:Nat) (hil:i<most):Does PR E X 254 [pt l,.int .i64 (i:Int)] [VC l O most] (fun v t=>v=.bool true/\t=[VC l (i::O.erase i) most]):=by
 refine Does.of 51 inferInstance rfl (by decide) rfl ?_
 refine zW (zEj l O most) fun q=>?_;obtain ⟨⟨K,is,q⟩,hok⟩:=q;(try dsimp only at hok ⊢);have ei:((i:Nat):Int).toNat=i:=by omega
 have hx:is[((i:Nat):Int).toNat]?=some (decide (i∈O)):=by rw [ei];exact hok.mem i hil
 have hcnt:=hok.cnt;have hmo:=hok.most;have hlen:=hok.len;have hisl:=hok.isl;refine zB ?_;refine call (zFz l K.length is.length O.length q i (by omega)) ?_
 rintro _ _ ⟨rfl,rfl⟩;refine onA ?_;refine no ?_;refine zB ?_;refine cut (ι:=Lk×List Bool) (fun z=>z.1.length=most+1/\z.2.length=most/\lnk z.1 (most::(O.erase i++[most]))/\∀ j,j<most->z.2[j]?=some (decide (j∈i::O.erase i))) (fun _=>[(0,pt l),(1,.int .i64 (i:Int))])
  (fun z=>[zBj l z.1.length z.2.length (i::O.erase i).length q,zIi z.1 q,zNz z.2 q]) (fun k' rest=>?_) ?_
 ·by_cases hi:i∈O
  ·obtain ⟨a,b,hK,ha,hb,hl⟩:=hok.cut hi;have e3:(i::O.erase i).length=O.length:=by rw [List.length_cons,List.length_erase_of_mem hi];have:=List.length_pos_of_mem hi;omega
   rw [e3] at rest;rw [decide_eq_true hi];refine yes ?_;refine zB ?_;refine call (Jh l K is.length O.length q i a b hK (by omega) (by omega)) ?_
   rintro _ _ ⟨rfl,rfl⟩;refine onA ?_;have hr:=rest (VJ K a b,is) ⟨by rw [wQ];exact hlen,hisl,hl,fun j hj=>by
    have hm:j∈i::O.erase i↔j∈O:=by
     rw [List.mem_cons,hok.nodup.mem_erase_iff];by_cases e:j=i
     ·subst e;simp [hi]
     ·simp [e]
    show is[j]?=_;rw [hok.mem j hj];simp only [hm]⟩
   (try dsimp only at hr);rw [wQ] at hr;exact next hr
  ·have e3:O.erase i=O:=List.erase_of_not_mem hi;rw [e3] at rest ⊢;rw [decide_eq_false hi];refine no ?_;refine zB ?_;have e1:(is.map isC).set i (isC true)=(is.set i true).map isC:=by rw [List.map_set]
   have hr:=rest (K,is.set i true) ⟨hlen,by simpa using hisl,hok.ok,fun j hj=>by
    show (is.set i true)[j]?=_;by_cases e:j=i
    ·subst e;rw [List.getElem?_set_self (by omega)];simp
    ·rw [List.getElem?_set_ne (fun y=>e y.symm),hok.mem j hj];simp [e]⟩
   (try dsimp only at hr);have e4:(is.set i true).length=is.length:=by simp
   have e5:((O.length:Int)+1)=((i::O).length:Int):=by simp
   rw [e4] at hr;rw [ei,e5];refine (show W _ _ _ _ _ _ _ [zBj l K.length is.length (i::O).length q,osl q.ib q.ic _ 1 ((is.map isC).set i (isC true)),zIi K q] from ?_);rw [e1];exact next hr
 ·rintro ⟨K1,is1⟩ ⟨h1,h2,h3,h4⟩;(try dsimp only at h1 h2 h3 h4 ⊢);have hn:=hok.nodup.erase i;have hni:i∉O.erase i:=fun x=>(hok.nodup.mem_erase_iff.1 x).1 rfl;obtain ⟨b,g1,g2,g3⟩:=RecOk.ins h1 h2 hn (fun j hj=>hok.lt j (List.mem_of_mem_erase hj)) h4 h3 hmo hil hni;obtain ⟨k,hk1,hk2⟩:∃ k,K1[most]?=some k/\k.2=(b:Int):=by
   unfold nx at g1;cases hk:K1[most]? with
   | none=>rw [hk] at g1;cases g1
   | some k=>rw [hk] at g1;exact ⟨k,rfl,by simpa using g1⟩
  subst h2;have hx2:K1[((is1.length:Nat):Int).toNat]?=some k:=by rw [show ((is1.length:Nat):Int).toNat=is1.length by omega];exact hk1
  refine zB ?_;refine draw [0,1,3,7,0,16,63,127,255,511] [5,9] [3,6,7,8] [0,1,2,3,4,5,6,7,8,9] ?_;refine zC ?_;refine call (zBe l K1.length is1.length (i::O.erase i).length q) ?_;rintro _ _ ⟨rfl,rfl⟩;try refine zJ ?_
  refine ddA ?_;rw [hk2];refine call (zBe l K1.length is1.length (i::O.erase i).length q) ?_;rintro _ _ ⟨rfl,rfl⟩;refine onA ?_;refine call (zAr l K1 is1.length (i::O.erase i).length q is1.length i (by omega) (by omega)) ?_
  rintro _ _ ⟨rfl,rfl⟩;refine onA ?_;rw [<-wQ (K:=K1) (a:=is1.length) (b:=i)];refine call (zAr l (VJ K1 is1.length i) is1.length (i::O.erase i).length q i b (by rw [wQ];omega) (by rw [wQ];omega)) ?_
  rintro _ _ ⟨rfl,rfl⟩;refine onA ?_;rw [<-wQ (K:=VJ K1 is1.length i) (a:=i) (b:=b)];refine zE (zEj l (i::O.erase i) is1.length) ⟨(VJ (VJ K1 is1.length i) i b,is1,q),g3⟩ ?_;refine ret ?_;exact ends ⟨rfl,rfl⟩
theorem WQ (l:Nat) (O:List Nat) (most:Nat):Does PR E X 150 [pt l] [VC l O most] (fun v t=>∃ base cap,v=.slice base O.length cap/\t=[VC l O most,osl base cap 3 1 (O.map fun (i:Nat)=>[Value.int .i64 (i:Int)])]):=by
 refine Does.of 28 inferInstance rfl (by decide) rfl ?_
 refine zB ?_;refine into (Into.nilO (T:=3) (sz:=1)) ?_;refine loop (ι:=Nat×Int×Option Addr×Nat) (fun z=>O.length-z.1) (fun z=>z.1<=O.length/\(z.1≠0->∃ x,(most::(O++[most]))[z.1]?=some x/\z.2.1=(x:Int))) (fun z=>[(0,pt l),(3,.slice z.2.2.1 (O.take z.1).length z.2.2.2),(4,.int .i64 z.2.1)])
  (fun z=>[osl z.2.2.1 z.2.2.2 3 1 ((O.take z.1).map fun (i:Nat)=>[Value.int .i64 (i:Int)]),VC l O most]) (0,0,none,0) ⟨by omega,fun h=>absurd rfl h⟩ ?_
 rintro ⟨j,at_,ob,oc⟩ ⟨h1,h2⟩ ih;(try dsimp only at h1 h2 ih ⊢);refine zB ?_;refine call (zEr l O most) ?_;rintro _ _ ⟨rfl,rfl⟩;refine onA ?_;have htk:(O.take j).length=j:=by rw [List.length_take];omega
 rw [htk];rcases Nat.lt_or_ge j O.length with hj|hj
 ·refine yes ?_;refine zB ?_;refine zW (zEj l O most) fun q=>?_;obtain ⟨⟨K,is,q⟩,hok⟩:=q;(try dsimp only at hok ⊢);have hcnt:=hok.cnt;have hmo:=hok.most;have hlen:=hok.len;have hisl:=hok.isl;refine cut (ι:=Nat) (fun x=>(most::(O++[most]))[j]?=some x) (fun x=>[(0,pt l),(3,.slice ob j oc),(4,.int .i64 (x:Int))])
   (fun _=>[osl ob oc 3 1 ((O.take j).map fun (i:Nat)=>[Value.int .i64 (i:Int)]),zBj l K.length is.length O.length q,zIi K q,zNz is q]) (fun k' rest=>?_) ?_
  ·rcases Nat.eq_zero_or_pos j with rfl|hj0
   ·refine yes ?_;refine zB ?_;refine call (zBe l K.length is.length O.length q) ?_;rintro _ _ ⟨rfl,rfl⟩;refine onA ?_;rw [hisl];have hr:=rest most rfl;rw [hisl] at hr;exact next hr
   ·obtain ⟨x,hx1,rfl⟩:=h2 (by omega)
    refine no ?_;refine zB ?_;exact next (rest x hx1)
  ·intro x hx;have hy:(most::(O++[most]))[j+1]?=some O[j]:=by rw [List.getElem?_cons_succ,List.getElem?_append_left hj];simp [hj]
   obtain ⟨g1,g2⟩:=zL7 hok.ok hx hy;have hxl:x<K.length:=by
    unfold nx at g1;cases hk:K[x]? with
    | none=>rw [hk] at g1;cases g1
    | some k=>exact (List.getElem?_eq_some_iff.1 hk).1
   obtain ⟨k,hk1,hk2⟩:∃ k,K[x]?=some k/\k.2=(O[j]:Int):=by
    unfold nx at g1;cases hk:K[x]? with
    | none=>rw [hk] at g1;cases g1
    | some k=>rw [hk] at g1;exact ⟨k,rfl,by simpa using g1⟩
   have hx2:K[((x:Nat):Int).toNat]?=some k:=by rw [show ((x:Nat):Int).toNat=x by omega];exact hk1
   refine zB ?_;rw [hk2];refine buildSlice fun bp=>?_;refine zB ?_;refine xM fun ob2 oc2=>?_;refine zB ?_;have e1:O.take (j+1)=O.take j++[O[j]]:=(List.take_append_getElem hj).symm;have e2:∀ u:List Value,u=[.int .i64 (O[j]:Int)]->(O.take j).map (fun (i:Nat)=>[Value.int .i64 (i:Int)])++[u]=(O.take (j+1)).map fun (i:Nat)=>[Value.int .i64 (i:Int)]:=fun u hu=>by rw [e1,List.map_append,hu];rfl
   have e3:(O.take (j+1)).length=j+1:=by rw [List.length_take];omega
   rw [e2 (yG (.int .i64 (O[j]:Int))) rfl];refine zE (zEj l O most) ⟨(K,is,q),hok⟩ ?_;have hr:=ih (j+1,(O[j]:Int),ob2,oc2) ⟨by omega,fun _=>⟨O[j],hy,rfl⟩⟩ (by simp;omega)
   (try dsimp only at hr);rw [e3] at hr;exact next hr
 ·obtain rfl:j=O.length:=by omega
  refine no ?_;refine zB ?_;have e1:O.take O.length=O:=List.take_length;rw [e1];refine ret ?_;exact ends ⟨ob,oc,rfl,rfl⟩
theorem zE2 (n:Int):Does PR E X 215 [.int .i64 n] [] (fun v t=>∃ l,v=pt l/\t=[VC l [] (max 0 (min n 1024)).toNat]):=by
 obtain ⟨m,e1⟩:∃ m:Nat,max 0 (min n 1024)=(m:Int):=⟨(max 0 (min n 1024)).toNat,by omega⟩
 have hm:m<=1024:=by omega
 refine Does.of 24 inferInstance rfl (by decide) rfl ?_
 refine zB ?_;rw [e1,show ((m:Nat):Int).toNat=m by omega]
 refine zLc [0,1,3,0,8,31,63,127] [2,4,6,7] [] [0,1,3] 2 4 [5,6,7] ?_;try simp only [List.cons_append,List.nil_append,setd]
 repeat ((with_reducible apply DX.cm);(case hw=>exact zO);(case hnd=>exact rfl);(case hd=>exact rfl);(case he=>exact rfl);(case hr=>exact rfl);(case h=>exact cmA))
 have em:((m:Nat):Int).toNat=m:=by omega
 have em1:(((m:Nat):Int)+1).toNat=m+1:=by omega
 have hx:(List.replicate (((m:Nat):Int)+1).toNat [Value.int .i64 0,.int .i64 0])[((m:Nat):Int).toNat]?=some [.int .i64 0,.int .i64 0]:=by rw [em,em1];simp
 have eK:(List.replicate (m+1) (lkC (0,0))).set m (lkC ((m:Int),(m:Int)))=((List.replicate (m+1) ((0:Int),(0:Int))).set m ((m:Int),(m:Int))).map lkC:=by rw [List.map_set,List.map_replicate]
 have eI:List.replicate m (isC false)=(List.replicate m false).map isC:=by rw [List.map_replicate]
 refine DX.of ?_ ?_
 ·refine zAD fun b1=>?_;refine zAb fun b2=>?_;refine ddA ?_;refine YN fun b3=>?_;refine ddA ?_;rw [em,em1];refine (show W _ _ _ _ _ _ _ [osl (some ⟨b1,0,none⟩) (m+1) _ 2 ((List.replicate (m+1) (lkC (0,0))).set m (lkC ((m:Int),(m:Int)))),box b3 [.slice (some ⟨b1,0,none⟩) (m+1) (m+1),.slice (some ⟨b2,0,none⟩) m m,.int .i64 0] _,osl (some ⟨b2,0,none⟩) m _ 1 (List.replicate m (isC false))] from ?_);rw [eK,eI];refine (show W _ _ _ _ _ _ _ [zIi ((List.replicate (m+1) ((0:Int),(0:Int))).set m ((m:Int),(m:Int))) ⟨some ⟨b1,0,none⟩,m+1,some ⟨b2,0,none⟩,m⟩,zBj b3 (m+1) m 0 ⟨some ⟨b1,0,none⟩,m+1,some ⟨b2,0,none⟩,m⟩,zNz (List.replicate m false) ⟨some ⟨b1,0,none⟩,m+1,some ⟨b2,0,none⟩,m⟩] from ?_);rw [show zBj b3 (m+1) m 0 ⟨some ⟨b1,0,none⟩,m+1,some ⟨b2,0,none⟩,m⟩=zBj b3 ((List.replicate (m+1) ((0:Int),(0:Int))).set m ((m:Int),(m:Int))).length (List.replicate m false).length ([]:List Nat).length ⟨some ⟨b1,0,none⟩,m+1,some ⟨b2,0,none⟩,m⟩ by simp]
  refine zE (zEj b3 [] m) ⟨((List.replicate (m+1) ((0:Int),(0:Int))).set m ((m:Int),(m:Int)),List.replicate m false,⟨some ⟨b1,0,none⟩,m+1,some ⟨b2,0,none⟩,m⟩),RecOk.new m hm⟩ ?_;refine ret ?_;exact ends ⟨b3,rfl,rfl⟩
 ·refine zAD fun b2=>?_;refine zAb fun b1=>?_;refine ddA ?_;refine YN fun b3=>?_;refine ddA ?_;rw [em,em1];refine (show W _ _ _ _ _ _ _ [osl (some ⟨b1,0,none⟩) (m+1) _ 2 ((List.replicate (m+1) (lkC (0,0))).set m (lkC ((m:Int),(m:Int)))),box b3 [.slice (some ⟨b1,0,none⟩) (m+1) (m+1),.slice (some ⟨b2,0,none⟩) m m,.int .i64 0] _,osl (some ⟨b2,0,none⟩) m _ 1 (List.replicate m (isC false))] from ?_);rw [eK,eI];refine (show W _ _ _ _ _ _ _ [zIi ((List.replicate (m+1) ((0:Int),(0:Int))).set m ((m:Int),(m:Int))) ⟨some ⟨b1,0,none⟩,m+1,some ⟨b2,0,none⟩,m⟩,zBj b3 (m+1) m 0 ⟨some ⟨b1,0,none⟩,m+1,some ⟨b2,0,none⟩,m⟩,zNz (List.replicate m false) ⟨some ⟨b1,0,none⟩,m+1,some ⟨b2,0,none⟩,m⟩] from ?_);rw [show zBj b3 (m+1) m 0 ⟨some ⟨b1,0,none⟩,m+1,some ⟨b2,0,none⟩,m⟩=zBj b3 ((List.replicate (m+1) ((0:Int),(0:Int))).set m ((m:Int),(m:Int))).length (List.replicate m false).length ([]:List Nat).length ⟨some ⟨b1,0,none⟩,m+1,some ⟨b2,0,none⟩,m⟩ by simp]
  refine zE (zEj b3 [] m) ⟨((List.replicate (m+1) ((0:Int),(0:Int))).set m ((m:Int),(m:Int)),List.replicate m false,⟨some ⟨b1,0,none⟩,m+1,some ⟨b2,0,none⟩,m⟩),RecOk.new m hm⟩ ?_;refine ret ?_;exact ends ⟨b3,rfl,rfl⟩
end Go.Proofs.YtjcbjclhagobiaaGreat
end
section
namespace Go.Proofs.YtjcbjclhagobiaaGreat
set_option maxHeartbeats 1600000
open Go Go.KL Go.KM
variable {E:Env} {X:Xs}
set_option maxRecDepth 100000
def wgood (x:Pf×Int):Bool:=decide (0<=x.2)&&decide (x.2<=65535)&&x.1.sane
theorem Zv (x:Pf×Int):Does PR E X 196 [.agg (prC x).toArray] [] (fun v t=>v=.bool (wgood x)/\t=[]):=by
 unfold wgood;refine Does.of 16 inferInstance rfl (by decide) rfl ?_
 refine zB ?_;refine zU fun b1=>?_;refine zB ?_;rcases Bool.eq_false_or_eq_true (decide (0<=x.2)&&decide (x.2<=65535)) with hb|hb
 case inr=>
  refine zB ?_;rw [hb];refine ret ?_;exact ends ⟨rfl,rfl⟩
 case inl=>
  refine zB ?_;rw [hb];refine call (yA x.1) ?_;rintro _ _ ⟨rfl,rfl⟩;refine onA ?_;refine ret ?_;exact ends ⟨rfl,rfl⟩
theorem zGV (n:Nat) (hn:n<=1000):Does PR E X 416 [.int .i64 (n:Int)] [] (fun v t=>v=.int .i64 (((n+7) / 8:Nat):Int)/\t=[]):=by
 have e:((n:Int)+8-1) / 8=(((n+7) / 8:Nat):Int):=by omega
 refine Does.of 7 inferInstance rfl (by decide) rfl ?_
 refine zB ?_;rw [e];refine ret ?_;exact ends ⟨rfl,rfl⟩
theorem zHZ:Does PR E X 415 [.slice none 0 0] [] (fun v t=>v=.slice none 0 0/\t=[]):=by
 refine Does.of 8 inferInstance rfl (by decide) rfl ?_
 refine zB ?_;refine yes ?_;refine zB ?_;refine ret ?_;exact ends ⟨rfl,rfl⟩
def zBH (p:Pf):List Nat:=if p.sane then [if p.a.v6 then 6 else 4,p.n.toNat]++(Ze p.a.rd.hi p.a.rd.lo p.a.v6).take ((p.n.toNat+7) / 8) else []
theorem zJo (p:Pf):Does PR E X 394 [.slice none 0 0,p.v] [] (fun v t=>∃ base cap,v=.slice base (zBH p).length cap/\t=[osl base cap 5 1 ((zBH p).map u8e)]):=by
 refine Does.of 31 inferInstance rfl (by decide) rfl ?_
 refine zB ?_;refine zU fun b3=>?_;refine zB ?_;refine call (zHZ) ?_;rintro _ _ ⟨rfl,rfl⟩;refine onA ?_;refine call (yA p) ?_;rintro _ _ ⟨rfl,rfl⟩;refine onA ?_;unfold zBH;cases hs:p.sane with
 | false=>
  refine yes ?_;refine zB ?_;refine into (Into.nilO (T:=5) (sz:=1)) ?_;refine ret ?_;exact ends ⟨none,0,rfl,rfl⟩
 | true=>
  obtain ⟨hn0,hn1⟩:=xY hs;obtain ⟨n,hn⟩:=Int.eq_ofNat_of_zero_le hn0;have hw:width p.a.v6<=128:=yD _;have hdiv:width p.a.v6 / 8*8=width p.a.v6:=by cases p.a.v6 <;> rfl
  rw [hn] at hn1;have hL:(n+7) / 8<=width p.a.v6 / 8:=by omega
  refine no ?_;refine zB ?_;refine zH (fun h=>?_) (fun h=>?_)
  all_goals
   refine into (Into.nilO (T:=5) (sz:=1)) ?_;refine zB ?_;refine draw [0,0,0,4,12,30,63,0,128,511,0,1024,4095,8191,16383,32767] [5,6,9,12,14,15] [3,4,8,11,13] [0,1,2,3,4,7,8,10,11,5,6,9,12,13,14,15] ?_;refine zC ?_;refine yF fun b4=>?_;refine ddA ?_;refine xP fun b5 c5=>?_;refine ddA ?_;refine call (Xc p.a.hi p.a.lo p.a.v6 p.a.h1 p.a.h2) ?_;rintro _ _ ⟨b6,rfl,rfl⟩;refine zJ ?_;refine ddA ?_;rw [hn];refine call (zGV n (by omega)) ?_
   rintro _ _ ⟨rfl,rfl⟩;refine zJ ?_;refine ddA ?_;simp only [Int.toNat_natCast,zHn,Nat.sub_zero] at hL ⊢;refine DA.intoC (Jq (some ⟨b6,0,none⟩) (cap:=width p.a.v6 / 8) (sz:=1) (es:=(Ze (topN (min (width p.a.v6) 64) p.a.hi) (topN (width p.a.v6-64) p.a.lo) p.a.v6).map u8e) 0 ((n+7) / 8) (by omega) (es':=((Ze p.a.rd.hi p.a.rd.lo p.a.v6).take ((n+7) / 8)).map u8e) (by rw [List.drop_zero,List.map_take] <;> rfl)) ?_
   simp only [zHn,Nat.sub_zero];have hlen:(List.map u8e (List.take ((n+7) / 8) (Ze p.a.rd.hi p.a.rd.lo p.a.v6))).length=(n+7) / 8:=by
    rw [List.length_map,List.length_take,ZQ];omega
   refine zBV fun b7 c7=>?_;refine ddA ?_;refine ret ?_;have e1:∀ a:Nat,(a::n::List.take ((n+7) / 8) (Ze p.a.rd.hi p.a.rd.lo p.a.v6)).length=0+2+(n+7) / 8:=fun a=>by simp [ZQ];omega
   simp only [h,if_true,Bool.false_eq_true,if_false,List.cons_append,List.nil_append] at e1 ⊢;simp only [e1];exact ends ⟨b7,c7,rfl,rfl⟩
end Go.Proofs.YtjcbjclhagobiaaGreat
end
section
namespace Go.Proofs.YtjcbjclhagobiaaGreat
set_option maxHeartbeats 1600000
open Go Go.KL Go.KM
variable {E:Env} {X:Xs}
set_option maxRecDepth 100000
def zMa (h c:Nat):Nat:=((h ^^^ c)*1099511628211)%18446744073709551616
def zAI (h:Nat) (l:List Nat):Nat:=l.foldl zMa h
theorem zMp {h c:Nat}:zMa h c<18446744073709551616:=Nat.mod_lt _ (by decide)
theorem zDi {h:Nat} {l:List Nat} (hh:h<18446744073709551616):zAI h l<18446744073709551616:=by
 induction l generalizing h with
 | nil=>exact hh
 | cons a l ih=>exact ih zMp
theorem zFw {h c:Nat} (hh:h<18446744073709551616) (hc:c<256):IntKind.u64.wrap (zOh .u64 (h:Int) (IntKind.u64.wrap (c:Int))*1099511628211)=((zMa h c:Nat):Int):=by
 have e1:IntKind.u64.wrap (c:Int)=(c:Int):=zDH (show c<2^64 by omega)
 rw [e1,zIb hh (by omega)]
 show (((h ^^^ c:Nat):Int)*1099511628211)%18446744073709551616=_;unfold zMa;omega
def fnv0:Nat:=14695981039346656037
theorem zNa:(14695981039346656037:Int)=(fnv0:Int):=by unfold fnv0;simp
theorem zIv:fnv0<18446744073709551616:=by unfold fnv0;omega
attribute [irreducible] fnv0
theorem zLY (pb:Nat) (a1 a2:Option Addr) (c1 c2:Nat) (l1 l2:List Nat) (h1:∀ x∈l1,x<256) (h2:∀ x∈l2,x<256) (hl1:l1.length<=1000) (hl2:l2.length<=1000) :
  Does PR E X 393 [.slice (some ⟨pb,0,none⟩) 2 2] [osl (some ⟨pb,0,none⟩) 2 22 1 [[.slice a1 l1.length c1],[.slice a2 l2.length c2]],osl a1 c1 5 1 (l1.map u8e),osl a2 c2 5 1 (l2.map u8e)] (fun v t=>v=u64 (zAI fnv0 (l1++l2))/\t=[]):=by
 refine Does.of 29 inferInstance rfl (by decide) rfl ?_
 refine zB ?_;rw [zNa];refine Wc ?_;refine zB ?_;refine yes ?_;refine zB ?_;refine loop (ι:=Nat) (fun j=>l1.length-j) (fun j=>j<=l1.length) (fun j=>[(3,u64 (zAI fnv0 (l1.take j))),(8,.slice (some ⟨pb,0,none⟩) 2 2),(9,.int .i64 2),(10,.int .i64 0),(14,.slice a1 l1.length c1),(15,.int .i64 (l1.length:Int)),(16,.int .i64 (j:Int))])
  (fun _=>[osl (some ⟨pb,0,none⟩) 2 22 1 [[.slice a1 l1.length c1],[.slice a2 l2.length c2]],osl a1 c1 5 1 (l1.map u8e),osl a2 c2 5 1 (l2.map u8e)]) 0 (by omega) ?_
 intro j hj ih;(try dsimp only at hj ih ⊢);rcases Nat.lt_or_ge j l1.length with hlt|hge
 ·have hx:l1[((j:Nat):Int).toNat]?=some l1[j]:=by simp [hlt]
  have e1:zAI fnv0 (l1.take (j+1))=zMa (zAI fnv0 (l1.take j)) l1[j]:=by unfold zAI;rw [<-List.take_append_getElem hlt,List.foldl_append,List.foldl_cons,List.foldl_nil]
  refine zB ?_;refine yes ?_;refine zB ?_;rw [zFw (zDi zIv) (h1 _ (List.getElem_mem hlt)),<-e1];exact next (ih (j+1) (by omega) (by omega))
 ·obtain rfl:j=l1.length:=by omega
  rw [show l1.take l1.length=l1 from List.take_length];refine zB ?_;refine no ?_;refine zB ?_;refine again ?_;refine zB ?_;refine yes ?_;refine zB ?_;have hH:zAI fnv0 l1<18446744073709551616:=zDi zIv;have e0:zAI fnv0 (l1++l2)=zAI (zAI fnv0 l1) l2:=by unfold zAI;rw [List.foldl_append]
  rw [e0];refine loop (ι:=Nat) (fun j=>l2.length-j) (fun j=>j<=l2.length) (fun j=>[(3,u64 (zAI (zAI fnv0 l1) (l2.take j))),(8,.slice (some ⟨pb,0,none⟩) 2 2),(9,.int .i64 2),(10,.int .i64 1),(14,.slice a2 l2.length c2),(15,.int .i64 (l2.length:Int)),(16,.int .i64 (j:Int))])
   (fun _=>[osl (some ⟨pb,0,none⟩) 2 22 1 [[.slice a1 l1.length c1],[.slice a2 l2.length c2]],osl a1 c1 5 1 (l1.map u8e),osl a2 c2 5 1 (l2.map u8e)]) 0 (by omega) ?_
  intro j hj ih;(try dsimp only at hj ih ⊢);rcases Nat.lt_or_ge j l2.length with hlt|hge
  ·have hx:l2[((j:Nat):Int).toNat]?=some l2[j]:=by simp [hlt]
   have e1:zAI (zAI fnv0 l1) (l2.take (j+1))=zMa (zAI (zAI fnv0 l1) (l2.take j)) l2[j]:=by unfold zAI;rw [<-List.take_append_getElem hlt,List.foldl_append,List.foldl_cons,List.foldl_nil]
   refine zB ?_;refine yes ?_;refine zB ?_;rw [zFw (zDi hH) (h2 _ (List.getElem_mem hlt)),<-e1];exact next (ih (j+1) (by omega) (by omega))
  ·obtain rfl:j=l2.length:=by omega
   rw [show l2.take l2.length=l2 from List.take_length];refine zB ?_;refine no ?_;refine zB ?_;refine again ?_;refine zB ?_;refine no ?_;refine zB ?_;refine ret ?_;exact ends ⟨rfl,rfl⟩
end Go.Proofs.YtjcbjclhagobiaaGreat
end
section
namespace Go.Proofs.YtjcbjclhagobiaaGreat
set_option maxHeartbeats 1600000
open Go Go.KL Go.KM
variable {E:Env} {X:Xs}
set_option maxRecDepth 100000
def zIa (row:Nat) (p:Pf):Nat:=zAI fnv0 ([row]++zBH p)
def zBi (row:Nat) (p:Pf):Nat:=row*64+zIa row p%64
attribute [local irreducible] zMa zAI
theorem zKs {p:Pf}:∀ x∈zBH p,x<256:=by
 unfold zBH;cases hs:p.sane with
 | false=>intro x hx;simp at hx
 | true=>
  intro x hx;have:=xY hs
  have:=yD p.a.v6
  simp only [if_true,List.mem_append,List.mem_cons,List.not_mem_nil,or_false] at hx;rcases hx with (rfl|rfl)|hx
  ·split <;> decide
  ·omega
  ·exact zJS x (List.mem_of_mem_take hx)
theorem zIe {p:Pf}:(zBH p).length<=18:=by
 unfold zBH;split
 ·have:=yD p.a.v6
  simp [ZQ];omega
 ·simp
theorem zIM (row:Nat) (hr:row<256) (p:Pf):Does PR E X 361 [.int .i64 (row:Int),p.v] [] (fun v t=>v=u64 (zIa row p)/\t=[]):=by
 have e1:max (row:Int) 0=(row:Int):=by omega
 refine Does.of 13 inferInstance rfl (by decide) rfl ?_
 refine zB ?_;refine zU fun b3=>?_;refine zB ?_;rw [e1];refine buildSlice fun b8=>?_;refine zB ?_;refine call (zJo p) ?_;rintro _ _ ⟨wb,wc,rfl,rfl⟩;refine zB ?_;refine buildSlice fun b11=>?_;refine zB ?_;refine call (zLY b11 (some ⟨b8,0,none⟩) wb 1 wc [row] (zBH p) (by simpa using hr) zKs (by simp) (Nat.le_trans zIe (by decide))) ?_
 rintro _ _ ⟨rfl,rfl⟩;refine zB ?_;refine ret ?_;exact ends ⟨rfl,rfl⟩
abbrev skB (s:Nat) (base:Option Addr) (cap:Nat):HP:=box s [.slice base 128 cap,.int .i64 64] 414
theorem zCx (s:Nat) (base:Option Addr) (cap:Nat) (p:Pf) (tell:Value) (C:Nat->List Nat) (G:Nat->HP) (hC:∀ r,r<2->(C r).length=128) (h:p.sane=true->∀ r,r<2->DoesV PR E X tell [.pointer (some (eltA base (zBi r p) 1 0))] [osl base cap 5 1 ((C r).map u8e),G r] (fun v t=>v=.tuple #[]/\t=[osl base cap 5 1 ((C (r+1)).map u8e),G (r+1)])) :
  Does PR E X 316 [pt s,p.v,tell] [skB s base cap,osl base cap 5 1 ((C 0).map u8e),G 0] (fun v t=>v=.bool p.sane/\t=[skB s base cap,osl base cap 5 1 ((C (if p.sane then 2 else 0)).map u8e),G (if p.sane then 2 else 0)]):=by
 refine Does.of 61 inferInstance rfl (by decide) rfl ?_
 refine zB ?_;refine zU fun b4=>?_;refine zB ?_;have hb:((some (⟨s,0,none⟩:Addr)).isNone||decide (((128:Nat):Int)=0))=false:=by simp
 refine zB ?_;refine call (yA p) ?_;rintro _ _ ⟨rfl,rfl⟩;refine onA ?_;cases hs:p.sane with
 | false=>
  refine yes ?_;refine zB ?_;refine ret ?_;exact ends ⟨rfl,rfl⟩
 | true=>
  have h:=h hs;refine no ?_;refine zB ?_;refine draw [0,1,3,7,15,0,32,96,224,511,0] [] [3,8] [0,1,2,3,4,5,6,7,8,9,10] ?_;refine zC ?_;refine zB ?_;rw [if_pos trivial,show ((128:Nat):Int) / 64=2 by omega]
  refine loop (ι:=Nat) (fun r=>2-r) (fun r=>r<=2) (fun r=>[(0,pt s),(2,tell),(4,.pointer (some ⟨b4,0,none⟩)),(32,.int .i64 2),(33,.int .i64 (r:Int))]) (fun r=>[box b4 (yG p.v) 52,skB s base cap,osl base cap 5 1 ((C r).map u8e),G r]) 0 (by omega) ?_
  intro r hr ih;(try dsimp only at hr ih ⊢);rcases Nat.lt_or_ge r 2 with hlt|hge
  ·have hh:=h r hlt;have hCl:((C r).map u8e).length=128:=by rw [List.length_map];exact hC r hlt
   have hmod:zIa r p%64<64:=Nat.mod_lt _ (by decide)
   refine zB ?_;refine yes ?_;refine zB ?_;refine draw [0,0,2,6,14,0,0,64,192,448,992,0,0,6144,0,16384,49152,114688,245760,522240,1046528,2097120,4194302,8388607] [13,23] [4,9,12,17,18,20,22] [0,1,2,3,4,5,6,7,8,9,10,11,12,14,15,16,17,18,13,19,20,21,22,23] ?_;refine zC ?_;refine call (zIM r (by omega) p) ?_
   rintro _ _ ⟨rfl,rfl⟩;refine zJ ?_;refine ddA ?_;have eix:(((r:Nat):Int)*64+((zIa r p:Nat):Int)%64).toNat=zBi r p:=by unfold zBi;omega
   rw [eix];refine XD hh ?_;rintro _ _ ⟨rfl,rfl⟩;refine zJ ?_;refine ddA ?_;exact next (ih (r+1) (by omega) (by omega))
  ·obtain rfl:r=2:=by omega
   refine zB ?_;refine no ?_;refine zB ?_;refine ret ?_;exact ends ⟨rfl,rfl⟩
def bump (c:Nat):Nat:=c+min 1 (255-c)
theorem zJh {c:Nat} (h:c<256):bump c<256:=by unfold bump;omega
structure SkOk (C:List Nat):Prop where
 len:C.length=128
 lt:∀ x∈C,x<256
def Vq (C:List Nat) (row:Nat) (p:Pf):List Nat:=C.set (zBi row p) (bump (C.getD (zBi row p) 0))
def Yy (C:List Nat) (p:Pf):List Nat:=if p.sane then Vq (Vq C 0 p) 1 p else C
def yV (C:List Nat) (p:Pf):Nat:=if p.sane then min (min 255 (C.getD (zBi 0 p) 0)) (C.getD (zBi 1 p) 0) else 0
def YV (C:List Nat):List Nat:=C.map (· / 2)
theorem zKR {row:Nat} {p:Pf} (h:row<2):zBi row p<128:=by
 have:zIa row p%64<64:=Nat.mod_lt _ (by decide)
 unfold zBi;omega
theorem SkOk.add1 {C:List Nat} (h:SkOk C) {row:Nat} {p:Pf}:SkOk (Vq C row p):=by
 refine ⟨by unfold Vq;simpa using h.len,fun x hx=>?_⟩
 unfold Vq at hx;rcases List.mem_or_eq_of_mem_set hx with hx|rfl
 ·exact h.lt x hx
 ·refine zJh ?_;rw [List.getD_eq_getElem?_getD];cases e:C[zBi row p]? with
  | none=>simp
  | some c=>exact h.lt c (List.mem_of_getElem? e)
theorem SkOk.add {C:List Nat} (h:SkOk C) {p:Pf}:SkOk (Yy C p):=by
 unfold Yy;split
 ·exact h.add1.add1
 ·exact h
theorem SkOk.decay {C:List Nat} (h:SkOk C):SkOk (YV C):=by
 refine ⟨by unfold YV;simpa using h.len,fun x hx=>?_⟩
 obtain ⟨c,hc,rfl⟩:=List.mem_map.1 hx;have:=h.lt c hc
 omega
theorem SkOk.new:SkOk (List.replicate 128 0):=⟨by simp,fun x hx=>by rw [(List.mem_replicate.1 hx).2];decide⟩
theorem zOI {k:Nat} (h:k<256):IntKind.u8.wrap (k:Int)=(k:Int):=by
 show (k:Int)%256=k;omega
theorem zJJ (base:Option Addr) (cap:Nat) (C:List Nat) (hC:SkOk C) (i:Nat) (hi:i<128) (G:HP):Does PR E X 317 [.pointer (some (eltA base i 1 0))] [osl base cap 5 1 (C.map u8e),G] (fun v t=>v=.tuple #[]/\t=[osl base cap 5 1 ((C.set i (bump (C.getD i 0))).map u8e),G]):=by
 have hil:i<C.length:=by rw [hC.len];exact hi
 have hx:C[i]?=some C[i]:=by simp [hil]
 have hlt:C[i]<256:=hC.lt _ (List.getElem_mem hil);refine Does.of 12 inferInstance rfl (by decide) rfl ?_
 refine draw [0,1,3,0,8,24,56,120,255,511,1023] [10] [2,5] [0,1,2,3,4,5,6,7,8,9,10] ?_;refine zC ?_;have e1:IntKind.u8.wrap ((C[i]:Int)+min 1 (IntKind.u8.wrap (255-(C[i]:Int))))=((bump C[i]:Nat):Int):=by
  have e2:IntKind.u8.wrap (255-(C[i]:Int))=((255-C[i]:Nat):Int):=by
   rw [show (255-(C[i]:Int))=((255-C[i]:Nat):Int) by omega]
   exact zOI (by omega)
  rw [e2,show (C[i]:Int)+min 1 ((255-C[i]:Nat):Int)=((bump C[i]:Nat):Int) by unfold bump;omega]
  exact zOI (zJh hlt)
 have e3:C.getD i 0=C[i]:=by rw [List.getD_eq_getElem?_getD,hx];rfl
 rw [e1,e3];refine (show W _ _ _ _ _ _ _ [osl base cap _ 1 ((C.map u8e).set i (u8e (bump C[i]))),_] from ?_);rw [<-List.map_set];refine fall ?_;exact ends ⟨rfl,rfl⟩
theorem zEU (base:Option Addr) (cap:Nat) (C:List Nat) (hC:SkOk C) (i:Nat) (hi:i<128) (b m:Nat) (hm:m<256):Does PR E X 389 [.pointer (some (eltA base i 1 0)),pt b] [osl base cap 5 1 (C.map u8e),box b [.int .i64 (m:Int)] 3] (fun v t=>v=.tuple #[]/\t=[osl base cap 5 1 (C.map u8e),box b [.int .i64 ((min m (C.getD i 0):Nat):Int)] 3]):=by
 have hil:i<C.length:=by rw [hC.len];exact hi
 have hx:C[i]?=some C[i]:=by simp [hil]
 have hlt:C[i]<256:=hC.lt _ (List.getElem_mem hil);have e3:C.getD i 0=C[i]:=by rw [List.getD_eq_getElem?_getD,hx];rfl
 have e1:min (m:Int) (C[i]:Int)=((min m C[i]:Nat):Int):=by omega
 rw [e3];refine Does.of 9 inferInstance rfl (by decide) rfl ?_
 refine draw [0,0,2,6,14,31,63] [6] [0,3,4] [0,1,2,3,4,5,6] ?_;refine zC ?_;refine zB ?_;rw [<-e1];refine fall ?_;exact ends ⟨rfl,rfl⟩
abbrev skS (s:Nat) (C:List Nat) (q:Option Addr×Nat):List HP:=[skB s q.1 q.2,osl q.1 q.2 5 1 (C.map u8e)]
abbrev skP (s:Nat) (C:List Nat):HP:=HP.ex (skS s C)
def JI (C:List Nat) (p:Pf):Nat->List Nat
 | 0=>C
 | 1=>Vq C 0 p
 | _=>Vq (Vq C 0 p) 1 p
theorem zDT {C:List Nat} (h:SkOk C) {p:Pf} {r:Nat} (hr:r<2):SkOk (JI C p r):=by
 rcases (show r=0∨r=1 by omega) with rfl|rfl
 ·exact h
 ·exact h.add1
theorem zE9 {C:List Nat} {p:Pf} {r:Nat} (hr:r<2):JI C p (r+1)=(JI C p r).set (zBi r p) (bump ((JI C p r).getD (zBi r p) 0)):=by
 rcases (show r=0∨r=1 by omega) with rfl|rfl <;> rfl
def VH (C:List Nat) (p:Pf):Nat->Nat
 | 0=>255
 | 1=>min 255 (C.getD (zBi 0 p) 0)
 | _=>min (min 255 (C.getD (zBi 0 p) 0)) (C.getD (zBi 1 p) 0)
theorem zDX {C:List Nat} {p:Pf} {r:Nat} (hr:r<2):VH C p (r+1)=min (VH C p r) (C.getD (zBi r p) 0):=by
 rcases (show r=0∨r=1 by omega) with rfl|rfl <;> rfl
theorem zGv {C:List Nat} (h:SkOk C) {p:Pf} {r:Nat}:VH C p r<256:=by
 unfold VH;split <;> omega
theorem zGk (s:Nat) (C:List Nat) (hC:SkOk C) (p:Pf):Does PR E X 255 [pt s,p.v] [skP s C] (fun v t=>v=.bool p.sane/\t=[skP s (Yy C p)]):=by
 refine Does.of 8 inferInstance rfl (by decide) rfl ?_
 refine zW (skS s C) fun q=>?_;obtain ⟨base,cap⟩:=q;(try dsimp only);refine zB ?_;refine zU fun b3=>?_;refine zB ?_;refine VV (fun _:Unit=>[]) () ?_;refine call (zCx s base cap p (.func (.func 317) #[] #[]) (JI C p) (fun _=>all []) (fun r hr=>(zDT hC hr).len) (fun _ r hr=>?_)) ?_
 ·rw [zE9 hr];exact (zJJ base cap (JI C p r) (zDT hC hr) (zBi r p) (zKR hr) _).v
 ·rintro _ _ ⟨rfl,rfl⟩;refine zB ?_;have e:JI C p (if p.sane then 2 else 0)=Yy C p:=by unfold Yy;split <;> rfl
  rw [e];refine zE (skS s (Yy C p)) (base,cap) ?_;refine ret ?_;exact ends ⟨rfl,rfl⟩
theorem zB7 (s:Nat) (C:List Nat) (hC:SkOk C) (p:Pf):Does PR E X 357 [pt s,p.v] [skP s C] (fun v t=>v=.int .i64 (yV C p:Int)/\t=[skP s C]):=by
 refine Does.of 12 inferInstance rfl (by decide) rfl ?_
 refine zW (skS s C) fun q=>?_;obtain ⟨base,cap⟩:=q;(try dsimp only);refine zB ?_;refine zU fun b3=>?_;refine zB ?_;refine alloc fun b5=>?_;refine zB ?_;refine call (zCx s base cap p (.func (.func 389) #[] #[pt b5]) (fun _=>C) (fun r=>box b5 [.int .i64 ((VH C p r:Nat):Int)] 3) (fun r hr=>hC.len) (fun _ r hr=>?_)) ?_
 ·rw [zDX hr];exact (zEU base cap C hC (zBi r p) (zKR hr) b5 (VH C p r) (zGv hC)).v
 ·rintro _ _ ⟨rfl,rfl⟩;refine zB ?_;unfold yV;cases hs:p.sane with
  | false=>
   refine yes ?_;refine zB ?_;refine zE (skS s C) (base,cap) ?_;refine ret ?_;exact ends ⟨rfl,rfl⟩
  | true=>
   refine no ?_;refine zB ?_;refine zE (skS s C) (base,cap) ?_;refine ret ?_;exact ends ⟨rfl,rfl⟩
theorem zHE:Does PR E X 217 [.int .i64 2,.int .i64 64] [] (fun v t=>∃ s,v=pt s/\t=[skP s (List.replicate 128 0)]):=by
 have e:IntKind.i64.wrap (max 1 (min 2 4)*max 1 (min 64 256))=128:=by decide
 have e2:(max 1 (min 64 256):Int)=64:=by decide
 refine Does.of 18 inferInstance rfl (by decide) rfl ?_
 refine zB ?_;rw [e,e2];refine makeSlice fun b=>?_;refine zB ?_;refine zU fun s=>?_;refine zB ?_;have e3:List.replicate (128:Int).toNat [Value.int .u8 0]=(List.replicate 128 0).map u8e:=by rw [List.map_replicate];rfl
 rw [e3];refine zE (skS s (List.replicate 128 0)) (some ⟨b,0,none⟩,128) ?_;refine ret ?_;exact ends ⟨s,rfl,rfl⟩
theorem zBw (s:Nat) (C:List Nat) (hC:SkOk C):Does PR E X 243 [pt s] [skP s C] (fun v t=>v=.tuple #[]/\t=[skP s (YV C)]):=by
 refine Does.of 23 inferInstance rfl (by decide) rfl ?_
 refine zW (skS s C) fun q=>?_;obtain ⟨base,cap⟩:=q;(try dsimp only);refine zB ?_;refine no ?_;refine zB ?_;have hlen:=hC.len;refine loop (ι:=Nat) (fun j=>128-j) (fun j=>j<=128) (fun j=>[(0,pt s),(9,.int .i64 128),(10,.int .i64 (j:Int))]) (fun j=>[osl base cap 5 1 (((C.take j).map (· / 2)++C.drop j).map u8e),skB s base cap]) 0 (by omega) ?_
 intro j hj ih;(try dsimp only at hj ih ⊢);rcases Nat.lt_or_ge j 128 with hlt|hge
 ·have hjl:j<C.length:=by omega
  have hx:((C.take j).map (· / 2)++C.drop j)[((j:Nat):Int).toNat]?=some C[j]:=by
   rw [show ((j:Nat):Int).toNat=j by omega,List.getElem?_append_right (by simp;omega)]
   simp;rw [show j-min j C.length=0 by omega]
   simp [hjl]
  have hel:((C.take j).map (· / 2)++C.drop j).length=128:=by simp;omega
  refine zB ?_;refine yes ?_;refine zB ?_;have hlt2:C[j]<256:=hC.lt _ (List.getElem_mem hjl);refine WL.cm (by exact zO) rfl rfl (zON rfl rfl (zL4 _ .u8 (by omega) (by decide) (by show (C[j]:Int)<=255;omega))) ?_
  refine zB ?_;have ej:((j:Nat):Int).toNat=j:=by omega
  have e5:((C[j]:Int) / 2)=((C[j] / 2:Nat):Int):=by omega
  have e6:((C.take j).map (· / 2)++C.drop j).set j (C[j] / 2)=(C.take (j+1)).map (· / 2)++C.drop (j+1):=by
   have e7:C.drop j=C[j]::C.drop (j+1):=List.drop_eq_getElem_cons hjl;rw [List.set_append_right _ _ (by simp;omega),e7]
   rw [show j-((C.take j).map (· / 2)).length=0 by simp;omega,List.set_cons_zero,<-List.take_append_getElem hjl,List.map_append,List.append_assoc]
   rfl
  rw [ej,e5];refine (show W _ _ _ _ _ _ _ [osl base cap _ 1 ((((C.take j).map (· / 2)++C.drop j).map u8e).set j (u8e (C[j] / 2))),_] from ?_);rw [<-List.map_set,e6];exact next (ih (j+1) (by omega) (by omega))
 ·obtain rfl:j=128:=by omega
  refine zB ?_;refine no ?_;refine zB ?_;have e:(C.take 128).map (· / 2)++C.drop 128=YV C:=by
   unfold YV;rw [List.drop_of_length_le (by omega),List.append_nil,List.take_of_length_le (by omega)]
  rw [e];refine zE (skS s (YV C)) (base,cap) ?_;refine fall ?_;exact ends ⟨rfl,rfl⟩
end Go.Proofs.YtjcbjclhagobiaaGreat
end
section
namespace Go.Proofs.YtjcbjclhagobiaaGreat
set_option maxHeartbeats 1600000
open Go Go.KL Go.KM
variable {E:Env} {X:Xs}
set_option maxRecDepth 100000
structure TE where
 i:Int
 sc:Int
 tag:Nat
deriving DecidableEq
abbrev teC (e:TE):List Value:=[.int .i64 e.i,.int .i64 e.sc]
abbrev teV (e:TE):Value:=.agg (teC e).toArray
theorem XU (x:Int):Does PR E X 285 [.int .i64 x] [] (fun v t=>v=.bool false/\t=[]):=by
 refine Does.of 6 inferInstance rfl (by decide) rfl ?_
 refine zB ?_;rw [show (!decide (x=x))=false by simp]
 refine ret ?_;exact ends ⟨rfl,rfl⟩
theorem zBu (x y:Int):Does PR E X 226 [.int .i64 x,.int .i64 y] [] (fun v t=>∃ c:Int,(c<0↔x<y)/\v=.int .i64 c/\t=[]):=by
 refine Does.of 20 inferInstance rfl (by decide) rfl ?_
 refine zB ?_;refine call (XU x) ?_;rintro _ _ ⟨rfl,rfl⟩;refine onA ?_;refine call (XU y) ?_;rintro _ _ ⟨rfl,rfl⟩;refine onA ?_;refine no ?_;refine zB ?_;refine no ?_;refine zB ?_;refine zH (fun h=>?_) (fun h=>?_)
 ·have h:=of_decide_eq_true h;refine zB ?_;refine ret ?_;exact ends ⟨-1,by omega,rfl,rfl⟩
 ·have h:=of_decide_eq_false h;refine zB ?_;refine zH (fun h2=>?_) (fun h2=>?_)
  ·refine zB ?_;refine ret ?_;exact ends ⟨1,by omega,rfl,rfl⟩
  ·refine zB ?_;refine ret ?_;exact ends ⟨0,by omega,rfl,rfl⟩
theorem zLu (a b:TE):Does PR E X 410 [teV a,teV b] [] (fun v t=>∃ c:Int,(c<0↔(0:Int)<0)/\v=.int .i64 c/\t=[]):=by
 refine Does.of 5 inferInstance rfl (by decide) rfl ?_
 refine zB ?_;refine zU fun b2=>?_;refine zB ?_;refine zU fun b3=>?_;refine zB ?_;refine ret ?_;exact ends ⟨0,Iff.rfl,rfl,rfl⟩
theorem zGl (a b:TE):Does PR E X 411 [teV a,teV b] [] (fun v t=>∃ c:Int,(c<0↔a.sc<b.sc)/\v=.int .i64 c/\t=[]):=by
 refine Does.of 10 inferInstance rfl (by decide) rfl ?_
 refine zB ?_;refine zU fun b2=>?_;refine zB ?_;refine zU fun b3=>?_;refine zB ?_;refine call (zBu a.sc b.sc) ?_;rintro _ _ ⟨c,hc,rfl,rfl⟩;refine zB ?_;refine ret ?_;exact ends ⟨c,hc,rfl,rfl⟩
abbrev teS (base:Option Addr) (cap:Nat) (l:List TE):HP:=osl base cap 479 2 (l.map teC)
def swp (l:List TE) (i j:Nat):List TE:=match l[i]?,l[j]? with
 | some x,some y=>(l.set i y).set j x
 | _,_=>l
theorem zNO {l:List TE} {i j:Nat}:(swp l i j).length=l.length:=by unfold swp;split <;> simp
theorem zME {l:List TE} {i j:Nat} (hi:i<l.length) (hj:j<l.length):swp l i j=(l.set i l[j]).set j l[i]:=by
 unfold swp;rw [List.getElem?_eq_getElem hi,List.getElem?_eq_getElem hj]
def swpN (l:List TE) (a b:Nat):Nat->List TE
 | 0=>l
 | n+1=>swp (swpN l a b n) (a+n) (b+n)
theorem zFI {l:List TE} {a b:Nat}:∀ {n},(swpN l a b n).length=l.length
 | 0=>rfl
 | n+1=>by unfold swpN;rw [zNO,zFI]
theorem Zl (base:Option Addr) (cap:Nat) (l:List TE) (a b n:Nat) (ha:a+n<=l.length) (hb:b+n<=l.length) (hl:l.length<=100000) (cmp:Value):Does PR E X 426 [.slice base l.length cap,.int .i64 (a:Int),.int .i64 (b:Int),.int .i64 (n:Int),cmp] [teS base cap l] (fun v t=>v=.tuple #[]/\t=[teS base cap (swpN l a b n)]):=by
 refine Does.of 38 inferInstance rfl (by decide) rfl ?_
 refine zB ?_;refine loop (ι:=Nat) (fun i=>n-i) (fun i=>i<=n) (fun i=>[(0,.slice base l.length cap),(1,.int .i64 (a:Int)),(2,.int .i64 (b:Int)),(3,.int .i64 (n:Int)),(10,.int .i64 (i:Int))]) (fun i=>[teS base cap (swpN l a b i)]) 0 (by omega) ?_
 intro i hi ih;(try dsimp only at hi ih ⊢);have hlen:=zFI (l:=l) (a:=a) (b:=b) (n:=i);rcases Nat.lt_or_ge i n with hlt|hge
 ·have e1:swpN l a b (i+1)=swp (swpN l a b i) (a+i) (b+i):=rfl;generalize swpN l a b i=m at hlen e1;have h1:a+i<m.length:=by omega
  have h2:b+i<m.length:=by omega
  rw [zME h1 h2] at e1;have ea:((a:Int)+(i:Int)).toNat=a+i:=by omega
  have eb:((b:Int)+(i:Int)).toNat=b+i:=by omega
  have hx1:m[((a:Int)+(i:Int)).toNat]?=some m[a+i]:=by rw [ea];simp [h1]
  have hx2:m[((b:Int)+(i:Int)).toNat]?=some m[b+i]:=by rw [eb];simp [h2]
  have hx3:((m.map teC).set ((a:Int)+(i:Int)).toNat (teC m[b+i]))[((b:Int)+(i:Int)).toNat]?=some (teC ((m.set (a+i) m[b+i])[b+i]'(by simpa using h2))):=by
   rw [ea,eb,<-List.map_set,List.getElem?_map,List.getElem?_eq_getElem (by simpa using h2)];rfl
  rw [<-hlen];refine zB ?_;refine yes ?_;refine zB ?_;refine draw [0,0,0,6,0,0,0,96,0,0,0,1536,3840,7936,0,0,0,98304,245760,507904,1048335,2096911,4194303,8388607] [21,23] [12,13,18,19,20,22] [0,1,2,3,4,5,6,7,8,9,10,11,12,13,14,15,16,17,18,19,20,21,22,23] ?_;refine zC ?_;rw [ea,eb,hlen];refine (show W _ _ _ _ _ _ _ [osl base cap _ 2 (((m.map teC).set (a+i) (teC m[b+i])).set (b+i) (teC m[a+i]))] from ?_);rw [<-List.map_set,<-List.map_set,<-e1];refine zB ?_;exact next (ih (i+1) (by omega) (by omega))
 ·obtain rfl:i=n:=by omega
  refine zB ?_;refine no ?_;refine zB ?_;refine fall ?_;exact ends ⟨rfl,rfl⟩
end Go.Proofs.YtjcbjclhagobiaaGreat
end
section
namespace Go.Proofs.YtjcbjclhagobiaaGreat
open Go Go.KL Go.KM
theorem zNM {X Y Z:List TE} {x y:TE} {i j:Nat} (hi:i=X.length) (hj:j=X.length+1+Y.length):swp (X++x::(Y++y::Z)) i j=X++y::(Y++x::Z):=by
 subst hi;subst hj;have h1:X.length<(X++x::(Y++y::Z)).length:=by simp
 have h2:X.length+1+Y.length<(X++x::(Y++y::Z)).length:=by simp;omega
 rw [zME h1 h2];have e1:(X++x::(Y++y::Z))[X.length]=x:=by simp
 have e2:(X++x::(Y++y::Z))[X.length+1+Y.length]=y:=by
  rw [List.getElem_append_right (by omega)]
  have:X.length+1+Y.length-X.length=Y.length+1:=by omega
  simp only [this,List.getElem_cons_succ];simp
 rw [e1,e2];rw [List.set_append_right _ _ (Nat.le_refl _),Nat.sub_self,List.set_cons_zero,List.set_append_right _ _ (by omega)]
 have:X.length+1+Y.length-X.length=Y.length+1:=by omega
 rw [this,List.set_cons_succ,List.set_append_right _ _ (Nat.le_refl _),Nat.sub_self,List.set_cons_zero]
theorem zAT {P U V W Q:List TE} (hn:U.length=W.length):∀ k,k<=U.length->swpN (P++(U++(V++(W++Q)))) P.length (P.length+U.length+V.length) k=(P++W.take k)++(U.drop k++(V++U.take k++(W.drop k++Q)))
 | 0,_=>by simp [swpN]
 | k+1,h=>by
  have ih:=zAT (P:=P) (V:=V) (Q:=Q) hn k (by omega)
  unfold swpN;rw [ih];have hu:U.drop k=U[k]::U.drop (k+1):=List.drop_eq_getElem_cons (by omega)
  have hw:W.drop k=W[k]::W.drop (k+1):=List.drop_eq_getElem_cons (by omega)
  rw [hu,hw];have e:(P++W.take k)++(U[k]::U.drop (k+1)++(V++U.take k++(W[k]::W.drop (k+1)++Q)))=(P++W.take k)++U[k]::((U.drop (k+1)++(V++U.take k))++W[k]::(W.drop (k+1)++Q)):=by simp only [List.append_assoc,List.cons_append]
  rw [e,zNM (by simp;omega) (by simp;omega)]
  rw [<-List.take_append_getElem (l:=W) (i:=k) (by omega),<-List.take_append_getElem (l:=U) (i:=k) (by omega)]
  simp only [List.append_assoc,List.cons_append,List.nil_append]
theorem zEo {P U V W Q:List TE} (hn:U.length=W.length) {a b:Nat} (ha:a=P.length) (hb:b=P.length+U.length+V.length):swpN (P++(U++(V++(W++Q)))) a b U.length=P++(W++(V++(U++Q))):=by
 subst ha;subst hb;rw [zAT hn U.length (Nat.le_refl _)];have h1:W.take U.length=W:=List.take_of_length_le (by omega)
 have h2:W.drop U.length=[]:=List.drop_of_length_le (by omega)
 rw [h1,h2];simp
end Go.Proofs.YtjcbjclhagobiaaGreat
end
section
namespace Go.Proofs.YtjcbjclhagobiaaGreat
set_option maxHeartbeats 1600000
open Go Go.KL Go.KM
variable {E:Env} {X:Xs}
set_option maxRecDepth 100000
theorem zE5 (base:Option Addr) (cap:Nat) (P A B Q:List TE) (hl:(P++(A++(B++Q))).length<=100000) (hA:A≠[]) (hB:B≠[]) (cmp:Value):Does PR E X 424 [.slice base (P++(A++(B++Q))).length cap,.int .i64 (P.length:Int),.int .i64 ((P.length+A.length:Nat):Int),.int .i64 ((P.length+A.length+B.length:Nat):Int),cmp] [teS base cap (P++(A++(B++Q)))] (fun v t=>v=.tuple #[]/\t=[teS base cap (P++(B++(A++Q)))]):=by
 have hpa:=List.length_pos_iff.2 hA;have hpb:=List.length_pos_iff.2 hB;obtain ⟨m,hm⟩:∃ m,m=P.length+A.length:=⟨_,rfl⟩;obtain ⟨n,hn⟩:∃ n,n=(P++(A++(B++Q))).length:=⟨_,rfl⟩;have hn2:n=P.length+A.length+B.length+Q.length:=by rw [hn];simp;omega
 rw [<-hn] at hl;rw [<-hn,<-hm];refine Does.of 58 inferInstance rfl (by decide) rfl ?_
 refine zB ?_;have ei:((m:Int)-(P.length:Int))=(A.length:Int):=by omega
 have ej:(((m+B.length:Nat):Int)-(m:Int))=(B.length:Int):=by omega
 rw [ei,ej];refine loop (ι:=List TE×List TE×List TE×List TE) (fun z=>z.2.1.length+z.2.2.1.length) (fun z=>z.1.length+z.2.1.length=m/\z.2.1≠[]/\z.2.2.1≠[]/\(z.1++(z.2.1++(z.2.2.1++z.2.2.2))).length=n/\z.1++(z.2.2.1++(z.2.1++z.2.2.2))=P++(B++(A++Q)))
  (fun z=>[(0,.slice base n cap),(2,.int .i64 (m:Int)),(4,cmp),(10,.int .i64 (z.2.1.length:Int)),(11,.int .i64 (z.2.2.1.length:Int))]) (fun z=>[teS base cap (z.1++(z.2.1++(z.2.2.1++z.2.2.2)))]) (P,A,B,Q) ⟨hm.symm,hA,hB,hn.symm,rfl⟩ ?_
 rintro ⟨P1,A1,B1,Q1⟩ ⟨h1,h2,h3,h4,h5⟩ ih;(try dsimp only at h1 h2 h3 h4 h5 ih ⊢);have hpa1:=List.length_pos_iff.2 h2;have hpb1:=List.length_pos_iff.2 h3;have h4':P1.length+A1.length+B1.length+Q1.length=n:=by rw [<-h4];simp;omega
 have em:((m:Int)-(A1.length:Int))=(P1.length:Int):=by omega
 rcases Nat.lt_trichotomy A1.length B1.length with hlt|heq|hgt
 ·refine zB ?_;refine yes ?_;refine zB ?_;refine no ?_;refine zB ?_;rw [em];obtain ⟨Ba,Bb,rfl,hBb⟩:∃ Ba Bb,B1=Ba++Bb/\Bb.length=A1.length:=⟨B1.take (B1.length-A1.length),B1.drop (B1.length-A1.length),(List.take_append_drop _ _).symm,by rw [List.length_drop];omega⟩
  have hlb:(Ba++Bb).length=Ba.length+Bb.length:=List.length_append;have e2:((m:Int)+((Ba++Bb).length:Int)-(A1.length:Int))=((P1.length+A1.length+Ba.length:Nat):Int):=by omega
  rw [e2];have hs:=Zl (E:=E) (X:=X) base cap (P1++(A1++((Ba++Bb)++Q1))) P1.length (P1.length+A1.length+Ba.length) A1.length (by rw [h4];omega) (by rw [h4];omega) (by rw [h4];exact hl) cmp
  have e1:P1++(A1++((Ba++Bb)++Q1))=P1++(A1++(Ba++(Bb++Q1))):=by simp only [List.append_assoc]
  have e3:=zEo (P:=P1) (U:=A1) (V:=Ba) (W:=Bb) (Q:=Q1) hBb.symm rfl rfl;rw [<-e1] at e3;rw [h4,e3] at hs;refine call hs ?_;rintro _ _ ⟨rfl,rfl⟩;refine zB ?_;have e6:(((Ba++Bb).length:Int)-(A1.length:Int))=(Ba.length:Int):=by omega
  rw [e6];have hr:=ih (P1,Bb,Ba,A1++Q1) ⟨by show P1.length+Bb.length=m;omega,by show Bb≠[];rintro rfl;simp at hBb;omega,by show Ba≠[];rintro rfl;simp at hlb hlt;omega,by show (P1++(Bb++(Ba++(A1++Q1)))).length=n;simp;omega,by show P1++(Ba++(Bb++(A1++Q1)))=_;rw [<-h5];simp only [List.append_assoc]⟩ (by show Bb.length+Ba.length<A1.length+(Ba++Bb).length;omega)
  (try dsimp only at hr);rw [hBb] at hr;exact next hr
 ·refine zB ?_;refine no ?_;refine zB ?_;rw [em];have hs:=Zl (E:=E) (X:=X) base cap (P1++(A1++(B1++Q1))) P1.length (P1.length+A1.length) A1.length (by rw [h4];omega) (by rw [h4];omega) (by rw [h4];exact hl) cmp
  have e3:=zEo (P:=P1) (U:=A1) (V:=[]) (W:=B1) (Q:=Q1) (a:=P1.length) (b:=P1.length+A1.length) heq rfl (by simp)
  simp only [List.nil_append] at e3;rw [h4,e3,h5,h1] at hs;refine call hs ?_;rintro _ _ ⟨rfl,rfl⟩;refine zB ?_;refine fall ?_;exact ends ⟨rfl,rfl⟩
 ·refine zB ?_;refine yes ?_;refine zB ?_;refine yes ?_;refine zB ?_;rw [em];obtain ⟨Aa,Ab,rfl,hAa⟩:∃ Aa Ab,A1=Aa++Ab/\Aa.length=B1.length:=⟨A1.take B1.length,A1.drop B1.length,(List.take_append_drop _ _).symm,by rw [List.length_take];omega⟩
  have hla:(Aa++Ab).length=Aa.length+Ab.length:=List.length_append;have hs:=Zl (E:=E) (X:=X) base cap (P1++((Aa++Ab)++(B1++Q1))) P1.length m Aa.length (by rw [h4];omega) (by rw [h4];omega) (by rw [h4];exact hl) cmp
  have e1:P1++((Aa++Ab)++(B1++Q1))=P1++(Aa++(Ab++(B1++Q1))):=by simp only [List.append_assoc]
  have e3:=zEo (P:=P1) (U:=Aa) (V:=Ab) (W:=B1) (Q:=Q1) (a:=P1.length) (b:=m) hAa rfl (by omega)
  rw [<-e1] at e3;rw [h4,e3] at hs;rw [hAa] at hs;refine call hs ?_;rintro _ _ ⟨rfl,rfl⟩;refine zB ?_;have e6:(((Aa++Ab).length:Int)-(B1.length:Int))=(Ab.length:Int):=by omega
  rw [e6];have hr:=ih (P1++B1,Ab,Aa,Q1) ⟨by show (P1++B1).length+Ab.length=m;simp;omega,by show Ab≠[];rintro rfl;simp at hla hgt;omega,by show Aa≠[];rintro rfl;simp at hAa;omega,by show ((P1++B1)++(Ab++(Aa++Q1))).length=n;simp;omega,by show (P1++B1)++(Aa++(Ab++Q1))=_;rw [<-h5];simp only [List.append_assoc]⟩ (by show Ab.length+Aa.length<(Aa++Ab).length+B1.length;omega)
  (try dsimp only at hr);rw [hAa,List.append_assoc] at hr;exact next hr
theorem zCM (base:Option Addr) (cap:Nat) (l:List TE) (hl:l.length<=100000):Does PR E X 413 [.slice base l.length cap] [teS base cap l] (fun v t=>v=.tuple #[]/\t=[teS base cap l.reverse]):=by
 obtain ⟨n,hn⟩:∃ n,n=l.length:=⟨_,rfl⟩;rw [<-hn] at hl ⊢;refine Does.of 28 inferInstance rfl (by decide) rfl ?_
 refine zB ?_;rw [show ((n:Int)-1)=(n:Int)-1-((([]:List TE).length:Nat):Int) by simp,show teS base cap l=teS base cap (([]:List TE).reverse++(l++([]:List TE).reverse)) by simp]
 refine loop (ι:=List TE×List TE×List TE) (fun z=>z.2.1.length) (fun z=>z.1.length=z.2.2.length/\z.1.length+z.2.1.length+z.2.2.length=n/\l=z.1++(z.2.1++z.2.2)) (fun z=>[(0,.slice base n cap),(2,.int .i64 (z.1.length:Int)),(3,.int .i64 ((n:Int)-1-(z.1.length:Int)))]) (fun z=>[teS base cap (z.2.2.reverse++(z.2.1++z.1.reverse))]) ([],l,[]) ⟨rfl,by simp [hn],by simp⟩ ?_
 rintro ⟨A,M,Z⟩ ⟨h1,h2,h3⟩ ih;(try dsimp only at h1 h2 h3 ih ⊢);rcases Nat.lt_or_ge 1 M.length with hM|hM
 ·obtain ⟨x,N,y,rfl⟩:∃ x N y,M=x::(N++[y]):=by
   cases M with
   | nil=>simp at hM
   | cons x M=>
    rcases List.eq_nil_or_concat M with rfl|⟨N,y,rfl⟩
    ·simp at hM
    ·exact ⟨x,N,y,by rw [List.concat_eq_append]⟩
  have hMl:(x::(N++[y])).length=N.length+2:=by simp
  have e0:Z.reverse++((x::(N++[y]))++A.reverse)=Z.reverse++x::(N++y::A.reverse):=by simp
  rw [e0];have ea:((A.length:Nat):Int).toNat=A.length:=by omega
  have eb:((n:Int)-1-(A.length:Int)).toNat=A.length+1+N.length:=by omega
  have hx1:(Z.reverse++x::(N++y::A.reverse))[((A.length:Nat):Int).toNat]?=some x:=by rw [ea,h1,List.getElem?_append_right (by simp)];simp
  have hx2:(Z.reverse++x::(N++y::A.reverse))[((n:Int)-1-(A.length:Int)).toNat]?=some y:=by
   rw [eb,h1,List.getElem?_append_right (by simp;omega),List.length_reverse,show Z.length+1+N.length-Z.length=N.length+1 by omega,List.getElem?_cons_succ,List.getElem?_append_right (Nat.le_refl _)];simp
  have hll:(Z.reverse++x::(N++y::A.reverse)).length=n:=by simp;omega
  have e4:((Z.reverse++x::(N++y::A.reverse)).set A.length y)=Z.reverse++y::(N++y::A.reverse):=by rw [h1,List.set_append_right _ _ (by simp),List.length_reverse,Nat.sub_self,List.set_cons_zero]
  have e5:(Z.reverse++y::(N++y::A.reverse)).set (A.length+1+N.length) x=Z.reverse++y::(N++x::A.reverse):=by
   rw [h1,List.set_append_right _ _ (by simp;omega),List.length_reverse,show Z.length+1+N.length-Z.length=N.length+1 by omega,List.set_cons_succ,List.set_append_right _ _ (Nat.le_refl _),Nat.sub_self,List.set_cons_zero]
  have hx3:((List.map teC (Z.reverse++x::(N++y::A.reverse))).set ((A.length:Nat):Int).toNat (teC y))[((n:Int)-1-(A.length:Int)).toNat]?=some (teC y):=by
   rw [ea,<-List.map_set,e4,List.getElem?_map,eb,h1,List.getElem?_append_right (by simp;omega),List.length_reverse,show Z.length+1+N.length-Z.length=N.length+1 by omega,List.getElem?_cons_succ,List.getElem?_append_right (Nat.le_refl _)];simp
  generalize hL:Z.reverse++x::(N++y::A.reverse)=L at hx1 hx2 hll hx3 e4 ⊢;refine zB ?_;refine yes ?_;refine zB ?_;refine draw [0,0,0,0,0,0,48,112,0,0,768,1792,4083,8179,16383,32767] [13,15] [6,7,10,11,12,14] [0,1,2,3,4,5,6,7,8,9,10,11,12,13,14,15] ?_;refine zC ?_;refine zB ?_;rw [ea,eb];refine (show W _ _ _ _ _ _ _ [osl base cap _ 2 (((L.map teC).set A.length (teC y)).set (A.length+1+N.length) (teC x))] from ?_);rw [<-List.map_set,<-List.map_set,e4,e5];have hr:=ih (A++[x],N,y::Z) ⟨by show (A++[x]).length=(y::Z).length;simp;omega,by show (A++[x]).length+N.length+(y::Z).length=n;simp;omega,by show l=(A++[x])++(N++y::Z);rw [h3];simp⟩ (by show N.length<(x::(N++[y])).length;omega)
  (try dsimp only at hr);have e7:(y::Z).reverse++(N++(A++[x]).reverse)=Z.reverse++y::(N++x::A.reverse):=by simp
  have e8:(((A++[x]).length:Nat):Int)=(A.length:Int)+1:=by simp
  rw [e7,e8] at hr;exact next hr
 ·refine zB ?_;refine no ?_;refine zB ?_;have e:Z.reverse++(M++A.reverse)=l.reverse:=by
   have:M.reverse=M:=by
    match M,hM with
    | [],_=>rfl
    | [a],_=>rfl
    | a::b::r,h=>simp at h
   rw [h3,List.reverse_append,List.reverse_append,this,List.append_assoc]
  rw [e];refine fall ?_;exact ends ⟨rfl,rfl⟩
theorem zCF (base:Option Addr) (cap:Nat) (l:List TE) (hl:l.length<=100000) (hne:l≠[]):Does PR E X 412 [.slice base l.length cap] [teS base cap l] (fun v t=>∃ base' cap',v=.slice base' l.length cap'/\t=[teS base' cap' l,teS base cap l]):=by
 refine Does.of 8 inferInstance rfl (by decide) rfl ?_
 refine W.pure (p:=base.isNone=false) (fun r f hp=>?_) fun hn=>?_
 ·obtain ⟨_,_,_,_,_,h1,_⟩:=hp;obtain ⟨a,rfl,_⟩:=zBR h1 (by rw [List.length_map];exact List.length_pos_iff.2 hne)
  rfl
 ·refine zB ?_;refine no ?_;refine zB ?_;refine buildSlice fun b5=>?_;refine zB ?_;refine xM fun b6 c6=>?_;refine zB ?_;refine ret ?_;refine ends ⟨b6,c6,by simp,rfl⟩
end Go.Proofs.YtjcbjclhagobiaaGreat
end
section
namespace Go.Proofs.YtjcbjclhagobiaaGreat
open Go Go.KL Go.KM
def rlt (key:TE->Int) (x y:TE):Prop:=key x<key y∨(key x=key y/\x.tag<y.tag)
theorem Yv {key:TE->Int} {x y z:TE} (h:rlt key x y) (h':rlt key y z):rlt key x z:=by
 unfold rlt at *;omega
theorem zAX {key:TE->Int} {x:TE}:¬ rlt key x x:=by unfold rlt;omega
theorem zHH {key:TE->Int} {x y:TE} (ht:y.tag<x.tag):rlt key x y↔key x<key y:=by unfold rlt;omega
theorem ZY {key:TE->Int} {x y:TE} (ht:y.tag<x.tag) (h:¬ key x<key y):rlt key y x:=by unfold rlt;omega
theorem Vf {key:TE->Int} {S1 S2:List TE} {x:TE} (h:(S1++S2).Pairwise (rlt key)) (h1:∀ y∈S1,rlt key y x) (h2:∀ y∈S2,rlt key x y):(S1++x::S2).Pairwise (rlt key):=by
 rw [List.pairwise_append] at h ⊢;refine ⟨h.1,List.pairwise_cons.2 ⟨h2,h.2.1⟩,fun a ha b hb=>?_⟩;rcases List.mem_cons.1 hb with rfl|hb
 ·exact h1 a ha
 ·exact h.2.2 a ha b hb
theorem Jk {key:TE->Int} {S:List TE} {y x:TE} (h:(S++[y]).Pairwise (rlt key)) (hy:rlt key y x):∀ z∈S++[y],rlt key z x:=by
 intro z hz;rw [List.pairwise_append] at h;rcases List.mem_append.1 hz with hz|hz
 ·exact Yv (h.2.2 z hz y (by simp)) hy
 ·simp at hz;subst hz;exact hy
end Go.Proofs.YtjcbjclhagobiaaGreat
end
section
namespace Go.Proofs.YtjcbjclhagobiaaGreat
open Go Go.KL Go.KM
inductive Chk (key:TE->Int) (bs:Nat):List TE->Prop
 | nil:Chk key bs []
 | cons {C R:List TE} (hne:C≠[]) (hle:C.length<=bs) (hfull:R≠[]->C.length=bs) (hs:C.Pairwise (rlt key)) (ht:∀ x∈C,∀ y∈R,x.tag<y.tag) (hr:Chk key bs R):Chk key bs (C++R)
theorem Chk.one {key:TE->Int} {bs:Nat} {C:List TE} (hle:C.length<=bs) (hs:C.Pairwise (rlt key)):Chk key bs C:=by
 by_cases h:C=[]
 ·subst h;exact .nil
 ·have:=Chk.cons (R:=[]) h hle (fun h=>absurd rfl h) hs (by simp) .nil
  rwa [List.append_nil] at this
theorem Chk.short {key:TE->Int} {bs:Nat} {L:List TE} (h:Chk key bs L) (hl:L.length<=bs):L.Pairwise (rlt key):=by
 cases h with
 | nil=>exact .nil
 | @cons C R hne hle hfull hs ht hr=>
  by_cases e:R=[]
  ·subst e;rwa [List.append_nil]
  ·have h1:=hfull e;have:=List.length_pos_iff.2 e
   rw [List.length_append] at hl;omega
theorem Chk.head {key:TE->Int} {bs:Nat} {L:List TE} (h:Chk key bs L) (hl:bs<=L.length) (hb:0<bs):∃ C R,L=C++R/\C.length=bs/\C.Pairwise (rlt key)/\(∀ x∈C,∀ y∈R,x.tag<y.tag)/\Chk key bs R:=by
 cases h with
 | nil=>simp at hl;omega
 | @cons C R hne hle hfull hs ht hr=>
  by_cases e:R=[]
  ·subst e;rw [List.append_nil] at hl;exact ⟨C,[],rfl,by omega,hs,by simp,.nil⟩
  ·exact ⟨C,R,rfl,hfull e,hs,ht,hr⟩
def wh (key:TE->Int):List TE->Option TE
 | []=>none
 | x::l=>match wh key l with
  | none=>some x
  | some y=>if key x<key y then some x else some y
theorem wh_spec {key:TE->Int}:∀ {l:List TE},l.Pairwise (fun x y=>y.tag<x.tag)->(l=[]/\wh key l=none)∨∃ y∈l,wh key l=some y/\∀ z∈l,z≠y->rlt key y z
 | [],_=>.inl ⟨rfl,rfl⟩
 | x::l,h=>by
  obtain ⟨h1,h2⟩:=List.pairwise_cons.1 h;refine .inr ?_;unfold wh;rcases wh_spec (key:=key) h2 with ⟨rfl,e⟩|⟨y,hy,e,hz⟩
  ·rw [e];exact ⟨x,by simp,rfl,fun z hz hne=>by simp at hz;exact absurd hz hne⟩
  ·rw [e];have ht:=h1 y hy;by_cases hk:key x<key y
   ·refine ⟨x,by simp,by simp [hk],fun z hzm hne=>?_⟩
    rcases List.mem_cons.1 hzm with rfl|hzm
    ·exact absurd rfl hne
    ·by_cases e2:z=y
     ·subst e2;exact .inl hk
     ·exact Yv (.inl hk) (hz z hzm e2)
   ·refine ⟨y,List.mem_cons_of_mem _ hy,by simp [hk],fun z hzm hne=>?_⟩
    rcases List.mem_cons.1 hzm with rfl|hzm
    ·exact ZY ht hk
    ·exact hz z hzm hne
theorem zEi {key:TE->Int} {l S:List TE} (ht:l.Pairwise (fun x y=>y.tag<x.tag)) (hp:S.Perm l) (hs:S.Pairwise (rlt key)):S.head?=wh key l:=by
 rcases wh_spec (key:=key) ht with ⟨rfl,e⟩|⟨y,hy,e,hz⟩
 ·rw [e,hp.eq_nil];rfl
 ·rw [e];cases S with
  | nil=>rw [<-hp.mem_iff] at hy;simp at hy
  | cons s S=>
   by_cases h:s=y
   ·subst h;rfl
   ·have h1:=hz s (hp.mem_iff.1 (by simp)) h
    have hy2:y∈s::S:=hp.mem_iff.2 hy;rcases List.mem_cons.1 hy2 with e2|e2
    ·exact absurd e2.symm h
    ·exact absurd (Yv h1 ((List.pairwise_cons.1 hs).1 y e2)) zAX
def tagL:List (Int×Int)->List TE
 | []=>[]
 | (i,s)::l=>⟨i,s,l.length⟩::tagL l
theorem zFR:∀ {l:List (Int×Int)},(tagL l).length=l.length
 | []=>rfl
 | (_,_)::l=>by simp [tagL,zFR (l:=l)]
theorem zKJ:∀ {l:List (Int×Int)},∀ x∈tagL l,x.tag<l.length
 | [],x,h=>by simp [tagL] at h
 | (_,_)::l,x,h=>by
  simp only [tagL,List.mem_cons] at h;rcases h with rfl|h
  ·simp
  ·have:=zKJ x h;simp;omega
theorem zCV:∀ {l:List (Int×Int)},(tagL l).Pairwise (fun x y=>y.tag<x.tag)
 | []=>.nil
 | (_,_)::l=>List.pairwise_cons.2 ⟨fun y hy=>zKJ y hy,zCV⟩
theorem zMI:∀ {l:List (Int×Int)},(tagL l).map teC=l.map fun x=>[Value.int .i64 x.1,.int .i64 x.2]
 | []=>rfl
 | (_,_)::l=>by simp [tagL,zMI (l:=l)]
def vict (policy:Int):List (Int×Int)->Option (Int×Int)
 | []=>none
 | x::l=>match vict policy l with
  | none=>some x
  | some y=>if policy=1/\x.2<y.2 then some x else some y
theorem zIr (policy:Int):∀ {l:List (Int×Int)},(wh (if policy=1 then (·.sc) else fun _=>0) (tagL l)).map (fun e=>(e.i,e.sc))=vict policy l
 | []=>rfl
 | (i,s)::l=>by
  have ih:=zIr policy (l:=l);unfold tagL wh vict;cases h:wh (if policy=1 then (·.sc) else fun _=>0) (tagL l) with
  | none=>rw [h] at ih;rw [<-ih];rfl
  | some y=>
   rw [h] at ih;rw [<-ih];by_cases hp:policy=1
   ·simp only [hp,if_true,true_and,Option.map_some];by_cases hc:s<y.sc <;> simp [hc]
   ·simp [hp]
end Go.Proofs.YtjcbjclhagobiaaGreat
end
section
namespace Go.Proofs.YtjcbjclhagobiaaGreat
set_option maxHeartbeats 1600000
open Go Go.KL Go.KM
variable {E:Env} {X:Xs}
set_option maxRecDepth 100000
structure CmpOk (E:Env) (X:Xs) (key:TE->Int) (cmp:Value):Prop where
 h:∀ x y:TE,DoesV PR E X cmp [teV x,teV y] [] (fun v t=>∃ c:Int,(c<0↔key x<key y)/\v=.int .i64 c/\t=[])
theorem Xn (base:Option Addr) (cap:Nat) (P S0 Q:List TE) (key:TE->Int) (cmp:Value) (hcmp:CmpOk E X key cmp) (hl:(P++(S0++Q)).length<=100000) (hrise:S0.Pairwise fun x y=>x.tag<y.tag) :
  Does PR E X 421 [.slice base (P++(S0++Q)).length cap,.int .i64 (P.length:Int),.int .i64 ((P.length+S0.length:Nat):Int),cmp] [teS base cap (P++(S0++Q))] (fun v t=>∃ S,S.Perm S0/\S.Pairwise (rlt key)/\v=.tuple #[]/\t=[teS base cap (P++(S++Q))]):=by
 obtain ⟨n,hn⟩:∃ n,n=(P++(S0++Q)).length:=⟨_,rfl⟩;have hn2:n=P.length+S0.length+Q.length:=by rw [hn];simp;omega
 rw [<-hn] at hl;rw [<-hn];cases S0 with
 | nil=>
  refine Does.of 53 inferInstance rfl (by decide) rfl ?_
  refine zB ?_;refine Wc ?_;refine zB ?_;refine no ?_;refine zB ?_;refine fall ?_;exact ends ⟨[],List.Perm.refl _,List.Pairwise.nil,rfl,rfl⟩
 | cons x0 T0=>
  refine Does.of 53 inferInstance rfl (by decide) rfl ?_
  refine zB ?_;refine loop (ι:=List TE×List TE×List TE) (fun z=>z.2.2.length) (fun z=>z.2.1++z.2.2=x0::T0/\z.1.Perm z.2.1/\z.1.Pairwise (rlt key)/\z.1≠[]) (fun z=>[(0,.slice base n cap),(1,.int .i64 (P.length:Int)),(2,.int .i64 ((P.length+(x0::T0).length:Nat):Int)),(3,cmp),(8,.int .i64 ((P.length:Int)+(z.1.length:Int)))]) (fun z=>[teS base cap (P++(z.1++(z.2.2++Q)))]) ([x0],[x0],T0) ⟨rfl,List.Perm.refl _,by simp,by simp⟩ ?_
  rintro ⟨S,D,T⟩ ⟨h1,h2,h3,h4⟩ ih;(try dsimp only at h1 h2 h3 h4 ih ⊢);have hSD:=h2.length_eq;have hDT:D.length+T.length=(x0::T0).length:=by rw [<-h1];simp
  have hlen0:P.length+S.length+T.length+Q.length=n:=by rw [hn2,<-hDT,hSD];omega
  have hal:∀ z∈S,∀ y∈T,z.tag<y.tag:=by
   have hr:=hrise;rw [<-h1,List.pairwise_append] at hr;exact fun z hz y hy=>hr.2.2 z (h2.mem_iff.1 hz) y hy
  have hS0:=List.length_pos_iff.2 h4;have hx0:(x0::T0).length=T0.length+1:=rfl;have hnil:([]:List TE).length=0:=rfl;cases T with
  | nil=>
   refine zB ?_;refine no ?_;refine zB ?_;refine fall ?_;exact ends ⟨S,by rw [<-h1,List.append_nil];exact h2,h3,rfl,rfl⟩
  | cons x T=>
   have hT:(x::T).length=T.length+1:=rfl;refine zB ?_;refine yes ?_;refine zB ?_;rw [show teS base cap (P++(S++x::(T++Q)))=teS base cap (P++(S++x::(([]:List TE)++(T++Q)))) by simp]
   refine loop (ι:=List TE×List TE) (fun z=>z.1.length) (fun z=>z.1++z.2=S/\∀ y∈z.2,rlt key x y) (fun z=>[(0,.slice base n cap),(1,.int .i64 (P.length:Int)),(2,.int .i64 ((P.length+(x0::T0).length:Nat):Int)),(3,cmp),(8,.int .i64 ((P.length:Int)+(S.length:Int))),(9,.int .i64 ((P.length:Int)+(z.1.length:Int)))]) (fun z=>[teS base cap (P++(z.1++x::(z.2++(T++Q))))]) (S,[]) ⟨by simp,by simp⟩ ?_
   rintro ⟨S1,S2⟩ ⟨g1,g2⟩ ih2;(try dsimp only at g1 g2 ih2 ⊢);have hS12:S1.length+S2.length=S.length:=by rw [<-g1];simp
   have e9:(((S1++x::S2).length:Nat):Int)=(S.length:Int)+1:=by rw [List.length_append,List.length_cons];omega
   have e10:P++((S1++x::S2)++(T++Q))=P++(S1++x::(S2++(T++Q))):=by simp
   have hxa:∀ z∈S,z.tag<x.tag:=fun z hz=>hal z hz x (by simp)
   have fin:=fun (hb:∀ y∈S1,rlt key y x)=>ih (S1++x::S2,D++[x],T) ⟨by rw [<-h1];simp,by
     have e:(S1++x::S2).Perm (x::(S1++S2)):=List.perm_middle;rw [g1] at e;exact e.trans ((h2.cons x).trans (List.perm_append_comm (l₁:=[x]))),Vf (by rw [g1];exact h3) hb g2,by simp⟩ (by show T.length<T.length+1;omega)
   (try dsimp only at fin);rw [e9,e10] at fin;rcases List.eq_nil_or_concat S1 with rfl|⟨S3,y,rfl⟩
   ·have hf:=fin (by simp)
    have hb:decide ((P.length:Int)<(P.length:Int)+((([]:List TE).length:Nat):Int))=false:=by simp
    refine zB ?_;refine draw [0,0,3,7,15,15,15,111,239,15,15,1039,3599,7695,16383,32767,65535] [14] [7,8,12,13] [0,1,2,3,4,5,6,7,8,9,10,11,12,13,14,15,16] ?_;refine zC ?_;refine no ?_;refine zB ?_;exact next hf
   ·rw [List.concat_eq_append] at *;have el:(((S3++[y]).length:Nat):Int)=(S3.length:Int)+1:=by simp
    have hSl:S3.length+1+S2.length=S.length:=by rw [<-hS12];simp
    have eL:P++((S3++[y])++x::(S2++(T++Q)))=(P++S3)++y::x::(S2++(T++Q)):=by simp
    have ej:((P.length:Int)+((S3.length:Int)+1)).toNat=(P++S3).length+1:=by rw [List.length_append];omega
    have ek:((P.length:Int)+((S3.length:Int)+1)-1).toNat=(P++S3).length:=by rw [List.length_append];omega
    have hx1:((P++S3)++y::x::(S2++(T++Q)))[((P.length:Int)+((S3.length:Int)+1)).toNat]?=some x:=by rw [ej,List.getElem?_append_right (by omega)];simp
    have hx2:((P++S3)++y::x::(S2++(T++Q)))[((P.length:Int)+((S3.length:Int)+1)-1).toNat]?=some y:=by rw [ek,List.getElem?_append_right (by omega)];simp
    have hx3:((((P++S3)++y::x::(S2++(T++Q))).map teC).set ((P.length:Int)+((S3.length:Int)+1)).toNat (teC y))[((P.length:Int)+((S3.length:Int)+1)-1).toNat]?=some (teC y):=by
     rw [ej,ek,List.getElem?_set_ne (by omega),List.getElem?_map,List.getElem?_append_right (by omega)];simp
    have hll:((P++S3)++y::x::(S2++(T++Q))).length=n:=by simp;simp at hlen0;omega
    have e7:((((P++S3)++y::x::(S2++(T++Q))).map teC).set ((P++S3).length+1) (teC y)).set (P++S3).length (teC x)=(P++(S3++x::(y::S2++(T++Q)))).map teC:=by
     rw [<-List.map_set,<-List.map_set,List.set_append_right _ _ (by omega),show (P++S3).length+1-(P++S3).length=1 by omega,List.set_append_right _ _ (by omega),Nat.sub_self];simp
    rw [eL] at fin ⊢;rw [el];generalize hLL:(P++S3)++y::x::(S2++(T++Q))=LL at hx1 hx2 hx3 hll e7 fin ⊢;have hb:decide ((P.length:Int)<(P.length:Int)+((S3.length:Int)+1))=true:=decide_eq_true (by omega)
    refine zB ?_;refine draw [0,0,3,7,15,15,15,111,239,15,15,1039,3599,7695,16383,32767,65535] [14] [7,8,12,13] [0,1,2,3,4,5,6,7,8,9,10,11,12,13,14,15,16] ?_;refine zC ?_;refine XD (hcmp.h x y) ?_;rintro _ _ ⟨c,hc,rfl,rfl⟩;refine zJ ?_;refine ddA ?_;refine zH (fun hd=>?_) (fun hd=>?_)
    ·have hd:=of_decide_eq_true hd;refine zB ?_;refine draw [0,0,0,0,8,0,0,64,224,480,0,0,3072,7168,16355,32739,65535,131071] [15,17] [8,9,12,13,14,16] [0,1,2,3,4,5,6,7,8,9,10,11,12,13,14,15,16,17] ?_;refine zC ?_;rw [ej,ek];refine (show W _ _ _ _ _ _ _ [osl base cap _ 2 (((LL.map teC).set ((P++S3).length+1) (teC y)).set (P++S3).length (teC x))] from ?_);rw [e7];refine zB ?_;have hr:=ih2 (S3,y::S2) ⟨by rw [<-g1];simp,fun z hz=>by
      rcases List.mem_cons.1 hz with rfl|hz
      ·exact (zHH (hxa _ (by rw [<-g1];simp))).2 (hc.1 hd)
      ·exact g2 z hz⟩ (by show S3.length<(S3++[y]).length;simp)
     (try dsimp only at hr);exact next hr
    ·have hd:=of_decide_eq_false hd;have hf:=fin (Jk (by rw [<-g1,List.pairwise_append] at h3;exact h3.1) (ZY (hxa _ (by rw [<-g1];simp)) (fun q=>hd (hc.2 q))))
     refine zB ?_;exact next hf
end Go.Proofs.YtjcbjclhagobiaaGreat
end
section
namespace Go.Proofs.YtjcbjclhagobiaaGreat
open Go Go.KL Go.KM
theorem zFe {key:TE->Int} {x y:TE} (h:rlt key x y):key x<=key y:=by unfold rlt at h;omega
theorem zF3 {key:TE->Int} {A B:List TE} (hA:A.Pairwise (rlt key)) (hB:B.Pairwise (rlt key)) (h:A=[]∨B=[]∨∃ u w,A.getLast?=some u/\B.head?=some w/\rlt key u w):∀ z∈A,∀ w∈B,rlt key z w:=by
 intro z hz w hw;rcases h with rfl|rfl|⟨u,v,h1,h2,h3⟩
 ·simp at hz
 ·simp at hw
 ·obtain ⟨A',rfl⟩:=List.getLast?_eq_some_iff.1 h1;have hzx:=Jk hA h3 z hz;cases B with
  | nil=>simp at hw
  | cons b B=>
   simp at h2;subst h2;rcases List.mem_cons.1 hw with rfl|hw
   ·exact hzx
   ·exact Yv hzx ((List.pairwise_cons.1 hB).1 w hw)
theorem zDC {l:List TE} {k:Nat} (h0:0<k) (h:k<=l.length):(l.take k).getLast?=l[k-1]?:=by
 rw [List.getLast?_eq_getElem?,List.length_take,Nat.min_eq_left h,List.getElem?_take_of_lt (by omega)]
theorem zB5 {l:List TE} {k:Nat}:(l.drop k).head?=l[k]?:=by rw [List.head?_drop]
theorem zKT {P A R:List TE} {c:Nat} (h1:P.length<=c) (h2:c<P.length+A.length):(P++(A++R))[c]?=A[c-P.length]?:=by
 rw [List.getElem?_append_right h1,List.getElem?_append_left (by omega)]
theorem zF9 {P A B Q:List TE} {c:Nat} (h1:P.length+A.length<=c) (h2:c<P.length+A.length+B.length):(P++(A++(B++Q)))[c]?=B[c-(P.length+A.length)]?:=by
 rw [List.getElem?_append_right (by omega),List.getElem?_append_right (by omega),List.getElem?_append_left (by omega)]
 congr 1;omega
structure MrgOk (key:TE->Int) (A B:List TE):Prop where
 a:A.Pairwise (rlt key)
 b:B.Pairwise (rlt key)
 t:∀ x∈A,∀ y∈B,x.tag<y.tag
theorem MrgOk.cross {key:TE->Int} {P A B Q:List TE} (h:MrgOk key A B) {a m b mid lo hi s:Nat} (ha:a=P.length) (hm:m=a+A.length) (hb:b=m+B.length) (hmid:mid=(a+b) / 2)
  (hlo:(m > mid/\lo=mid+m-b/\hi=mid)∨(m<=mid/\lo=a/\hi=m)) (h1:lo<=s) (h2:s<=hi)
  (i1:s=lo∨∃ u w,(P++(A++(B++Q)))[mid+m-s]?=some u/\(P++(A++(B++Q)))[s-1]?=some w/\¬ key u<key w)
  (i2:s=hi∨∃ u w,(P++(A++(B++Q)))[mid+m-s-1]?=some u/\(P++(A++(B++Q)))[s]?=some w/\key u<key w) :
  ∀ z∈A.take (s-a)++B.take (mid-s),∀ w∈A.drop (s-a)++B.drop (mid-s),rlt key z w:=by
 have hA:=h.a;have hB:=h.b;have hA':=h.a;have hB':=h.b;rw [<-List.take_append_drop (s-a) A,List.pairwise_append] at hA;rw [<-List.take_append_drop (mid-s) B,List.pairwise_append] at hB;have c1:=zF3 (key:=key) hA.1 hB.2.1 (by
  clear i2;rcases i1 with e|⟨u,w,g1,g2,g3⟩
  ·rcases hlo with ⟨q1,q2,q3⟩|⟨q1,q2,q3⟩
   ·refine .inr (.inl ?_);exact List.drop_eq_nil_of_le (by omega)
   ·refine .inl ?_;rw [show s-a=0 by omega];rfl
  ·by_cases e:s=lo
   ·rcases hlo with ⟨q1,q2,q3⟩|⟨q1,q2,q3⟩
    ·refine .inr (.inl ?_);exact List.drop_eq_nil_of_le (by omega)
    ·refine .inl ?_;rw [show s-a=0 by omega];rfl
   ·have hs:a<s/\s<=m/\m<=mid+m-s/\mid+m-s<b:=by omega
    rw [zF9 (by omega) (by omega)] at g1
    rw [zKT (by omega) (by omega)] at g2
    refine .inr (.inr ⟨w,u,?_,?_,?_⟩)
    ·rw [zDC (by omega) (by omega),<-g2];congr 1;omega
    ·rw [zB5,<-g1];congr 1;omega
    ·exact ZY (h.t w (List.mem_of_getElem? g2) u (List.mem_of_getElem? g1)) g3)
 have c2:=zF3 (key:=key) hB.1 hA.2.1 (by
  clear i1 c1;by_cases e:s=hi
  ·clear i2;rcases hlo with ⟨q1,q2,q3⟩|⟨q1,q2,q3⟩
   ·refine .inl ?_;rw [show mid-s=0 by omega];rfl
   ·refine .inr (.inl ?_);exact List.drop_eq_nil_of_le (by omega)
  ·obtain ⟨u,w,g1,g2,g3⟩:=i2.resolve_left e;clear i2;have hs:a<=s/\s<m/\m<=mid+m-s-1/\mid+m-s-1<b:=by omega
   rw [zF9 (by omega) (by omega)] at g1
   rw [zKT (by omega) (by omega)] at g2
   refine .inr (.inr ⟨u,w,?_,?_,.inl g3⟩)
   ·rw [zDC (by omega) (by omega),<-g1];congr 1;omega
   ·rw [zB5,<-g2];congr 1;omega)
 intro z hz w hw;rcases List.mem_append.1 hz with hz|hz <;> rcases List.mem_append.1 hw with hw|hw
 ·exact hA.2.2 z hz w hw
 ·exact c1 z hz w hw
 ·exact c2 z hz w hw
 ·exact hB.2.2 z hz w hw
theorem MrgOk.parts {key:TE->Int} {A B:List TE} (h:MrgOk key A B) (i j:Nat):MrgOk key (A.take i) (B.take j)/\MrgOk key (A.drop i) (B.drop j):=
 ⟨⟨h.a.sublist (List.take_sublist ..),h.b.sublist (List.take_sublist ..),fun x hx y hy=>h.t x (List.mem_of_mem_take hx) y (List.mem_of_mem_take hy)⟩,
  ⟨h.a.sublist (List.drop_sublist ..),h.b.sublist (List.drop_sublist ..),fun x hx y hy=>h.t x (List.mem_of_mem_drop hx) y (List.mem_of_mem_drop hy)⟩⟩
theorem zOo {A1 B1 A2 B2 S1 S2:List TE} (h1:S1.Perm (A1++B1)) (h2:S2.Perm (A2++B2)):(S1++S2).Perm ((A1++A2)++(B1++B2)):=by
 refine (h1.append h2).trans ?_;rw [List.append_assoc,List.append_assoc,<-List.append_assoc B1,<-List.append_assoc A2];exact ((List.perm_append_comm (l₁:=B1) (l₂:=A2)).append_right B2).append_left A1 |>.trans (by simp)
theorem zGT {key:TE->Int} {A1 B1 A2 B2 S1 S2:List TE} (h1:S1.Perm (A1++B1)) (h2:S2.Perm (A2++B2)) (s1:S1.Pairwise (rlt key)) (s2:S2.Pairwise (rlt key)) (h:∀ z∈A1++B1,∀ w∈A2++B2,rlt key z w):(S1++S2).Pairwise (rlt key):=
 List.pairwise_append.2 ⟨s1,s2,fun z hz w hw=>h z (h1.mem_iff.1 hz) w (h2.mem_iff.1 hw)⟩
theorem zPf {x:Nat}:Wa .u64 (x:Int) 1=((x / 2:Nat):Int):=by
 have:=zBJ (x:=x) (k:=1) (by omega)
 simpa using this
end Go.Proofs.YtjcbjclhagobiaaGreat
end
section
namespace Go.Proofs.YtjcbjclhagobiaaGreat
set_option maxHeartbeats 1600000
open Go Go.KL Go.KM
variable {E:Env} {X:Xs}
set_option maxRecDepth 100000
theorem half {M:List TE} (h:M≠[]):∃ M1 y M2,M=M1++y::M2/\M1.length=M.length / 2:=by
 have hp:=List.length_pos_iff.2 h;refine ⟨M.take (M.length / 2),M[M.length / 2]'(by omega),M.drop (M.length / 2+1),?_,by rw [List.length_take];omega⟩
 rw [<-List.drop_eq_getElem_cons,List.take_append_drop]
theorem zBn {i j:Nat} (h:i+j<=1000000000):IntKind.i64.wrap (Wa .u64 ((i:Int)+(j:Int)) 1)=(((i+j) / 2:Nat):Int):=by
 rw [<-Int.natCast_add,zPf];exact zK (by omega)
theorem zFL {l:List TE} {U:List TE} {y:TE} {V:List TE} {k:Nat} (e:l=U++y::V) (h:k=U.length):l[((k:Nat):Int).toNat]?=some y:=by
 rw [show ((k:Nat):Int).toNat=U.length by omega,e];simp
set_option maxHeartbeats 1000000 in
theorem zJv (base:Option Addr) (cap:Nat) (key:TE->Int) (cmp:Value) (hcmp:CmpOk E X key cmp) (P:List TE) (x:TE) (B Q:List TE) (n:Nat) (hn:n=(P++(x::(B++Q))).length) (hl:n<=100000) (hB:B.Pairwise (rlt key)) :
  Does PR E X 422 [.slice base n cap,.int .i64 (P.length:Int),.int .i64 ((P.length+1:Nat):Int),.int .i64 ((P.length+1+B.length:Nat):Int),cmp] [teS base cap (P++(x::(B++Q)))] (fun v t=>∃ B1 B2,B1++B2=B/\(∀ y∈B1,key y<key x)/\(∀ y∈B2,¬ key y<key x)/\v=.tuple #[]/\t=[teS base cap (P++(B1++x::(B2++Q)))]):=by
 have hn2:P.length+1+B.length+Q.length=n:=by rw [hn];simp;omega
 refine Does.of 220 inferInstance rfl (by decide) rfl ?_
 refine zB ?_;refine yes ?_;refine zB ?_;refine loop (ι:=List TE×List TE×List TE) (fun z=>z.2.1.length) (fun z=>z.1++(z.2.1++z.2.2)=B/\(∀ y∈z.1,key y<key x)/\∀ y∈z.2.2,¬ key y<key x) (fun z=>[(0,.slice base n cap),(1,.int .i64 (P.length:Int)),(4,cmp),(10,.int .i64 ((P.length+1+z.1.length:Nat):Int)),(11,.int .i64 ((P.length+1+z.1.length+z.2.1.length:Nat):Int))]) (fun z=>[teS base cap (P++(x::(B++Q)))]) ([],B,[]) ⟨by simp,by simp,by simp⟩ ?_
 rintro ⟨B1,M,B2⟩ ⟨h1,h2,h3⟩ ih;(try dsimp only at h1 h2 h3 ih ⊢);have hlen:B1.length+M.length+B2.length=B.length:=by rw [<-h1];simp;omega
 by_cases hM:M=[]
 ·subst hM;have hM0:([]:List TE).length=0:=rfl;refine zB ?_;refine no ?_;refine zB ?_;have e0:B=B1++B2:=by rw [<-h1];rfl
  subst e0;have hBl:(B1++B2).length=B1.length+B2.length:=List.length_append;rw [show teS base cap (P++x::(B1++B2++Q))=teS base cap (P++(([]:List TE)++x::(B1++(B2++Q)))) by simp]
  refine loop (ι:=List TE×List TE) (fun z=>z.2.length) (fun z=>z.1++z.2=B1) (fun z=>[(0,.slice base n cap),(10,.int .i64 ((P.length+1+B1.length:Nat):Int)),(13,.int .i64 ((P.length+z.1.length:Nat):Int))]) (fun z=>[teS base cap (P++(z.1++x::(z.2++(B2++Q))))]) ([],B1) (by simp) ?_
  rintro ⟨C1,C2⟩ g1 ih2;(try dsimp only at g1 ih2 ⊢);subst g1;have hCl:(C1++C2).length=C1.length+C2.length:=List.length_append;cases C2 with
  | nil=>
   refine zB ?_;refine no ?_;refine zB ?_;refine ret ?_;rw [List.append_nil] at h2;exact ends ⟨C1,B2,by rw [List.append_nil],h2,h3,rfl,rfl⟩
  | cons y C2=>
   have hyl:(y::C2).length=C2.length+1:=rfl;have eL:P++(C1++x::(y::C2++(B2++Q)))=(P++C1)++x::y::(C2++(B2++Q)):=by simp
   have hPC:(P++C1).length=P.length+C1.length:=List.length_append;have ej:(((P.length+C1.length:Nat):Int)).toNat=(P++C1).length:=by omega
   have ek:(((P.length+C1.length:Nat):Int)+1).toNat=(P++C1).length+1:=by omega
   have hx1:((P++C1)++x::y::(C2++(B2++Q)))[(((P.length+C1.length:Nat):Int)).toNat]?=some x:=by rw [ej,List.getElem?_append_right (by omega)];simp
   have hx2:((P++C1)++x::y::(C2++(B2++Q)))[(((P.length+C1.length:Nat):Int)+1).toNat]?=some y:=by rw [ek,List.getElem?_append_right (by omega)];simp
   have hx3:((((P++C1)++x::y::(C2++(B2++Q))).map teC).set (((P.length+C1.length:Nat):Int)).toNat (teC y))[(((P.length+C1.length:Nat):Int)+1).toNat]?=some (teC y):=by
    rw [ej,ek,List.getElem?_set_ne (by omega),List.getElem?_map,List.getElem?_append_right (by omega)];simp
   have hll:((P++C1)++x::y::(C2++(B2++Q))).length=n:=by simp;omega
   have e7:((((P++C1)++x::y::(C2++(B2++Q))).map teC).set (P++C1).length (teC y)).set ((P++C1).length+1) (teC x)=(P++((C1++[y])++x::(C2++(B2++Q)))).map teC:=by
    rw [<-List.map_set,<-List.map_set,List.set_append_right _ _ (by omega),Nat.sub_self,List.set_append_right _ _ (by omega),show (P++C1).length+1-(P++C1).length=1 by omega];simp
   rw [eL];generalize hLL:(P++C1)++x::y::(C2++(B2++Q))=LL at hx1 hx2 hx3 hll e7 ⊢;refine zB ?_;refine yes ?_;refine zB ?_;refine draw [0,0,0,0,8,0,0,64,224,480,0,0,3072,7168,16355,32739,65535,131071] [15,17] [8,9,12,13,14,16] [0,1,2,3,4,5,6,7,8,9,10,11,12,13,14,15,16,17] ?_;refine zC ?_;rw [ej,ek];refine (show W _ _ _ _ _ _ _ [osl base cap _ 2 (((LL.map teC).set (P++C1).length (teC y)).set ((P++C1).length+1) (teC x))] from ?_);rw [e7];refine zB ?_;have hr:=ih2 (C1++[y],C2) (by simp) (by show C2.length<(y::C2).length;simp)
   (try dsimp only at hr);rw [show (((P.length+(C1++[y]).length:Nat)):Int)=((P.length+C1.length:Nat):Int)+1 by simp;omega] at hr
   exact next hr
 ·obtain ⟨M1,h,M2,rfl,hM1⟩:=half hM;have hMl:(M1++h::M2).length=M1.length+1+M2.length:=by simp;omega
  have hsB:=hB;rw [<-h1,List.pairwise_append] at hsB;rw [hMl] at hM1 hlen ⊢;have hx0:=zFL (l:=P++(x::(B++Q))) (U:=P) rfl rfl;have hx1:=zFL (l:=P++(x::(B++Q))) (U:=P++x::(B1++M1)) (y:=h) (V:=M2++B2++Q) (k:=P.length+1+B1.length+M1.length) (by rw [<-h1];simp) (by simp;omega)
  refine zB ?_;refine yes ?_;refine zB ?_;rw [zBn (by omega),show (P.length+1+B1.length+(P.length+1+B1.length+(M1.length+1+M2.length))) / 2=P.length+1+B1.length+M1.length by omega]
  generalize hLL:P++(x::(B++Q))=LL at hn hx0 hx1 ih ⊢;have hsM:=hsB.2.1;rw [List.append_assoc,List.cons_append,List.pairwise_append,List.pairwise_cons] at hsM;refine draw [0,0,0,6,14,0,0,96,224,511,1023] [9] [3,4,7,8] [0,1,2,3,4,5,6,7,8,9,10] ?_;refine zC ?_;refine XD (hcmp.h h x) ?_;rintro _ _ ⟨c,hc,rfl,rfl⟩;refine zJ ?_;refine ddA ?_;refine zH (fun hd=>?_) (fun hd=>?_)
  ·have hd:=hc.1 (of_decide_eq_true hd);refine zB ?_;have hr:=ih (B1++M1++[h],M2,B2) ⟨by rw [<-h1];simp,fun z hz=>by
    simp only [List.mem_append,List.mem_singleton] at hz;rcases hz with (hz|hz)|rfl
    ·exact h2 z hz
    ·have:=zFe (hsM.2.2 z hz h (by simp));omega
    ·exact hd,h3⟩ (by show M2.length<(M1++h::M2).length;omega)
   (try dsimp only at hr);rw [show (B1++M1++[h]).length=B1.length+M1.length+1 by simp;omega] at hr
   exact next hr
  ·have hd:¬ key h<key x:=fun q=>(of_decide_eq_false hd) (hc.2 q);refine zB ?_;have hr:=ih (B1,M1,h::(M2++B2)) ⟨by rw [<-h1];simp,h2,fun z hz=>by
    rcases List.mem_cons.1 hz with rfl|hz
    ·exact hd
    ·have:=zFe (hsM.2.1.1 z hz);omega⟩ (by show M1.length<(M1++h::M2).length;omega)
   (try dsimp only at hr);exact next hr
end Go.Proofs.YtjcbjclhagobiaaGreat
end
section
namespace Go.Proofs.YtjcbjclhagobiaaGreat
set_option maxHeartbeats 1600000
open Go Go.KL Go.KM
variable {E:Env} {X:Xs}
set_option maxRecDepth 100000
set_option maxHeartbeats 1000000 in
theorem zJE (base:Option Addr) (cap:Nat) (key:TE->Int) (cmp:Value) (hcmp:CmpOk E X key cmp) (P:List TE) (x:TE) (A Q:List TE) (n:Nat) (hn:n=(P++(A++(x::Q))).length) (hl:n<=100000) (hA:A.Pairwise (rlt key)) (hA1:A.length≠1) :
  Does PR E X 422 [.slice base n cap,.int .i64 (P.length:Int),.int .i64 ((P.length+A.length:Nat):Int),.int .i64 ((P.length+A.length+1:Nat):Int),cmp] [teS base cap (P++(A++(x::Q)))] (fun v t=>∃ A1 A2,A1++A2=A/\(∀ y∈A1,¬ key x<key y)/\(∀ y∈A2,key x<key y)/\v=.tuple #[]/\t=[teS base cap (P++(A1++x::(A2++Q)))]):=by
 have hn2:P.length+A.length+1+Q.length=n:=by rw [hn];simp;omega
 refine Does.of 220 inferInstance rfl (by decide) rfl ?_
 refine zB ?_;refine no ?_;refine zB ?_;refine yes ?_;refine zB ?_;refine loop (ι:=List TE×List TE×List TE) (fun z=>z.2.1.length) (fun z=>z.1++(z.2.1++z.2.2)=A/\(∀ y∈z.1,¬ key x<key y)/\∀ y∈z.2.2,key x<key y) (fun z=>[(0,.slice base n cap),(2,.int .i64 ((P.length+A.length:Nat):Int)),(4,cmp),(14,.int .i64 ((P.length+z.1.length:Nat):Int)),(15,.int .i64 ((P.length+z.1.length+z.2.1.length:Nat):Int))]) (fun z=>[teS base cap (P++(A++(x::Q)))]) ([],A,[]) ⟨by simp,by simp,by simp⟩ ?_
 rintro ⟨A1,M,A2⟩ ⟨h1,h2,h3⟩ ih;(try dsimp only at h1 h2 h3 ih ⊢);have hlen:A1.length+M.length+A2.length=A.length:=by rw [<-h1];simp;omega
 by_cases hM:M=[]
 ·subst hM;have hM0:([]:List TE).length=0:=rfl;refine zB ?_;refine no ?_;refine zB ?_;have e0:A=A1++A2:=by rw [<-h1];rfl
  subst e0;have hAl:(A1++A2).length=A1.length+A2.length:=List.length_append;rw [show teS base cap (P++(A1++A2++x::Q))=teS base cap (P++(A1++(A2++x::(([]:List TE)++Q)))) by simp]
  refine loop (ι:=List TE×List TE) (fun z=>z.1.length) (fun z=>z.1++z.2=A2) (fun z=>[(0,.slice base n cap),(14,.int .i64 ((P.length+A1.length:Nat):Int)),(17,.int .i64 ((P.length+A1.length:Nat)+(z.1.length:Int)))]) (fun z=>[teS base cap (P++(A1++(z.1++x::(z.2++Q))))]) (A2,[]) (by simp) ?_ (.cons rfl (.cons rfl (.eq rfl (by congr 1;show ((P.length+(A1++A2).length:Nat):Int)=((P.length+A1.length:Nat):Int)+(A2.length:Int);omega) .nil)))
  rintro ⟨C1,C2⟩ g1 ih2;(try dsimp only at g1 ih2 ⊢);subst g1;have hCl:(C1++C2).length=C1.length+C2.length:=List.length_append;rcases List.eq_nil_or_concat C1 with rfl|⟨C3,y,rfl⟩
  ·refine zB ?_;refine no ?_;refine zB ?_;refine ret ?_;exact ends ⟨A1,C2,rfl,h2,h3,rfl,rfl⟩
  ·rw [List.concat_eq_append] at *;have hyl:(C3++[y]).length=C3.length+1:=by simp
   have eL:P++(A1++(C3++[y]++x::(C2++Q)))=(P++A1++C3)++y::x::(C2++Q):=by simp
   have hPC:(P++A1++C3).length=P.length+A1.length+C3.length:=by simp;omega
   rw [hyl];have ej:((((P.length+A1.length:Nat):Int)+((C3.length+1:Nat):Int))).toNat=(P++A1++C3).length+1:=by omega
   have ek:((((P.length+A1.length:Nat):Int)+((C3.length+1:Nat):Int))-1).toNat=(P++A1++C3).length:=by omega
   have hx1:((P++A1++C3)++y::x::(C2++Q))[((((P.length+A1.length:Nat):Int)+((C3.length+1:Nat):Int))).toNat]?=some x:=by rw [ej,List.getElem?_append_right (by omega)];simp
   have hx2:((P++A1++C3)++y::x::(C2++Q))[((((P.length+A1.length:Nat):Int)+((C3.length+1:Nat):Int))-1).toNat]?=some y:=by rw [ek,List.getElem?_append_right (by omega)];simp
   have hx3:((((P++A1++C3)++y::x::(C2++Q)).map teC).set ((((P.length+A1.length:Nat):Int)+((C3.length+1:Nat):Int))).toNat (teC y))[((((P.length+A1.length:Nat):Int)+((C3.length+1:Nat):Int))-1).toNat]?=some (teC y):=by
    rw [ej,ek,List.getElem?_set_ne (by omega),List.getElem?_map,List.getElem?_append_right (by omega)];simp
   have hll:((P++A1++C3)++y::x::(C2++Q)).length=n:=by simp;omega
   have e7:((((P++A1++C3)++y::x::(C2++Q)).map teC).set ((P++A1++C3).length+1) (teC y)).set (P++A1++C3).length (teC x)=(P++(A1++(C3++x::(y::C2++Q)))).map teC:=by
    rw [<-List.map_set,<-List.map_set,List.set_append_right _ _ (by omega),show (P++A1++C3).length+1-(P++A1++C3).length=1 by omega,List.set_append_right _ _ (by omega),Nat.sub_self];simp
   rw [eL];generalize hLL:(P++A1++C3)++y::x::(C2++Q)=LL at hx1 hx2 hx3 hll e7 ⊢;refine zB ?_;refine yes ?_;refine zB ?_;refine draw [0,0,0,0,8,0,0,64,224,480,0,0,3072,7168,16355,32739,65535,131071] [15,17] [8,9,12,13,14,16] [0,1,2,3,4,5,6,7,8,9,10,11,12,13,14,15,16,17] ?_;refine zC ?_;rw [ej,ek];refine (show W _ _ _ _ _ _ _ [osl base cap _ 2 (((LL.map teC).set ((P++A1++C3).length+1) (teC y)).set (P++A1++C3).length (teC x))] from ?_);rw [e7];refine zB ?_;have hr:=ih2 (C3,y::C2) (by simp) (by show C3.length<(C3++[y]).length;simp)
   (try dsimp only at hr);exact next hr
 ·obtain ⟨M1,h,M2,rfl,hM1⟩:=half hM;have hMl:(M1++h::M2).length=M1.length+1+M2.length:=by simp;omega
  have hsA:=hA;rw [<-h1,List.pairwise_append] at hsA;rw [hMl] at hM1 hlen ⊢;have hx0:=zFL (l:=P++(A++(x::Q))) (U:=P++A) (y:=x) (V:=Q) (k:=P.length+A.length) (by simp) (by simp)
  have hx1:=zFL (l:=P++(A++(x::Q))) (U:=P++(A1++M1)) (y:=h) (V:=M2++A2++(x::Q)) (k:=P.length+A1.length+M1.length) (by rw [<-h1];simp) (by simp;omega)
  refine zB ?_;refine yes ?_;refine zB ?_;rw [zBn (by omega),show (P.length+A1.length+(P.length+A1.length+(M1.length+1+M2.length))) / 2=P.length+A1.length+M1.length by omega]
  generalize hLL:P++(A++(x::Q))=LL at hn hx0 hx1 ih ⊢;have hsM:=hsA.2.1;rw [List.append_assoc,List.cons_append,List.pairwise_append,List.pairwise_cons] at hsM;refine draw [0,0,0,6,14,0,0,96,224,511,1023,2047] [9] [3,4,7,8] [0,1,2,3,4,5,6,7,8,9,10,11] ?_;refine zC ?_;refine XD (hcmp.h x h) ?_;rintro _ _ ⟨c,hc,rfl,rfl⟩;refine zJ ?_;refine ddA ?_;refine zH (fun hd=>?_) (fun hd=>?_)
  ·have hd:¬ key x<key h:=fun q=>by
    have:=hc.2 q
    rw [decide_eq_true this] at hd;cases hd
   refine zB ?_;have hr:=ih (A1++M1++[h],M2,A2) ⟨by rw [<-h1];simp,fun z hz=>by
    simp only [List.mem_append,List.mem_singleton] at hz;rcases hz with (hz|hz)|rfl
    ·exact h2 z hz
    ·have:=zFe (hsM.2.2 z hz h (by simp));omega
    ·exact hd,h3⟩ (by show M2.length<(M1++h::M2).length;omega)
   (try dsimp only at hr);rw [show (A1++M1++[h]).length=A1.length+M1.length+1 by simp;omega] at hr
   exact next hr
  ·have hd:key x<key h:=by
    rcases Int.lt_or_le c 0 with q|q
    ·exact hc.1 q
    ·rw [decide_eq_false (by omega)] at hd;cases hd
   refine zB ?_;have hr:=ih (A1,M1,h::(M2++A2)) ⟨by rw [<-h1];simp,h2,fun z hz=>by
    rcases List.mem_cons.1 hz with rfl|hz
    ·exact hd
    ·have:=zFe (hsM.2.1.1 z hz);omega⟩ (by show M1.length<(M1++h::M2).length;omega)
   (try dsimp only at hr);exact next hr
end Go.Proofs.YtjcbjclhagobiaaGreat
end
