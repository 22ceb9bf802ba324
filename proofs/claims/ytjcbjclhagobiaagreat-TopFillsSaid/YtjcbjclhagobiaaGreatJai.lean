/- Texts joined by a program of ours: Te Tf Nd Ea Eb Ec Ed Nf Ee. -/
import Derived.Test.YtjcbjclhagobiaaGreatJad
import Derived.Test.YtjcbjclhagobiaaGreatJah
set_option linter.all false
section
namespace Go.Proofs.YtjcbjclhagobiaaGreat
open Go Go.KL Go.KM
open Bt
variable {E:Env} {X:Xs}
set_option maxRecDepth 100000
def Bt.size:Bt->Nat
 | .nil=>0
 | .node _ _ l r=>1+l.size+r.size
def Bt.outP:Bt->Pf->Prs
 | .nil,_=>[]
 | .node _ v l r,p=>v.toList.map (fun w=>(p,w))++((if (p.down 0).2 then l.outP (p.down 0).1 else [])++(if (p.down 1).2 then r.outP (p.down 1).1 else []))
abbrev Stk:=List (Bt×Pf)
abbrev stC (x:Bt×Pf):List Value:=[.int .i64 x.1.idx,u64 x.2.a.hi,u64 x.2.a.lo,.bool x.2.a.v6,.int .i64 x.2.n]
def Stk.size (l:Stk):Nat:=(l.map fun x=>x.1.size).sum
def Stk.rest (l:Stk):Prs:=l.reverse.flatMap fun x=>x.1.outP x.2
structure Stk.Ok (T:Tr) (l:Stk):Prop where
 ok:∀ x∈l,x.1≠.nil/\x.2.sane=true/\∃ up,At T.A up x.1
theorem Stk.len {T:Tr} {l:Stk} (h:Stk.Ok T l):l.length<=Stk.size l:=by
 induction l with
 | nil=>simp [Stk.size]
 | cons x l ih=>
  have h1:=ih ⟨fun y hy=>h.ok y (List.mem_cons_of_mem _ hy)⟩;have h2:=(h.ok x (by simp)).1
  unfold Stk.size at h1 ⊢;simp only [List.map_cons,List.sum_cons,List.length_cons];have:1<=x.1.size:=by
   cases e:x.1 with
   | nil=>exact absurd e h2
   | node a b c d=>simp [Bt.size];omega
  omega
theorem Stk.size_snoc {l:Stk} {x:Bt×Pf}:Stk.size (l++[x])=Stk.size l+x.1.size:=by simp [Stk.size]
theorem Stk.rest_snoc {l:Stk} {x:Bt×Pf}:Stk.rest (l++[x])=x.1.outP x.2++Stk.rest l:=by simp [Stk.rest]
theorem Stk.Ok.snoc {T:Tr} {l:Stk} (h:Stk.Ok T l) {x:Bt×Pf} (h1:x.1≠.nil) (h2:x.2.sane=true) {up:Int} (h3:At T.A up x.1):Stk.Ok T (l++[x]):=
 ⟨fun y hy=>by
  rcases List.mem_append.1 hy with hy|hy
  ·exact h.ok y hy
  ·simp at hy;subst hy;exact ⟨h1,h2,up,h3⟩⟩
theorem zCY {p:Pf} (hp:p.sane=true) {v:Int} (h:(p.down v).2=true):(p.down v).1.sane=true:=by
 by_cases hw:p.n=(width p.a.v6:Int)
 ·rw [Jp hw] at h;cases h
 ·exact (zBU hp hw v).2.1
def Stk.lay (l:Stk) (c:Bt) (q:Pf×Bool):Stk:=if q.2&&!decide (c.idx = -1) then l++[(c,q.1)] else l
theorem zG8 (t:Nat) (T:Tr) (tt:Bool->Bt) (p:Pf) (hA:T.A≠[]) (hs:p.sane=true) (hr:Rep T tt) (hsz:((tt p.a.v6).down (p.a.bits p.n.toNat)).size<=10000000):Does PR E X 91 [pt t,p.v] [yU t T]
  (fun v u=>∃ base cap,v=.slice base (((tt p.a.v6).down (p.a.bits p.n.toNat)).outP p).length cap/\u=[yU t T,osl base cap 214 5 ((((tt p.a.v6).down (p.a.bits p.n.toNat)).outP p).map prC)]):=by
 have hfd:=hr.find hs;obtain ⟨up0,hat0⟩:=zDg (bs:=p.a.bits p.n.toNat) (hr.at_ p.a.v6);generalize hd:(tt p.a.v6).down (p.a.bits p.n.toNat)=D at hsz hfd hat0;refine Does.of 83 inferInstance rfl (by decide) rfl ?_
 refine zB ?_;refine zU fun b3=>?_;refine zB ?_;refine call (XG t T p hA (fun _=>⟨_,hr.path p⟩)) ?_;rintro _ _ ⟨rfl,rfl⟩;refine onA ?_;rw [hfd];cases hD:D with
 | nil=>
  subst hD;have c1:decide ((Bt.nil).idx = -1)=true:=rfl;refine zB ?_;refine yes ?_;refine zB ?_;refine into (Into.nilO (T:=214) (sz:=5)) ?_;refine ret ?_;exact ends ⟨none,0,rfl,rfl⟩
 | node m0 v0 l0 r0=>
  rw [<-hD];have hDn:D≠.nil:=by rw [hD];simp
  have c1:decide (D.idx = -1)=false:=decide_eq_false fun h=>hDn (Zp.1 h);refine zB ?_;refine no ?_;refine zB ?_;refine buildSlice fun bl=>?_;refine zB ?_;refine into (Into.nilO (T:=214) (sz:=5)) ?_;refine loop (ι:=Stk×Prs×(Option Addr×Nat×Option Addr×Nat)) (fun i=>Stk.size i.1) (fun i=>Stk.Ok T i.1/\i.2.1++Stk.rest i.1=D.outP p/\Stk.size i.1+i.2.1.length<=10000000) (fun i=>[(0,pt t),(3,.pointer (some ⟨b3,0,none⟩)),(6,.slice i.2.2.1 i.2.1.length i.2.2.2.1),(7,.slice i.2.2.2.2.1 i.1.length i.2.2.2.2.2)]) (fun i=>[osl i.2.2.1 i.2.2.2.1 214 5 (i.2.1.map prC),osl i.2.2.2.2.1 i.2.2.2.2.2 301 5 (i.1.map stC),yU t T]) ([(D,p)],[],none,0,some ⟨bl,0,none⟩,1) (by
   refine ⟨⟨fun y hy=>?_⟩,by simp [Stk.rest],by simp [Stk.size];exact hsz⟩
   simp at hy;subst hy;exact ⟨hDn,hs,up0,hat0⟩) ?_
  rintro ⟨l,out,ob,oc,lb,lc⟩ ⟨h1,h2,h3⟩ ih;(try dsimp only at h1 h2 h3 ih ⊢);rcases List.eq_nil_or_concat l with rfl|⟨l',⟨x,px⟩,rfl⟩
  ·refine zB ?_;refine no ?_;refine zB ?_;have e2:out=D.outP p:=by simpa [Stk.rest] using h2
   rw [e2];refine ret ?_;exact ends ⟨ob,oc,rfl,rfl⟩
  ·rw [List.concat_eq_append] at *;have hl:=Stk.len h1;have hlen:(l'++[(x,px)]).length=l'.length+1:=by simp
   have hx:(l'++[(x,px)])[((l'.length+1:Nat):Int).toNat-1]?=some (x,px):=by simp
   have hx2:(l'++[(x,px)])[(((l'.length+1:Nat):Int)-1).toNat]?=some (x,px):=by rw [show (((l'.length+1:Nat):Int)-1).toNat=l'.length by omega];simp
   rw [hlen] at hl ⊢;obtain ⟨hxn,hxs,upx,hxa⟩:=h1.ok (x,px) (by simp)
   refine zMn lb fun hcap=>?_;rw [List.length_map,hlen] at hcap;refine zB ?_;refine yes ?_;refine zB ?_;refine alloc fun b8=>?_;refine zB ?_;rw [zHn];refine into (Into.oslTake (base:=lb) l'.length (.there (.there .here))) ?_;have e3:List.take l'.length (List.map stC (l'++[(x,px)]))=List.map stC l':=by rw [<-List.map_take];simp
   have e4:(((l'.length+1:Nat):Int)-1).toNat-0=l'.length:=by omega
   rw [e3,e4];(try dsimp only at hxn hxs hxa ⊢);cases x with
   | nil=>exact absurd rfl hxn
   | node m v l r=>
    obtain ⟨nd,hnd,hkk,hup,hen,hva⟩:=zIQ hxa;have hk0:nd.k0=l.idx:=hkk false;have hk1:nd.k1=r.idx:=hkk true;have hml:m<T.A.length:=(List.getElem?_eq_some_iff.1 hnd).1;have hidx:(Bt.node m v l r).idx=(m:Int):=rfl;rw [hidx];refine zW (yM t T) fun q=>?_;refine draw [0,1,3,7,0,16,63,127,0,511] [8,9] [3,5,6,7] [0,1,2,3,4,5,6,7,8,9] ?_;refine zC ?_;refine yS fun b9=>?_;refine ddA ?_;have hsz2:Stk.size l'+(1+l.size+r.size)+out.length<=10000000:=by rw [Stk.size_snoc] at h3;exact h3
    have hrest:out++((Bt.node m v l r).outP px++Stk.rest l')=D.outP p:=by rw [Stk.rest_snoc] at h2;exact h2
    have hok':Stk.Ok T l':=⟨fun y hy=>h1.ok y (List.mem_append_left _ hy)⟩;have hll:=Stk.len hok';refine cut (ι:=Option Addr×Nat) (fun _=>True) (fun i=>[(0,pt t),(3,.pointer (some ⟨b3,0,none⟩)),(6,.slice i.1 (out++v.toList.map (fun w=>(px,w))).length i.2),(7,.slice lb l'.length lc),(8,.pointer (some ⟨b8,0,none⟩)),(9,.pointer (some ⟨b9,0,none⟩))])
     (fun i=>osl i.1 i.2 214 5 ((out++v.toList.map (fun w=>(px,w))).map prC)::osl lb lc 301 5 (l'.map stC)::box b8 [.int .i64 (m:Int),u64 px.a.hi,u64 px.a.lo,.bool px.a.v6,.int .i64 px.n] 301::box b9 nd.c 305::yM t T q) (fun k' rest=>?_) ?_
    ·refine zH (fun h=>?_) (fun h=>?_)
     ·have h:nd.ends=true:=h;obtain ⟨w,hw⟩:∃ w,v=some w:=by rw [hen] at h;exact Option.isSome_iff_exists.1 h
      have hvw:=hva w hw;subst hw;simp only [Option.toList_some,List.map_cons,List.map_nil] at rest;refine zB ?_;refine buildSlice fun bp=>?_;refine zB ?_;refine xM fun ob' oc'=>?_;refine zB ?_;have e1:∀ u:List Value,u=prC (px,w)->List.map prC out++[u]=List.map prC (out++[(px,w)]):=fun u hu=>by rw [List.map_append,hu];rfl
      have e5:out.length+1=(out++[(px,w)]).length:=by simp
      rw [e5,e1]
      ·exact next (rest (ob',oc') trivial)
      ·rw [<-hvw];rfl
     ·have h:nd.ends=false:=h;have hw:v=none:=by rw [hen] at h;cases v <;> simp at h ⊢
      subst hw;simp only [Option.toList_none,List.map_nil,List.append_nil] at rest;refine zB ?_;exact next (rest (ob,oc) trivial)
    ·rintro ⟨ob',oc'⟩ _;have e6:(out++v.toList.map (fun w=>(px,w))).length<=out.length+1:=by cases v <;> simp
     generalize hout2:out++v.toList.map (fun w=>(px,w))=out2 at e6;(try dsimp only at ⊢);refine zB ?_;refine Wc ?_;refine zB ?_;refine yes ?_;refine zB ?_;refine call (Qj px 1 (.inr (.inl rfl))) ?_;rintro _ _ ⟨rfl,rfl⟩;refine onA ?_;refine alloc fun b11=>?_;refine zB ?_;refine cut (ι:=Option Addr×Nat) (fun _=>True) (fun i=>[(0,pt t),(3,.pointer (some ⟨b3,0,none⟩)),(6,.slice ob' out2.length oc'),(7,.slice i.1 (Stk.lay l' r (px.down 1)).length i.2),(8,.pointer (some ⟨b8,0,none⟩)),(9,.pointer (some ⟨b9,0,none⟩)),(10,.int .i64 1)])
      (fun i=>osl ob' oc' 214 5 (out2.map prC)::osl i.1 i.2 301 5 ((Stk.lay l' r (px.down 1)).map stC)::box b8 [.int .i64 (m:Int),u64 px.a.hi,u64 px.a.lo,.bool px.a.v6,.int .i64 px.n] 301::box b9 nd.c 305::yM t T q) (fun k' rest=>?_) ?_
     ·refine zH (fun h=>?_) (fun h=>?_)
      ·have e7:Stk.lay l' r (px.down 1)=l'++[(r,(px.down 1).1)]:=by unfold Stk.lay;rw [<-hk1,h];rfl
       rw [e7] at rest;refine zB ?_;refine draw [0,0,0,6,14,0,62,126,255,511] [7,8,9] [3,4,5] [0,1,2,3,4,5,6,7,8,9] ?_;refine zC ?_;refine yF fun bp=>?_;refine ddA ?_;refine xP fun lb' lc'=>?_;refine ddA ?_;have e8:∀ u:List Value,u=stC (r,(px.down 1).1)->List.map stC l'++[u]=List.map stC (l'++[(r,(px.down 1).1)]):=fun u hu=>by rw [List.map_append,hu];rfl
       have e9:l'.length+1=(l'++[(r,(px.down 1).1)]).length:=by simp
       rw [e9,e8]
       ·exact next (rest (lb',lc') trivial)
       ·rw [hk1];rfl
      ·have e7:Stk.lay l' r (px.down 1)=l':=by unfold Stk.lay;rw [<-hk1,h];rfl
       rw [e7] at rest;refine zB ?_;exact next (rest (lb,lc) trivial)
     ·rintro ⟨lb1,lc1⟩ _;have hly:(Stk.lay l' r (px.down 1)).length<=l'.length+1:=by unfold Stk.lay;split <;> simp
      generalize hl2:Stk.lay l' r (px.down 1)=l2 at hly;(try dsimp only at ⊢);refine zB ?_;refine again ?_;refine zB ?_;refine yes ?_;refine zB ?_;refine call (Qj px 0 (.inl rfl)) ?_;rintro _ _ ⟨rfl,rfl⟩;refine onA ?_;refine alloc fun b12=>?_;refine zB ?_;refine cut (ι:=Option Addr×Nat) (fun _=>True) (fun i=>[(0,pt t),(3,.pointer (some ⟨b3,0,none⟩)),(6,.slice ob' out2.length oc'),(7,.slice i.1 (Stk.lay l2 l (px.down 0)).length i.2),(10,.int .i64 0)])
       (fun i=>osl ob' oc' 214 5 (out2.map prC)::osl i.1 i.2 301 5 ((Stk.lay l2 l (px.down 0)).map stC)::yM t T q) (fun k' rest=>?_) ?_
      ·refine zH (fun h=>?_) (fun h=>?_)
       ·have e7:Stk.lay l2 l (px.down 0)=l2++[(l,(px.down 0).1)]:=by unfold Stk.lay;rw [<-hk0,h];rfl
        rw [e7] at rest;refine zB ?_;refine draw [0,0,0,6,14,0,62,126,255,511] [7,8,9] [3,4,5] [0,1,2,3,4,5,6,7,8,9] ?_;refine zC ?_;refine yF fun bp=>?_;refine ddA ?_;refine xP fun lb' lc'=>?_;refine ddA ?_;have e8:∀ u:List Value,u=stC (l,(px.down 0).1)->List.map stC l2++[u]=List.map stC (l2++[(l,(px.down 0).1)]):=fun u hu=>by rw [List.map_append,hu];rfl
        have e9:l2.length+1=(l2++[(l,(px.down 0).1)]).length:=by simp
        rw [e9,e8]
        ·exact next (rest (lb',lc') trivial)
        ·rw [hk0];rfl
       ·have e7:Stk.lay l2 l (px.down 0)=l2:=by unfold Stk.lay;rw [<-hk0,h];rfl
        rw [e7] at rest;refine zB ?_;exact next (rest (lb1,lc1) trivial)
      ·rintro ⟨lb2,lc2⟩ _;have hn1:∀ (c:Bt) (z:Pf×Bool),z.2=true->c.idx≠-1->c≠.nil:=fun c z _ h e=>h (Zp.2 e);have hok2:Stk.Ok T l2:=by
        rw [<-hl2];unfold Stk.lay;split
        ·rename_i h
         simp only [Bool.and_eq_true,Bool.not_eq_true',decide_eq_false_iff_not] at h;exact hok'.snoc (fun e=>h.2 (Zp.2 e)) (zCY hxs h.1) (Wt hxa true)
        ·exact hok'
       have hok3:Stk.Ok T (Stk.lay l2 l (px.down 0)):=by
        unfold Stk.lay;split
        ·rename_i h
         simp only [Bool.and_eq_true,Bool.not_eq_true',decide_eq_false_iff_not] at h;exact hok2.snoc (fun e=>h.2 (Zp.2 e)) (zCY hxs h.1) (Wt hxa false)
        ·exact hok2
       have hlay:∀ (L:Stk) (c:Bt) (z:Pf×Bool),Stk.size (Stk.lay L c z)<=Stk.size L+c.size/\Stk.rest (Stk.lay L c z)=(if z.2 then c.outP z.1 else [])++Stk.rest L:=by
        intro L c z;unfold Stk.lay;cases hz:z.2 with
        | false=>simp
        | true=>
         cases c with
         | nil=>simp [Bt.idx,Bt.outP]
         | node a1 a2 a3 a4=>
          have:decide ((Bt.node a1 a2 a3 a4).idx = -1)=false:=decide_eq_false (by simp [Bt.idx])
          rw [this];simp only [Bool.not_false,Bool.and_self,if_true];rw [Stk.size_snoc,Stk.rest_snoc];exact ⟨Nat.le_refl _,rfl⟩
       obtain ⟨a1,a2⟩:=hlay l2 l (px.down 0);obtain ⟨a3,a4⟩:=hlay l' r (px.down 1);rw [hl2] at a3 a4;generalize Stk.lay l2 l (px.down 0)=l3 at a1 a2 hok3;have hm3:Stk.size l3<Stk.size l'+(1+l.size+r.size):=by omega
       have hr3:out2++Stk.rest l3=D.outP p:=by
        rw [a2,a4,<-hout2,<-hrest];simp only [Bt.outP,List.append_assoc]
       (try dsimp only at ⊢);refine zB ?_;refine again ?_;refine zB ?_;refine no ?_;refine zB ?_;refine zE (yM t T) q ?_;exact next (ih (l3,out2,ob',oc',lb2,lc2) (by exact ⟨hok3,hr3,by simp only;omega⟩) (by simp only;rw [Stk.size_snoc];exact hm3))
end Go.Proofs.YtjcbjclhagobiaaGreat
end
section
namespace Go.Proofs.YtjcbjclhagobiaaGreat
open Go Go.KL Go.KM
open Bt
variable {E:Env} {X:Xs}
set_option maxRecDepth 100000
theorem zKt {t:Bt}:t.ids.length=t.size:=by
 induction t with
 | nil=>rfl
 | node m v l r ihl ihr=>simp [ids,Bt.size,ihl,ihr];omega
theorem Vb {t:Bt} {pre:List Bool}:(t.toL pre).length=t.cnt:=by
 induction t generalizing pre with
 | nil=>rfl
 | node m v l r ihl ihr=>cases v <;> simp [Bt.toL,cnt,ihl,ihr] <;> omega
def Yi (k:Nat) (l:List (List Bool×Int)):Nat:=(l.map fun x=>x.1.length-k).sum
theorem YF {k:Nat} {a b:List (List Bool×Int)}:Yi k (a++b)=Yi k a+Yi k b:=by simp [Yi]
theorem Zb {k:Nat}:∀ {l:List (List Bool×Int)},(∀ x∈l,k+1<=x.1.length)->Yi k l=Yi (k+1) l+l.length
 | [],_=>rfl
 | x::l,h=>by
  have ih:=Zb (k:=k) (l:=l) fun y hy=>h y (List.mem_cons_of_mem _ hy);have h1:=h x (by simp)
  unfold Yi at ih ⊢;simp only [List.map_cons,List.sum_cons,List.length_cons];omega
theorem QU {t:Bt} {pre:List Bool}:∀ x∈t.toL pre,pre.length<=x.1.length:=fun x hx=>by
 obtain ⟨b,hb⟩:=WD hx;rw [hb];simp
theorem zFN {t:Bt} (h:t.full) {pre:List Bool}:t.size<=Yi pre.length (t.toL pre)+(t.toL pre).length/\(t≠.nil->1<=(t.toL pre).length):=by
 induction t generalizing pre with
 | nil=>simp [Bt.size]
 | node m v l r ihl ihr=>
  obtain ⟨h1,h2,h3⟩:=h;obtain ⟨l1,l2⟩:=ihl h2 (pre:=pre++[false]);obtain ⟨r1,r2⟩:=ihr h3 (pre:=pre++[true]);have el:=Zb (k:=pre.length) (l:=l.toL (pre++[false])) (fun x hx=>by have:=QU x hx;simpa using this)
  have er:=Zb (k:=pre.length) (l:=r.toL (pre++[true])) (fun x hx=>by have:=QU x hx;simpa using this)
  simp only [List.length_append,List.length_cons,List.length_nil,Nat.zero_add] at l1 r1;have hone:1<=v.toList.length+((l.toL (pre++[false])).length+(r.toL (pre++[true])).length):=by
   rcases h1 with h1|h1|h1
   ·cases v with
    | none=>exact absurd rfl h1
    | some w=>simp
   ·have:=l2 h1;omega
   ·have:=r2 h1;omega
  constructor
  ·unfold Bt.toL Bt.size;rw [YF,YF];simp only [List.length_append,List.length_map];omega
  ·intro _;unfold Bt.toL;simp only [List.length_append,List.length_map];exact hone
theorem zFs {t:Bt} (h:t.trim) {pre:List Bool}:t.size<=1+Yi pre.length (t.toL pre):=by
 cases t with
 | nil=>simp [Bt.size]
 | node m v l r=>
  obtain ⟨l1,_⟩:=zFN h.1 (pre:=pre++[false]);obtain ⟨r1,_⟩:=zFN h.2 (pre:=pre++[true]);have el:=Zb (k:=pre.length) (l:=l.toL (pre++[false])) (fun x hx=>by have:=QU x hx;simpa using this)
  have er:=Zb (k:=pre.length) (l:=r.toL (pre++[true])) (fun x hx=>by have:=QU x hx;simpa using this)
  simp only [List.length_append,List.length_cons,List.length_nil,Nat.zero_add] at l1 r1;unfold Bt.toL Bt.size;rw [YF,YF];omega
def Prs.digits (m:Prs):Nat:=(m.map fun x=>x.1.n.toNat).sum
theorem zJ1 {m:Prs}:Yi 1 (m.map pk)=m.digits:=by
 unfold Yi Prs.digits;rw [List.map_map];congr 1;apply List.map_congr_left;intro x _;simp [wK]
theorem Rep.sizes {T:Tr} {t:Bool->Bt} (h:Rep T t):(t false).size+(t true).size+T.fr.length=T.A.length:=by
 obtain ⟨f,h1,h2⟩:=h.inv;have:=h2.length_eq
 rw [h1];simp only [List.length_append,List.length_map,List.length_range,zKt] at this ⊢;omega
theorem Rep.nodes {T:Tr} {t:Bool->Bt} {m:Prs} (h:Rep T t) (hm:Hold t m):(t false).size+(t true).size<=2+m.digits:=by
 have h1:=zFs (h.trim false) (pre:=[false]);have h2:=zFs (h.trim true) (pre:=[true]);have h3:Yi 1 (content t)=m.digits:=by rw [hm.eq,zJ1]
 unfold content at h3;rw [YF] at h3;simp at h1 h2;omega
theorem Rep.count {T:Tr} {t:Bool->Bt} {m:Prs} (h:Rep T t) (hm:Hold t m):T.n=(m.length:Int):=by
 rw [h.n];have:=congrArg List.length hm.eq
 unfold content at this;rw [List.length_append,Vb,Vb,List.length_map] at this;omega
structure TrI (m:Prs) (B:Nat) where
 T:Tr
 t:Bool->Bt
 rep:Rep T t
 hold:Hold t m
 small:T.A.length<=B
abbrev QA (t:Nat) (m:Prs) (B:Nat) (x:TrI m B):List HP:=[yU t x.T]
abbrev yX (t:Nat) (m:Prs) (B:Nat):HP:=HP.ex (QA t m B)
theorem TrI.ne {m:Prs} {B:Nat} (x:TrI m B):x.T.A≠[]:=by
 intro e;have h:=x.rep.sizes;rw [e] at h;have:(x.t false).size=0:=by simp at h;omega
 cases e2:x.t false with
 | nil=>exact x.rep.ne false e2
 | node a b c d=>rw [e2] at this;simp [Bt.size] at this
theorem TrI.ok {m:Prs} {B:Nat} (x:TrI m B) (hB:B<=10000000):x.T.Ok 200:=by
 have hs:=x.small;have h2:=x.rep.sizes;refine ⟨fun i hi=>?_,by omega,by omega⟩
 obtain ⟨f,h3,h4⟩:=x.rep.inv;rw [h3] at hi;obtain ⟨k,hk,rfl⟩:=List.mem_map.1 hi;have:=h4.mem_iff (a:=k)
 simp only [List.mem_append,List.mem_range,hk,or_true,true_iff] at this;exact ⟨by simp,by simpa using this⟩
theorem packs {α:Type} {A:α->List HP} (a:α):∀ r f,sep (A a) r f->sep [HP.ex A] r f:=fun r f h=>⟨f,Hp.emp,Hp.disj_emp _,Hp.le_refl _,Hp.emp_le _,⟨a,h⟩,trivial⟩
theorem zMC:∀ {a b:Prs},(∀ x∈a,x.1.sane=true)->(∀ x∈b,x.1.sane=true)->a.map pk=b.map pk->a=b
 | [],[],_,_,_=>rfl
 | [],_::_,_,_,h=>by simp at h
 | _::_,[],_,_,h=>by simp at h
 | x::a,y::b,ha,hb,h=>by
  simp only [List.map_cons,List.cons.injEq] at h;have h1:=congrArg Prod.fst h.1;have h2:=congrArg Prod.snd h.1;have e:x=y:=Prod.ext (Za (ha x (by simp)) (hb y (by simp)) h1) h2
  rw [e,zMC (fun z hz=>ha z (List.mem_cons_of_mem _ hz)) (fun z hz=>hb z (List.mem_cons_of_mem _ hz)) h.2]
theorem zK9 {t:Bt}:∀ {p:Pf},p.sane=true->(∀ b w,t.val b=some w->p.n+(b.length:Int)<=(width p.a.v6:Int))->(t.outP p).map pk=t.toL p.key/\∀ x∈t.outP p,x.1.sane=true:=by
 induction t with
 | nil=>intro p _ _;simp [Bt.outP,Bt.toL]
 | node m v l r ihl ihr=>
  intro p hp hv;have hl:∀ b w,l.val b=some w->p.n+((false::b).length:Int)<=(width p.a.v6:Int):=fun b w h=>hv (false::b) w h;have hr:∀ b w,r.val b=some w->p.n+((true::b).length:Int)<=(width p.a.v6:Int):=fun b w h=>hv (true::b) w h;have hvv:((v.toList.map fun w=>(p,w)):Prs).map pk=v.toList.map fun w=>(p.key,w):=by cases v <;> rfl
  by_cases hw:p.n=(width p.a.v6:Int)
  ·have el:l.toL (p.key++[false])=[]:=by
    rw [List.eq_nil_iff_forall_not_mem];rintro ⟨k,w⟩ hk;obtain ⟨b,_,h⟩:=VD.1 hk;have:=hl b w h;simp at this;omega
   have er:r.toL (p.key++[true])=[]:=by
    rw [List.eq_nil_iff_forall_not_mem];rintro ⟨k,w⟩ hk;obtain ⟨b,_,h⟩:=VD.1 hk;have:=hr b w h;simp at this;omega
   unfold Bt.outP Bt.toL;rw [Jp hw,Jp hw,el,er];simp only [Bool.false_eq_true,if_false,List.append_nil];refine ⟨hvv,fun x hx=>?_⟩;cases v <;> simp at hx
   rw [hx];exact hp
  ·obtain ⟨a1,a2,a3⟩:=zBU hp hw 0;obtain ⟨b1,b2,b3⟩:=zBU hp hw 1;have hn0:(p.down 0).1.n=p.n+1/\(p.down 0).1.a.v6=p.a.v6:=by
    have:=congrArg List.length a3;rw [List.length_append,wK,wK] at this
    have h1:=(xY a2).1;have h2:=(xY hp).1;refine ⟨by simp at this;omega,?_⟩
    have:=congrArg List.head? a3
    simpa [Pf.key] using this
   have hn1:(p.down 1).1.n=p.n+1/\(p.down 1).1.a.v6=p.a.v6:=by
    have:=congrArg List.length b3;rw [List.length_append,wK,wK] at this
    have h1:=(xY b2).1;have h2:=(xY hp).1;refine ⟨by simp at this;omega,?_⟩
    have:=congrArg List.head? b3
    simpa [Pf.key] using this
   obtain ⟨il1,il2⟩:=ihl a2 (fun b w h=>by rw [hn0.1,hn0.2];have:=hl b w h;simp at this;omega)
   obtain ⟨ir1,ir2⟩:=ihr b2 (fun b w h=>by rw [hn1.1,hn1.2];have:=hr b w h;simp at this;omega)
   unfold Bt.outP Bt.toL;rw [a1,b1];simp only [if_true,List.map_append];rw [hvv,il1,ir1,a3,b3];refine ⟨rfl,fun x hx=>?_⟩;rcases List.mem_append.1 hx with hx|hx
   ·cases v <;> simp at hx
    rw [hx];exact hp
   ·rcases List.mem_append.1 hx with hx|hx
    ·exact il2 x hx
    ·exact ir2 x hx
theorem TrI.under {m:Prs} {B:Nat} (x:TrI m B) {p:Pf} (hp:p.sane=true):((x.t p.a.v6).down (p.a.bits p.n.toNat)).outP p=m.under p:=by
 have hval:∀ b w,((x.t p.a.v6).down (p.a.bits p.n.toNat)).val b=some w->p.n+(b.length:Int)<=(width p.a.v6:Int):=by
  intro b w h;rw [XT] at h;obtain ⟨y,hy,e1,_⟩:=x.hold.mem.1 h;have hn:=xY (x.hold.srt.sane y hy);have h1:y.1.a.v6=p.a.v6:=by have:=congrArg List.head? e1;simpa [Pf.key] using this
  have h2:=congrArg List.length e1;rw [wK] at h2;have h3:=(xY hp).1;rw [h1] at hn;simp [yE] at h2;omega
 obtain ⟨h1,h2⟩:=zK9 hp hval;exact zMC h2 (fun y hy=>x.hold.srt.sane y (List.mem_filter.1 hy).1) (h1.trans (x.hold.under hp))
theorem TrI.get {m:Prs} {B:Nat} (x:TrI m B) (p:Pf):x.T.get p=m.get p:=by
 by_cases hp:p.sane=true
 ·rw [x.rep.get hp,x.hold.val hp]
 ·have h1:x.T.get p=none:=by unfold Tr.get Tr.find;rw [if_neg hp];rfl
  rw [h1];cases e:m.get p with
  | none=>rfl
  | some w=>exact absurd (x.hold.srt.sane _ ((XH x.hold.srt).1 e)) hp
theorem xQ {p q:Pf} (h:p.covers q=true):p.sane=true/\q.sane=true:=by
 unfold Pf.covers Pf.has at h;simp only [Bool.and_eq_true] at h;exact ⟨h.2.2.1,h.2.1⟩
theorem TrI.inside {m:Prs} {B:Nat} (x:TrI m B) (p:Pf):x.T.inside p=m.inside p:=by
 by_cases hp:p.sane=true
 ·rw [Bool.eq_iff_iff,x.rep.inside hp,x.hold.inside hp]
 ·have h1:x.T.inside p=false:=by unfold Tr.inside Tr.find;rw [if_neg hp];rfl
  rw [h1];symm
  unfold Prs.inside;rw [List.any_eq_false];intro y _ e;simp only [Bool.and_eq_true] at e;exact hp (xQ e.2).1
theorem TrI.path {m:Prs} {B:Nat} (x:TrI m B) (p:Pf):∃ l,x.T.path (vS p.a.v6) (p.a.bits p.n.toNat)=some l:=⟨_,x.rep.path p⟩
theorem zCB (B:Nat) (hB:2<=B):Does PR E X 214 [] [] (fun v t=>∃ b,v=pt b/\t=[yX b [] B]):=
 zDG.conv (fun _ _ h=>h) fun v t ⟨b,h1,h2⟩=>⟨_,⟨b,h1,rfl⟩,by
  rw [h2];exact packs (A:=QA b [] B) ⟨Tr.new,_,Rep.new,Hold.new,hB⟩⟩
theorem Wm (t:Nat) (m:Prs) (B:Nat) (p:Pf):Does PR E X 230 [pt t,p.v] [yX t m B] (fun v u=>v=.tuple #[.int .i64 ((m.get p).getD 0),.bool (m.get p).isSome]/\u=[yX t m B]):=by
 refine Does.ex inferInstance rfl (by decide) fun x=>?_
 refine (zKk t x.T p x.ne (fun _=>x.path p)).conv (fun _ _ h=>h) fun v u ⟨h1,h2⟩=>⟨_,⟨?_,rfl⟩,?_⟩
 ·rw [h1,x.get]
 ·rw [h2];exact packs (A:=QA t m B) x
theorem zCP (t:Nat) (m:Prs) (B:Nat) (p:Pf):Does PR E X 193 [pt t,p.v] [yX t m B] (fun v u=>v=.bool (m.inside p)/\u=[yX t m B]):=by
 refine Does.ex inferInstance rfl (by decide) fun x=>?_
 refine (zEQ t x.T p x.ne (fun _=>x.path p)).conv (fun _ _ h=>h) fun v u ⟨h1,h2⟩=>⟨_,⟨?_,rfl⟩,?_⟩
 ·rw [h1,x.inside]
 ·rw [h2];exact packs (A:=QA t m B) x
theorem zDV (t:Nat) (m:Prs) (B:Nat):Does PR E X 113 [pt t] [yX t m B] (fun v u=>v=.int .i64 m.length/\u=[yX t m B]):=by
 refine Does.ex inferInstance rfl (by decide) fun x=>?_
 refine (zK6 t x.T x.ne).conv (fun _ _ h=>h) fun v u ⟨h1,h2⟩=>⟨_,⟨?_,rfl⟩,?_⟩
 ·rw [h1,x.rep.count x.hold]
 ·rw [h2];exact packs (A:=QA t m B) x
theorem YT (t:Nat) (m:Prs) (B:Nat) (p:Pf) (hp:p.sane=true):Does PR E X 192 [pt t,p.v] [yX t m B] (fun v u=>∃ base cap,v=.slice base (m.above p).length cap/\u=[yX t m B,osl base cap 214 5 ((m.above p).map prC)]):=by
 refine Does.ex inferInstance rfl (by decide) fun x=>?_
 refine (zAg t x.T p hp x.ne (x.path p)).conv (fun _ _ h=>h) fun v u ⟨base,cap,h1,h2⟩=>⟨_,⟨base,cap,?_,rfl⟩,?_⟩
 ·rw [h1,x.hold.above x.rep hp]
 ·rw [h2,x.hold.above x.rep hp];rintro r f ⟨f1,f2,d,l1,l2,a1,a2⟩;exact ⟨f1,f2,d,l1,l2,⟨x,⟨f1,Hp.emp,Hp.disj_emp _,Hp.le_refl _,Hp.emp_le _,a1,trivial⟩⟩,a2⟩
theorem Ya (t:Nat) (m:Prs) (B:Nat) (hB:B<=10000000) (p:Pf) (hp:p.sane=true):Does PR E X 91 [pt t,p.v] [yX t m B] (fun v u=>∃ base cap,v=.slice base (m.under p).length cap/\u=[yX t m B,osl base cap 214 5 ((m.under p).map prC)]):=by
 refine Does.ex inferInstance rfl (by decide) fun x=>?_
 have hsz:((x.t p.a.v6).down (p.a.bits p.n.toNat)).size<=10000000:=by
  have h1:((x.t p.a.v6).down (p.a.bits p.n.toNat)).size<=(x.t p.a.v6).size:=by
   have key:∀ (bs:List Bool) (s:Bt),(s.down bs).size<=s.size:=by
    intro bs;induction bs with
    | nil=>exact fun s=>Nat.le_refl _
    | cons q bs ih=>
     intro s;cases s with
     | nil=>simp
     | node a b c d=>
      refine Nat.le_trans (ih _) ?_;cases q <;> simp [Bt.kid,Bt.size] <;> omega
   exact key _ _
  have h2:=x.rep.sizes;have h3:=x.small;have h4:(x.t p.a.v6).size<=(x.t false).size+(x.t true).size:=by cases p.a.v6 <;> omega
  omega
 refine (zG8 t x.T x.t p x.ne hp x.rep hsz).conv (fun _ _ h=>h) fun v u ⟨base,cap,h1,h2⟩=>⟨_,⟨base,cap,?_,rfl⟩,?_⟩
 ·rw [h1,x.under hp]
 ·rw [h2,x.under hp];rintro r f ⟨f1,f2,d,l1,l2,a1,a2⟩;exact ⟨f1,f2,d,l1,l2,⟨x,⟨f1,Hp.emp,Hp.disj_emp _,Hp.le_refl _,Hp.emp_le _,a1,trivial⟩⟩,a2⟩
theorem zB2 (t:Nat) (m:Prs) (B:Nat) (hB:B<=10000000) (p:Pf) (hp:p.sane=true) (v:Int) (hm:2+(m.ins p v).digits<=B):Does PR E X 232 [pt t,p.v,.int .i64 v] [yX t m B] (fun w u=>w=.int .i64 0/\u=[yX t (m.ins p v) B]):=by
 refine Does.ex inferInstance rfl (by decide) fun x=>?_
 obtain ⟨U,t',h1,h2,h3,h4,h5⟩:=x.rep.put p.a.v6 (p.a.bits p.n.toNat) v;have hh:=x.hold.put hp h3;have hn:=x.rep.count x.hold;have hs:=x.small;have hlen:(m.length:Int)<=100000000:=by
  have:=congrArg List.length x.hold.eq
  unfold content at this;rw [List.length_append,Vb,Vb,List.length_map] at this;have h6:=x.rep.sizes;have h7:∀ s:Bt,s.cnt<=s.size:=by
   intro s;induction s with
   | nil=>exact Nat.le_refl _
   | node a b c d i1 i2=>cases b <;> simp [Bt.cnt,Bt.size] <;> omega
  have h8:=h7 (x.t false);have h9:=h7 (x.t true);omega
 have hsm:U.A.length<=B:=by
  rcases h4 with h4|h4
  ·omega
  ·have h6:=h2.sizes;have h7:=h2.nodes hh;rw [h4] at h6;simp at h6;omega
 refine (zLQ t x.T U p v hp x.ne (x.ok hB) (by rw [zOC];exact h1) ⟨by omega,by omega⟩).conv (fun _ _ h=>h) fun w u ⟨k1,k2⟩=>⟨_,⟨k1,rfl⟩,?_⟩
 rw [k2];exact packs (A:=QA t (m.ins p v) B) ⟨U,t',h2,hh,hsm⟩
def delE (m:Prs) (p:Pf):Int:=if p.sane then (if (m.get p).isSome then 0 else 2) else 1
theorem Zh {m:Prs} (hs:Srt m) {p:Pf} (h:m.get p=none):m.del p=m:=by
 unfold Prs.del;rw [List.filter_eq_self];intro y hy;simp only [Bool.not_eq_true',decide_eq_false_iff_not];rintro rfl;have:=(XH hs).2 (show (y.1,y.2)∈m from hy)
 rw [h] at this;cases this
theorem zEI (t:Nat) (T:Tr) (p:Pf) (hs:p.sane=false):Does PR E X 235 [pt t,p.v] [yU t T] (fun v u=>v=.int .i64 1/\u=[yU t T]):=by
 have c0:(!p.sane)=true:=by rw [hs];rfl
 refine Does.of 42 inferInstance rfl (by decide) rfl ?_
 refine zB ?_;refine zU fun b3=>?_;refine zB ?_;refine call (yA p) ?_;rintro _ _ ⟨rfl,rfl⟩;refine onA ?_;refine yes ?_;refine zB ?_;refine ret ?_;exact ends ⟨rfl,rfl⟩
theorem zCG (t:Nat) (m:Prs) (B:Nat) (hB:B<=10000000) (p:Pf):Does PR E X 235 [pt t,p.v] [yX t m B] (fun w u=>w=.int .i64 (delE m p)/\u=[yX t (m.del p) B]):=by
 refine Does.ex inferInstance rfl (by decide) fun x=>?_
 have hs:=x.small;have hz:=x.rep.sizes;cases hp:p.sane with
 | false=>
  have hg:m.get p=none:=by
   cases e:m.get p with
   | none=>rfl
   | some w=>have:=x.hold.srt.sane _ ((XH x.hold.srt).1 e);rw [hp] at this;cases this
  refine (zEI t x.T p hp).conv (fun _ _ h=>h) fun w u ⟨k1,k2⟩=>⟨_,⟨?_,rfl⟩,?_⟩
  ·rw [k1];unfold delE;rw [hp];rfl
  ·rw [k2,Zh x.hold.srt hg];exact packs (A:=QA t m B) x
 | true=>
  have hxg:=x.get p;cases hg:m.get p with
  | none=>
   rw [hg] at hxg;refine (zCW t x.T p x.ne hp (x.path p) hxg).conv (fun _ _ h=>h) fun w u ⟨k1,k2⟩=>⟨_,⟨?_,rfl⟩,?_⟩
   ·rw [k1];unfold delE;rw [hp,hg];rfl
   ·rw [k2,Zh x.hold.srt hg];exact packs (A:=QA t m B) x
  | some w0=>
   rw [hg] at hxg;have hv:((x.t p.a.v6).val (p.a.bits p.n.toNat)).isSome=true:=by rw [x.hold.val hp,hg];rfl
   have hnl:(p.a.bits p.n.toNat).length<=199:=by rw [yE];have:=xY hp;have:=yD p.a.v6;omega
   obtain ⟨U,t',h1,h2,h3,h4⟩:=x.rep.del hp hv ⟨rfl,hnl⟩;have hh:=x.hold.del hp h3;have hn:=x.rep.count x.hold;have hlen:(m.length:Int)<=100000000:=by
    have:=congrArg List.length x.hold.eq
    unfold content at this;rw [List.length_append,Vb,Vb,List.length_map] at this;have h7:∀ s:Bt,s.cnt<=s.size:=by
     intro s;induction s with
     | nil=>exact Nat.le_refl _
     | node a b c d i1 i2=>cases b <;> simp [Bt.cnt,Bt.size] <;> omega
    have h8:=h7 (x.t false);have h9:=h7 (x.t true);omega
   refine (zLS t x.T U p x.ne hp (x.path p) (by rw [hxg];rfl) h1 ⟨by omega,by omega⟩ (by omega)).conv (fun _ _ h=>h) fun w u ⟨k1,k2⟩=>⟨_,⟨?_,rfl⟩,?_⟩
   ·rw [k1];unfold delE;rw [hp,hg];rfl
   ·rw [k2];exact packs (A:=QA t (m.del p) B) ⟨U,t',h2,hh,by omega⟩
abbrev prO (x:Option (Pf×Int)):Value:=.tuple #[.agg (prC (x.getD prZ)).toArray,.bool x.isSome]
def Prs.longest (m:Prs) (a:Ad):Option (Pf×Int):=(m.above (ofP a (width a.v6))).getLast?
theorem zBM (t:Nat) (m:Prs) (B:Nat) (a:Ad):Does PR E X 253 [pt t,a.v] [yX t m B] (fun v u=>v=prO (m.longest a)/\u=[yX t m B]):=by
 refine Does.ex inferInstance rfl (by decide) fun x=>?_
 have hc:yT (width a.v6:Int) a.v6=width a.v6:=by unfold yT;omega
 have hp:=x.path (ofP a (width a.v6));have e:(ofP a (width a.v6)).n.toNat=width a.v6:=by unfold ofP;simp [hc]
 rw [e] at hp;unfold ofP at hp;simp only [hc] at hp;refine (zDO t x.T a x.ne hp).conv (fun _ _ h=>h) fun v u ⟨h1,h2⟩=>⟨_,⟨?_,rfl⟩,?_⟩
 ·rw [h1];unfold Tr.longest Prs.longest;rw [x.hold.above x.rep ZO]
 ·rw [h2];exact packs (A:=QA t m B) x
end Go.Proofs.YtjcbjclhagobiaaGreat
end
section
namespace Go.Proofs.YtjcbjclhagobiaaGreat
open Go Go.KL Go.KM
def dist:List Int->Nat
 | []=>0
 | x::l=>(if x∈l then 0 else 1)+dist l
theorem YE:∀ {l K:List Int},K.Nodup->(∀ k,k∈K↔k∈l)->K.length=dist l
 | [],K,_,h=>by
  cases K with
  | nil=>rfl
  | cons a K=>have:=(h a).1 (by simp);simp at this
 | x::l,K,hn,h=>by
  unfold dist;by_cases hx:x∈l
  ·rw [if_pos hx,Nat.zero_add];refine YE hn fun k=>(h k).trans ?_;simp only [List.mem_cons];exact ⟨fun e=>e.elim (fun e=>e ▸ hx) id,.inr⟩
  ·rw [if_neg hx];have hxK:x∈K:=(h x).2 (by simp)
   have h1:=YE (l:=l) (hn.erase x) fun k=>by
    rw [hn.mem_erase_iff,h k,List.mem_cons];constructor
    ·rintro ⟨a,b|b⟩
     ·exact absurd b a
     ·exact b
    ·intro b;exact ⟨fun e=>hx (e ▸ b),.inr b⟩
   rw [List.length_erase_of_mem hxK] at h1;have:=List.length_pos_of_mem hxK
   omega
def ded:List Int->List Int
 | []=>[]
 | x::l=>if x∈l then ded l else x::ded l
theorem Qk {k:Int}:∀ {l:List Int},k∈ded l↔k∈l
 | []=>Iff.rfl
 | x::l=>by
  unfold ded;by_cases hx:x∈l
  ·rw [if_pos hx,Qk,List.mem_cons];exact ⟨.inr,fun e=>e.elim (fun e=>e ▸ hx) id⟩
  ·rw [if_neg hx,List.mem_cons,List.mem_cons,Qk]
theorem Wb:∀ {l:List Int},(ded l).Nodup
 | []=>List.nodup_nil
 | x::l=>by
  unfold ded;by_cases hx:x∈l
  ·rw [if_pos hx];exact Wb
  ·rw [if_neg hx,List.nodup_cons,Qk];exact ⟨hx,Wb⟩
theorem zG4 {l l':List Int} (h:∀ k,k∈l↔k∈l'):dist l=dist l':=by
 rw [<-YE (l:=l) Wb fun _=>Qk,YE (l:=l') Wb fun k=>Qk.trans (h k)]
theorem zCZ {l l':List Int} (h:l.Perm l'):dist l=dist l':=zG4 fun _=>h.mem_iff
structure Uses (U:List Ent) (l:List Int):Prop where
 nodup:(U.map (·.1)).Nodup
 cnt:∀ k,lk U k=(l.count k:Int)
 key:∀ k,k∈U.map (·.1)↔k∈l
theorem Uses.perm {U:List Ent} {l l':List Int} (h:Uses U l) (p:l.Perm l'):Uses U l':=⟨h.nodup,fun k=>by rw [h.cnt,p.count_eq],fun k=>(h.key k).trans p.mem_iff⟩
theorem Uses.len {U:List Ent} {l:List Int} (h:Uses U l):U.length=dist l:=by
 have:=YE h.nodup h.key
 rwa [List.length_map] at this
theorem Uses.nil:Uses [] []:=⟨List.nodup_nil,fun _=>rfl,fun _=>Iff.rfl⟩
theorem zIg {k v:Int} {ck:Nat} {j:Int}:∀ {U:List Ent},lk (upM U k v ck) j=if j=k then v else lk U j
 | []=>by
  by_cases h:j=k
  ·subst h;simp [upM,lk]
  ·simp [upM,lk,h,Ne.symm h]
 | u::U=>by
  unfold upM;by_cases e:u.1=k
  ·rw [if_pos e];unfold lk;by_cases h:j=k
   ·subst h;simp
   ·rw [if_neg (fun x=>h x.symm),if_neg h,if_neg (fun x=>h (x.symm.trans e))]
  ·rw [if_neg e];unfold lk;rw [zIg];by_cases h:u.1=j
   ·rw [if_pos h,if_neg (fun x=>e (h.trans x))];simp [h]
   ·rw [if_neg h,if_neg h]
theorem zBL {k v:Int} {ck:Nat}:∀ {U:List Ent},(upM U k v ck).map (·.1)=if k∈U.map (·.1) then U.map (·.1) else U.map (·.1)++[k]
 | []=>by simp [upM]
 | u::U=>by
  unfold upM;by_cases e:u.1=k
  ·subst e;simp
  ·rw [if_neg e];simp only [List.map_cons,List.mem_cons];rw [zBL];by_cases h:k∈U.map (·.1)
   ·rw [if_pos h,if_pos (.inr h)]
   ·rw [if_neg h,if_neg (fun x=>x.elim (fun y=>e y.symm) h)];rfl
theorem Uses.bump {U:List Ent} {l:List Int} (h:Uses U l) (k:Int) (ck:Nat):Uses (upM U k (lk U k+1) ck) (k::l):=by
 refine ⟨?_,fun j=>?_,fun j=>?_⟩
 ·rw [zBL];split
  ·exact h.nodup
  ·rename_i hk
   rw [List.nodup_append];refine ⟨h.nodup,by simp,fun a ha b hb=>?_⟩
   simp at hb;rintro rfl;subst hb;exact hk ha
 ·rw [zIg,List.count_cons];by_cases e:j=k
  ·subst e;rw [if_pos rfl,h.cnt];simp
  ·rw [if_neg e,h.cnt];have:(k == j)=false:=by simpa using fun x=>e x.symm
   simp [this]
 ·rw [zBL,List.mem_cons,<-h.key];split
  ·rename_i hk
   exact ⟨.inr,fun x=>x.elim (fun e=>e ▸ hk) id⟩
  ·rw [List.mem_append,List.mem_singleton];exact ⟨fun x=>x.symm,fun x=>x.symm⟩
theorem zMK {k:Int} {j:Int} (h:j≠k):∀ {U:List Ent},lk (zE8 U k) j=lk U j
 | []=>rfl
 | u::U=>by
  unfold zE8;by_cases e:u.1=k
  ·rw [if_pos e];conv=>rhs;unfold lk;rw [if_neg (fun x=>h (x.symm.trans e))]
  ·rw [if_neg e];unfold lk;rw [zMK h]
theorem Qf {k:Int}:∀ {U:List Ent},(zE8 U k).map (·.1)=(U.map (·.1)).erase k
 | []=>rfl
 | u::U=>by
  unfold zE8;by_cases e:u.1=k
  ·subst e;simp
  ·rw [if_neg e];simp only [List.map_cons];rw [List.erase_cons_tail (by simpa using e),Qf]
theorem zDZ {k:Int}:∀ {U:List Ent},k∉U.map (·.1)->lk U k=0
 | [],_=>rfl
 | u::U,h=>by
  unfold lk;simp only [List.map_cons,List.mem_cons,not_or] at h;rw [if_neg (fun x=>h.1 x.symm)];exact zDZ h.2
theorem Uses.drop {U:List Ent} {k:Int} {l:List Int} (h:Uses U (k::l)) (ck:Nat):(lk (upM U k (lk U k-1) ck) k=0->Uses (zE8 (upM U k (lk U k-1) ck) k) l)/\(lk (upM U k (lk U k-1) ck) k≠0->Uses (upM U k (lk U k-1) ck) l):=by
 have hk:k∈U.map (·.1):=(h.key k).2 (by simp)
 have hkeys:(upM U k (lk U k-1) ck).map (·.1)=U.map (·.1):=by rw [zBL,if_pos hk]
 have hlk:lk U k-1=(l.count k:Int):=by rw [h.cnt];simp
 rw [zIg,if_pos rfl,hlk];have hc:∀ j,j≠k->lk U j=(l.count j:Int):=fun j hj=>by
  rw [h.cnt,List.count_cons];have:(k == j)=false:=by simpa using fun x=>hj x.symm
  simp [this]
 constructor
 ·intro h0;have hnl:k∉l:=by intro x;have:=List.count_pos_iff.2 x;omega
  refine ⟨?_,fun j=>?_,fun j=>?_⟩
  ·rw [Qf,<-hlk,hkeys];exact h.nodup.erase k
  ·by_cases e:j=k
   ·subst e;rw [zDZ]
    ·rw [List.count_eq_zero.2 hnl];rfl
    ·rw [Qf,<-hlk,hkeys,h.nodup.mem_erase_iff];exact fun x=>x.1 rfl
   ·rw [zMK e,zIg,if_neg e,hc j e]
  ·rw [Qf,<-hlk,hkeys,h.nodup.mem_erase_iff,h.key,List.mem_cons];constructor
   ·rintro ⟨a,b|b⟩
    ·exact absurd b a
    ·exact b
   ·intro b;exact ⟨fun e=>hnl (e ▸ b),.inr b⟩
 ·intro h0;have hl:k∈l:=by
   by_cases x:k∈l
   ·exact x
   ·exact absurd (by rw [List.count_eq_zero.2 x];rfl) h0
  refine ⟨by rw [<-hlk,hkeys];exact h.nodup,fun j=>?_,fun j=>?_⟩
  ·rw [zIg];by_cases e:j=k
   ·subst e;rw [if_pos rfl]
   ·rw [if_neg e,hc j e]
  ·rw [<-hlk,hkeys,h.key,List.mem_cons];exact ⟨fun x=>x.elim (fun e=>e ▸ hl) id,.inr⟩
def Prs.hops (m:Prs):List Int:=m.map (·.2)
theorem QJ {m:Prs} (h:Srt m) {p:Pf} (v:Int):(m.ins p v).Perm ((p,v)::m.del p):=by
 induction m with
 | nil=>exact List.Perm.refl _
 | cons x m ih=>
  have hh:=h.head;unfold Prs.ins;by_cases c:ltB p.key x.1.key=true
  ·rw [if_pos c];have hx:∀ y∈x::m,y.1≠p:=by
    intro y hy e;rcases List.mem_cons.1 hy with rfl|hy
    ·rw [e,zZ] at c;cases c
    ·have:=Yo c (hh y hy);rw [e,zZ] at this;cases this
   have:Prs.del (x::m) p=x::m:=by
    unfold Prs.del;rw [List.filter_eq_self];intro y hy;simpa using hx y hy
   rw [this]
  ·rw [if_neg c];by_cases c2:x.1=p
   ·rw [if_pos c2];have hx:∀ y∈m,y.1≠p:=by
     intro y hy e;have:=hh y hy;rw [e,c2,zZ] at this;cases this
    have:Prs.del (x::m) p=m:=by
     unfold Prs.del;rw [List.filter_cons,if_neg (by simp [c2]),List.filter_eq_self]
     intro y hy;simpa using hx y hy
    rw [this]
   ·rw [if_neg c2];have:Prs.del (x::m) p=x::Prs.del m p:=by unfold Prs.del;rw [List.filter_cons,if_pos (by simp [c2])]
    rw [this];exact ((ih h.tail).cons x).trans (List.Perm.swap _ _ _)
theorem Qi {m:Prs} (h:Srt m) {p:Pf} {w:Int} (hg:m.get p=some w):m.Perm ((p,w)::m.del p):=by
 have hm:=(XH h).1 hg;clear hg;induction m with
 | nil=>cases hm
 | cons x m ih=>
  have hh:=h.head;by_cases c2:x.1=p
  ·have e:x=(p,w):=by
    rcases List.mem_cons.1 hm with e|e
    ·exact e.symm
    ·have:=hh _ e;rw [c2,zZ] at this;cases this
   have hx:∀ y∈m,y.1≠p:=by
    intro y hy e;have:=hh y hy;rw [e,c2,zZ] at this;cases this
   have:Prs.del (x::m) p=m:=by
    unfold Prs.del;rw [List.filter_cons,if_neg (by simp [c2]),List.filter_eq_self]
    intro y hy;simpa using hx y hy
   rw [this,e]
  ·have hm':(p,w)∈m:=by
    rcases List.mem_cons.1 hm with e|e
    ·exact absurd (by rw [<-e]) c2
    ·exact e
   have:Prs.del (x::m) p=x::Prs.del m p:=by unfold Prs.del;rw [List.filter_cons,if_pos (by simp [c2])]
   rw [this];exact ((ih h.tail hm').cons x).trans (List.Perm.swap _ _ _)
theorem zHy {m:Prs} (h:Srt m) {p:Pf} (v:Int):(m.ins p v).length=if (m.get p).isSome then m.length else m.length+1:=by
 rw [(QJ h v).length_eq,List.length_cons];cases hg:m.get p with
 | none=>rw [Zh h hg];rfl
 | some w=>rw [(Qi h hg).length_eq];rfl
theorem XI {m m':Prs} (h:m.Perm m'):m.hops.Perm m'.hops:=h.map _
theorem zIt {m:Prs} (h:Srt m) {U:List Ent} (hu:Uses U m.hops) {p:Pf} {hop:Int}:((U.length:Int)+(if lk U hop=0 then 1 else 0)-(if (m.get p).isSome=true/\(m.get p).getD 0≠hop/\lk U ((m.get p).getD 0)=1 then 1 else 0))=(dist (m.ins p hop).hops:Int):=by
 have h1:dist (m.ins p hop).hops=dist (hop::(m.del p).hops):=zCZ (XI (QJ h hop));rw [h1,hu.len];have hz:lk U hop=0↔hop∉m.hops:=by rw [hu.cnt];rw [<-List.count_eq_zero];omega
 cases hg:m.get p with
 | none=>
  rw [Zh h hg];simp only [Option.isSome_none,Bool.false_eq_true,false_and,if_false];have hdist:dist (hop::m.hops)=(if hop∈m.hops then 0 else 1)+dist m.hops:=rfl;rw [hdist];by_cases c:hop∈m.hops
  ·rw [if_pos c,if_neg (fun x=>hz.1 x c)];omega
  ·rw [if_neg c,if_pos (hz.2 c)];omega
 | some w=>
  have hp:=XI (Qi h hg);have hd:dist m.hops=dist (w::(m.del p).hops):=zCZ hp;simp only [Option.isSome_some,Option.getD_some,true_and];have hw:lk U w=1↔w∉(m.del p).hops:=by
   rw [hu.cnt,hp.count_eq];show (((w::(m.del p).hops).count w:Nat):Int)=1↔_;rw [List.count_cons_self,<-List.count_eq_zero];omega
  have hhm:hop∈m.hops↔hop=w∨hop∈(m.del p).hops:=by rw [hp.mem_iff];exact List.mem_cons
  rw [hd];have hdist:∀ x:Int,dist (x::(m.del p).hops)=(if x∈(m.del p).hops then 0 else 1)+dist (m.del p).hops:=fun _=>rfl;rw [hdist,hdist];by_cases e:w=hop
  ·subst e;rw [if_neg (fun x=>hz.1 x (hhm.2 (.inl rfl))),if_neg (show ¬ (w≠w/\lk U w=1) from fun x=>x.1 rfl)];omega
  ·by_cases c1:w∈(m.del p).hops <;> by_cases c2:hop∈(m.del p).hops
   ·rw [if_pos c1,if_pos c2,if_neg (fun x=>hz.1 x (hhm.2 (.inr c2))),if_neg (show ¬ (w≠hop/\lk U w=1) from fun x=>hw.1 x.2 c1)];omega
   ·rw [if_pos c1,if_neg c2,if_pos (hz.2 fun x=>(hhm.1 x).elim (fun y=>e y.symm) c2),if_neg (show ¬ (w≠hop/\lk U w=1) from fun x=>hw.1 x.2 c1)];omega
   ·rw [if_neg c1,if_pos c2,if_neg (fun x=>hz.1 x (hhm.2 (.inr c2))),if_pos ⟨e,hw.2 c1⟩];omega
   ·rw [if_neg c1,if_neg c2,if_pos (hz.2 fun x=>(hhm.1 x).elim (fun y=>e y.symm) c2),if_pos ⟨e,hw.2 c1⟩];omega
def ribAdd (most hops:Nat) (m:Prs) (p:Pf) (hop:Int):Int×Prs:=
 if p.sane=false then (1,m) else if hop<0∨65535<hop then (4,m) else if most<(m.ins p hop).length∨hops<dist (m.ins p hop).hops then (3,m) else (0,m.ins p hop)
theorem zCX {m:Prs} (h:∀ x∈m,x.1.sane=true):m.digits<=128*m.length:=by
 induction m with
 | nil=>simp [Prs.digits]
 | cons x m ih=>
  have h1:=ih fun y hy=>h y (List.mem_cons_of_mem _ hy);have h2:=xY (h x (by simp))
  have h3:=yD x.1.a.v6;unfold Prs.digits at h1 ⊢;simp only [List.map_cons,List.sum_cons,List.length_cons];omega
end Go.Proofs.YtjcbjclhagobiaaGreat
end
section
namespace Go.Proofs.YtjcbjclhagobiaaGreat
set_option maxHeartbeats 1600000
open Go Go.KL Go.KM
variable {E:Env} {X:Xs}
set_option maxRecDepth 100000
instance:TyZ PR 3 (.int .i64 0):=⟨by kernel_rfl⟩
abbrev Wv (u:Nat) (l:List Int) (x:{ y:List Ent×Nat // Uses y.1 l }):List HP:=[imap u x.1.1 x.1.2]
abbrev zDL (u:Nat) (l:List Int):HP:=HP.ex (Wv u l)
abbrev zHx (r t u:Nat) (most hops:Nat):HP:=box r [pt t,.map (some u),.int .i64 (most:Int),.int .i64 (hops:Int)] 244
abbrev zCO (r:Nat) (m:Prs) (most hops:Nat) (q:Nat×Nat):List HP:=[zHx r q.1 q.2 most hops,yX q.1 m (128*most+2),zDL q.2 m.hops]
abbrev ZJ (r:Nat) (m:Prs) (most hops:Nat):HP:=HP.ex (zCO r m most hops)
theorem zEb (n h:Int):Does PR E X 144 [.int .i64 n,.int .i64 h] [] (fun v t=>∃ r,v=pt r/\t=[ZJ r [] (max 0 (min n 4096)).toNat (max 0 (min h 65536)).toNat]):=by
 have e1:max 0 (min n 4096)=(((max 0 (min n 4096)).toNat:Nat):Int):=by omega
 have e2:max 0 (min h 65536)=(((max 0 (min h 65536)).toNat:Nat):Int):=by omega
 refine Does.of 15 inferInstance rfl (by decide) rfl ?_
 refine zB ?_;refine call (zCB (128*(max 0 (min n 4096)).toNat+2) (by omega)) ?_
 rintro _ _ ⟨t,rfl,rfl⟩;refine zB ?_;refine makeMap fun u=>?_;refine zB ?_;refine zU fun r=>?_;refine zB ?_;rw [e1,e2];refine zE (Wv u []) ⟨([],0),Uses.nil⟩ ?_;refine zE (zCO r [] (max 0 (min n 4096)).toNat (max 0 (min h 65536)).toNat) (t,u) ?_;refine ret ?_;exact ends ⟨r,rfl,rfl⟩
theorem ZN (r t u most hops:Nat):Does PR E X 90 [pt r] [zHx r t u most hops] (fun v s=>v=pt t/\s=[zHx r t u most hops]):=by
 refine Does.of 9 inferInstance rfl (by decide) rfl ?_
 refine zB ?_;refine no ?_;refine zB ?_;refine ret ?_;exact ends ⟨rfl,rfl⟩
theorem zCJ (r t u most hops:Nat) (k:Int) (l:List Int) (hl:(k::l).length<=1000000):Does PR E X 231 [pt r,.int .i64 k] [zHx r t u most hops,zDL u (k::l)] (fun v s=>v=.tuple #[]/\s=[zHx r t u most hops,zDL u l]):=by
 refine Does.of 23 inferInstance rfl (by decide) rfl ?_
 refine zW (Wv u (k::l)) fun ⟨⟨U,ck⟩,hU⟩=>?_;have hU:Uses U (k::l):=hU;have hc:lk U k=((k::l).count k:Int):=hU.cnt k;have hb:((k::l).count k)<=1000000:=Nat.le_trans List.count_le_length hl;have hb2:0<=lk U k/\lk U k<=1000000:=by omega
 obtain ⟨d1,d2⟩:=hU.drop ck;refine zB ?_;refine zH (fun h=>?_) (fun h=>?_)
 ·have h0:=of_decide_eq_true h;refine zB ?_;refine zE (Wv u l) ⟨(_,_),d1 h0⟩ ?_;refine fall ?_;exact ends ⟨rfl,rfl⟩
 ·have h0:=of_decide_eq_false h;refine zB ?_;refine zE (Wv u l) ⟨(_,_),d2 h0⟩ ?_;refine fall ?_;exact ends ⟨rfl,rfl⟩
end Go.Proofs.YtjcbjclhagobiaaGreat
end
section
namespace Go.Proofs.YtjcbjclhagobiaaGreat
set_option maxHeartbeats 1600000
open Go Go.KL Go.KM
variable {E:Env} {X:Xs}
set_option maxRecDepth 100000
def Prs.room (m:Prs) (most hops:Nat) (p:Pf) (hop:Int):Bool:=((m.get p).isSome||decide ((m.length:Int)<most))&&decide ((dist (m.ins p hop).hops:Int)<=hops)
theorem zH4 (r t u most hops:Nat) (m:Prs) (hm:Srt m) (p:Pf) (hop:Int) (hl:m.length<=100000):Does PR E X 229 [pt r,p.v,.int .i64 hop] [zHx r t u most hops,yX t m (128*most+2),zDL u m.hops]
  (fun v s=>v=.bool (m.room most hops p hop)/\s=[zHx r t u most hops,yX t m (128*most+2),zDL u m.hops]):=by
 have ht:true=true:=rfl;have hnt:(!true)=false:=rfl;have hnf:(!false)=true:=rfl;refine Does.of 70 inferInstance rfl (by decide) rfl ?_
 refine zB ?_;refine zU fun b4=>?_;refine zB ?_;refine draw [0,1,3,7,0,31,63,127,127,255,1023] [5,9,10] [3,4] [0,1,2,3,4,5,6,7,8,9,10] ?_;refine zC ?_;refine call (Wm t m _ p) ?_;rintro _ _ ⟨rfl,rfl⟩;refine onA ?_;refine ddA ?_;refine cut (ι:=Unit) (fun _=>True) (fun _=>[(0,pt r),(2,.int .i64 hop),(4,.pointer (some ⟨b4,0,none⟩)),(7,.int .i64 ((m.get p).getD 0)),(8,.bool (m.get p).isSome),(32,.bool (!(m.get p).isSome&&decide ((most:Int)<=m.length)))])
  (fun _=>[zHx r t u most hops,yX t m (128*most+2),zDL u m.hops]) (fun k' rest=>?_) ?_
 ·cases hg:(m.get p).isSome with
  | false=>
   rw [hg] at rest;refine draw [0,1,3,7,15,31,63,127,7,263,775,1799,4095,8191] [7] [6,11] [0,1,2,3,4,5,6,8,9,10,11,7,12,13] ?_;refine zC ?_;refine call (zDV t m _) ?_;rintro _ _ ⟨rfl,rfl⟩;try refine zJ ?_
   refine ddA ?_;exact next (rest () trivial)
  | true=>
   rw [hg] at rest;refine draw [0,1,3,7,15,31,63,127,7,263,775,1799,4095,8191] [7] [6,11] [0,1,2,3,4,5,6,8,9,10,11,7,12,13] ?_;refine zC ?_;exact next (rest () trivial)
 ·rintro _ _;have hlen:decide ((most:Int)<=m.length)=!decide ((m.length:Int)<most):=by
   by_cases h:(m.length:Int)<most
   ·rw [decide_eq_true h,decide_eq_false (by omega)];rfl
   ·rw [decide_eq_false h,decide_eq_true (by omega)];rfl
  refine zH (fun h=>?_) (fun h=>?_)
  ·rw [hlen] at h;have hr:m.room most hops p hop=false:=by
    unfold Prs.room;cases a:(m.get p).isSome <;> cases c:decide ((m.length:Int)<most) <;> rw [a,c] at h <;> first|rfl|cases h
   rw [hr];refine zB ?_;refine ret ?_;exact ends ⟨rfl,rfl⟩
  ·rw [hlen] at h;have hr:m.room most hops p hop=decide ((dist (m.ins p hop).hops:Int)<=hops):=by
    unfold Prs.room;cases a:(m.get p).isSome <;> cases c:decide ((m.length:Int)<most) <;> rw [a,c] at h <;> first|rfl|cases h
   rw [hr];refine zW (Wv u m.hops) fun ⟨⟨U,ck⟩,hU⟩=>?_;have hU:Uses U m.hops:=hU;have hun:=zIt hm hU (p:=p) (hop:=hop);have hUl:U.length<=100000:=by
    have h1:=hU.len;have h2:∀ l:List Int,dist l<=l.length:=fun l=>by induction l with|nil=>exact Nat.le_refl _|cons x l ih=>unfold dist;split <;> simp <;> omega
    have h3:=h2 m.hops;have h4:m.hops.length=m.length:=by simp [Prs.hops]
    omega
   refine zB ?_;refine cut (ι:=Unit) (fun _=>True) (fun _=>[(0,pt r),(2,.int .i64 hop),(7,.int .i64 ((m.get p).getD 0)),(8,.bool (m.get p).isSome),(9,.int .i64 ((U.length:Int)+if lk U hop=0 then 1 else 0))])
    (fun _=>[zHx r t u most hops,yX t m (128*most+2),imap u U ck]) (fun k' rest=>?_) ?_
   ·refine zH (fun h=>?_) (fun h=>?_)
    ·rw [if_pos (of_decide_eq_true h)] at rest;refine zB ?_;exact next (rest () trivial)
    ·rw [if_neg (of_decide_eq_false h),Int.add_zero] at rest;refine zB ?_;exact next (rest () trivial)
   ·rintro _ _;have hb:(0:Int)<=(U.length:Int)+(if lk U hop=0 then 1 else 0)/\(U.length:Int)+(if lk U hop=0 then 1 else 0)<=100001:=by split <;> omega
    generalize hx:(U.length:Int)+(if lk U hop=0 then 1 else 0)=x at hb hun;(try dsimp only at ⊢);refine zB ?_;have hiff:((m.get p).isSome&&!decide ((m.get p).getD 0=hop)&&decide (lk U ((m.get p).getD 0)=1))=true↔((m.get p).isSome=true/\(m.get p).getD 0≠hop/\lk U ((m.get p).getD 0)=1):=by
     simp only [Bool.and_eq_true,Bool.not_eq_true',decide_eq_false_iff_not,decide_eq_true_eq,and_assoc]
    refine zH (fun h=>?_) (fun h=>?_)
    ·rw [if_pos (hiff.1 h)] at hun;refine zB ?_;refine zE (Wv u m.hops) ⟨(U,ck),hU⟩ ?_;refine ret ?_;exact ends ⟨by rw [hun];rfl,rfl⟩
    ·rw [if_neg (fun z=>by rw [hiff.2 z] at h;cases h),Int.sub_zero] at hun
     refine zB ?_;refine zE (Wv u m.hops) ⟨(U,ck),hU⟩ ?_;refine ret ?_;exact ends ⟨by rw [hun];rfl,rfl⟩
theorem zFG {m:Prs} {most hops:Nat} (hm:Srt m) (hl:m.length<=most) (p:Pf) (hop:Int):m.room most hops p hop=true↔¬ (most<(m.ins p hop).length∨hops<dist (m.ins p hop).hops):=by
 unfold Prs.room;rw [zHy hm];cases h:(m.get p).isSome
 ·simp;omega
 ·simp;omega
theorem zEk (r most hops:Nat) (m:Prs) (hm:Srt m) (hl:m.length<=most) (hmo:most<=4096) (p:Pf) (hop:Int):Does PR E X 153 [pt r,p.v,.int .i64 hop] [ZJ r m most hops]
  (fun v s=>v=.int .i64 (ribAdd most hops m p hop).1/\s=[ZJ r (ribAdd most hops m p hop).2 most hops]):=by
 have ht:true=true:=rfl;refine Does.of 58 inferInstance rfl (by decide) rfl ?_
 refine zB ?_;refine zU fun b4=>?_;refine zB ?_;refine call (yA p) ?_;rintro _ _ ⟨rfl,rfl⟩;refine onA ?_;refine zH (fun h=>?_) (fun h=>?_)
 ·have hs:p.sane=false:=by simpa using h
  have hr:ribAdd most hops m p hop=(1,m):=by unfold ribAdd;rw [if_pos hs]
  rw [hr];refine zB ?_;refine ret ?_;exact ends ⟨rfl,rfl⟩
 have hs:p.sane=true:=by simpa using h
 refine zB ?_;refine zH (fun h=>?_) (fun h=>?_)
 ·have hh:hop<0∨65535<hop:=by simpa using h
  have hr:ribAdd most hops m p hop=(4,m):=by unfold ribAdd;rw [if_neg (by rw [hs];decide),if_pos hh]
  rw [hr];refine zB ?_;refine ret ?_;exact ends ⟨rfl,rfl⟩
 have hh:¬ (hop<0∨65535<hop):=by
  intro x;rcases x with x|x
  ·rw [decide_eq_true x] at h;cases h
  ·rw [decide_eq_true x] at h;simp at h
 refine zW (zCO r m most hops) fun ⟨t,u⟩=>?_;refine zB ?_;refine call (ZN r t u most hops) ?_;rintro _ _ ⟨rfl,rfl⟩;refine onA ?_;refine zB ?_;have hz:(some (⟨t,0,none⟩:Addr)).isNone=false:=rfl;refine zB ?_;refine call (zH4 r t u most hops m hm p hop (by omega)) ?_
 rintro _ _ ⟨rfl,rfl⟩;refine onA ?_;refine zH (fun h=>?_) (fun h=>?_)
 ·have hroom:m.room most hops p hop=false:=by simpa using h
  have hr:ribAdd most hops m p hop=(3,m):=by
   unfold ribAdd;rw [if_neg (by rw [hs];decide),if_neg hh,if_pos]
   refine Decidable.byContradiction fun x=>?_;rw [(zFG hm hl p hop).2 x] at hroom;cases hroom
  rw [hr];refine zB ?_;refine zE (zCO r m most hops) (t,u) ?_;refine ret ?_;exact ends ⟨rfl,rfl⟩
 have hroom:m.room most hops p hop=true:=by simpa using h
 have hrm:=(zFG hm hl p hop).1 hroom;have hr:ribAdd most hops m p hop=(0,m.ins p hop):=by
  unfold ribAdd;rw [if_neg (by rw [hs];decide),if_neg hh,if_neg hrm]
 rw [hr];have hlen:(m.ins p hop).length<=most:=by omega
 have hdig:2+(m.ins p hop).digits<=128*most+2:=by
  have:=zCX (m:=m.ins p hop) (fun x hx=>(hm.ins hs hop).sane x hx)
  omega
 refine zB ?_;refine draw [0,1,3,7,0,31,63,127,127,255,1023] [5,9,10] [3,4] [0,1,2,3,4,5,6,7,8,9,10] ?_;refine zC ?_;refine call (Wm t m _ p) ?_;rintro _ _ ⟨rfl,rfl⟩;refine onA ?_;refine ddA ?_;refine cut (ι:=Unit) (fun _=>True) (fun _=>[(0,pt r),(2,.int .i64 hop),(4,.pointer (some ⟨b4,0,none⟩))]) (fun _=>[zHx r t u most hops,yX t m (128*most+2),zDL u (m.del p).hops,box b4 (yG p.v) 52]) (fun k' rest=>?_) ?_
 ·cases hg:m.get p with
  | none=>
   rw [Zh hm hg] at rest;refine zB ?_;refine no ?_;refine zB ?_;exact next (rest () trivial)
  | some w=>
   have hpm:=XI (Qi hm hg);refine zW (Wv u m.hops) fun ⟨⟨U,ck⟩,hU⟩=>?_;refine zE (Wv u (w::(m.del p).hops)) ⟨(U,ck),Uses.perm hU hpm⟩ ?_;have hlw:(w::(m.del p).hops).length<=1000000:=by
    have h9:m.hops.length=(w::(m.del p).hops).length:=hpm.length_eq;rw [<-h9];simp [Prs.hops];omega
   refine zB ?_;refine yes ?_;refine zB ?_;refine call (zCJ r t u most hops w (m.del p).hops hlw) ?_;rintro _ _ ⟨rfl,rfl⟩;refine zB ?_;exact next (rest () trivial)
 ·rintro _ _;have hpm:=(XI (QJ hm (p:=p) hop)).symm;refine zW (Wv u (m.del p).hops) fun ⟨⟨U,ck⟩,hU⟩=>?_;have hU:Uses U (m.del p).hops:=hU;have hc:lk U hop=((m.del p).hops.count hop:Int):=hU.cnt hop;have hb2:0<=lk U hop/\lk U hop<=1000000:=by
   have h1:((m.del p).hops.count hop)<=(m.del p).hops.length:=List.count_le_length;have h2:(m.del p).hops.length<=m.length:=by unfold Prs.hops Prs.del;rw [List.length_map];exact List.length_filter_le ..
   omega
  (try dsimp only at ⊢);refine zB ?_;refine zE (Wv u (m.ins p hop).hops) ⟨(_,_),Uses.perm (hU.bump hop ck) hpm⟩ ?_;refine draw [0,1,3,7,0,0,63,127] [6,7] [3,4] [0,1,2,3,4,5,6,7] ?_;refine zC ?_;refine call (zB2 t m (128*most+2) (by omega) p hs hop hdig) ?_
  rintro _ _ ⟨rfl,rfl⟩;refine onA ?_;refine ddA ?_;refine zE (zCO r (m.ins p hop) most hops) (t,u) ?_;refine ret ?_;exact ends ⟨rfl,rfl⟩
theorem QF (r most hops:Nat) (m:Prs) (hm:Srt m) (hl:m.length<=most) (hmo:most<=4096) (p:Pf):Does PR E X 156 [pt r,p.v] [ZJ r m most hops]
  (fun v s=>v=.int .i64 (delE m p)/\s=[ZJ r (m.del p) most hops]):=by
 refine Does.of 25 inferInstance rfl (by decide) rfl ?_
 refine zB ?_;refine zU fun b4=>?_;refine zB ?_;refine zW (zCO r m most hops) fun ⟨t,u⟩=>?_;refine draw [0,1,0,7,15,31,31,63,255] [1,3,7,8] [2] [0,2,1,3,4,5,6,7,8] ?_;refine zC ?_;refine call (ZN r t u most hops) ?_;rintro _ _ ⟨rfl,rfl⟩;try refine zJ ?_
 refine ddA ?_;refine call (Wm t m _ p) ?_;rintro _ _ ⟨rfl,rfl⟩;try refine zJ ?_
 refine ddA ?_;refine draw [0,1,0,7,15] [1,3,4] [2] [0,2,1,3,4] ?_;refine zC ?_;refine call (ZN r t u most hops) ?_;rintro _ _ ⟨rfl,rfl⟩;try refine zJ ?_
 refine ddA ?_;refine call (zCG t m (128*most+2) (by omega) p) ?_
 rintro _ _ ⟨rfl,rfl⟩;try refine zJ ?_
 refine ddA ?_;refine zH (fun h=>?_) (fun h=>?_)
 ·have h0:delE m p=0:=of_decide_eq_true h;obtain ⟨w,hg⟩:∃ w,m.get p=some w:=by
   unfold delE at h0;cases hg:m.get p with
   | some w=>exact ⟨w,rfl⟩
   | none=>rw [hg] at h0;split at h0 <;> simp at h0
  have hpm:=XI (Qi hm hg);refine zW (Wv u m.hops) fun ⟨⟨U,ck⟩,hU⟩=>?_;refine zE (Wv u (w::(m.del p).hops)) ⟨(U,ck),Uses.perm hU hpm⟩ ?_;have hlw:(w::(m.del p).hops).length<=1000000:=by
   have h9:m.hops.length=(w::(m.del p).hops).length:=hpm.length_eq;rw [<-h9];simp [Prs.hops];omega
  have hgw:(m.get p).getD 0=w:=by rw [hg];rfl
  rw [hgw];refine zB ?_;refine call (zCJ r t u most hops w (m.del p).hops hlw) ?_;rintro _ _ ⟨rfl,rfl⟩;refine zB ?_;refine zE (zCO r (m.del p) most hops) (t,u) ?_;refine ret ?_;exact ends ⟨rfl,rfl⟩
 ·have h0:delE m p≠0:=of_decide_eq_false h;have hd:m.del p=m:=by
   cases hg:m.get p with
   | none=>exact Zh hm hg
   | some w=>
    have hs:p.sane=true:=hm.sane _ ((XH hm).1 hg);exfalso;apply h0;unfold delE;rw [hs,hg];rfl
  rw [hd];refine zB ?_;refine zE (zCO r m most hops) (t,u) ?_;refine ret ?_;exact ends ⟨rfl,rfl⟩
end Go.Proofs.YtjcbjclhagobiaaGreat
end
section
namespace Go.KL
open Go
section
variable {P:Program} {E:Env} {X:Xs}
theorem DoesV.conv {fv:Value} {vs:List Value} {pre pre':List HP} {Post Post':Value->List HP->Prop} (h:DoesV P E X fv vs pre' Post') (hp:∀ r f,sep pre r f->sep pre' r f) (hq:∀ v t,Post' v t->∃ t',Post v t'/\∀ r f,sep t r f->sep t' r f):DoesV P E X fv vs pre Post:=by
 refine ⟨fun {b L s F o fo args ats} ho hf ha hs=>?_⟩;intro K cs F0 l i is k tmps r f h1 h2 h3 h4 h5;refine h.h (F:=F) ho hf ha (fun r f x=>?_) K cs F0 l i is k tmps r f h1 h2 h3 h4 ?_
 ·obtain ⟨f1,f2,d,l1,l2,a1,a2⟩:=zD.1 (hs r f x);exact zD.2 ⟨f1,f2,d,l1,l2,hp _ _ a1,a2⟩
 ·rintro v s' r' f' ⟨t,q1,rfl⟩ hss;obtain ⟨t',p1,p2⟩:=hq v t q1;refine h5 v (t'++F) r' f' ⟨t',p1,rfl⟩ ?_;rw [List.append_assoc] at hss ⊢;obtain ⟨f1,f2,d,l1,l2,a1,a2⟩:=zD.1 hss;exact zD.2 ⟨f1,f2,d,l1,l2,p2 _ _ a1,a2⟩
abbrev all (s:List HP):HP:=HP.ex (fun _:Unit=>s)
theorem zFq {s:List HP} {r f:Hp} (h:sep s r f):sep [all s] r f:=⟨f,Hp.emp,Hp.disj_emp _,Hp.le_refl _,Hp.emp_le _,⟨(),h⟩,trivial⟩
theorem YS {s F:List HP} {r f:Hp} (h:sep (all s::F) r f):sep (s++F) r f:=by
 obtain ⟨f1,f2,d,l1,l2,⟨_,a1⟩,a2⟩:=h;exact zD.2 ⟨f1,f2,d,l1,l2,a1,a2⟩
theorem JJ {s F:List HP} {r f:Hp} (h:sep (s++F) r f):sep (all s::F) r f:=by
 obtain ⟨f1,f2,d,l1,l2,a1,a2⟩:=zD.1 h;exact ⟨f1,f2,d,l1,l2,⟨(),a1⟩,a2⟩
variable {Post:Value->List HP->Prop} {k:List Item} {L:Tm} {s F:List HP} {fid:FuncId} {n l r0:Nat} {tmps:Array Value} {ps:Array Nat} {sa bd:Code}
theorem beginRound (g:W P E X ⟨fid,.normal,[],some l,n⟩ Post k L (blk l (LO fid tmps ps sa bd r0 .busy none)::F)) (hs:Sel s (blk l (LO fid tmps ps sa bd r0 .ready none)) F:=by repeat (first|(with_reducible exact Sel.here)|(with_reducible apply Sel.there))) :
  W P E X ⟨fid,.normal,[],some l,n⟩ Post (.beginRound::k) L s:=W.weaken (fun _ _ h=>h) (fun r f h=>(Sels.cons hs .nil).out h) (W.beginRound g)
theorem QZ {t:List HP} (hp:Post (.bool false) t) (hsel:Sels s t F:=by (try simp only [List.cons_append,List.nil_append]);repeat (first|(with_reducible exact Sels.nil)|((with_reducible apply Sels.dupI);(case h=>(first|(with_reducible exact Sel.here)|((repeat (first|(with_reducible exact Sel.here)|(with_reducible apply Sel.there)));done)|(repeat (first|(exact Sel.here)|(apply Sel.there))))))|((with_reducible apply Sels.cons);(case h=>(first|(with_reducible exact Sel.here)|((repeat (first|(with_reducible exact Sel.here)|(with_reducible apply Sel.there)));done)|(repeat (first|(exact Sel.here)|(apply Sel.there)))))))):W P E X ⟨fid,.normal,[],some l,n⟩ Post (.code .ret::k) L s:=W.roundRet (Into.of hsel).h hp
theorem WR {t:List HP} (hp:Post (.bool true) t) (hsel:Sels s t F:=by (try simp only [List.cons_append,List.nil_append]);repeat (first|(with_reducible exact Sels.nil)|((with_reducible apply Sels.dupI);(case h=>(first|(with_reducible exact Sel.here)|((repeat (first|(with_reducible exact Sel.here)|(with_reducible apply Sel.there)));done)|(repeat (first|(exact Sel.here)|(apply Sel.there))))))|((with_reducible apply Sels.cons);(case h=>(first|(with_reducible exact Sel.here)|((repeat (first|(with_reducible exact Sel.here)|(with_reducible apply Sel.there)));done)|(repeat (first|(exact Sel.here)|(apply Sel.there)))))))):W P E X ⟨fid,.normal,[],some l,n⟩ Post [] L s:=W.roundEnd (Into.of hsel).h hp
end
end Go.KL
namespace Go.Proofs.YtjcbjclhagobiaaGreat
set_option maxHeartbeats 1600000
open Go Go.KL Go.KM
variable {E:Env} {X:Xs}
set_option maxRecDepth 100000
theorem zAE (x:Pf×Int):Does PR E X 92 [.agg (prC x).toArray] [] (fun v t=>v=.agg (prC x).toArray/\t=[]):=by
 refine Does.of 8 inferInstance rfl (by decide) rfl ?_
 refine zB ?_;refine zU fun b1=>?_;refine zB ?_;refine alloc fun b2=>?_;refine zB ?_;refine ret ?_;exact ends ⟨rfl,rfl⟩
theorem zAp (base:Option Addr) (n cap:Nat):Does PR E X 191 [.slice base n cap] [] (fun v t=>∃ b,v=.func (.func 265) #[] #[pt b]/\t=[box b [.slice base n cap] 209]):=by
 refine Does.of 4 inferInstance rfl (by decide) rfl ?_
 refine zB ?_;refine zU fun b1=>?_;refine zB ?_;refine ret ?_;exact ends ⟨b1,rfl,rfl⟩
theorem Xm (y:Value) (b:Nat) (base:Option Addr) (cap:Nat) (l:Prs) (hl:l.length<=1000000) (A B:HP) (h:∀ x,l.getLast?=some x->DoesV PR E X y [.int .i64 ((l.length:Int)-1),.agg (prC x).toArray] [A] (fun v u=>v=.bool false/\u=[B])) :
  Does PR E X 265 [y,pt b] [A,box b [.slice base l.length cap] 209,osl base cap 214 5 (l.map prC)] (fun v u=>v=.tuple #[]/\u=[if l=[] then A else B]):=by
 refine Does.of 19 inferInstance rfl (by decide) rfl ?_
 refine zB ?_;refine Wc ?_;refine zB ?_;rcases List.eq_nil_or_concat l with rfl|⟨l',x,rfl⟩
 ·refine no ?_;refine zB ?_;refine fall ?_;exact ends ⟨rfl,by rw [if_pos trivial]⟩
 ·rw [List.concat_eq_append] at h hl ⊢;have hlen:(l'++[x]).length=l'.length+1:=by simp
  have hx:(l'++[x])[(((l'++[x]).length:Int)-1).toNat]?=some x:=by rw [hlen,show (((l'.length+1:Nat):Int)-1).toNat=l'.length by omega];simp
  refine yes ?_ rfl (by rw [hlen];simp)
  refine zB ?_;refine XD (h x (by simp)) ?_
  rintro _ _ ⟨rfl,rfl⟩;refine zB ?_;refine yes ?_;refine zB ?_;refine ret ?_;exact ends ⟨rfl,by rw [if_neg (by simp)]⟩
theorem W.backLast {Post:Value->List HP->Prop} {k:List Item} {L:Tm} {s U F:List HP} {U':Pf×Int->List HP} {fid:FuncId} {n:Nat} {ps:Array Nat} {sa bd:Code} {fo:Operand} (b:Nat) (base:Option Addr) (cap:Nat) (l:Prs) (hl:l.length<=1000000)
  (hf:ev L fo=some (.func (.func 265) #[] #[pt b])) (hps:ps.size=2) (hps2:∀ p∈ps.toList,p<n)
  (hy:∀ x,l.getLast?=some x->∀ j tmps r0,L.ok n tmps->W PR E X ⟨fid,.normal,[],some j,n⟩ (fun v t=>∃ t',t=blk j (LO fid tmps ps sa bd r0 .busy none)::t'/\v=.bool false/\t'=U' x) [.code sa,.beginRound,.code bd] (zBS ps.toList [.int .i64 ((l.length:Int)-1),.agg (prC x).toArray] L) (blk j (LO fid tmps ps sa bd r0 .ready none)::U))
  (h0:l=[]->∀ r0,W PR E X ⟨fid,.normal,[Jm r0],none,n⟩ Post k L (U++F))
  (h1:∀ x,l.getLast?=some x->∀ r0,W PR E X ⟨fid,.normal,[Jm r0],none,n⟩ Post (.code .ret::k) L (U' x++F))
  (hsel:Sels s (U++[box b [.slice base l.length cap] 209,osl base cap 214 5 (l.map prC)]) F:=by (try simp only [List.cons_append,List.nil_append]);repeat (first|(with_reducible exact Sels.nil)|((with_reducible apply Sels.dupI);(case h=>(first|(with_reducible exact Sel.here)|((repeat (first|(with_reducible exact Sel.here)|(with_reducible apply Sel.there)));done)|(repeat (first|(exact Sel.here)|(apply Sel.there))))))|((with_reducible apply Sels.cons);(case h=>(first|(with_reducible exact Sel.here)|((repeat (first|(with_reducible exact Sel.here)|(with_reducible apply Sel.there)));done)|(repeat (first|(exact Sel.here)|(apply Sel.there)))))))) :
  W PR E X ⟨fid,.normal,[],none,n⟩ Post (.code (.rangeFunc fo ps sa bd)::k) L s:=by
 refine W.rangeFunc hf fun j tmps r0 hok=>?_;refine ⟨U++[box b [.slice base l.length cap] 209,osl base cap 214 5 (l.map prC)],F,fun v t=>((l=[]/\t=blk j (LO fid tmps ps sa bd r0 .ready none)::U)∨∃ x,l.getLast?=some x/\t=blk j (LO fid tmps ps sa bd r0 .done (some .ret))::U' x),?_,fun r f h=>hsel.out h,?_⟩
 ·rcases hx:l.getLast? with _|x
  ·have hl0:l=[]:=List.getLast?_eq_none_iff.1 hx;refine (Xm (.func (.yield j) #[] #[]) b base cap l hl (all (blk j (LO fid tmps ps sa bd r0 .ready none)::U)) (all (blk j (LO fid tmps ps sa bd r0 .ready none)::U)) (fun x h=>by rw [hx] at h;cases h)).conv ?_ ?_
   ·exact fun r f h=>JJ h
   ·rintro _ _ ⟨rfl,rfl⟩;rw [if_pos hl0];exact ⟨_,.inl ⟨hl0,rfl⟩,fun r f h=>by simpa using YS h⟩
  ·have hl0:l≠[]:=by rintro rfl;cases hx
   refine (Xm (.func (.yield j) #[] #[]) b base cap l hl (all (blk j (LO fid tmps ps sa bd r0 .ready none)::U)) (all (blk j (LO fid tmps ps sa bd r0 .done (some .ret))::U' x)) (fun y h=>?_)).conv ?_ ?_
   ·rw [hx] at h;cases h;refine (DoesV.yield (P:=PR) (Post':=fun v t=>v=.bool false/\t=U' x) (pre:=U) (vs:=[.int .i64 ((l.length:Int)-1),.agg (prC x).toArray]) (by rw [hps];rfl) hps2 hok ?_).conv (fun r f h=>by simpa using YS h) ?_
    ·exact (hy x hx j tmps r0 hok)
    ·rintro v t ⟨t',⟨rfl,rfl⟩,⟨h,_⟩|⟨_,rfl⟩⟩
     ·cases h
     ·exact ⟨_,⟨rfl,rfl⟩,fun r f h=>zFq h⟩
   ·exact fun r f h=>JJ h
   ·rintro _ _ ⟨rfl,rfl⟩;rw [if_neg hl0];exact ⟨_,.inr ⟨x,rfl,rfl⟩,fun r f h=>by simpa using YS h⟩
 ·rintro v t (⟨hl0,rfl⟩|⟨x,hx,rfl⟩)
  ·exact ⟨_,_,_,rfl,rfl,h0 hl0 r0⟩
  ·exact ⟨_,_,_,rfl,rfl,h1 x hx r0⟩
theorem Vx (r most hops:Nat) (m:Prs) (hm:m.length<=1000000) (p:Pf) (hp:p.sane=true):Does PR E X 110 [pt r,p.v] [ZJ r m most hops] (fun v s=>v=prO (m.above p).getLast?/\s=[ZJ r m most hops]):=by
 refine Does.of 18 inferInstance rfl (by decide) rfl ?_
 refine zB ?_;refine zU fun b3=>?_;refine zB ?_;refine alloc fun b4=>?_;refine zB ?_;refine alloc fun b5=>?_;refine zB ?_;refine zW (zCO r m most hops) fun ⟨t,u⟩=>?_;refine draw [0,1,0,7,15] [1,3,4] [2] [0,2,1,3,4] ?_;refine zC ?_;refine call (ZN r t u most hops) ?_;rintro _ _ ⟨rfl,rfl⟩;try refine zJ ?_
 refine ddA ?_;refine call (YT t m (128*most+2) p hp) ?_;rintro _ _ ⟨base,cap,rfl,rfl⟩;try refine zJ ?_
 refine ddA ?_;refine call (zAp base (m.above p).length cap) ?_;rintro _ _ ⟨bb,rfl,rfl⟩;try refine zJ ?_
 refine ddA ?_;have hl:(m.above p).length<=1000000:=Nat.le_trans (List.length_filter_le ..) hm;refine W.backLast bb base cap (m.above p) hl rfl rfl (by decide) (U:=[box b4 [.int .u64 0,.int .u64 0,.bool false,.int .i64 0,.int .i64 0] 54,box b5 [.bool false] 4]) (U':=fun x=>[box b4 (prC x) 54,box b5 [.bool true] 4]) ?_ ?_ ?_
 ·intro x hx j tmps r0 hok;simp only [zBS];refine zB ?_;refine alloc fun b7=>?_;refine zB ?_;refine beginRound ?_;refine zB ?_;refine call (zAE x) ?_;rintro _ _ ⟨rfl,rfl⟩;refine zB ?_;refine QZ ⟨_,rfl,rfl,rfl⟩
 ·intro h0 r0;refine zB ?_;refine zE (zCO r m most hops) (t,u) ?_;refine ret ?_;exact ends ⟨by rw [h0];rfl,rfl⟩
 ·intro x hx r0;refine zE (zCO r m most hops) (t,u) ?_;refine ret ?_;exact ends ⟨by rw [hx];rfl,rfl⟩
theorem Xk (r most hops:Nat) (m:Prs) (p:Pf):Does PR E X 111 [pt r,p.v] [ZJ r m most hops] (fun v s=>v=.bool (m.inside p)/\s=[ZJ r m most hops]):=by
 refine Does.of 9 inferInstance rfl (by decide) rfl ?_
 refine zB ?_;refine zU fun b3=>?_;refine zB ?_;refine zW (zCO r m most hops) fun ⟨t,u⟩=>?_;refine draw [0,1,0,7,15] [1,3,4] [2] [0,2,1,3,4] ?_;refine zC ?_;refine call (ZN r t u most hops) ?_;rintro _ _ ⟨rfl,rfl⟩;try refine zJ ?_
 refine ddA ?_;refine call (zCP t m (128*most+2) p) ?_;rintro _ _ ⟨rfl,rfl⟩;try refine zJ ?_
 refine ddA ?_;refine zE (zCO r m most hops) (t,u) ?_;refine ret ?_;exact ends ⟨rfl,rfl⟩
def zP (v6:Bool):Pf:=⟨⟨0,0,v6,by decide,by decide⟩,0⟩
theorem zD5 (v6:Bool):(zP v6).sane=true:=by cases v6 <;> rfl
theorem zHr {m:Prs} (h:Srt m):m.under (zP false)++m.under (zP true)=m:=by
 have hk:∀ x∈m,∀ b,(zP b).covers x.1=(x.1.a.v6 == b):=by
  intro x hx b;have h1:=zQ (zD5 b) (h.sane x hx);have h2:(zP b).key=[b]:=by cases b <;> rfl
  rw [h2] at h1;cases e:(zP b).covers x.1 with
  | true=>
   obtain ⟨z,hz⟩:=h1.1 e;unfold Pf.key at hz;simp at hz;simp [hz.1]
  | false=>
   symm
   rw [beq_eq_false_iff_ne];intro hb;have:(zP b).covers x.1=true:=h1.2 ⟨_,by unfold Pf.key;rw [hb];rfl⟩
   rw [e] at this;cases this
 unfold Prs.under;have e1:∀ b,m.filter (fun x=>(zP b).covers x.1)=m.filter (fun x=>x.1.a.v6 == b):=fun b=>List.filter_congr fun x hx=>hk x hx b;rw [e1,e1];clear hk e1;induction m with
 | nil=>rfl
 | cons x m ih=>
  have hh:=h.head;cases e:x.1.a.v6 with
  | false=>rw [List.filter_cons,if_pos (by rw [e];rfl),List.filter_cons (x:=x),if_neg (by rw [e];decide),List.cons_append,ih h.tail]
  | true=>
   have h0:∀ y∈m,y.1.a.v6=true:=by
    intro y hy;have:=hh y hy
    unfold Pf.key at this;rw [e] at this;cases e2:y.1.a.v6 with
    | true=>rfl
    | false=>rw [e2] at this;simp [ltB] at this
   have h2:m.filter (fun x=>x.1.a.v6 == false)=[]:=List.filter_eq_nil_iff.2 fun y hy=>by rw [h0 y hy];decide
   have h3:m.filter (fun x=>x.1.a.v6 == true)=m:=List.filter_eq_self.2 fun y hy=>by rw [h0 y hy];rfl
   rw [List.filter_cons,if_neg (by rw [e];decide),h2,List.filter_cons,if_pos (by rw [e];rfl),h3];rfl
def dumpTo (m:Prs):Nat->Prs
 | 0=>[]
 | 1=>m.under (zP false)
 | _=>m.under (zP false)++m.under (zP true)
theorem zIl (r most hops:Nat) (hmo:most<=4096) (m:Prs) (hs:Srt m) (hm:m.length<=1000000):Does PR E X 36 [pt r] [ZJ r m most hops] (fun v s=>∃ base cap,v=.slice base m.length cap/\s=[ZJ r m most hops,osl base cap 54 5 (m.map prC)]):=by
 refine Does.of 33 inferInstance rfl (by decide) rfl ?_
 refine zB ?_;refine buildSlice fun bl=>?_;refine zB ?_;refine into (Into.nilO (T:=54) (sz:=5)) ?_;refine loop (ι:=Nat×Option Addr×Nat) (fun i=>2-i.1) (fun i=>i.1<=2) (fun i=>[(0,pt r),(3,.slice i.2.1 (dumpTo m i.1).length i.2.2),(8,.slice (some ⟨bl,0,none⟩) 2 2),(9,.int .i64 2),(10,.int .i64 (i.1:Int))]) (fun i=>[osl i.2.1 i.2.2 54 5 ((dumpTo m i.1).map prC),osl (some ⟨bl,0,none⟩) 2 4 1 [[.bool false],[.bool true]],ZJ r m most hops]) (0,none,0) (by omega) ?_
 rintro ⟨i,ob,oc⟩ h1 ih;(try dsimp only at h1 ih ⊢);have hz:∀ b,(m.under (zP b)).length<=m.length:=fun b=>List.length_filter_le ..;have hout:(dumpTo m i).length<=2000000:=by
  have:=hz true;have:=hz false
  unfold dumpTo;split <;> simp <;> omega
 rcases Nat.lt_or_ge i 2 with hi|hi
 ·have hb:[[Value.bool false],[Value.bool true]][((i:Nat):Int).toNat]?=some [.bool (i == 1)]:=by
   rcases (show i=0∨i=1 by omega) with rfl|rfl <;> rfl
  refine zW (zCO r m most hops) fun ⟨t,u⟩=>?_;refine zB ?_;refine yes ?_;refine zB ?_;refine call (ZN r t u most hops) ?_;rintro _ _ ⟨rfl,rfl⟩;refine onA ?_;have hpv:(Value.agg #[u64 0,u64 0,.bool (i == 1),.int .i64 0])=(zP (i == 1)).v:=by cases i == 1 <;> rfl
  refine call (Ya t m (128*most+2) (by omega) (zP (i == 1)) (zD5 _)) ?_
  rintro _ _ ⟨ub,uc,rfl,rfl⟩;refine zB ?_;have hu:=hz (i == 1);have hnext:dumpTo m (i+1)=dumpTo m i++m.under (zP (i == 1)):=by
   rcases (show i=0∨i=1 by omega) with rfl|rfl <;> rfl
  generalize m.under (zP (i == 1))=U at hu hnext;rw [show dumpTo m i=dumpTo m i++U.take 0 by simp]
  refine loop (ι:=Nat×Option Addr×Nat) (fun y=>U.length-y.1) (fun y=>y.1<=U.length) (fun y=>[(0,pt r),(3,.slice y.2.1 (dumpTo m i++U.take y.1).length y.2.2),(8,.slice (some ⟨bl,0,none⟩) 2 2),(9,.int .i64 2),(10,.int .i64 (i:Int)),(19,.slice ub U.length uc),(20,.int .i64 (U.length:Int)),(21,.int .i64 (y.1:Int))])
   (fun y=>[osl y.2.1 y.2.2 54 5 ((dumpTo m i++U.take y.1).map prC),osl ub uc 214 5 (U.map prC),osl (some ⟨bl,0,none⟩) 2 4 1 [[.bool false],[.bool true]],zHx r t u most hops,yX t m (128*most+2),zDL u m.hops]) (0,ob,oc) (by omega) ?_
  rintro ⟨j,ob',oc'⟩ h2 ih2;(try dsimp only at h2 ih2 ⊢);have htake:(U.take j).length<=U.length:=by simp;omega
  rcases Nat.lt_or_ge j U.length with hj|hj
  ·have hx:U[((j:Nat):Int).toNat]?=some U[j]:=by simp [hj]
   have e1:dumpTo m i++U.take (j+1)=dumpTo m i++U.take j++[U[j]]:=by rw [List.append_assoc,List.take_append_getElem hj]
   have hroom2:(dumpTo m i++U.take j).length<=3000000:=by rw [List.length_append];omega
   generalize dumpTo m i++U.take j=O at e1 hroom2;refine zB ?_;refine yes ?_;refine zB ?_;refine alloc fun b7=>?_;refine zB ?_;refine call (zAE U[j]) ?_;rintro _ _ ⟨rfl,rfl⟩;refine zB ?_;refine buildSlice fun bp=>?_;refine zB ?_;refine xM fun ob2 oc2=>?_;refine zB ?_;have e3:O.length+1=(dumpTo m i++U.take (j+1)).length:=by rw [e1];simp
   have e4:∀ u:List Value,u=prC U[j]->List.map prC O++[u]=List.map prC (dumpTo m i++U.take (j+1)):=fun u hu=>by rw [e1,List.map_append,hu];rfl
   rw [e3,e4]
   ·exact next (ih2 (j+1,ob2,oc2) (by simp;omega) (by simp;omega))
   ·rfl
  ·obtain rfl:j=U.length:=by omega
   have e1:U.take U.length=U:=List.take_length;rw [e1];refine zB ?_;refine no ?_;refine zB ?_;refine zE (zCO r m most hops) (t,u) ?_;rw [<-hnext];exact next (ih (i+1,ob',oc') (by simp;omega) (by simp;omega))
 ·obtain rfl:i=2:=by omega
  refine zB ?_;refine no ?_;refine zB ?_;have e1:dumpTo m 2=m:=zHr hs;rw [e1];refine ret ?_;exact ends ⟨ob,oc,rfl,rfl⟩
end Go.Proofs.YtjcbjclhagobiaaGreat
end
section
namespace Go.Proofs.YtjcbjclhagobiaaGreat
set_option maxHeartbeats 1600000
open Go Go.KL Go.KM
variable {E:Env} {X:Xs}
set_option maxRecDepth 100000
def yW (m:Prs) (a:Ad):Nat->Int->Pf
 | 0,_=>ofP a (width a.v6)
 | k+1,n=>if m.inside (ofP a n) then yW m a k (n+1) else ofP a n
def widest (m:Prs) (a:Ad) (least:Int):Pf:=yW m a ((width a.v6:Int)-max 0 (min least (width a.v6))).toNat (max 0 (min least (width a.v6)))
def governed (m:Prs) (p:Pf):Option (Pf×Int):=(m.above p).getLast?.map fun x=>(p,x.2)
def ZK (m:Prs) (a:Ad):Option (Pf×Int):=governed m (widest m a 0)
def YP (m:Prs) (a:Ad):Option (Pf×Int):=governed m (ofP a (width a.v6))
def wP (m:Prs) (x:Pf×Int):Bool:=((m.above x.1).getLast?.isSome&&decide (((m.above x.1).getLast?.getD prZ).2=x.2))&&!m.inside x.1
theorem XJ {m:Prs} {a:Ad}:∀ {k n},(yW m a k n).sane=true
 | 0,_=>ZO
 | k+1,n=>by unfold yW;split;exact XJ;exact ZO
theorem Yd {m:Prs} {a:Ad} {l:Int}:(widest m a l).sane=true:=XJ
theorem We (r most hops:Nat) (m:Prs) (hm:m.length<=1000000) (p:Pf) (hp:p.sane=true):Does PR E X 179 [pt r,p.v] [ZJ r m most hops] (fun v s=>v=prO (governed m p)/\s=[ZJ r m most hops]):=by
 refine Does.of 19 inferInstance rfl (by decide) rfl ?_
 refine zB ?_;refine zU fun b3=>?_;refine zB ?_;refine alloc fun b4=>?_;refine zB ?_;refine call (Vx r most hops m hm p hp) ?_;rintro _ _ ⟨rfl,rfl⟩;refine onA ?_;refine alloc fun b6=>?_;refine zB ?_;unfold governed;rcases (m.above p).getLast? with _|x
 ·refine no ?_;refine zB ?_;refine ret ?_;exact ends ⟨rfl,rfl⟩
 ·refine yes ?_;refine zB ?_;refine ret ?_;exact ends ⟨rfl,rfl⟩
theorem zEg (r most hops:Nat) (m:Prs) (a:Ad) (least:Int):Does PR E X 355 [pt r,a.v,.int .i64 least] [ZJ r m most hops] (fun v s=>v=(widest m a least).v/\s=[ZJ r m most hops]):=by
 have hw:=yD a.v6;refine Does.of 37 inferInstance rfl (by decide) rfl ?_
 refine zB ?_;refine zU fun b4=>?_;refine zB ?_;refine alloc fun b6=>?_;refine zB ?_;refine call (yO a.v6) ?_;rintro _ _ ⟨rfl,rfl⟩;refine onA ?_;have hl1:0<=max 0 (min least (width a.v6:Int)):=by omega
 have hl2:max 0 (min least (width a.v6:Int))<=(width a.v6:Int):=by omega
 unfold widest;generalize max 0 (min least (width a.v6:Int))=l at hl1 hl2 ⊢;obtain ⟨ln,rfl⟩:=Int.eq_ofNat_of_zero_le hl1;have e0:((width a.v6:Int)-(ln:Int)).toNat=width a.v6-ln:=by omega
 rw [e0];refine loop (ι:=Nat) (fun j=>width a.v6-ln-j) (fun j=>j<=width a.v6-ln/\yW m a (width a.v6-ln-j) ((ln:Int)+(j:Int))=yW m a (width a.v6-ln) (ln:Int)) (fun j=>[(0,pt r),(2,.int .i64 (ln:Int)),(4,.pointer (some ⟨b4,0,none⟩)),(6,.pointer (some ⟨b6,0,none⟩)),(7,.int .i64 (width a.v6:Int)),(19,.int .i64 ((width a.v6:Int)-(ln:Int))),(20,.int .i64 (j:Int))]) (fun j=>[box b6 [.int .u64 0,.int .u64 0,.bool false,.int .i64 0] 52,box b4 (yG a.v) 50,ZJ r m most hops]) 0 ⟨by omega,by simp⟩ ?_
 rintro j ⟨h1,h2⟩ ih;(try dsimp only at h1 h2 ih ⊢);rcases Nat.lt_or_ge j (width a.v6-ln) with hj|hj
 ·refine zB ?_;refine yes ?_;refine zB ?_;refine call (vU a ((ln:Int)+(j:Int))) ?_;rintro _ _ ⟨rfl,rfl⟩;refine onA ?_;refine alloc fun b9=>?_;refine zB ?_;refine call (Xk r most hops m (ofP a ((ln:Int)+(j:Int)))) ?_;rintro _ _ ⟨rfl,rfl⟩;refine onA ?_;obtain ⟨k,hk⟩:∃ k,width a.v6-ln-j=k+1:=⟨width a.v6-ln-j-1,by omega⟩
  have hst:yW m a (k+1) ((ln:Int)+(j:Int))=if m.inside (ofP a ((ln:Int)+(j:Int))) then yW m a k ((ln:Int)+(j:Int)+1) else ofP a ((ln:Int)+(j:Int)):=rfl;rw [hk,hst] at h2;cases hc:m.inside (ofP a ((ln:Int)+(j:Int))) with
  | false=>
   rw [hc] at h2;rw [<-h2];refine yes ?_;refine zB ?_;refine ret ?_;exact ends ⟨rfl,rfl⟩
  | true=>
   rw [hc] at h2;refine no ?_;refine zB ?_;refine next (ih (j+1) ⟨by omega,?_⟩ (by omega))
   rw [<-h2,if_pos rfl,show width a.v6-ln-(j+1)=k by omega]
   congr 1
 ·obtain rfl:j=width a.v6-ln:=by omega
  refine zB ?_;refine no ?_;refine zB ?_;refine call (vU a (width a.v6)) ?_;rintro _ _ ⟨rfl,rfl⟩;refine onA ?_;rw [show width a.v6-ln-(width a.v6-ln)=0 by omega] at h2
  rw [<-h2];refine ret ?_;exact ends ⟨rfl,rfl⟩
theorem zGF (r most hops:Nat) (m:Prs) (a:Ad):Does PR E X 302 [pt r,a.v] [ZJ r m most hops] (fun v s=>v=(widest m a 0).v/\s=[ZJ r m most hops]):=by
 refine Does.of 8 inferInstance rfl (by decide) rfl ?_
 refine zB ?_;refine zU fun b3=>?_;refine zB ?_;refine alloc fun b4=>?_;refine zB ?_;refine call (zEg r most hops m a 0) ?_;rintro _ _ ⟨rfl,rfl⟩;refine onA ?_;refine ret ?_;exact ends ⟨rfl,rfl⟩
theorem JP (r most hops:Nat) (m:Prs) (hm:m.length<=1000000) (a:Ad):Does PR E X 240 [pt r,a.v] [ZJ r m most hops] (fun v s=>v=prO (ZK m a)/\s=[ZJ r m most hops]):=by
 refine Does.of 13 inferInstance rfl (by decide) rfl ?_
 refine zB ?_;refine zU fun b3=>?_;refine zB ?_;refine alloc fun b4=>?_;refine zB ?_;refine call (zGF r most hops m a) ?_;rintro _ _ ⟨rfl,rfl⟩;refine onA ?_;refine call (We r most hops m hm (widest m a 0) Yd) ?_;rintro _ _ ⟨rfl,rfl⟩;refine onA ?_;refine ret ?_;exact ends ⟨rfl,rfl⟩
theorem zAK (r most hops:Nat) (m:Prs) (hm:m.length<=1000000) (a:Ad):Does PR E X 101 [pt r,a.v] [ZJ r m most hops] (fun v s=>v=prO (YP m a)/\s=[ZJ r m most hops]):=by
 refine Does.of 15 inferInstance rfl (by decide) rfl ?_
 refine zB ?_;refine zU fun b3=>?_;refine zB ?_;refine alloc fun b4=>?_;refine zB ?_;refine draw [0,0,0,4,12,30,63,127,127,511,1023] [4,5,6,9,10] [1,3] [0,1,2,3,4,5,6,7,8,9,10] ?_;refine zC ?_;refine call (yO a.v6) ?_;rintro _ _ ⟨rfl,rfl⟩;try refine zJ ?_
 refine ddA ?_;refine call (vU a (width a.v6)) ?_;rintro _ _ ⟨rfl,rfl⟩;try refine zJ ?_
 refine ddA ?_;refine call (We r most hops m hm (ofP a (width a.v6)) ZO) ?_;rintro _ _ ⟨rfl,rfl⟩;try refine zJ ?_
 refine ddA ?_;refine ret ?_;exact ends ⟨rfl,rfl⟩
theorem YH (r most hops:Nat) (m:Prs) (hm:m.length<=1000000) (x:Pf×Int) (hx:x.1.sane=true):Does PR E X 46 [pt r,.agg (prC x).toArray] [ZJ r m most hops] (fun v s=>v=.bool (wP m x)/\s=[ZJ r m most hops]):=by
 refine Does.of 29 inferInstance rfl (by decide) rfl ?_
 refine zB ?_;refine zU fun b3=>?_;refine zB ?_;refine call (Vx r most hops m hm x.1 hx) ?_;rintro _ _ ⟨rfl,rfl⟩;refine onA ?_;refine alloc fun b5=>?_;refine zB ?_;unfold wP;rcases Bool.eq_false_or_eq_true ((m.above x.1).getLast?.isSome&&decide (((m.above x.1).getLast?.getD prZ).2=x.2)) with hb|hb
 case inr=>
  refine zB ?_;rw [hb];refine ret ?_;exact ends ⟨rfl,rfl⟩
 case inl=>
  refine zB ?_;rw [hb];refine call (Xk r most hops m x.1) ?_;rintro _ _ ⟨rfl,rfl⟩;refine onA ?_;refine ret ?_;exact ends ⟨rfl,rfl⟩
end Go.Proofs.YtjcbjclhagobiaaGreat
end
section
namespace Go.Proofs.YtjcbjclhagobiaaGreat
open Go Go.KL Go.KM
structure SEnt where
 x:Pf×Int
 used:Bool
 next:Int
abbrev seC (e:SEnt):List Value:=[u64 e.x.1.a.hi,u64 e.x.1.a.lo,.bool e.x.1.a.v6,.int .i64 e.x.1.n,.int .i64 e.x.2,.bool e.used,.int .i64 e.next]
abbrev yL:=Nat->Option (Pf×Int)
def yL.upd (M:yL) (i:Nat) (x:Option (Pf×Int)):yL:=fun j=>if j=i then x else M j
def WT (A:List SEnt):yL:=fun i=>match A[i]? with|some e=>if e.used then some e.x else none|none=>none
def zBW (A:List SEnt):Int->List Nat->Prop
 | f,[]=>f = -1
 | f,i::c=>f=(i:Int)/\∃ e,A[i]?=some e/\e.used=false/\zBW A e.next c
structure SlOk (A:List SEnt) (free:Int) (n most:Nat):Prop where
 chain:∃ c,zBW A free c/\c.Nodup/\∀ i e,A[i]?=some e->e.used=false->i∈c
 cnt:(A.filter fun e=>e.used).length=n
 most:A.length<=most/\most<=1024/\n<=most
theorem zBW.frame {A B:List SEnt}:∀ {c f},zBW A f c->(∀ i∈c,B[i]?=A[i]?)->zBW B f c
 | [],_,h,_=>h
 | i::c,_,⟨h1,e,h2,h3,h4⟩,hh=>⟨h1,e,(hh i (by simp)).trans h2,h3,h4.frame fun j hj=>hh j (List.mem_cons_of_mem _ hj)⟩
theorem zBW.head {A:List SEnt} {f:Int} {c:List Nat} (h:zBW A f c):(f = -1/\c=[])∨∃ i e c',f=((i:Nat):Int)/\c=i::c'/\A[i]?=some e/\e.used=false/\zBW A e.next c':=by
 cases c with
 | nil=>exact .inl ⟨h,rfl⟩
 | cons i c=>obtain ⟨h1,e,h2,h3,h4⟩:=h;exact .inr ⟨i,e,c,h1,rfl,h2,h3,h4⟩
theorem zDa {A:List SEnt} {i:Nat} {e e':SEnt} (h:A[i]?=some e):((A.set i e').filter fun e=>e.used).length+(if e.used then 1 else 0)=(A.filter fun e=>e.used).length+(if e'.used then 1 else 0):=by
 induction A generalizing i with
 | nil=>simp at h
 | cons a A ih=>
  cases i with
  | zero=>
   simp at h;subst h;simp only [List.set_cons_zero,List.filter_cons];cases a.used <;> cases e'.used <;> simp <;> omega
  | succ i=>
   simp at h;have:=ih h
   simp only [List.set_cons_succ,List.filter_cons];cases a.used <;> simp at this ⊢ <;> omega
theorem SlOk.new (most:Nat) (h:most<=1024):SlOk [] (-1) 0 most:=⟨⟨[],rfl,List.nodup_nil,fun i e h=>by simp at h⟩,rfl,by simp,h,by omega⟩
theorem SlOk.give {A:List SEnt} {free:Int} {n most i:Nat} {e:SEnt} (h:SlOk A free n most) (hi:A[i]?=some e) (hu:e.used=true):SlOk (A.set i ⟨prZ,false,free⟩) (i:Int) (n-1) most/\1<=n:=by
 obtain ⟨⟨c,h1,h2,h3⟩,h4,h5,h6,h7⟩:=h;have hil:i<A.length:=(List.getElem?_eq_some_iff.1 hi).1;have hic:i∉c:=by
  intro hc;have:∀ {c f},zBW A f c->i∈c->∃ e,A[i]?=some e/\e.used=false:=by
   intro c;induction c with
   | nil=>intro f _ h;cases h
   | cons j c ih=>
    rintro f ⟨_,e,a1,a2,a3⟩ hm;rcases List.mem_cons.1 hm with rfl|hm
    ·exact ⟨e,a1,a2⟩
    ·exact ih a3 hm
  obtain ⟨e2,b1,b2⟩:=this h1 hc;rw [hi] at b1;cases b1;rw [hu] at b2;cases b2
 have hcnt:=zDa (e':=⟨prZ,false,free⟩) hi;rw [hu] at hcnt;simp at hcnt;refine ⟨⟨⟨i::c,⟨rfl,⟨prZ,false,free⟩,by simp [hil],rfl,h1.frame fun j hj=>?_⟩,List.nodup_cons.2 ⟨hic,h2⟩,fun j e2 hj hu2=>?_⟩,by omega,by simpa using h5,h6,by omega⟩,by omega⟩
 ·rw [List.getElem?_set_ne];rintro rfl;exact hic hj
 ·by_cases x:j=i
  ·subst x;simp
  ·rw [List.getElem?_set_ne (fun y=>x y.symm)] at hj;exact List.mem_cons_of_mem _ (h3 j e2 hj hu2)
theorem SlOk.take {A:List SEnt} {free:Int} {n most:Nat} (h:SlOk A free n most) (hn:n<most) (x:Pf×Int) :
  (free = -1/\SlOk (A++[⟨x,true,0⟩]) (-1) (n+1) most/\A.length<most)∨∃ i e,free=((i:Nat):Int)/\A[i]?=some e/\e.used=false/\SlOk (A.set i ⟨x,true,0⟩) e.next (n+1) most:=by
 obtain ⟨⟨c,h1,h2,h3⟩,h4,h5,h6,h7⟩:=h;rcases h1.head with ⟨rfl,rfl⟩|⟨i,e,c',rfl,rfl,a1,a2,a3⟩
 ·left
  have hall:A.filter (fun e=>e.used)=A:=List.filter_eq_self.2 fun e he=>by
   obtain ⟨i,hi⟩:=List.mem_iff_getElem?.1 he;cases hu:e.used with
   | true=>rfl
   | false=>have:=h3 i e hi hu;cases this
  rw [hall] at h4;refine ⟨rfl,⟨⟨[],rfl,List.nodup_nil,fun i e he hu=>?_⟩,by rw [List.filter_append,hall];simp;omega,by simp;omega,h6,by omega⟩,by omega⟩
  exfalso
  rcases Nat.lt_or_ge i A.length with y|y
  ·rw [List.getElem?_append_left y] at he;have:=h3 i e he hu;cases this
  ·rw [List.getElem?_append_right y] at he;cases k:i-A.length with
   | zero=>rw [k] at he;simp at he;subst he;cases hu
   | succ k'=>rw [k] at he;simp at he
 ·right
  refine ⟨i,e,rfl,a1,a2,?_⟩;have hcnt:=zDa (e':=⟨x,true,0⟩) a1;rw [a2] at hcnt;simp at hcnt;have hic:i∉c':=(List.nodup_cons.1 h2).1;refine ⟨⟨c',a3.frame fun j hj=>?_,(List.nodup_cons.1 h2).2,fun j e2 hj hu2=>?_⟩,by omega,by simpa using h5,h6,by omega⟩
  ·rw [List.getElem?_set_ne];rintro rfl;exact hic hj
  ·have hil:i<A.length:=(List.getElem?_eq_some_iff.1 a1).1;by_cases y:j=i
   ·subst y;rw [List.getElem?_set_self hil] at hj;cases hj;cases hu2
   ·rw [List.getElem?_set_ne (fun z=>y z.symm)] at hj;rcases List.mem_cons.1 (h3 j e2 hj hu2) with z|z
    ·exact absurd z y
    ·exact z
theorem zAF {A:List SEnt} {i:Nat} {e:SEnt} (h:i<A.length):WT (A.set i e)=(WT A).upd i (if e.used then some e.x else none):=by
 funext j
 unfold WT yL.upd;by_cases y:j=i
 ·subst y;rw [List.getElem?_set_self h,if_pos rfl]
 ·rw [List.getElem?_set_ne (fun z=>y z.symm),if_neg y]
theorem zHh {A:List SEnt} {e:SEnt}:WT (A++[e])=(WT A).upd A.length (if e.used then some e.x else none):=by
 funext j
 unfold WT yL.upd;rcases Nat.lt_trichotomy j A.length with y|y|y
 ·rw [List.getElem?_append_left y,if_neg (by omega)]
 ·subst y;rw [List.getElem?_append_right (Nat.le_refl _),if_pos rfl];simp
 ·rw [List.getElem?_append_right (by omega),if_neg (by omega)]
  have:A[j]?=none:=List.getElem?_eq_none_iff.2 (by omega)
  show _=(match A[j]? with|some e=>if e.used then some e.x else none|none=>none);rw [this];cases k:j-A.length with
  | zero=>omega
  | succ k'=>simp
end Go.Proofs.YtjcbjclhagobiaaGreat
end
section
namespace Go.Proofs.YtjcbjclhagobiaaGreat
set_option maxHeartbeats 1600000
open Go Go.KL Go.KM
variable {E:Env} {X:Xs}
set_option maxRecDepth 100000
abbrev zMP (s:Nat) (A:List SEnt) (free:Int) (n most:Nat) (base:Option Addr) (cap:Nat):HP:=box s [.slice base A.length cap,.int .i64 (most:Int),.int .i64 free,.int .i64 (n:Int)] 412
abbrev zMZ (A:List SEnt) (base:Option Addr) (cap:Nat):HP:=osl base cap 418 7 (A.map seC)
abbrev WG (s:Nat) (M:yL) (n most:Nat) (q:{ x:List SEnt×Int×Option Addr×Nat // SlOk x.1 x.2.1 n most/\WT x.1=M }):List HP:=[zMP s q.1.1 q.1.2.1 n most q.1.2.2.1 q.1.2.2.2,zMZ q.1.1 q.1.2.2.1 q.1.2.2.2]
abbrev wX (s:Nat) (M:yL) (n most:Nat):HP:=HP.ex (WG s M n most)
theorem zGZ (n:Int):Does PR E X 216 [.int .i64 n] [] (fun v t=>∃ s,v=pt s/\t=[wX s (fun _=>none) 0 (max 0 (min n 1024)).toNat]):=by
 have e1:max 0 (min n 1024)=(((max 0 (min n 1024)).toNat:Nat):Int):=by omega
 refine Does.of 8 inferInstance rfl (by decide) rfl ?_
 refine zB ?_;refine zU fun s=>?_;refine zB ?_;rw [e1];refine into (Into.nilO (T:=418) (sz:=7)) ?_;refine zE (WG s (fun _=>none) 0 (max 0 (min n 1024)).toNat) ⟨([],-1,none,0),SlOk.new _ (by omega),by funext i;rfl⟩ ?_
 refine ret ?_;exact ends ⟨s,rfl,rfl⟩
theorem Wr (s:Nat) (M:yL) (n most:Nat):Does PR E X 304 [pt s] [wX s M n most] (fun v t=>v=.int .i64 (most:Int)/\t=[wX s M n most]):=by
 refine Does.of 9 inferInstance rfl (by decide) rfl ?_
 refine zW (WG s M n most) fun q=>?_;refine zB ?_;refine no ?_;refine zB ?_;refine zE (WG s M n most) q ?_;refine ret ?_;exact ends ⟨rfl,rfl⟩
theorem zG0 (s:Nat) (M:yL) (n most:Nat):Does PR E X 356 [pt s] [wX s M n most] (fun v t=>v=.int .i64 (n:Int)/\t=[wX s M n most]):=by
 refine Does.of 9 inferInstance rfl (by decide) rfl ?_
 refine zW (WG s M n most) fun q=>?_;refine zB ?_;refine no ?_;refine zB ?_;refine zE (WG s M n most) q ?_;refine ret ?_;exact ends ⟨rfl,rfl⟩
def zKK (A:List SEnt) (base:Option Addr) (i:Nat):Value:=match A[i]? with|some e=>if e.used then .pointer (some (eltA base i 7 0)) else .pointer none|none=>.pointer none
theorem zCf (s:Nat) (A:List SEnt) (free:Int) (n most:Nat) (base:Option Addr) (cap:Nat) (i:Nat):Does PR E X 284 [pt s,.int .i64 (i:Int)] [zMP s A free n most base cap,zMZ A base cap] (fun v t=>v=zKK A base i/\t=[zMP s A free n most base cap,zMZ A base cap]):=by
 unfold zKK;have ei:((i:Nat):Int).toNat=i:=by omega
 rcases Nat.lt_or_ge i A.length with hi|hi
 ·have hx:A[((i:Nat):Int).toNat]?=some A[i]:=by rw [ei];simp [hi]
  have hx':A[i]?=some A[i]:=by simp [hi]
  rw [hx'];refine Does.of 37 inferInstance rfl (by decide) rfl ?_
  refine zB ?_;cases hu:A[i].used with
  | true=>
   refine no ?_;refine zB ?_;refine ret ?_;exact ends ⟨rfl,rfl⟩
  | false=>
   refine yes ?_;refine zB ?_;refine ret ?_;exact ends ⟨rfl,rfl⟩
 ·rw [List.getElem?_eq_none_iff.2 hi];refine Does.of 37 inferInstance rfl (by decide) rfl ?_
  refine zB ?_;have hc:((some (⟨s,0,none⟩:Addr)).isNone||decide (((i:Nat):Int)<0)||decide ((A.length:Int)<=((i:Nat):Int)))=true:=by
   have:decide ((A.length:Int)<=((i:Nat):Int))=true:=decide_eq_true (by omega)
   rw [this];simp
  refine zB ?_;refine yes ?_;refine zB ?_;refine ret ?_;exact ends ⟨rfl,rfl⟩
theorem zM4 (s:Nat) (M:yL) (n most:Nat) (i:Nat):Does PR E X 218 [pt s,.int .i64 (i:Int)] [wX s M n most] (fun v t=>v=prO (M i)/\t=[wX s M n most]):=by
 refine Does.of 18 inferInstance rfl (by decide) rfl ?_
 refine zW (WG s M n most) fun q=>?_;obtain ⟨⟨A,free,base,cap⟩,⟨hok,hM⟩⟩:=q;(try dsimp only at hok hM ⊢);refine zB ?_;refine alloc fun b4=>?_;refine zB ?_;refine call (zCf s A free n most base cap i) ?_;rintro _ _ ⟨rfl,rfl⟩;refine onA ?_;have hMi:M i=match A[i]? with|some e=>if e.used then some e.x else none|none=>none:=by rw [<-hM];rfl
 unfold zKK;rw [hMi];have ei:((i:Nat):Int).toNat=i:=by omega
 rcases hA:A[i]? with _|e
 ·refine zB ?_;refine yes ?_;refine zB ?_;refine alloc fun b7=>?_;refine zB ?_;refine zE (WG s M n most) ⟨(A,free,base,cap),hok,hM⟩ ?_;refine ret ?_;exact ends ⟨rfl,rfl⟩
 ·(try dsimp only);cases hu:e.used with
  | true=>
   refine zB ?_;refine no ?_;refine zB ?_;refine zE (WG s M n most) ⟨(A,free,base,cap),hok,hM⟩ ?_;refine ret ?_;exact ends ⟨rfl,rfl⟩
  | false=>
   refine zB ?_;refine yes ?_;refine zB ?_;refine alloc fun b7=>?_;refine zB ?_;refine zE (WG s M n most) ⟨(A,free,base,cap),hok,hM⟩ ?_;refine ret ?_;exact ends ⟨rfl,rfl⟩
theorem zJx (s:Nat) (M:yL) (n most:Nat) (i:Nat) (x:Pf×Int) (hx:M i=some x):Does PR E X 298 [pt s,.int .i64 (i:Int)] [wX s M n most] (fun v t=>v=.bool true/\t=[wX s (M.upd i none) (n-1) most]):=by
 refine Does.of 29 inferInstance rfl (by decide) rfl ?_
 refine zW (WG s M n most) fun q=>?_;obtain ⟨⟨A,free,base,cap⟩,⟨hok,hM⟩⟩:=q;(try dsimp only at hok hM ⊢);have hMi:M i=match A[i]? with|some e=>if e.used then some e.x else none|none=>none:=by rw [<-hM];rfl
 rw [hx] at hMi;have ei:((i:Nat):Int).toNat=i:=by omega
 obtain ⟨e,hA,hu⟩:∃ e,A[i]?=some e/\e.used=true:=by
  rcases hA:A[i]? with _|e
  ·rw [hA] at hMi;cases hMi
  ·rw [hA] at hMi;(try dsimp only at hMi);cases hu:e.used with
   | true=>exact ⟨e,rfl,hu⟩
   | false=>rw [hu] at hMi;cases hMi
 have hg:=hok.give hA hu;have hn:n<=1024:=by have:=hok.most;omega
 have hn1:1<=n:=hg.2;have hil:i<A.length:=(List.getElem?_eq_some_iff.1 hA).1;refine zB ?_;refine call (zCf s A free n most base cap i) ?_;rintro _ _ ⟨rfl,rfl⟩;refine onA ?_;have hsp:zKK A base i=.pointer (some (eltA base i 7 0)):=by unfold zKK;rw [hA];simp [hu]
 rw [hsp];refine zB ?_;refine no ?_;refine zB ?_;have e1:(List.map seC A).set i (seC ⟨prZ,false,free⟩)=(A.set i ⟨prZ,false,free⟩).map seC:=by rw [List.map_set]
 have e2:A.length=(A.set i ⟨prZ,false,free⟩).length:=by simp
 have e3:((n:Int)-1)=((n-1:Nat):Int):=by omega
 refine (show W _ _ _ _ _ _ _ [box s [.slice base A.length cap,.int .i64 (most:Int),.int .i64 (i:Int),.int .i64 ((n:Int)-1)] _,osl base cap _ 7 ((List.map seC A).set i (seC ⟨prZ,false,free⟩))] from ?_);rw [e1,e2,e3];refine zE (WG s (M.upd i none) (n-1) most) ⟨(A.set i ⟨prZ,false,free⟩,(i:Int),base,cap),hg.1,by rw [zAF hil,hM];rfl⟩ ?_
 refine ret ?_;exact ends ⟨rfl,rfl⟩
theorem zDr (s:Nat) (M:yL) (n most:Nat) (hn:n<most) (x:Pf×Int):Does PR E X 307 [pt s,.agg (prC x).toArray] [wX s M n most] (fun v t=>∃ i:Nat,M i=none/\i<most/\v=.tuple #[.int .i64 (i:Int),.bool true]/\t=[wX s (M.upd i (some x)) (n+1) most]):=by
 refine Does.of 68 inferInstance rfl (by decide) rfl ?_
 refine zW (WG s M n most) fun q=>?_;obtain ⟨⟨A,free,base,cap⟩,⟨hok,hM⟩⟩:=q;(try dsimp only at hok hM ⊢);have hn2:most<=1024:=by have:=hok.most;omega
 have hal:A.length<=1024:=by have:=hok.most;omega
 refine zB ?_;refine zU fun b3=>?_;refine zB ?_;refine draw [0,1,3,7,15,31,63,7,135,391,903,2047,4095] [] [6,10] [0,1,2,3,4,5,6,7,8,9,10,11,12] ?_;refine zC ?_;refine ddA ?_;refine no ?_;refine zB ?_;rcases hok.take hn x with ⟨rfl,hok2,hlt⟩|⟨i,e,rfl,hA,hu,hok2⟩
 ·have hfl:[Value.int .u64 0,.int .u64 0,.bool false,.int .i64 0,.int .i64 0,.bool false,.int .i64 0]=seC ⟨prZ,false,0⟩:=rfl;refine yes ?_;refine zB ?_;refine buildSlice fun bp=>?_;refine zB ?_;refine xM fun base' cap'=>?_;refine zB ?_;have hx0:(A.map seC++[seC ⟨prZ,false,0⟩])[((A.length:Nat):Int).toNat]?=some (seC ⟨prZ,false,0⟩):=by simp
  refine zMn base' fun hcap=>?_;refine draw [0,1,3,7,0,0,32,127,255] [8] [3,5,7] [0,1,2,3,4,5,6,7,8] ?_;refine zC ?_;refine zB ?_;have e0:((A.length:Nat):Int).toNat=A.length:=by omega
  have e1:(List.map seC A++[seC ⟨prZ,false,0⟩]).set A.length (seC ⟨x,true,0⟩)=(A++[(⟨x,true,0⟩:SEnt)]).map seC:=by rw [List.set_append_right _ _ (by simp)];simp
  have e2:A.length+1=(A++[(⟨x,true,0⟩:SEnt)]).length:=by simp
  have e3:((n:Int)+1)=((n+1:Nat):Int):=by omega
  rw [e0];refine (show W _ _ _ _ _ _ _ [box s [.slice base' (A.length+1) cap',.int .i64 (most:Int),.int .i64 (-1),.int .i64 ((n:Int)+1)] _,osl base' cap' _ 7 ((List.map seC A++[seC ⟨prZ,false,0⟩]).set A.length (seC ⟨x,true,0⟩)),_,_] from ?_);rw [e1,e2,e3];refine zE (WG s (M.upd A.length (some x)) (n+1) most) ⟨(A++[⟨x,true,0⟩],-1,base',cap'),hok2,by rw [zHh,hM];rfl⟩ ?_
  refine ret ?_;exact ends ⟨A.length,by rw [<-hM];unfold WT;rw [List.getElem?_eq_none_iff.2 (Nat.le_refl _)],hlt,rfl,rfl⟩
 ·have ei:((i:Nat):Int).toNat=i:=by omega
  have hil:i<A.length:=(List.getElem?_eq_some_iff.1 hA).1;have hA2:A[((i:Nat):Int).toNat]?=some e:=by rw [ei];exact hA
  refine no ?_;refine zB ?_;refine draw [0,1,3,7,0,0,32,127,255] [8] [3,5,7] [0,1,2,3,4,5,6,7,8] ?_;refine zC ?_;refine zB ?_;have e1:(List.map seC A).set i (seC ⟨x,true,0⟩)=(A.set i ⟨x,true,0⟩).map seC:=by rw [List.map_set]
  have e2:A.length=(A.set i (⟨x,true,0⟩:SEnt)).length:=by simp
  have e3:((n:Int)+1)=((n+1:Nat):Int):=by omega
  rw [ei];refine (show W _ _ _ _ _ _ _ [box s [.slice base A.length cap,.int .i64 (most:Int),.int .i64 e.next,.int .i64 ((n:Int)+1)] _,osl base cap _ 7 ((List.map seC A).set i (seC ⟨x,true,0⟩)),_] from ?_);rw [e1,e2,e3];refine zE (WG s (M.upd i (some x)) (n+1) most) ⟨(A.set i ⟨x,true,0⟩,e.next,base,cap),hok2,by rw [zAF hil,hM];rfl⟩ ?_
  refine ret ?_;exact ends ⟨i,by rw [<-hM];unfold WT;rw [hA];simp [hu],by have:=hok.most;omega,rfl,rfl⟩
end Go.Proofs.YtjcbjclhagobiaaGreat
end
