/- Texts joined by a program of ours: Nt Nu. -/
import Derived.Test.YtjcbjclhagobiaaGreatJan
set_option linter.all false
section
namespace Go.Proofs.YtjcbjclhagobiaaGreat
open Go Go.KL Go.KM
theorem zG6 {m:Prs} {x:Pf×Int}:wP m x=true↔(∃ y,(m.above x.1).getLast?=some y/\y.2=x.2)/\m.inside x.1=false:=by
 unfold wP;rw [Bool.and_eq_true,Bool.and_eq_true];cases h:(m.above x.1).getLast? with
 | none=>simp
 | some y=>simp
theorem XZ {m:Prs} {p:Pf}:m.inside p=true↔∃ y∈m,y.1≠p/\p.covers y.1=true:=by
 unfold Prs.inside;simp [List.any_eq_true]
theorem zC9 {m:Prs} {a:Ad}:m.inside (ofP a (width a.v6))=false:=by
 cases h:m.inside (ofP a (width a.v6)) with
 | false=>rfl
 | true=>
  exfalso
  obtain ⟨y,_,hne,hc⟩:=XZ.1 h;obtain ⟨s1,s2⟩:=xQ hc;have hk:=(zQ s1 s2).1 hc;have hv:y.1.a.v6=a.v6:=by
   obtain ⟨t,ht⟩:=hk;have:(ofP a (width a.v6)).key++t=y.1.key:=ht
   unfold Pf.key at this;rw [List.cons_append] at this;injection this with e _
   exact e.symm
  have hn:(ofP a (width a.v6)).n=(width a.v6:Int):=by
   show ((yT (width a.v6) a.v6:Nat):Int)=_;unfold yT;congr 1;omega
  have hy:=xY s2;rw [hv] at hy;refine hne (Za s2 s1 ?_);refine (hk.eq_of_length_le ?_).symm;rw [wK,wK,hn];omega
theorem ZE {m:Prs} {a:Ad}:∀ {k:Nat} {n:Int},m.inside (yW m a k n)=false
 | 0,_=>zC9
 | k+1,n=>by
  unfold yW;split
  ·exact ZE
  ·rename_i h;simpa using h
theorem zCj {m:Prs} {a:Ad} {x:Pf×Int} (h:ZK m a=some x):wP m x=true:=by
 unfold ZK governed at h;rw [Option.map_eq_some_iff] at h;obtain ⟨y,h1,rfl⟩:=h;exact zG6.2 ⟨⟨y,h1,rfl⟩,ZE⟩
theorem zFQ {m m':Prs} (hs:Srt m) (hs':Srt m') {p:Pf} (h:∀ y:Pf×Int,y.1≠p->(y∈m'↔y∈m)) {x:Pf×Int} (h1:p.covers x.1=false) (h2:x.1.covers p=false):wP m' x=wP m x:=by
 have ha:m'.above x.1=m.above x.1:=by
  refine zEa (hs'.filter _).ltP (hs.filter _).ltP fun y=>?_;unfold Prs.above;rw [List.mem_filter,List.mem_filter];constructor
  ·rintro ⟨a,b⟩;exact ⟨(h y fun e=>by rw [e,h1] at b;cases b).1 a,b⟩
  ·rintro ⟨a,b⟩;exact ⟨(h y fun e=>by rw [e,h1] at b;cases b).2 a,b⟩
 have hi:m'.inside x.1=m.inside x.1:=by
  rw [Bool.eq_iff_iff,XZ,XZ];constructor
  ·rintro ⟨y,a,b,c⟩;exact ⟨y,(h y fun e=>by rw [e,h2] at c;cases c).1 a,b,c⟩
  ·rintro ⟨y,a,b,c⟩;exact ⟨y,(h y fun e=>by rw [e,h2] at c;cases c).2 a,b,c⟩
 unfold wP;rw [ha,hi]
theorem zDu {T:Prs} {C:List Nat} {most:Nat} (h:TOk T C most) {p:Pf} {x:Pf×Int} (hx:x∈(Zf T p).1):x∈T/\p.covers x.1=false/\x.1.covers p=false:=by
 obtain ⟨s1,s2⟩:=wM h.uq;unfold Zf at hx;split at hx
 ·rename_i ha
  obtain ⟨g1,g2⟩:=List.mem_filter.1 hx;refine ⟨g1,by simpa using g2,?_⟩
  cases hc:x.1.covers p with
  | false=>rfl
  | true=>
   have:x∈(srtT T).above p:=List.mem_filter.2 ⟨s2.mem_iff.2 g1,hc⟩
   rw [ha] at this;cases this
 ·rename_i ha
  obtain ⟨g1,g2⟩:=List.mem_filter.1 hx;have g2:x.1.covers p=false:=by simpa using g2
  refine ⟨g1,?_,g2⟩;cases hc:p.covers x.1 with
  | false=>rfl
  | true=>
   obtain ⟨y,hy⟩:=List.exists_mem_of_ne_nil _ ha;obtain ⟨y1,y2⟩:=List.mem_filter.1 hy;have e:=ZR h.sane h.apart (s2.mem_iff.1 y1) g1 (Vv y2 hc);rw [e,g2] at y2;cases y2
theorem inst_mem {T:Prs} {C:List Nat} {most:Nat} {pol:Int} {x:Pf×Int} {soft:Bool} {y:Pf×Int} (h:y∈(tInst T C most pol x soft).T):y∈T∨y=x:=by
 unfold tInst at h;split at h
 ·exact .inl h
 ·split at h
  ·exact .inl h
  ·dsimp only at h;split at h
   ·rcases List.mem_cons.1 h with e|e
    ·exact .inr e
    ·exact .inl (List.mem_filter.1 e).1
   ·rcases List.mem_cons.1 h with e|e
    ·exact .inr e
    ·exact .inl (List.mem_filter.1 (List.mem_filter.1 e).1).1
structure GoodH (h:HSt):Prop where
 t:∀ x∈h.T,wP h.m x=true
 q:∀ e∈h.Q,e.st=false->wP h.m e.x=true
theorem zLK {m:Prs} {Q:List QE} {bound:Nat} {a:Ad} {e:QE} (h:e∈(zDc m Q bound a).1):e∈Q∨wP m e.x=true:=by
 unfold zDc at h;split at h
 ·exact .inl h
 ·rename_i x hx
  unfold Wd at h;split at h
  ·exact .inl h
  ·split at h
   ·exact .inl h
   ·rcases List.mem_append.1 h with h|h
    ·exact .inl h
    ·rw [List.mem_singleton.1 h];exact .inr (zCj hx)
theorem GoodH.look {h:HSt} (g:GoodH h) (a:Ad):GoodH (hLook h a).h:=by
 unfold hLook;split
 ·exact ⟨g.t,fun e he hs=>(zLK he).elim (fun k=>g.q e k hs) id⟩
 ·rename_i x hx
  refine ⟨fun y hy=>?_,g.q⟩;have hy:y∈(zFo h.T h.C a).1:=hy;unfold zFo at hy;rw [hx] at hy;rcases List.mem_cons.1 hy with rfl|hy
  ·exact g.t _ (List.mem_of_find?_eq_some hx)
  ·exact g.t _ (Zk.1 hy).1
theorem GoodH.upd {h:HSt} (g:GoodH h) (hh:HOk h) {p:Pf} {e:Int} {m':Prs} (hs':Srt m') (hm:e=0->∀ y:Pf×Int,y.1≠p->(y∈m'↔y∈h.m)):GoodH (YL h p e m').h:=by
 unfold YL;split
 ·exact g
 ·rename_i he
  have he:e=0:=Classical.not_not.1 he;refine ⟨fun x hx=>?_,fun q hq hs=>?_⟩
  ·obtain ⟨x1,x2,x3⟩:=zDu hh.t hx;rw [show wP m' x=wP h.m x from zFQ hh.srt hs' (hm he) x2 x3];exact g.t x x1
  ·have hq:q∈ZH h.Q p:=hq;unfold ZH at hq;obtain ⟨q0,q1,rfl⟩:=List.mem_map.1 hq;unfold wJ at hs ⊢;split at hs
   ·cases hs
   ·rename_i hn
    rw [if_neg hn];rw [Bool.not_eq_true,Bool.or_eq_false_iff] at hn;show wP m' q0.x=true;rw [zFQ hh.srt hs' (hm he) hn.1 hn.2];exact g.q q0 q1 hs
theorem zHI {most hops:Nat} {m:Prs} (hs:Srt m) {p:Pf} {hop:Int} (he:(ribAdd most hops m p hop).1=0) (y:Pf×Int) (hy:y.1≠p):y∈(ribAdd most hops m p hop).2↔y∈m:=by
 have hp:=Jf he;unfold ribAdd at he ⊢;split
 ·exact Iff.rfl
 ·split
  ·exact Iff.rfl
  ·split
   ·exact Iff.rfl
   ·show y∈m.ins p hop↔_;rw [Yz hs hp];constructor
    ·rintro (e|e)
     ·exact absurd (congrArg Prod.fst e) hy
     ·exact e.1
    ·exact fun e=>.inr ⟨e,hy⟩
theorem GoodH.add {h:HSt} (g:GoodH h) (hh:HOk h) (p:Pf) (hop:Int):GoodH (zHp h p hop).h:=
 g.upd hh (Qp hh.srt hh.len).1 fun he=>zHI hh.srt he
theorem GoodH.withdraw {h:HSt} (g:GoodH h) (hh:HOk h) (p:Pf):GoodH (xS h p).h:=
 g.upd hh (hh.srt.filter _) fun _ y hy=>by
  rw [Zk];exact ⟨fun e=>e.1,fun e=>⟨e,hy⟩⟩
theorem GoodH.pick {h:HSt} (g:GoodH h) (n:Int):GoodH (hPick h n).h:=by
 unfold hPick;split
 ·exact g
 ·split
  ·exact g
  ·rename_i e he
   have hq:∀ q∈h.Q.eraseIdx n.toNat,q.st=false->wP h.m q.x=true:=fun q hq hs=>g.q q ((List.eraseIdx_sublist ..).subset hq) hs;split
   ·exact ⟨g.t,hq⟩
   ·rename_i x hx
    refine ⟨fun y hy=>?_,hq⟩;rcases inst_mem hy with h1|rfl
    ·exact g.t y h1
    ·unfold Yg at hx;split at hx
     ·exact zCj hx
     ·rename_i hs
      cases hx
      exact g.q e (List.mem_of_getElem? he) (by simpa using hs)
theorem GoodH.soft {h:HSt} (g:GoodH h) (x:Pf×Int):GoodH (Xu h x).1:=by
 unfold Xu;split
 ·exact g
 ·rename_i hx
  refine ⟨fun y hy=>?_,g.q⟩;rcases inst_mem hy with h1|rfl
  ·exact g.t y h1
  ·simpa using hx
theorem GoodH.run:∀ {l:Prs} {h:HSt},GoodH h->GoodH (YY Vc h l).1
 | [],_,g=>g
 | x::l,_,g=>GoodH.run (l:=l) (g.soft x)
theorem GoodH.pfPick {h:HSt} (g:GoodH h) (k n:Int):GoodH (pfPick h k n).h:=by
 unfold Go.Proofs.YtjcbjclhagobiaaGreat.pfPick;split
 ·exact g.pick k
 ·exact (g.pick k).run
theorem judgeP_h (h:HSt) (l:List Nat):(judgeP h l).1=h∨(judgeP h l).1=(hLook h (pdP l).to).h:=by
 unfold judgeP;split
 ·exact .inl rfl
 ·split
  ·exact .inr rfl
  ·split
   ·exact .inr rfl
   ·split
    ·exact .inr rfl
    ·exact .inr rfl
theorem GoodH.decide {h:HSt} (g:GoodH h) (l:List Nat):GoodH (vN h l).1:=by
 have:GoodH (judgeP h l).1:=by
  rcases judgeP_h h l with e|e <;> rw [e]
  ·exact g
  ·exact g.look _
 exact ⟨this.t,this.q⟩
theorem GoodH.step {e:En} (g:GoodH e.h) (hh:HOk e.h) (s:Sp):GoodH (eStep e s).1.h:=by
 unfold eStep;split;· exact g.decide _
 split;· exact g.add hh _ _
 split;· exact g.withdraw hh _
 split;· exact g
 split;· exact g
 split;· exact g.pfPick _ _
 split;· exact ⟨fun x hx=>g.t x (Zk.1 hx).1,g.q⟩
 split;· exact GoodH.run g
 split;· exact ⟨g.t,g.q⟩
 split;· exact g
 exact g
theorem GoodH.new {c:Cfg}:GoodH (Jw c).h:=⟨(fun x h=>by cases h),(fun x h=>by cases h)⟩
theorem zGE {T:Prs} {C:List Nat} {most:Nat} (h:TOk T C most):(srtT T).Pairwise zFV:=
 ((wM h.uq).2.pairwise_iff (fun {x y} k=>⟨k.2,k.1⟩)).2 h.apart
end Go.Proofs.YtjcbjclhagobiaaGreat
end
section
namespace Go.Proofs.YtjcbjclhagobiaaGreat
open Go Go.KL Go.KM
theorem zCp {n:Int} {q:Bool}:yT (yT n q:Int) q=yT n q:=by unfold yT;omega
theorem zJW {a:Ad} {n:Int}:(ofP a n).has a=true:=by
 unfold Pf.has;rw [ZO,Bool.true_and];refine decide_eq_true (Pf.ext ?_ ?_)
 ·show a.cut (yT n a.v6)=a.cut (yT (yT n a.v6:Int) a.v6);rw [zCp]
 ·show ((yT n a.v6:Nat):Int)=((yT (yT n a.v6:Int) a.v6:Nat):Int);rw [zCp]
theorem Zo {m:Prs} {a:Ad}:∀ {k:Nat} {n:Int},(yW m a k n).has a=true
 | 0,_=>zJW
 | k+1,n=>by
  unfold yW;split
  ·exact Zo
  ·exact zJW
theorem zLC {p:Pf} {a:Ad} (h:p.has a=true):p.sane=true:=by
 unfold Pf.has at h;rw [Bool.and_eq_true] at h;exact h.1
theorem zOX {p q:Pf} {a:Ad} (h:p.covers q=true) (hq:q.has a=true):p.has a=true:=by
 obtain ⟨s1,s2⟩:=xQ h;rw [<-ZZ s1];rw [<-ZZ s2] at hq;exact Vv h hq
theorem zFg {m:Prs} {a:Ad} {x:Pf×Int} (h:ZK m a=some x):x.1.has a=true:=by
 unfold ZK governed at h;rw [Option.map_eq_some_iff] at h;obtain ⟨y,h1,rfl⟩:=h;exact Zo
theorem zLe {m:Prs} {a:Ad} {x:Pf×Int} (h:ZK m a=some x):∃ y∈m,y.2=x.2:=by
 unfold ZK governed at h;rw [Option.map_eq_some_iff] at h;obtain ⟨y,h1,rfl⟩:=h;exact ⟨y,(List.mem_filter.1 (List.mem_of_getLast? h1)).1,rfl⟩
theorem zI8 {m:Prs} {a:Ad} (h:ZK m a=none):YP m a=none:=by
 unfold ZK governed at h;unfold YP governed;rw [Option.map_eq_none_iff,List.getLast?_eq_none_iff] at h ⊢;rw [List.eq_nil_iff_forall_not_mem] at h ⊢;intro y hy;obtain ⟨y1,y2⟩:=List.mem_filter.1 hy;have hw:(widest m a 0).has a=true:=Zo;rw [<-ZZ Yd] at hw;rcases covers_line y2 hw with g|g
 ·exact h y (List.mem_filter.2 ⟨y1,g⟩)
 ·by_cases e:y.1=widest m a 0
  ·exact h y (List.mem_filter.2 ⟨y1,by rw [e];exact ZU Yd⟩)
  ·have:=XZ.2 ⟨y,y1,e,g⟩
   rw [show m.inside (widest m a 0)=false from ZE] at this;cases this
theorem zDz {T:Prs} {a:Ad}:(WF T a).isSome=true↔∃ y∈T,y.1.has a=true:=by
 unfold WF;rw [List.find?_isSome]
structure HopH (m:Prs):Prop where
 h:∀ y∈m,0<=y.2/\y.2<=65535
theorem HopH.del {m:Prs} (g:HopH m) (p:Pf):HopH (m.del p):=⟨fun y hy=>g.h y (Zk.1 hy).1⟩
theorem HopH.add {m:Prs} (g:HopH m) (hs:Srt m) {most hops:Nat} (p:Pf) (hop:Int):HopH (ribAdd most hops m p hop).2:=by
 unfold ribAdd;split
 ·exact g
 ·rename_i hp
  split
  ·exact g
  ·rename_i ho
   split
   ·exact g
   ·refine ⟨fun y hy=>?_⟩;rcases (Yz hs (by simpa using hp)).1 hy with rfl|hy
    ·show 0<=hop/\hop<=65535;omega
    ·exact g.h y hy.1
theorem hUpd_cases {h:HSt} {p:Pf} {e:Int} {m':Prs}:(YL h p e m').h.m=h.m∨(YL h p e m').h.m=m':=by
 unfold YL;split
 ·exact .inl rfl
 ·exact .inr rfl
theorem zNY (h:HSt) (a:Ad):(hLook h a).h.m=h.m:=by
 unfold hLook;split <;> rfl
theorem zKB (h:HSt) (n:Int):(hPick h n).h.m=h.m:=by
 unfold hPick;split
 ·rfl
 ·split
  ·rfl
  ·split <;> rfl
theorem zMu (h:HSt) (x:Pf×Int):(Xu h x).1.m=h.m:=by
 unfold Xu;split <;> rfl
theorem zNB:∀ {l:Prs} {h:HSt},(YY Vc h l).1.m=h.m
 | [],_=>rfl
 | x::l,h=>(zNB (l:=l) (h:=(Vc h x).1)).trans (zMu h x)
theorem zFk (h:HSt) (k n:Int):(pfPick h k n).h.m=h.m:=by
 unfold pfPick;split
 ·exact zKB h k
 ·exact (zNB (h:=(hPick h k).h)).trans (zKB h k)
theorem zH0 (h:HSt) (l:List Nat):(vN h l).1.m=h.m:=by
 show (judgeP h l).1.m=h.m;rcases judgeP_h h l with e|e <;> rw [e];exact zNY _ _
theorem HopH.step {e:En} (g:HopH e.h.m) (hh:HOk e.h) (s:Sp):HopH (eStep e s).1.h.m:=by
 unfold eStep;split;· show HopH (vN e.h s.pkt).1.m;rw [zH0];exact g
 split;·
      rcases hUpd_cases (h:=e.h) (p:=s.p) (e:=(ribAdd e.h.rmost e.h.rhops e.h.m s.p s.hop).1) (m':=(ribAdd e.h.rmost e.h.rhops e.h.m s.p s.hop).2) with k|k
      ·show HopH (zHp e.h s.p s.hop).h.m;unfold zHp;rw [k];exact g
      ·show HopH (zHp e.h s.p s.hop).h.m;unfold zHp;rw [k];exact g.add hh.srt s.p s.hop
 split;·
      rcases hUpd_cases (h:=e.h) (p:=s.p) (e:=delE e.h.m s.p) (m':=e.h.m.del s.p) with k|k
      ·show HopH (xS e.h s.p).h.m;unfold xS;rw [k];exact g
      ·show HopH (xS e.h s.p).h.m;unfold xS;rw [k];exact g.del s.p
 split;· exact g
 split;· exact g
 split;· show HopH (pfPick e.h s.n e.fetch).h.m;rw [zFk];exact g
 split;· exact g
 split;· show HopH (YY Vc e.h _).1.m;rw [zNB];exact g
 split;· exact g
 split;· exact g
 exact g
theorem zGH {T:Prs} {C:List Nat} {most:Nat} {pol:Int} (ht:TOk T C most) {x y:Pf×Int} (h:y∈T):y∈(tInst T C most pol x true).T:=by
 obtain ⟨s1,s2⟩:=wM ht.uq;by_cases h1:most=0∨wgood x=false∨(srtT T).above x.1≠[]
 ·rw [Zy h1];exact h
 by_cases h2:true=true/\((srtT T).under x.1≠[]∨most<=T.length)
 ·rw [JB h2];exact h
 rw [Wj h1 h2];have h2:¬ ((srtT T).under x.1≠[]∨most<=T.length):=fun e=>h2 ⟨rfl,e⟩;rw [not_or] at h2;have hu:(srtT T).under x.1=[]:=Classical.not_not.1 h2.1;have hT:T.filter (fun y=>!x.1.covers y.1)=T:=by
  rw [List.filter_eq_self];intro z hz;cases hc:x.1.covers z.1 with
  | false=>rfl
  | true=>
   have:z∈(srtT T).under x.1:=List.mem_filter.2 ⟨s2.mem_iff.2 hz,hc⟩
   rw [hu] at this;cases this
 rw [hT,if_neg h2.2];exact List.mem_cons_of_mem _ h
theorem zD0 {h:HSt} (hh:HOk h) {x y:Pf×Int} (g:y∈h.T):y∈(Xu h x).1.T:=by
 unfold Xu;split
 ·exact g
 ·exact zGH hh.t g
theorem zCn:∀ {l:Prs} {h:HSt},HOk h->∀ {y:Pf×Int},y∈h.T->y∈(YY Vc h l).1.T
 | [],_,_,_,g=>g
 | x::l,_,hh,_,g=>zCn (l:=l) (hh.soft x) (zD0 hh g)
theorem zF5 {T:Prs} {C:List Nat} {most:Nat} {pol:Int} (ht:TOk T C most) (hm:0<most) {x:Pf×Int} (hx:wgood x=true) {a:Ad} (ha:x.1.has a=true):∃ y∈(tInst T C most pol x false).T,y.1.has a=true:=by
 obtain ⟨s1,s2⟩:=wM ht.uq;by_cases h1:most=0∨wgood x=false∨(srtT T).above x.1≠[]
 ·rw [Zy h1];have h1:(srtT T).above x.1≠[]:=by
   rcases h1 with e|e|e
   ·omega
   ·rw [hx] at e;cases e
   ·exact e
  obtain ⟨y,hy⟩:=List.exists_mem_of_ne_nil _ h1;obtain ⟨y1,y2⟩:=List.mem_filter.1 hy;exact ⟨y,s2.mem_iff.1 y1,zOX y2 ha⟩
 ·rw [Wj h1 (fun e=>by cases e.1)]
  generalize (if most<=(T.filter fun y=>!x.1.covers y.1).length then VR pol C (T.filter fun y=>!x.1.covers y.1) else none)=V;cases V with
  | none=>exact ⟨x,List.mem_cons_self,ha⟩
  | some v=>exact ⟨x,List.mem_cons_self,ha⟩
theorem zLm {h:HSt} (hh:HOk h) (ho:HopH h.m) (hm:0<h.tmost) {k:Nat} {e:QE} (he:h.Q[k]?=some e) (n:Int):(pfPick h (k:Int) n).r.done=true/\((WF (pfPick h (k:Int) n).h.T e.a).isSome=true∨YP h.m e.a=none):=by
 have hk:k<h.Q.length:=(List.getElem?_eq_some_iff.1 he).1;have hfit:=hh.q.fits e (List.mem_of_getElem? he);obtain ⟨_,f2,f3⟩:=vR hfit;have hp:hPick h (k:Int)=match Yg h.m e with
  | none=>⟨{ h with Q:=h.Q.eraseIdx (k:Int).toNat,S:=h.S.bump 7 1 },true,prZ,[],[]⟩
  | some x=>
   ⟨{ h with Q:=h.Q.eraseIdx (k:Int).toNat,T:=(tInst h.T h.C h.tmost h.pol x false).T,C:=(tInst h.T h.C h.tmost h.pol x false).C,S:=if (tInst h.T h.C h.tmost h.pol x false).in_ then (((h.S.bump 7 1).bump 8 1).bump 9 (tInst h.T h.C h.tmost h.pol x false).absorbed.length).bump 10 (tInst h.T h.C h.tmost h.pol x false).out.length else h.S.bump 7 1 },true,x,(tInst h.T h.C h.tmost h.pol x false).absorbed,(tInst h.T h.C h.tmost h.pol x false).out⟩:=by
  unfold hPick;rw [if_neg (by omega),Int.toNat_natCast,he]
  dsimp only;cases Yg h.m e <;> rfl
 have hdone:(hPick h (k:Int)).done=true:=by
  rw [hp];split <;> rfl
 have hbase:(∃ y∈(hPick h (k:Int)).h.T,y.1.has e.a=true)∨YP h.m e.a=none:=by
  rw [hp];split
  ·rename_i hs
   right
   unfold Yg at hs;split at hs
   ·exact zI8 hs
   ·cases hs
  ·rename_i x hs
   left
   unfold Yg at hs;split at hs
   ·obtain ⟨y,y1,y2⟩:=zLe hs;have:=ho.h y y1
    refine zF5 hh.t hm ?_ (zFg hs);unfold wgood;rw [zLC (zFg hs),decide_eq_true (by omega:0<=x.2),decide_eq_true (by omega:x.2<=65535)]
    rfl
   ·cases hs
    exact zF5 hh.t hm f2 f3
 unfold pfPick;split
 ·refine ⟨hdone,hbase.imp (fun g=>zDz.2 g) id⟩
 ·refine ⟨hdone,hbase.imp (fun ⟨y,y1,y2⟩=>zDz.2 ⟨y,?_,y2⟩) id⟩;exact zCn (hh.pick _) y1
theorem zEN {Q:List QE} {bound:Nat} {a:Ad} {x:Pf×Int}:(Wd Q bound a x).2≠4:=by
 unfold Wd;split
 ·show (1:Int)≠4;decide
 ·split
  ·show (2:Int)≠4;decide
  ·show (3:Int)≠4;decide
theorem zH9 {m:Prs} {Q:List QE} {bound:Nat} {a:Ad}:(zDc m Q bound a).2≠4:=by
 unfold zDc;split
 ·show (0:Int)≠4;decide
 ·exact zEN
theorem zFM (h:HSt) (a:Ad):decide ((hLook h a).c=4)=(WF h.T a).isSome:=by
 unfold hLook;split
 ·rename_i hf
  rw [hf];exact decide_eq_false zH9
 ·rename_i x hf
  rw [hf];rfl
theorem zNI {h:HSt} {a:Ad} (hx:(WF h.T a).isSome=true∨YP h.m a=none):(hLook h a).y.isSome=(WF h.T a).isSome:=by
 unfold hLook;split
 ·rename_i hf
  rw [hf] at hx ⊢;rcases hx with e|e
  ·cases e
  ·rw [e]
 ·rename_i x hf
  rw [hf];rfl
theorem zM3 {T:Prs} {C:List Nat} {most:Nat} (ht:TOk T C most) {a:Ad}:((srtT T).any fun y=>y.1.has a)=(WF T a).isSome:=by
 rw [Bool.eq_iff_iff,zDz,List.any_eq_true];have:=(wM ht.uq).2
 constructor
 ·rintro ⟨y,h1,h2⟩;exact ⟨y,this.mem_iff.1 h1,h2⟩
 ·rintro ⟨y,h1,h2⟩;exact ⟨y,this.mem_iff.2 h1,h2⟩
end Go.Proofs.YtjcbjclhagobiaaGreat
end
