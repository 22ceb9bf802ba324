/- Texts joined by a program of ours: Gn Vi Vk. -/
import Derived.Test.YtjcbjclhagobiaaGreatJap
import Derived.Test.YtjcbjclhagobiaaGreatJaq
import Derived.Test.YtjcbjclhagobiaaGreatJar
set_option linter.all false
section
namespace Go.Proofs.YtjcbjclhagobiaaGreat
set_option maxHeartbeats 1600000
open Go Go.KL Go.KM
variable {E:Env} {X:Xs}
set_option maxRecDepth 100000
set_option maxHeartbeats 4000000 in
theorem zNn (c:Cfg) (cb:Option Addr) (ck:Nat) (base:Option Addr) (cap:Nat) (l:List SpV) (hok:InOk c l) (hE:E.main=true):KL.Does PR E (XM PR E) 9 [zJy c cb ck,.slice base l.length cap] [blk E.tok yY,rsl cb ck 1 (c.pre.map fun x=>[u64 x]),rsl base cap 8 (l.map SpV.cells),rpk l]
  (fun v t=>v=.bool true/\t=[blk E.tok yY]):=by
 refine KL.Does.of 129 inferInstance rfl (by decide) rfl ?_
 refine zB ?_;refine zU fun b2=>?_;refine zB ?_;refine call (VW hE) ?_;rintro _ _ ⟨rfl,rfl⟩;refine zB ?_;refine call (QM c cb ck base cap l) ?_;rintro _ _ ⟨rfl,rfl⟩;refine zB ?_;rcases hf:zGG c l with _|_
 ·refine yes ?_ rfl rfl;refine zB ?_;refine ret ?_;exact ends ⟨rfl,rfl⟩
 ·refine no ?_ rfl rfl;refine zB ?_;obtain ⟨f1,f2,f3⟩:=zFW hf;have hl:l.length<=100000:=by omega
  refine call (Wx c cb ck base cap l hl) ?_;rintro _ _ ⟨b',c',rfl,rfl⟩;refine zB ?_;refine alloc fun b6=>?_;refine zB ?_;refine call (zCs c cb ck (by omega)) ?_
  rintro _ _ ⟨eb,rfl,rfl⟩;refine zB ?_;refine loop (ι:=Nat×En) (fun z=>l.length-z.1) (fun z=>z.1<=l.length/\EnOk z.2/\GoodH z.2.h) (fun z=>[(5,.bool true),(7,.slice b' l.length c'),(8,pt eb),(9,.int .i64 (z.1:Int))]) (fun z=>[zGh eb z.2,blk E.tok yY,rsl b' c' 8 (l.map SpV.cells),rpk l]) (0,Jw c) ⟨Nat.zero_le _,EnOk.new hok.pre,GoodH.new⟩ ?_;rintro ⟨i,e⟩ ⟨hi,he,hg⟩ ih;(try dsimp only at hi he hg ih ⊢);rcases Nat.lt_or_ge i l.length with h2|h2
  ·obtain ⟨x,hx0⟩:∃ x,l[i]?=some x:=⟨l[i],List.getElem?_eq_getElem h2⟩;have hx:l[(i:Int).toNat]?=some x:=by rw [Int.toNat_natCast];exact hx0
   have hxm:=List.mem_of_getElem? hx0;have hxl:=f3 x hxm;refine zB ?_;refine yes ?_ rfl (decide_eq_true (by omega))
   refine zJg x hxm ?_;refine zB ?_;refine call (Xg eb e he x.1 x.2.1 x.2.2 (hok.b x hxm) (by omega)) ?_
   rintro _ _ ⟨q0,rfl,rfl⟩;have he':=he.step x.1 (by omega)
   have hg':=hg.step he.h x.1;have hnext:=ih (i+1,(eStep e x.1).1) ⟨by show i+1<=_;omega,he',hg'⟩ (by show l.length-(i+1)<l.length-i;omega)
   clear ih hg he;(try dsimp only at hnext);generalize (eStep e x.1).1=e' at he' hg' hnext ⊢;clear hx hx0 hxm hxl;refine YG (VB eb e') fun q=>?_;refine zB ?_;refine call (yN eb q e'.P.length e'.fetch) ?_;rintro _ _ ⟨rfl,rfl⟩;refine zB ?_;refine call (Yp q.hb e'.h he'.h) ?_;rintro _ _ ⟨rb,rc,ob,oc,rfl,rfl⟩;refine zB ?_;refine call (yN eb q e'.P.length e'.fetch) ?_;rintro _ _ ⟨rfl,rfl⟩;refine YG (xH q.hb e'.h) fun hq=>?_;refine zB ?_;refine call (zAP q.hb hq e'.h.Q.length e'.h.bound e'.h.S) ?_;rintro _ _ ⟨rfl,rfl⟩;refine zB ?_;refine alloc fun b12=>?_;have hml:=he'.h.len;have hrm:=he'.h.rm;have hRs:∀ x∈srtT e'.h.T,x.1.sane=true:=fun x hx=>he'.h.t.sane x ((wM he'.h.t.uq).2.mem_iff.1 hx);have hRg:∀ x∈srtT e'.h.T,wP e'.h.m x=true:=fun x hx=>hg'.t x ((wM he'.h.t.uq).2.mem_iff.1 hx);have hRa:=zGE he'.h.t;have hRl:(srtT e'.h.T).length<=1024:=by rw [(wM he'.h.t.uq).2.length_eq];have:=he'.h.t.len;have:=he'.h.t.most;omega
   have hQl:e'.h.Q.length<=1024:=by have:=he'.h.q.len;have:=he'.h.q.most;omega
   have hff:false=false:=rfl;have htt:true=true:=rfl;refine zB ?_;generalize srtT e'.h.T=R at hRs hRg hRa hRl ⊢;refine loop (ι:=Nat) (fun k=>R.length-k) (fun k=>k<=R.length) (fun k=>[(5,.bool true),(7,.slice b' l.length c'),(8,pt eb),(9,.int .i64 (i:Int)),(10,.slice rb R.length rc),(12,pt b12),(13,.int .i64 (k:Int))])
    (fun _=>[box b12 [.slice hq.qb e'.h.Q.length hq.qc,.int .i64 (e'.h.bound:Int)] 99,YA q.hb hq e'.h.Q.length e'.h.bound e'.h.S,ZJ hq.r e'.h.m e'.h.rmost e'.h.rhops,Ju hq.t e'.h.T e'.h.tmost e'.h.pol e'.h.C,rsl hq.qb hq.qc 9 (e'.h.Q.map qeC),zMY eb q e'.P.length e'.fetch,osl rb rc 54 5 (R.map prC),rsl q.pb q.pc 3 (e'.P.map ptC),blk E.tok yY,rsl b' c' 8 (l.map SpV.cells),rpk l]) 0 (Nat.zero_le _) ?_
   rintro k hk ih;(try dsimp only at hk ih ⊢);rcases Nat.lt_or_ge k R.length with h3|h3
   ·obtain ⟨x,hx0⟩:∃ x,R[k]?=some x:=⟨R[k],List.getElem?_eq_getElem h3⟩;have hx:R[((k:Nat):Int).toNat]?=some x:=by rw [Int.toNat_natCast];exact hx0
    have hxm:=List.mem_of_getElem? hx0;have hxg:=hRg x hxm;refine zB ?_;refine yes ?_ rfl (decide_eq_true (by omega))
    refine zB ?_;by_cases h0:k=0
    ·subst h0;refine draw [0,1,3,0,0,24,56,127,255,511,1023,2047,4095,8191,8191,24575,65535,131071,262143,8191,8191,1581055,3678207,7872511,16777215,33554431,67108863,134217727] [1,2,7,24] [5,6,16,18,21,23] [0,3,4,5,6,1,2,7,8,9,10,11,12,13,14,15,16,17,18,19,20,21,22,23,24,25,26,27] ?_;refine zC ?_;refine call (yN eb q e'.P.length e'.fetch) ?_;rintro _ _ ⟨rfl,rfl⟩;try refine zJ ?_
     refine zC ?_;refine call (wD q.hb hq e'.h.Q.length e'.h.bound e'.h.S) ?_;rintro _ _ ⟨rfl,rfl⟩;try refine zJ ?_
     refine zC ?_;refine call (YH hq.r e'.h.rmost e'.h.rhops e'.h.m (by omega) x (hRs x hxm)) ?_
     rintro _ _ ⟨rfl,rfl⟩;try refine zJ ?_
     refine zC ?_;refine no ?_ rfl (by rw [hxg];rfl)
     refine zB ?_;exact next (ih 1 (by omega) (by omega))
    ·obtain ⟨y,hy0⟩:∃ y,R[k-1]?=some y:=⟨R[k-1]'(by omega),List.getElem?_eq_getElem (by omega)⟩
     have hw:IntKind.i64.wrap ((k:Int)-1)=(k:Int)-1:=zK (by omega)
     have hy:R[((k:Int)-1).toNat]?=some y:=by rw [show ((k:Int)-1).toNat=k-1 by omega];exact hy0
     have hym:=List.mem_of_getElem? hy0;have hap:y.1.apart x.1=true:=by
      refine zKf (hRs y hym) (hRs x hxm) ?_;obtain ⟨g1,e1⟩:=List.getElem?_eq_some_iff.1 hy0;obtain ⟨g2,e2⟩:=List.getElem?_eq_some_iff.1 hx0;rw [<-e1,<-e2];exact List.pairwise_iff_getElem.1 hRa (k-1) k g1 g2 (by omega)
     have hb:decide ((0:Int)<(k:Int))=true:=decide_eq_true (by omega)
     refine draw [0,1,3,0,0,24,56,127,255,511,1023,2047,4095,8191,8191,24575,65535,131071,262143,8191,8191,1581055,3678207,7872511,16777215,33554431,67108863,134217727] [1,2,7,24] [5,6,16,18,21,23] [0,3,4,5,6,1,2,7,8,9,10,11,12,13,14,15,16,17,18,19,20,21,22,23,24,25,26,27] ?_;refine zC ?_;refine call (yN eb q e'.P.length e'.fetch) ?_;rintro _ _ ⟨rfl,rfl⟩;try refine zJ ?_
     refine zC ?_;refine call (wD q.hb hq e'.h.Q.length e'.h.bound e'.h.S) ?_;rintro _ _ ⟨rfl,rfl⟩;try refine zJ ?_
     refine zC ?_;refine call (YH hq.r e'.h.rmost e'.h.rhops e'.h.m (by omega) x (hRs x hxm)) ?_
     rintro _ _ ⟨rfl,rfl⟩;try refine zJ ?_
     refine zC ?_;refine dorc (y:=!(y.1.apart x.1)) (fun h gk=>?_) ?_
     ·refine zC ?_;refine call (zHg y.1 x.1) ?_;rintro _ _ ⟨rfl,rfl⟩;try refine zJ ?_
      exact Wg
     refine ddA ?_;refine no ?_ rfl (by rw [hxg,hap];rfl)
     refine zB ?_;exact next (ih (k+1) (by omega) (by omega))
   ·have:k=R.length:=by omega
    subst this;refine zB ?_;refine no ?_ rfl (decide_eq_false (by omega))
    refine zB ?_;have hQg:∀ y∈e'.h.Q,y.st=false->wP e'.h.m y.x=true:=hg'.q;have hQf:∀ y∈e'.h.Q,VN y.a y.x=true:=he'.h.q.fits;obtain ⟨n,hn⟩:∃ n,n=e'.h.Q.length:=⟨_,rfl⟩;rw [<-hn];refine loop (ι:=Nat) (fun k=>n-k) (fun k=>k<=n) (fun k=>[(5,.bool true),(7,.slice b' l.length c'),(8,pt eb),(9,.int .i64 (i:Int)),(12,pt b12),(14,.int .i64 (k:Int))])
     (fun _=>[box b12 [.slice hq.qb n hq.qc,.int .i64 (e'.h.bound:Int)] 99,YA q.hb hq n e'.h.bound e'.h.S,ZJ hq.r e'.h.m e'.h.rmost e'.h.rhops,Ju hq.t e'.h.T e'.h.tmost e'.h.pol e'.h.C,rsl hq.qb hq.qc 9 (e'.h.Q.map qeC),zMY eb q e'.P.length e'.fetch,rsl q.pb q.pc 3 (e'.P.map ptC),blk E.tok yY,rsl b' c' 8 (l.map SpV.cells),rpk l]) 0 (Nat.zero_le _) ?_
    rintro k hk ih;(try dsimp only at hk ih ⊢);rcases Nat.lt_or_ge k n with h3|h3
    ·obtain ⟨x,hx0⟩:∃ x,e'.h.Q[k]?=some x:=⟨e'.h.Q[k]'(by omega),List.getElem?_eq_getElem (by omega)⟩
     have hx:e'.h.Q[((k:Nat):Int).toNat]?=some x:=by rw [Int.toNat_natCast];exact hx0
     have hxm:=List.mem_of_getElem? hx0;obtain ⟨_,fw,fh⟩:=vR (hQf x hxm);refine zB ?_;refine yes ?_ rfl (decide_eq_true (by omega))
     refine zB ?_;have hap:x.x.1.has x.a=true:=fh;rcases hst:x.st with _|_
     ·have hxg:=hQg x hxm hst;have hsn:(!x.st)=true:=by rw [hst];rfl
      have hgn:(!wP e'.h.m x.x)=false:=by rw [hxg];rfl
      refine draw [0,1,0,7,15,31,63,127,255,511,1023,255,2303,255,14591,30975,63743,131071,262143,524287,1048575,2097151,4194303,2097151,16777215,33554431,67108863,134217727,2097151,270532607,2097151,1881145343,4028628991,8323596287,17179869183,34359738367,68719476735] [9,10,17,34] [1,3,5,12,14,16,22,24,27,29,31,33] [0,1,2,3,4,5,6,7,8,11,12,13,14,15,16,9,10,17,18,19,20,21,22,23,24,25,26,27,28,29,30,31,32,33,34,35,36] ?_;refine zC ?_;refine call (yN eb q e'.P.length e'.fetch) ?_;rintro _ _ ⟨rfl,rfl⟩;try refine zJ ?_
      refine zC ?_;refine call (wD q.hb hq n e'.h.bound e'.h.S) ?_;rintro _ _ ⟨rfl,rfl⟩;try refine zJ ?_
      refine zC ?_;refine call (YH hq.r e'.h.rmost e'.h.rhops e'.h.m (by omega) x.x (Zq fw)) ?_
      rintro _ _ ⟨rfl,rfl⟩;try refine zJ ?_
      refine zC ?_;refine call (Ye x.x.1 x.a) ?_;rintro _ _ ⟨rfl,rfl⟩;try refine zJ ?_
      refine ddA ?_;refine no ?_ rfl (by rw [hap];rfl)
      refine zB ?_;exact next (ih (k+1) (by omega) (by omega))
     ·have hsn:(!x.st)=false:=by rw [hst];rfl
      refine draw [0,1,0,7,15,31,63,127,255,511,1023,255,2303,255,14591,30975,63743,131071,262143,524287,1048575,2097151,4194303,2097151,16777215,33554431,67108863,134217727,2097151,270532607,2097151,1881145343,4028628991,8323596287,17179869183,34359738367,68719476735] [9,10,17,34] [1,3,5,12,14,16,22,24,27,29,31,33] [0,1,2,3,4,5,6,7,8,11,12,13,14,15,16,9,10,17,18,19,20,21,22,23,24,25,26,27,28,29,30,31,32,33,34,35,36] ?_;refine zC ?_;refine call (Ye x.x.1 x.a) ?_;rintro _ _ ⟨rfl,rfl⟩;try refine zJ ?_
      refine ddA ?_;refine no ?_ rfl (by rw [hap];rfl)
      refine zB ?_;exact next (ih (k+1) (by omega) (by omega))
    ·have:k=n:=by omega
     subst this;subst hn;refine zB ?_;refine no ?_ rfl (decide_eq_false (by omega))
     refine zE (xH q.hb e'.h) hq ?_;refine zE (VB eb e') q ?_;refine zB ?_;exact next hnext
  ·have:i=l.length:=by omega
   subst this;refine zB ?_;refine no ?_ rfl (decide_eq_false (by omega))
   refine zB ?_;refine ret ?_;exact ends ⟨rfl,rfl⟩
end Go.Proofs.YtjcbjclhagobiaaGreat
end
section
namespace Go.Proofs.YtjcbjclhagobiaaGreat
set_option maxHeartbeats 1600000
open Go
theorem zPx:Tryz.checked.prog.funcNamed "kedge/kedgetop.TopGood" = some 9:=by kernel_rfl
theorem zP0:(Rows.topGoodRow.inPlace == Tryz.checked.prog.inPlace 9)=true:=by kernel_rfl
theorem zP3:(Rows.topGoodRow.unfollowed == Tryz.checked.prog.unfollowed 9)=true:=by kernel_rfl
theorem zP5:(Rows.topGoodRow.recurses == Tryz.checked.prog.recurses 9)=true:=by kernel_rfl
theorem zP1:(Rows.topGoodRow.named == Tryz.checked.prog.varsNamed 9)=true:=by kernel_rfl
theorem zP6:(Rows.topGoodRow.plainKeys == Tryz.checked.prog.plainKeys)=true:=by rw [zHB];rfl
theorem zP2:(Rows.topGoodRow.lifted == Tryz.checked.prog.liftsFinal)=true:=by rw [zOL];rfl
theorem zP4:(Tryz.checked.prog.make == some Rows.topGoodRow.make)=true:=by rw [zO8];rfl
set_option maxRecDepth 100000 in
theorem zPt:joinedFacts Tryz.checked.prog 9 Tryz.f9 Rows.topGoodSpec Rows.topGoodRow=true:=by
 unfold joinedFacts;repeat' (with_reducible apply zPm)
 all_goals first
  | with_reducible exact zFy
  | with_reducible exact zGf
  | with_reducible exact zD3
  | with_reducible exact zIy
  | with_reducible exact zP0
  | with_reducible exact zP3
  | with_reducible exact zP5
  | with_reducible exact zP1
  | with_reducible exact zP6
  | with_reducible exact zP2
  | with_reducible exact zP4
  | kernel_rfl
end Go.Proofs.YtjcbjclhagobiaaGreat
end
section
namespace Go.Proofs.YtjcbjclhagobiaaGreat
set_option maxHeartbeats 1600000
open Go Go.KL Go.KM Go.ChangeShapes Go.WideShapes Go.RowKit Go.Conc
theorem zPs:Tryz.f9.params = #[32,33]:=by kernel_rfl
set_option maxRecDepth 100000 in
theorem zPu (os:Os) (started:os.Started) (H:Type) (enc:TypeId×Value->H) :
  ReturnsInLeavingWide {} Tryz.checked os 9 .any (Rows.topGoodSpec.pre6 enc Tryz.prog Tryz.f9 Rows.topGoodRow.domain false) (Rows.topGoodSpec.post enc Tryz.prog Tryz.f9 false true false false):=by
 refine zCi (C:=Tryz.checked) zPk started (by kernel_rfl)
  (ChangeSpec.witness6 (enc:=enc) (C:=Tryz.checked) false ⟨#[],#[.agg #[.int .i64 0,.int .i64 0,.int .i64 0,.int .i64 0,.int .i64 0,.int .i64 0,.slice none 0 0],.slice none 0 0],[]⟩ 8 (by kernel_rfl) (by kernel_rfl) (by kernel_rfl) (by kernel_rfl)) ?_
 intro W base args ds gs before hsh hval0 hW;have hval:∀ (j:Nat) t v,Tryz.f9.params[j]?=some t->args[j]?=some v->Value.okWide Tryz.prog W .any base t v:=hval0;have hW':=hW;obtain ⟨p,q,hA0,hV,rfl,hfz,hnd⟩:=hW;have hA:DataW.TrodAll enc Tryz.prog W 0 (fun _=>true) true Tryz.f9.params.toList args.toList ds p:=hA0;rw [zPs] at hA hval;obtain ⟨rfl,rfl⟩:=trodVars_none hV;obtain ⟨z1,z2⟩:=zK0 hsh;obtain ⟨c,cb,ck,b2,c2,l,ha,hin,hp,hd⟩:=zDw z2 hA hval;have hs:=zNn (E:=zN0 W) c cb ck b2 c2 l hin rfl;rw [<-ha] at hs;match ds,hd with
 | [d1,d2],_=>exact zK8 z1 hs (by kernel_rfl) hp zFy (by kernel_rfl) rfl (t:=4) (by kernel_rfl) zOH hW' rfl
theorem goods_holds:Rows.TopGoodSaid:=
 OpenClaim.holds_of_wide_leaving 9 Tryz.f9 rfl rfl rfl rfl rfl rfl rfl ⟨rfl,rfl,rfl,rfl,rfl⟩ rfl rfl rfl rfl rfl zPx (by kernel_rfl) zPt
  (of_decide_eq_true (by kernel_rfl)) (by unfold Func.isWrapper;first|(rw [if_pos (by decide +kernel)];kernel_rfl)|(rw [if_neg (by decide +kernel)];exact ⟨rfl,rfl⟩))
  (fun os started H enc _=>zPu os started H enc)
end Go.Proofs.YtjcbjclhagobiaaGreat
end
