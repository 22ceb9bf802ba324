/- Texts joined by a program of ours: Go Vj Vn. -/
import Derived.Test.YtjcbjclhagobiaaGreatJap
import Derived.Test.YtjcbjclhagobiaaGreatJas
set_option linter.all false
section
namespace Go.Proofs.YtjcbjclhagobiaaGreat
set_option maxHeartbeats 1600000
open Go Go.KL Go.KM
variable {E:Env} {X:Xs}
set_option maxRecDepth 100000
abbrev zMk (c:Cfg):Cfg:=⟨1+XX .i64 c.cap 15,c.pol,c.bound,c.n,c.h,c.fetch,c.pre⟩
set_option maxHeartbeats 4000000 in
theorem zNw (c:Cfg) (cb:Option Addr) (ck:Nat) (base:Option Addr) (cap:Nat) (l:List SpV) (n:Int) (base2:Option Addr) (cap2:Nat) (l2:List SpV) (hok:InOk c l) (hok2:InOk c l2) (hE:E.main=true):KL.Does PR E (XM PR E) 7 [zJy c cb ck,.slice base l.length cap,.int .i64 n,.slice base2 l2.length cap2] [blk E.tok yY,rsl cb ck 1 (c.pre.map fun x=>[u64 x]),rsl base cap 8 (l.map SpV.cells),rpk l,rsl base2 cap2 8 (l2.map SpV.cells),rpk l2]
  (fun v t=>v=.bool true/\t=[blk E.tok yY]):=by
 refine KL.Does.of 161 inferInstance rfl (by decide) rfl ?_
 refine zB ?_;refine zU fun b4=>?_;refine zB ?_;refine call (VW hE) ?_;rintro _ _ ⟨rfl,rfl⟩;refine zB ?_;refine call (QM c cb ck base cap l) ?_;rintro _ _ ⟨rfl,rfl⟩;refine zB ?_;refine orc (y:=!zGG c l2) (fun h gk=>?_) ?_
 ·refine zB ?_;refine call (QM c cb ck base2 cap2 l2) ?_;rintro _ _ ⟨rfl,rfl⟩;exact YD
 refine zB ?_;rcases hf:zGG c l with _|_
 ·refine yes ?_ rfl rfl;refine zB ?_;refine ret ?_;exact ends ⟨rfl,rfl⟩
 rcases hf2:zGG c l2 with _|_
 ·refine yes ?_ rfl rfl;refine zB ?_;refine ret ?_;exact ends ⟨rfl,rfl⟩
 refine no ?_ rfl rfl;obtain ⟨f1,f2,f3⟩:=zFW hf;obtain ⟨g1,_,g3⟩:=zFW hf2;have hl:l.length<=100000:=by omega
 have hl2:l2.length<=100000:=by omega
 have hcap:0<=XX .i64 c.cap 15/\XX .i64 c.cap 15<=15:=zMG (m:=15) (by decide)
 have hw:IntKind.i64.wrap (1+XX .i64 c.cap 15)=1+XX .i64 c.cap 15:=zK (by omega)
 refine zB ?_;refine alloc fun b10=>?_;refine zB ?_;refine call (Wx (zMk c) cb ck base cap l hl) ?_;rintro _ _ ⟨b',c',rfl,rfl⟩;refine zB ?_;refine alloc fun b11=>?_;refine zB ?_;refine call (Wx (zMk c) cb ck base2 cap2 l2 hl2) ?_;rintro _ _ ⟨b2',c2',rfl,rfl⟩;refine zB ?_;refine alloc fun b13=>?_;refine zB ?_;have hs:SpsOk l:=⟨hok.b,fun x hx=>by have:=f3 x hx;omega,hl⟩
 refine call (JN (zMk c) cb ck (by show c.pre.length<=_;omega) hok.pre b' c' l hs hE) ?_
 rintro _ _ ⟨eb,ob,oc,D,hD,rfl,rfl⟩;have hEn:=zGA (EnOk.new (c:=zMk c) hok.pre) (l:=l.map (·.1)) (fun s hs'=>by
  obtain ⟨x,hx,rfl⟩:=List.mem_map.1 hs';have:=f3 x hx;omega)
 have hHo:=zDK (l:=l.map (·.1)) (EnOk.new (c:=zMk c) hok.pre) ⟨fun y hy=>by cases hy⟩ (fun s hs'=>by
  obtain ⟨x,hx,rfl⟩:=List.mem_map.1 hs';have:=f3 x hx;omega)
 have hMo:0<(wU (Jw (zMk c)) (l.map (·.1))).1.h.tmost:=by
  rw [zBs];show 0<(max 0 (min (1+XX .i64 c.cap 15) 1024)).toNat;omega
 clear hD;generalize (wU (Jw (zMk c)) (l.map (·.1))).1=e at hEn hHo hMo ⊢;refine YG (VB eb e) fun q=>?_;refine zB ?_;refine call (yN eb q e.P.length e.fetch) ?_;rintro _ _ ⟨rfl,rfl⟩;refine YG (xH q.hb e.h) fun hq=>?_;refine zB ?_;refine call (zAP q.hb hq e.h.Q.length e.h.bound e.h.S) ?_;rintro _ _ ⟨rfl,rfl⟩;refine zB ?_;refine alloc fun b17=>?_;refine zB ?_;by_cases hz:e.h.Q.length=0
 ·refine yes ?_ rfl (decide_eq_true (by omega))
  refine zB ?_;refine ret ?_;exact ends ⟨rfl,rfl⟩
 ·refine no ?_ rfl (decide_eq_false (by omega))
  have hn0:0<=XX .i64 n 65535/\XX .i64 n 65535<=65535:=zMG (m:=65535) (by decide)
  obtain ⟨k,hk1,hk2⟩:∃ k:Nat,XX .i64 n 65535%(e.h.Q.length:Int)=(k:Int)/\k<e.h.Q.length:=by
   have h1:=Int.emod_nonneg (XX .i64 n 65535) (show (e.h.Q.length:Int)≠0 by omega)
   have h2:=Int.emod_lt_of_pos (XX .i64 n 65535) (show 0<(e.h.Q.length:Int) by omega)
   exact ⟨(XX .i64 n 65535%(e.h.Q.length:Int)).toNat,by omega,by omega⟩
  obtain ⟨y,hy0⟩:∃ y,e.h.Q[k]?=some y:=⟨e.h.Q[k],List.getElem?_eq_getElem hk2⟩;have hy:e.h.Q[(XX .i64 n 65535%(e.h.Q.length:Int)).toNat]?=some y:=by rw [hk1,Int.toNat_natCast];exact hy0
  have hr1:0<=XX .i64 n 65535%(e.h.Q.length:Int):=by omega
  have hr2:XX .i64 n 65535%(e.h.Q.length:Int)<(e.h.Q.length:Int):=by omega
  refine zB ?_;refine alloc fun b19=>?_;refine zB ?_;rw [hk1];refine VV (xH q.hb e.h) hq ?_;refine VV (VB eb e) q ?_;refine cinto zHo ?_;refine call (Xg eb e hEn ⟨5,Pf.zero,0,(k:Int),[]⟩ none 0 (fun x hx=>by cases hx) (by show 0<=_;omega)) ?_
  rintro _ _ ⟨q0,rfl,rfl⟩;obtain ⟨hya,_,_⟩:=vR (hEn.h.q.fits y (List.mem_of_getElem? hy0));obtain ⟨pd,ph⟩:=zLm hEn.h hHo hMo hy0 e.fetch;have ph:(WF (pfPick e.h (k:Int) e.fetch).h.T y.a).isSome=true∨YP (pfPick e.h (k:Int) e.fetch).h.m y.a=none:=by rw [zFk];exact ph
  have hst:eStep e ⟨5,Pf.zero,0,(k:Int),[]⟩=({ e with h:=(pfPick e.h (k:Int) e.fetch).h },{ aZ 5 with done:=(pfPick e.h (k:Int) e.fetch).r.done,x:=(pfPick e.h (k:Int) e.fetch).r.x,abs:=(pfPick e.h (k:Int) e.fetch).r.absorbed,out:=(pfPick e.h (k:Int) e.fetch).r.out,routes:=(pfPick e.h (k:Int) e.fetch).l }):=by
   unfold eStep;rfl
  have he1:EnOk { e with h:=(pfPick e.h (k:Int) e.fetch).h }:=⟨hEn.h.pfPick _ _,hEn.P⟩
  rw [hst];generalize pfPick e.h (k:Int) e.fetch=f at pd ph he1 ⊢;refine YG (VB eb { e with h:=f.h }) fun q1=>?_
  refine zB ?_;refine alloc fun b20=>?_;refine zB ?_;refine draw [0,1,0,7,15,31,31,31,0,319,895,2047] [1,3,8,9,10,11] [2] [0,2,1,3,4,5,6,7,8,9,10,11] ?_;refine zC ?_;refine call (yN eb q1 e.P.length e.fetch) ?_;rintro _ _ ⟨rfl,rfl⟩;try refine zJ ?_
  refine zC ?_;refine call (XV q1.hb f.h he1.h y.a hya) ?_;rintro _ _ ⟨rfl,rfl⟩;try refine zJ ?_
  refine zC ?_;refine yS fun b21=>?_;refine ddA ?_;have hlk:=zNI ph;have hlh:=zFM f.h y.a;refine no ?_ rfl (by rw [pd,hlk,hlh];simp)
  have he2:EnOk { e with h:=(hLook f.h y.a).h }:=⟨he1.h.look _,hEn.P⟩
  generalize (hLook f.h y.a).h=h2 at he2 ⊢;refine zE (VB eb { e with h:=h2 }) q1 ?_
  refine zB ?_;clear hlk hlh he1 ph pd hst hr1 hr2 hy hy0 hk1 hk2;generalize hE2:({ e with h:=h2 }:En)=e2 at he2 ⊢
  clear hE2 hEn hHo hMo hn0 hz;refine loop (ι:=Nat×En) (fun z=>l2.length-z.1) (fun z=>z.1<=l2.length/\EnOk z.2) (fun z=>[(8,.bool false),(9,.bool true),(14,.slice b2' l2.length c2'),(15,pt eb),(19,pt b19),(24,.int .i64 (z.1:Int))]) (fun z=>[zGh eb z.2,box b19 (yG y.a.v) 50,blk E.tok yY,rsl b2' c2' 8 (l2.map SpV.cells),rpk l2]) (0,e2) ⟨Nat.zero_le _,he2⟩ ?_;clear he2;rintro ⟨i,e⟩ ⟨hi,he⟩ ih;(try dsimp only at hi he ih ⊢);refine zW (VB eb e) fun q=>?_;refine zB ?_;by_cases hc:i<l2.length/\i<20
  ·refine yes ?_ rfl (by rw [decide_eq_true (show (i:Int)<(l2.length:Int) by omega),decide_eq_true (show (i:Int)<20 by omega)];rfl)
   obtain ⟨hc1,hc2⟩:=hc;refine zB ?_;refine call (yN eb q e.P.length e.fetch) ?_;rintro _ _ ⟨rfl,rfl⟩;refine zB ?_;refine call (Yp q.hb e.h he.h) ?_;rintro _ _ ⟨rb,rc,ob,oc,rfl,rfl⟩;refine zB ?_;have hRl:(srtT e.h.T).length<=1024:=by rw [(wM he.h.t.uq).2.length_eq];have:=he.h.t.len;have:=he.h.t.most;omega
   have hany:=zM3 he.h.t (a:=y.a);have hsane:∀ x∈srtT e.h.T,x.1.sane=true:=fun x hx=>he.h.t.sane x ((wM he.h.t.uq).2.mem_iff.1 hx);generalize srtT e.h.T=R at hRl hany hsane ⊢;refine loop (ι:=Nat) (fun j=>R.length-j) (fun j=>j<=R.length) (fun j=>[(8,.bool false),(9,.bool true),(14,.slice b2' l2.length c2'),(15,pt eb),(19,pt b19),(24,.int .i64 (i:Int)),(25,.slice rb R.length rc),(27,.bool ((R.take j).any fun x=>x.1.has y.a)),(28,.int .i64 (j:Int))])
    (fun _=>[osl rb rc 54 5 (R.map prC),zMY eb q e.P.length e.fetch,xZ q.hb e.h,rsl q.pb q.pc 3 (e.P.map ptC),box b19 (yG y.a.v) 50,blk E.tok yY,rsl b2' c2' 8 (l2.map SpV.cells),rpk l2]) 0 (Nat.zero_le _) ?_
   rintro j hj ih2;(try dsimp only at hj ih2 ⊢);rcases Nat.lt_or_ge j R.length with h3|h3
   ·obtain ⟨x,hx0⟩:∃ x,R[j]?=some x:=⟨R[j],List.getElem?_eq_getElem h3⟩;have hx:R[((j:Nat):Int).toNat]?=some x:=by rw [Int.toNat_natCast];exact hx0
    have hta:(R.take (j+1)).any (fun x=>x.1.has y.a)=((R.take j).any (fun x=>x.1.has y.a)||x.1.has y.a):=by
     rw [List.take_add_one,hx0,List.any_append];show (_||(x.1.has y.a||false))=_;rw [Bool.or_false]
    have hn2:=ih2 (j+1) (by omega) (by omega)
    (try dsimp only at hn2);rw [hta] at hn2;refine zB ?_;refine yes ?_ rfl (decide_eq_true (by omega))
    refine zB ?_;refine draw [0,1,3,3,15,31,63,3,255,511,1023] [8,10] [4,6,7] [0,1,2,3,4,5,6,7,8,9,10] ?_;refine zC ?_;refine dorc (y:=x.1.has y.a) (fun h gk=>?_) ?_
    ·refine zC ?_;refine call (Ye x.1 y.a) ?_;rintro _ _ ⟨rfl,rfl⟩;try refine zJ ?_
     exact Wg
    refine ddA ?_;exact next hn2
   ·have:j=R.length:=by omega
    subst this;rw [List.take_of_length_le (Nat.le_refl _),hany];refine zB ?_;refine no ?_ rfl (decide_eq_false (by omega))
    refine zB ?_;refine draw [0,1,0,7,15,31,31,31,0,319,895,2047] [1,3,8,9,10,11] [2] [0,2,1,3,4,5,6,7,8,9,10,11] ?_;refine zC ?_;refine call (yN eb q e.P.length e.fetch) ?_;rintro _ _ ⟨rfl,rfl⟩;try refine zJ ?_
    refine zC ?_;refine call (XV q.hb e.h he.h y.a hya) ?_;rintro _ _ ⟨rfl,rfl⟩;try refine zJ ?_
    refine zC ?_;refine yS fun b29=>?_;refine ddA ?_;have hlh:=zFM e.h y.a;refine no ?_ rfl (by rw [hlh];simp)
    have he2:EnOk { e with h:=(hLook e.h y.a).h }:=⟨he.h.look _,he.P⟩
    clear hlh;generalize (hLook e.h y.a).h=h2 at he2 ⊢;refine zE (VB eb { e with h:=h2 }) q ?_
    generalize hE2:({ e with h:=h2 }:En)=e2 at he2 ⊢
    clear hE2;obtain ⟨z,hz0⟩:∃ z,l2[i]?=some z:=⟨l2[i],List.getElem?_eq_getElem hc1⟩;have hz:l2[(i:Int).toNat]?=some z:=by rw [Int.toNat_natCast];exact hz0
    have hzm:=List.mem_of_getElem? hz0;have hzl:=g3 z hzm;refine zJg z hzm ?_;refine zB ?_;refine call (Xg eb e2 he2 z.1 z.2.1 z.2.2 (hok2.b z hzm) (by omega)) ?_
    rintro _ _ ⟨q2,rfl,rfl⟩;have he3:=he2.step z.1 (by omega)
    refine zB ?_;exact next (ih (i+1,(eStep e2 z.1).1) ⟨by show i+1<=_;omega,he3⟩ (by show l2.length-(i+1)<l2.length-i;omega))
  ·refine no ?_ rfl (by
    by_cases h1:i<l2.length
    ·rw [decide_eq_false (show ¬ (i:Int)<20 by omega),Bool.and_false]
    ·rw [decide_eq_false (show ¬ (i:Int)<(l2.length:Int) by omega)];rfl)
   refine zB ?_;refine ret ?_;exact ends ⟨rfl,rfl⟩
end Go.Proofs.YtjcbjclhagobiaaGreat
end
section
namespace Go.Proofs.YtjcbjclhagobiaaGreat
set_option maxHeartbeats 1600000
open Go
theorem zPy:Tryz.checked.prog.funcNamed "kedge/kedgetop.TopFills" = some 7:=by kernel_rfl
theorem zP8:(Rows.topFillsRow.inPlace == Tryz.checked.prog.inPlace 7)=true:=by kernel_rfl
theorem zQA:(Rows.topFillsRow.unfollowed == Tryz.checked.prog.unfollowed 7)=true:=by kernel_rfl
theorem zP9:(Rows.topFillsRow.recurses == Tryz.checked.prog.recurses 7)=true:=by kernel_rfl
theorem zQB:(Rows.topFillsRow.named == Tryz.checked.prog.varsNamed 7)=true:=by kernel_rfl
theorem zQC:(Rows.topFillsRow.plainKeys == Tryz.checked.prog.plainKeys)=true:=by rw [zHB];rfl
theorem zQD:(Rows.topFillsRow.lifted == Tryz.checked.prog.liftsFinal)=true:=by rw [zOL];rfl
theorem zP7:(Tryz.checked.prog.make == some Rows.topFillsRow.make)=true:=by rw [zO8];rfl
set_option maxRecDepth 100000 in
theorem zPv:joinedFacts Tryz.checked.prog 7 Tryz.f7 Rows.topFillsSpec Rows.topFillsRow=true:=by
 unfold joinedFacts;repeat' (with_reducible apply zPm)
 all_goals first
  | with_reducible exact zFy
  | with_reducible exact zGf
  | with_reducible exact zD3
  | with_reducible exact zIy
  | with_reducible exact zP8
  | with_reducible exact zQA
  | with_reducible exact zP9
  | with_reducible exact zQB
  | with_reducible exact zQC
  | with_reducible exact zQD
  | with_reducible exact zP7
  | kernel_rfl
end Go.Proofs.YtjcbjclhagobiaaGreat
end
section
namespace Go.Proofs.YtjcbjclhagobiaaGreat
set_option maxHeartbeats 1600000
open Go Go.KL Go.KM Go.ChangeShapes Go.WideShapes Go.RowKit Go.Conc
theorem zPr:Tryz.f7.params = #[32,33,3,33]:=by kernel_rfl
set_option maxRecDepth 100000 in
theorem zPz {H:Type} {enc:TypeId×Value->H} {W:World} {args:Array Value} {ds:List (DataW H)} {p:List MemPlace} {base:Nat} (z2:∀ a,(W.hp.cell a).isSome->a.block≠2)
  (hA:DataW.TrodAll enc Tryz.prog W 0 (fun _=>true) true [32,33,3,33] args.toList ds p)
  (hval:∀ (j:Nat) t v,#[32,33,3,33][j]?=some t->args[j]?=some v->Value.okWide Tryz.prog W .any base t v) :
  ∃ (c:Cfg) (cb:Option Addr) (ck:Nat) (b2:Option Addr) (c2:Nat) (l:List SpV) (n:Int) (b3:Option Addr) (c3:Nat) (l3:List SpV),args.toList=[zJy c cb ck,.slice b2 l.length c2,.int .i64 n,.slice b3 l3.length c3]/\InOk c l/\InOk c l3/\sep [blk 2 yY,rsl cb ck 1 (c.pre.map fun x=>[u64 x]),rsl b2 c2 8 (l.map SpV.cells),rpk l,rsl b3 c3 8 (l3.map SpV.cells),rpk l3] W.cut2 zK2/\ds.length=4:=by
 obtain ⟨v1,v2,v3,v4,d1,d2,d3,d4,p1,p2,p3,p4,rfl,rfl,rfl,h1,h2,h3,h4⟩:=trodAll_four hA;obtain ⟨f1,g1⟩:=h1;obtain ⟨f2,g2⟩:=h2;obtain ⟨f3,g3⟩:=h3;obtain ⟨f4,g4⟩:=h4;obtain ⟨c,cb,ck,e1,hc1,r1⟩:=zLD g1;obtain ⟨b2,c2,l2,e2,hl2,r2,_⟩:=zHC g2;obtain ⟨n,e3,_⟩:=wG (k:=.i64) g3;obtain ⟨b4,c4,l4,e4,hl4,r4,_⟩:=zHC g4;have w1:v1=zJy (zHL c) cb ck:=by
  obtain ⟨fs,_,_,hfs,_⟩:=KL.TyF.h (P:=Tryz.prog) (t:=32) (i:=0);obtain ⟨cs,rfl,_⟩:=okWide_struct hfs (hval 0 _ v1 rfl rfl);have e1:cs.toList=c.cells cb ck:=e1;rw [<-Array.toArray_toList (xs:=cs),e1];rfl
 have w2:v2=.slice b2 l2.length c2:=by
  obtain ⟨a,n,c,rfl⟩:=okWide_slice (KL.TyU.h (P:=Tryz.prog) (t:=33)) (hval 1 _ v2 rfl rfl);simpa [Value.cells] using e2
 have w3:v3=.int .i64 n:=by
  obtain ⟨m,rfl⟩:=okWide_int (KL.TyU.h (P:=Tryz.prog) (t:=3)) (hval 2 _ v3 rfl rfl);simpa [Value.cells] using e3
 have w4:v4=.slice b4 l4.length c4:=by
  obtain ⟨a,n,c,rfl⟩:=okWide_slice (KL.TyU.h (P:=Tryz.prog) (t:=33)) (hval 3 _ v4 rfl rfl);simpa [Value.cells] using e4
 subst w1 w2 w3 w4;have hcl:∀ {l:List zS},(∀ s∈l,s.Reads W)->l.map zS.cells=(l.map toV).map SpV.cells:=fun {l} h=>by
  rw [List.map_map];exact List.map_congr_left fun s hs=>(zHV (h s hs).ok).symm
 have hpk:∀ {l:List zS},(∀ s∈l,s.Reads W)->∀ x∈l.map toV,∀ y∈x.1.pkt,y<256:=fun {l} h x hx=>by
  obtain ⟨y,hy,rfl⟩:=List.mem_map.1 hx;exact (h y hy).packet
 exact ⟨zHL c,cb,ck,b2,c2,l2.map toV,n,b4,c4,l4.map toV,by rw [List.length_map,List.length_map],⟨hc1,hpk hl2⟩,⟨hc1,hpk hl4⟩,zAs (seps (zBD z2 (r1 Hp.emp) _) (seps (zBD z2 (by rw [<-hcl hl2];exact r2 Hp.emp) _) (seps (zMr z2 hl2) (seps (zBD z2 (by rw [<-hcl hl4];exact r4 Hp.emp) _) (seps (zMr z2 hl4) trivial))))),rfl⟩
set_option maxRecDepth 100000 in
theorem zPw (os:Os) (started:os.Started) (H:Type) (enc:TypeId×Value->H) :
  ReturnsInLeavingWide {} Tryz.checked os 7 .any (Rows.topFillsSpec.pre6 enc Tryz.prog Tryz.f7 Rows.topFillsRow.domain false) (Rows.topFillsSpec.post enc Tryz.prog Tryz.f7 false true false false):=by
 refine zCi (C:=Tryz.checked) zPk started (by kernel_rfl)
  (ChangeSpec.witness6 (enc:=enc) (C:=Tryz.checked) false ⟨#[],#[.agg #[.int .i64 0,.int .i64 0,.int .i64 0,.int .i64 0,.int .i64 0,.int .i64 0,.slice none 0 0],.slice none 0 0,.int .i64 0,.slice none 0 0],[]⟩ 8 (by kernel_rfl) (by kernel_rfl) (by kernel_rfl) (by kernel_rfl)) ?_
 intro W base args ds gs before hsh hval0 hW;have hval:∀ (j:Nat) t v,Tryz.f7.params[j]?=some t->args[j]?=some v->Value.okWide Tryz.prog W .any base t v:=hval0;have hW':=hW;obtain ⟨p,q,hA0,hV,rfl,hfz,hnd⟩:=hW;have hA:DataW.TrodAll enc Tryz.prog W 0 (fun _=>true) true Tryz.f7.params.toList args.toList ds p:=hA0;rw [zPr] at hA hval;obtain ⟨rfl,rfl⟩:=trodVars_none hV;obtain ⟨z1,z2⟩:=zK0 hsh;obtain ⟨c,cb,ck,b2,c2,l,n,b3,c3,l3,ha,hin,hin3,hp,hd⟩:=zPz z2 hA hval;have hs:=zNw (E:=zN0 W) c cb ck b2 c2 l n b3 c3 l3 hin hin3 rfl;rw [<-ha] at hs;match ds,hd with
 | [d1,d2,d3,d4],_=>exact zK8 z1 hs (by kernel_rfl) hp zFy (by kernel_rfl) rfl (t:=4) (by kernel_rfl) zOH hW' rfl
theorem tops_holds:Rows.TopFillsSaid:=
 OpenClaim.holds_of_wide_leaving 7 Tryz.f7 rfl rfl rfl rfl rfl rfl rfl ⟨rfl,rfl,rfl,rfl,rfl⟩ rfl rfl rfl rfl rfl zPy (by kernel_rfl) zPv
  (of_decide_eq_true (by kernel_rfl)) (by unfold Func.isWrapper;first|(rw [if_pos (by decide +kernel)];kernel_rfl)|(rw [if_neg (by decide +kernel)];exact ⟨rfl,rfl⟩))
  (fun os started H enc _=>zPw os started H enc)
end Go.Proofs.YtjcbjclhagobiaaGreat
end
