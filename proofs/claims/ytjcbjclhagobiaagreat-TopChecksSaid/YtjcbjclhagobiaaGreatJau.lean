/- Texts joined by a program of ours: Ns Gm Vh Ve. -/
import Derived.Test.YtjcbjclhagobiaaGreatJap
import Derived.Test.YtjcbjclhagobiaaGreatJat
set_option linter.all false
section
namespace Go.Proofs.YtjcbjclhagobiaaGreat
open Go Go.KL Go.KM
theorem zAq {l:List Nat} (hl:∀ x∈l,x<256) (k:Nat):l.getD k 0<256:=by
 rw [List.getD_eq_getElem?_getD];rcases h:l[k]? with _|x
 ·decide
 ·exact hl _ (List.mem_of_getElem? h)
theorem Qb {l:List Nat} {k x:Nat} (hl:∀ y∈l,y<256) (hx:x<256):∀ y∈l.set k x,y<256:=fun y hy=>by
 rcases List.mem_or_eq_of_mem_set hy with h|h
 ·exact hl y h
 ·omega
theorem zM5 {l:List Nat} (hl:∀ x∈l,x<256):∀ x∈Wl l,x<256:=by
 unfold Wl;split
 ·have ho:∀ x∈l.take (zF l).total,x<256:=fun x h=>hl x (List.mem_of_mem_take h);have h1:∀ x∈(l.take (zF l).total).set 8 ((l.take (zF l).total).getD 8 0-1),x<256:=Qb ho (by have:=zAq ho 8;omega)
  have hs:=zCQ (w16 ((l.take (zF l).total).set 8 ((l.take (zF l).total).getD 8 0-1)) 10) (w16 (l.take (zF l).total) 8) (w16 ((l.take (zF l).total).set 8 ((l.take (zF l).total).getD 8 0-1)) 8);exact Qb (Qb h1 (by omega)) (by omega)
 ·have ho:∀ x∈l.take (40+(zX l).pay),x<256:=fun x h=>hl x (List.mem_of_mem_take h);exact Qb ho (by have:=zAq ho 7;omega)
theorem zCw (h:HSt) {l:List Nat} (hl:∀ x∈l,x<256):∀ x∈(judgeP h l).2.out,x<256:=by
 unfold judgeP;split
 ·simp
 ·split
  ·simp
  ·split
   ·exact fun x hx=>hl x (List.mem_of_mem_take hx)
   ·split
    ·simp
    ·exact zM5 hl
theorem zH5 {e:En}:∀ {l:List Sp} {i:Nat} {x:Sp} {a:An},l[i]?=some x->(wU e l).2[i]?=some a->∃ e',a=(eStep e' x).2:=by
 intro l;induction l generalizing e with
 | nil=>intro i x a h;cases i <;> cases h
 | cons y l ih=>
  intro i x a h1 h2;cases i with
  | zero=>
   simp only [wU,List.getElem?_cons_zero,Option.some.injEq] at h1 h2;subst h1;subst h2;exact ⟨e,rfl⟩
  | succ i=>
   simp only [wU,List.getElem?_cons_succ] at h1 h2;exact ih h1 h2
structure PkA (p:List Nat) (v:Vd):Prop where
 ck:ChkOk p v
 lt:∀ y∈v.out,y<256
 len:v.out.length<=p.length
theorem zMx (e:En) {x:Sp} (hw:x.what=0) (hl:∀ y∈x.pkt,y<256):PkA x.pkt (eStep e x).2.v:=by
 have h:(eStep e x).2.v=(judgeP e.h x.pkt).2:=by unfold eStep;rw [if_pos hw];rfl
 rw [h];exact ⟨zIL e.h hl,zCw e.h hl,VU e.h x.pkt⟩
end Go.Proofs.YtjcbjclhagobiaaGreat
end
section
namespace Go.Proofs.YtjcbjclhagobiaaGreat
set_option maxHeartbeats 1600000
open Go Go.KL Go.KM
variable {E:Env} {X:Xs}
set_option maxRecDepth 100000
theorem Into.ranOut {s F:List HP} {l:List AnV} (x:AnV) (hm:x∈l) (h1:Sel s (ran l) F):Into s (KL.rsl x.2.ob x.2.oc 1 (x.1.v.out.map u8e)::s):=⟨fun r f h=>by
 obtain ⟨f1,f2,d,l1,l2,a,k⟩:=h1.out h;obtain ⟨_,_,_,_,_,p1,_⟩:=a x hm Hp.emp;exact wB (A:=KL.rsl x.2.ob x.2.oc 1 (x.1.v.out.map u8e)) (fun h=>h) (f':=Hp.emp) p1 h⟩
theorem zOD {P:Program} {b:Fx} {Post:Value->List HP->Prop} {L:Tm} {s:List HP} {t:List Item} {l:List AnV} (x:AnV) (hm:x∈l) {F:List HP} (g:W P E X b Post t L (rsl x.2.ob x.2.oc 1 (x.1.v.out.map u8e)::s)) (h1:Sel s (ran l) F:=by ((try simp only [List.cons_append,List.nil_append]);repeat (first|(with_reducible exact Sel.here)|(with_reducible apply Sel.there)))):W P E X b Post t L s:=into (Into.ranOut x hm h1) g
theorem zMb {l:List Nat} (hl:∀ x∈l,x<256):(pdP l).left<256:=by
 unfold pdP;split
 ·split
  ·exact zAq hl 8
  ·exact zAq hl 7
 ·decide
theorem zKG {a b:Ad} (h:a=b):(decide ((a.hi:Int)=(b.hi:Int))&&(decide ((a.lo:Int)=(b.lo:Int))&&(a.v6 == b.v6&&true)))=true:=by
 subst h;simp
theorem zNd {a b:Ad} {p q n:Nat} (h:a=b) (h1:2<=p) (h2:p<256) (h3:q=p-1) (h4:0<n):((!(decide ((a.hi:Int)=(b.hi:Int))&&(decide ((a.lo:Int)=(b.lo:Int))&&(a.v6 == b.v6&&true)))||!decide ((q:Int)=IntKind.i64.wrap ((p:Int)-1)))||false||decide ((n:Int)=0))=false:=by
 rw [zKG h,zK (by omega),decide_eq_true (show (q:Int)=(p:Int)-1 by omega),decide_eq_false (show ¬ ((n:Int)=0) by omega)]
 rfl
theorem zNN {a b:Ad} {p q n:Nat} (h:a=b) (h3:q=p) (h4:0<n):(!(decide ((a.hi:Int)=(b.hi:Int))&&(decide ((a.lo:Int)=(b.lo:Int))&&(a.v6 == b.v6&&true)))||false||!decide ((q:Int)=(p:Int))||decide ((n:Int)=0))=false:=by
 rw [zKG h,decide_eq_true (show (q:Int)=(p:Int) by omega),decide_eq_false (show ¬ ((n:Int)=0) by omega)]
 rfl
set_option maxHeartbeats 4000000 in
theorem zEt (c:Cfg) (cb:Option Addr) (ck:Nat) (base:Option Addr) (cap:Nat) (l:List SpV) (hok:InOk c l) (hE:E.main=true):KL.Does PR E (XM PR E) 4 [zJy c cb ck,.slice base l.length cap] [blk E.tok yY,rsl cb ck 1 (c.pre.map fun x=>[u64 x]),rsl base cap 8 (l.map SpV.cells),rpk l]
  (fun v t=>v=.bool true/\t=[blk E.tok yY]):=by
 refine KL.Does.of 179 inferInstance rfl (by decide) rfl ?_
 refine zB ?_;refine zU fun b2=>?_;refine zB ?_;refine call (VW hE) ?_;rintro _ _ ⟨rfl,rfl⟩;refine zB ?_;refine call (QM c cb ck base cap l) ?_;rintro _ _ ⟨rfl,rfl⟩;refine zB ?_;rcases hf:zGG c l with _|_
 ·refine yes ?_ rfl rfl;refine zB ?_;refine ret ?_;exact ends ⟨rfl,rfl⟩
 ·refine no ?_ rfl rfl;refine zB ?_;obtain ⟨f1,f2,f3⟩:=zFW hf;have hl:l.length<=100000:=by omega
  refine call (Wx c cb ck base cap l hl) ?_;rintro _ _ ⟨b',c',rfl,rfl⟩;refine zB ?_;refine alloc fun b6=>?_;refine zB ?_;have hs:SpsOk l:=⟨hok.b,fun x hx=>by have:=f3 x hx;omega,hl⟩
  refine call (JN c cb ck (by omega) hok.pre b' c' l hs hE) ?_
  rintro _ _ ⟨b,ob,oc,D,hD,rfl,rfl⟩;have hDl:D.length=l.length:=by
   have:=congrArg List.length hD
   rw [List.length_map,zCh,List.length_map] at this;exact this
  refine zB ?_;refine no ?_ rfl (by rw [hDl,decide_eq_true rfl];rfl)
  refine zB ?_;refine loop (ι:=Nat) (fun i=>l.length-i) (fun i=>i<=l.length) (fun i=>[(5,.bool true),(7,.slice b' l.length c'),(9,.slice ob D.length oc),(10,.int .i64 (i:Int))]) (fun _=>[blk E.tok yY,rsl b' c' 8 (l.map SpV.cells),rsl ob oc 19 (D.map AnV.cells),rpk l,ran D]) 0 (Nat.zero_le _) ?_;rintro i hi ih;(try dsimp only at hi ih ⊢);rcases Nat.lt_or_ge i l.length with h2|h2
  ·obtain ⟨x,hx0⟩:∃ x,l[i]?=some x:=⟨l[i],List.getElem?_eq_getElem h2⟩;obtain ⟨d,hd0⟩:∃ d,D[i]?=some d:=⟨D[i]'(by omega),List.getElem?_eq_getElem (by omega)⟩
   have hx:l[(i:Int).toNat]?=some x:=by rw [Int.toNat_natCast];exact hx0
   have hd:D[(i:Int).toNat]?=some d:=by rw [Int.toNat_natCast];exact hd0
   have hxm:=List.mem_of_getElem? hx0;have hdm:=List.mem_of_getElem? hd0;obtain ⟨e',he'⟩:∃ e',d.1=(eStep e' x.1).2:=by
    refine zH5 (e:=Jw c) (l:=l.map (·.1)) (i:=i) ?_ ?_
    ·rw [List.getElem?_map,hx0];rfl
    ·rw [<-hD,List.getElem?_map,hd0];rfl
   have hnext:=ih (i+1) (by show i+1<=_;omega) (by show l.length-(i+1)<l.length-i;omega)
   clear ih;(try dsimp only at hnext);refine zB ?_;refine yes ?_ rfl (decide_eq_true (by omega))
   refine zB ?_;refine alloc fun b11=>?_;refine zB ?_;rcases Bool.eq_false_or_eq_true (!decide (x.1.what=0)) with hw|hw
   ·refine yes ?_ rfl hw;refine zB ?_;exact next hnext
   ·refine no ?_ rfl hw;have hw0:x.1.what=0:=by simpa using hw
    have pk:PkA x.1.pkt d.1.v:=by rw [he'];exact zMx e' hw0 (hok.b x hxm)
    clear he';obtain ⟨pc,plt,pl⟩:=pk;have hxl:=f3 x hxm;refine zJg x hxm ?_;refine zOD d hdm ?_;refine zB ?_;refine call (JL x.2.1 x.2.2 x.1.pkt (hok.b x hxm) (by omega)) ?_
    rintro _ _ ⟨rfl,rfl⟩;refine zB ?_;refine alloc fun b12=>?_;refine zB ?_;refine call (JL d.2.ob d.2.oc d.1.v.out plt (by omega)) ?_
    rintro _ _ ⟨rfl,rfl⟩;refine zB ?_;refine alloc fun b15=>?_;refine zB ?_;have hff:false=false:=rfl;have htt:true=true:=rfl;by_cases hk:d.1.v.kind=0
    ·refine yes ?_ rfl (decide_eq_true hk);obtain ⟨q1,q2,q3⟩:=pc.drop hk;have g0:(!decide ((d.1.v.out.length:Int)=0))=false:=by rw [q1];rfl
     rcases Bool.eq_false_or_eq_true (!decide (zV x.1.pkt=0)) with g2|g2
     ·refine zB ?_;refine no ?_ rfl (by rw [decide_eq_false q2,decide_eq_true (q3 (by simpa using g2))];rfl)
      refine zB ?_;exact next hnext
     ·refine zB ?_;refine no ?_ rfl (by rw [decide_eq_false q2];rfl)
      refine zB ?_;exact next hnext
    ·refine no ?_ rfl (decide_eq_false hk);obtain ⟨w1,w2,w3,w4⟩:=pc.wrong hk;have g1:(!decide (zV x.1.pkt=0))=false:=by rw [w1];rfl
     have g2:(!decide (zV d.1.v.out=0))=false:=by rw [w2];rfl
     rcases pc.kind with h0|h0|h0
     ·exact absurd h0 hk
     ·have g3:decide (d.1.v.kind=1)=true:=decide_eq_true h0;have g4:decide (d.1.v.kind=2)=false:=by rw [h0];rfl
      refine zB ?_;refine no ?_ rfl (zNd w3 (pc.via h0).1 (zMb (hok.b x hxm)) (pc.via h0).2 w4);refine zB ?_;refine call (Yb d.2.ob d.2.oc d.1.v.out plt (by omega)) ?_
      rintro _ _ ⟨rfl,rfl⟩;refine zB ?_;refine alloc fun b18=>?_;refine zB ?_;by_cases h4:yK d.1.v.out=0
      ·refine yes ?_ rfl (decide_eq_true h4);obtain ⟨u1,u2,u3⟩:=pc.four hk h4;have hh4:Vh d.1.v.out=zF d.1.v.out:=by unfold Vh;rw [if_pos h4]
       rw [hh4];refine zDx d.2.ob fun hcap=>?_;rw [List.length_map] at hcap;refine into (Jq d.2.ob (cap:=d.2.oc) (sz:=1) (es:=d.1.v.out.map u8e) 0 (zF d.1.v.out).long (es':=(d.1.v.out.take (zF d.1.v.out).long).map u8e) (by omega) (by rw [List.drop_zero,<-List.map_take])) ?_
       refine zB ?_;have hL:(d.1.v.out.take (zF d.1.v.out).long).length=(zF d.1.v.out).long:=by rw [List.length_take];omega
       have hLl:∀ y∈d.1.v.out.take (zF d.1.v.out).long,y<256:=fun y hy=>plt y (List.mem_of_mem_take hy);rw [show (min (d.1.v.out.length:Int) ((zF d.1.v.out).long:Int)).toNat-0=(d.1.v.out.take (zF d.1.v.out).long).length by omega]
       refine call (zCA (slB d.2.ob d.2.oc 0 1) (d.2.oc-0) (d.1.v.out.take (zF d.1.v.out).long) hLl (by omega) (by omega)) ?_
       rintro _ _ ⟨fb,fc,rfl,rfl⟩;rw [u3 h0];refine zB ?_;refine draw [0,1,3,7,15,31,63,127,255,127,639,127,2175,7807,15999,32767,65535,131071] [] [4,8,10,13,14] [0,1,2,3,4,5,6,7,8,9,10,11,12,13,14,15,16,17] ?_;refine zC ?_;try refine zJ ?_
       refine no ?_ rfl (by rw [beq_self_eq_true];rfl)
       refine zB ?_;exact next hnext
      ·refine no ?_ rfl (decide_eq_false h4);refine zB ?_;exact next hnext
     ·have g3:decide (d.1.v.kind=1)=false:=by rw [h0];rfl
      have g4:decide (d.1.v.kind=2)=true:=decide_eq_true h0;refine zB ?_;refine no ?_ rfl (zNN w3 (pc.loc h0) w4);refine zB ?_;refine call (Yb d.2.ob d.2.oc d.1.v.out plt (by omega)) ?_
      rintro _ _ ⟨rfl,rfl⟩;refine zB ?_;refine alloc fun b18=>?_;refine zB ?_;by_cases h4:yK d.1.v.out=0
      ·refine yes ?_ rfl (decide_eq_true h4);obtain ⟨u1,u2,u3⟩:=pc.four hk h4;have hh4:Vh d.1.v.out=zF d.1.v.out:=by unfold Vh;rw [if_pos h4]
       rw [hh4];refine zDx d.2.ob fun hcap=>?_;rw [List.length_map] at hcap;refine into (Jq d.2.ob (cap:=d.2.oc) (sz:=1) (es:=d.1.v.out.map u8e) 0 (zF d.1.v.out).long (es':=(d.1.v.out.take (zF d.1.v.out).long).map u8e) (by omega) (by rw [List.drop_zero,<-List.map_take])) ?_
       refine zB ?_;have hL:(d.1.v.out.take (zF d.1.v.out).long).length=(zF d.1.v.out).long:=by rw [List.length_take];omega
       have hLl:∀ y∈d.1.v.out.take (zF d.1.v.out).long,y<256:=fun y hy=>plt y (List.mem_of_mem_take hy);rw [show (min (d.1.v.out.length:Int) ((zF d.1.v.out).long:Int)).toNat-0=(d.1.v.out.take (zF d.1.v.out).long).length by omega]
       refine call (zCA (slB d.2.ob d.2.oc 0 1) (d.2.oc-0) (d.1.v.out.take (zF d.1.v.out).long) hLl (by omega) (by omega)) ?_
       rintro _ _ ⟨fb,fc,rfl,rfl⟩;refine zB ?_;refine draw [0,1,3,7,15,31,63,127,255,127,639,127,2175,7807,15999,32767,65535,131071] [] [4,8,10,13,14] [0,1,2,3,4,5,6,7,8,9,10,11,12,13,14,15,16,17] ?_;refine zC ?_;try refine zJ ?_
       refine no ?_ rfl rfl;refine zB ?_;exact next hnext
      ·refine no ?_ rfl (decide_eq_false h4);refine zB ?_;exact next hnext
  ·have:i=l.length:=by omega
   subst this;refine zB ?_;refine no ?_ rfl (decide_eq_false (by omega))
   refine zB ?_;refine ret ?_;exact ends ⟨rfl,rfl⟩
end Go.Proofs.YtjcbjclhagobiaaGreat
end
section
namespace Go.Proofs.YtjcbjclhagobiaaGreat
set_option maxHeartbeats 1600000
open Go
theorem zD2:Tryz.checked.prog.funcNamed "kedge/kedgetop.TopChecks" = some 4:=by kernel_rfl
theorem zJ5:(Rows.topChecksRow.inPlace == Tryz.checked.prog.inPlace 4)=true:=by kernel_rfl
theorem zIC:(Rows.topChecksRow.unfollowed == Tryz.checked.prog.unfollowed 4)=true:=by kernel_rfl
theorem zJ3:(Rows.topChecksRow.recurses == Tryz.checked.prog.recurses 4)=true:=by kernel_rfl
theorem zKL:(Rows.topChecksRow.named == Tryz.checked.prog.varsNamed 4)=true:=by kernel_rfl
theorem zIA:(Rows.topChecksRow.plainKeys == Tryz.checked.prog.plainKeys)=true:=by rw [zHB];rfl
theorem zJV:(Rows.topChecksRow.lifted == Tryz.checked.prog.liftsFinal)=true:=by rw [zOL];rfl
theorem zKX:(Tryz.checked.prog.make == some Rows.topChecksRow.make)=true:=by rw [zO8];rfl
set_option maxRecDepth 100000 in
theorem zBA:joinedFacts Tryz.checked.prog 4 Tryz.f4 Rows.topChecksSpec Rows.topChecksRow=true:=by
 unfold joinedFacts;repeat' (with_reducible apply zPm)
 all_goals first
  | with_reducible exact zFy
  | with_reducible exact zGf
  | with_reducible exact zD3
  | with_reducible exact zIy
  | with_reducible exact zJ5
  | with_reducible exact zIC
  | with_reducible exact zJ3
  | with_reducible exact zKL
  | with_reducible exact zIA
  | with_reducible exact zJV
  | with_reducible exact zKX
  | kernel_rfl
end Go.Proofs.YtjcbjclhagobiaaGreat
end
section
namespace Go.Proofs.YtjcbjclhagobiaaGreat
set_option maxHeartbeats 1600000
open Go Go.KL Go.KM Go.ChangeShapes Go.WideShapes Go.RowKit Go.Conc
theorem zDW:Tryz.f4.params = #[32,33]:=by kernel_rfl
set_option maxRecDepth 100000 in
theorem zA2 (os:Os) (started:os.Started) (H:Type) (enc:TypeId×Value->H) :
  ReturnsInLeavingWide {} Tryz.checked os 4 .any (Rows.topChecksSpec.pre6 enc Tryz.prog Tryz.f4 Rows.topChecksRow.domain false) (Rows.topChecksSpec.post enc Tryz.prog Tryz.f4 false true false false):=by
 refine zCi (C:=Tryz.checked) zPk started (by kernel_rfl)
  (ChangeSpec.witness6 (enc:=enc) (C:=Tryz.checked) false ⟨#[],#[.agg #[.int .i64 0,.int .i64 0,.int .i64 0,.int .i64 0,.int .i64 0,.int .i64 0,.slice none 0 0],.slice none 0 0],[]⟩ 8 (by kernel_rfl) (by kernel_rfl) (by kernel_rfl) (by kernel_rfl)) ?_
 intro W base args ds gs before hsh hval0 hW;have hval:∀ (j:Nat) t v,Tryz.f4.params[j]?=some t->args[j]?=some v->Value.okWide Tryz.prog W .any base t v:=hval0;have hW':=hW;obtain ⟨p,q,hA0,hV,rfl,hfz,hnd⟩:=hW;have hA:DataW.TrodAll enc Tryz.prog W 0 (fun _=>true) true Tryz.f4.params.toList args.toList ds p:=hA0;rw [zDW] at hA hval;obtain ⟨rfl,rfl⟩:=trodVars_none hV;obtain ⟨z1,z2⟩:=zK0 hsh;obtain ⟨c,cb,ck,b2,c2,l,ha,hin,hp,hd⟩:=zDw z2 hA hval;have hs:=zEt (E:=zN0 W) c cb ck b2 c2 l hin rfl;rw [<-ha] at hs;match ds,hd with
 | [d1,d2],_=>exact zK8 z1 hs (by kernel_rfl) hp zFy (by kernel_rfl) rfl (t:=4) (by kernel_rfl) zOH hW' rfl
theorem checks_holds:Rows.TopChecksSaid:=
 OpenClaim.holds_of_wide_leaving 4 Tryz.f4 rfl rfl rfl rfl rfl rfl rfl ⟨rfl,rfl,rfl,rfl,rfl⟩ rfl rfl rfl rfl rfl zD2 (by kernel_rfl) zBA
  (of_decide_eq_true (by kernel_rfl)) (by unfold Func.isWrapper;first|(rw [if_pos (by decide +kernel)];kernel_rfl)|(rw [if_neg (by decide +kernel)];exact ⟨rfl,rfl⟩))
  (fun os started H enc _=>zA2 os started H enc)
end Go.Proofs.YtjcbjclhagobiaaGreat
end
