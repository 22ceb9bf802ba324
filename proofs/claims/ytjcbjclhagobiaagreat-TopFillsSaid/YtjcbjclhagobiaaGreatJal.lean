/- Texts joined by a program of ours: Fb Fc Fd Fe Ff Fg Fh Fi Fj Fk Fl Fm. -/
import Derived.Test.YtjcbjclhagobiaaGreatJak
set_option linter.all false
section
namespace Go.Proofs.YtjcbjclhagobiaaGreat
set_option maxHeartbeats 1600000
open Go Go.KL Go.KM
variable {E:Env} {X:Xs}
set_option maxRecDepth 100000
abbrev adC (a:Ad):List Value:=[u64 a.hi,u64 a.lo,.bool a.v6]
abbrev qV (base:Option Addr) (n cap bound:Nat):Value:=.agg #[.slice base n cap,.int .i64 (bound:Int)]
theorem zOW (l:List Nat):lay (List.replicate 17 (u64 0)) 0 ((l.map fun x=>[u64 x]).take (min l.length 17)).flatten=(St.of l).c:=by
 have e0:(St.of l).c=(List.range 17).map fun i=>u64 (l.getD i 0):=rfl;have e1:((l.map fun x=>[u64 x]).take (min l.length 17)).flatten=(l.take (min l.length 17)).map u64:=by
  rw [<-List.map_take];generalize l.take (min l.length 17)=m;induction m with
  | nil=>rfl
  | cons x m ih=>simp only [List.map_cons,List.flatten_cons,ih];rfl
 rw [e0,e1];apply List.ext_getElem?;intro j;rw [ZF _ _ _ _ (by simp;omega)]
 simp only [List.length_map,List.length_take,Nat.zero_add,Nat.zero_le,true_and,Nat.sub_zero];by_cases h:j<l.length/\j<17
 ·rw [if_pos (by omega),List.getElem?_map,List.getElem?_take_of_lt (by omega),List.getElem?_map,List.getElem?_range h.2,List.getElem?_eq_getElem h.1]
  simp [List.getD_eq_getElem?_getD,h.1]
 ·rw [if_neg (by omega)]
  by_cases h17:j<17
  ·rw [List.getElem?_replicate,if_pos h17,List.getElem?_map,List.getElem?_range h17];simp [List.getD_eq_getElem?_getD,List.getElem?_eq_none (show l.length<=j by omega)]
  ·rw [List.getElem?_replicate,if_neg h17,List.getElem?_eq_none (by simp;omega)]
theorem zGQ (base:Option Addr) (cap:Nat) (l:List Nat) (hl:l.length<=100000):Does PR E X 147 [.slice base l.length cap] [rsl base cap 1 (l.map fun x=>[u64 x])] (fun v t=>v=stV (St.of l)/\t=[]):=by
 refine Does.of 9 inferInstance rfl (by decide) rfl ?_
 refine zB ?_;refine alloc fun b1=>?_;refine zB ?_;refine alloc fun b2=>?_;refine zB ?_;refine cmW (zGp inferInstance inferInstance rfl rfl) ?_;refine zB ?_;refine zOG ?_ ?hr
 case hr=>simp;omega
 rw [show (0+0:Nat)=0 from rfl];refine (show WL _ _ _ _ _ _ _ _ _ (box b2 (lay (List.replicate 17 (u64 0)) 0 ((l.map fun x=>[u64 x]).take (min l.length 17)).flatten) _::_) from ?_);rw [zOW];refine zB ?_;refine ret ?_;exact ends ⟨rfl,rfl⟩
theorem VO (a:Ad):Does PR E X 118 [a.v] [] (fun v t=>v=(zN a).v/\t=[]):=by
 refine Does.of 8 inferInstance rfl (by decide) rfl ?_
 refine zB ?_;refine zU fun b1=>?_;refine zB ?_;refine alloc fun b2=>?_;refine zB ?_;refine draw [0,0,2,6,15,31] [3,4,5] [0,2] [0,1,2,3,4,5] ?_;refine zC ?_;refine call (yO a.v6) ?_;rintro _ _ ⟨rfl,rfl⟩;try refine zJ ?_
 refine ddA ?_;refine call (vU a (width a.v6)) ?_;rintro _ _ ⟨rfl,rfl⟩;try refine zJ ?_
 refine ddA ?_;refine ret ?_;exact ends ⟨rfl,rfl⟩
theorem Jd (a:Ad) (x:Pf×Int):Does PR E X 117 [a.v,rV x] [] (fun v t=>v=.bool (VN a x)/\t=[]):=by
 have hs:=Wq (E:=E) (X:=X) a.hi a.lo a.v6 a.h1 a.h2;unfold VN;rcases Bool.eq_false_or_eq_true a.sane with h1|h1
 ·rcases Bool.eq_false_or_eq_true (wgood x) with h2|h2
  ·refine Does.of 17 inferInstance rfl (by decide) rfl ?_
   refine zB ?_;refine zU fun b1=>?_;refine zB ?_;refine zU fun b2=>?_;refine zB ?_;refine call hs ?_;rintro _ _ ⟨rfl,rfl⟩;have h1':QB a.hi a.lo a.v6=true:=h1;refine zB ?_;refine call (Zv x) ?_;rintro _ _ ⟨rfl,rfl⟩;refine onA ?_;refine call (Ye x.1 a) ?_;rintro _ _ ⟨rfl,rfl⟩;refine onA ?_;refine ret ?_;exact ends ⟨by rw [h1,h2];rfl,rfl⟩
  ·refine Does.of 17 inferInstance rfl (by decide) rfl ?_
   refine zB ?_;refine zU fun b1=>?_;refine zB ?_;refine zU fun b2=>?_;refine zB ?_;refine call hs ?_;rintro _ _ ⟨rfl,rfl⟩;have h1':QB a.hi a.lo a.v6=true:=h1;refine zB ?_;refine call (Zv x) ?_;rintro _ _ ⟨rfl,rfl⟩;refine onA ?_;refine ret ?_;exact ends ⟨by rw [h1,h2];rfl,rfl⟩
 ·refine Does.of 17 inferInstance rfl (by decide) rfl ?_
  refine zB ?_;refine zU fun b1=>?_;refine zB ?_;refine zU fun b2=>?_;refine zB ?_;refine call hs ?_;rintro _ _ ⟨rfl,rfl⟩;have h1':QB a.hi a.lo a.v6=false:=h1;have hff:false=false:=rfl;refine zB ?_;refine ret ?_;exact ends ⟨by rw [h1];rfl,rfl⟩
theorem zKb (n:Int):Does PR E X 146 [.int .i64 n] [] (fun v t=>v=qV none 0 0 (max 0 (min n 1024)).toNat/\t=[]):=by
 refine Does.of 7 inferInstance rfl (by decide) rfl ?_
 refine zB ?_;refine alloc fun b1=>?_;refine zB ?_;refine ret ?_;exact ends ⟨by show Value.agg #[.slice none 0 0,.int .i64 (max 0 (min n 1024))]=.agg #[.slice none 0 0,.int .i64 (((max 0 (min n 1024)).toNat:Nat):Int)];rw [show (((max 0 (min n 1024)).toNat:Nat):Int)=max 0 (min n 1024) by omega],rfl⟩
theorem Vl (y:Value) (b1 b2:Nat) (base:Option Addr) (cap:Nat) (l:List QE) (hl:l.length<=100000) (a:Ad) (A B:HP) (h:∀ k,vG l a=some k->DoesV PR E X y [.int .i64 (k:Int)] [A] (fun v u=>v=.bool false/\u=[B])) :
  Does PR E X 268 [y,pt b1,pt b2] [A,box b1 [.slice base l.length cap] 97,box b2 (adC a) 50,rsl base cap 9 (l.map qeC)] (fun v u=>v=.tuple #[]/\u=[if (vG l a).isSome then B else A]):=by
 refine Does.of 25 inferInstance rfl (by decide) rfl ?_
 refine zB ?_;refine loop (ι:=Nat) (fun k=>l.length-k) (fun k=>k<=l.length/\∀ i (hi:i<k) (hl:i<l.length),l[i].x.1.has a=false) (fun k=>[(0,y),(1,pt b1),(2,pt b2),(6,.slice base l.length cap),(7,.int .i64 (l.length:Int)),(8,.int .i64 (k:Int))])
  (fun _=>[A,box b1 [.slice base l.length cap] 97,box b2 (adC a) 50,rsl base cap 9 (l.map qeC)]) 0 ⟨by omega,fun i hi=>by omega⟩ ?_
 rintro k ⟨h1,h2⟩ ih;(try dsimp only at h1 h2 ih ⊢);rcases Nat.lt_or_ge k l.length with hk|hk
 ·have hx:l[((k:Nat):Int).toNat]?=some l[k]:=by simp [hk]
  refine zB ?_;refine yes ?_;refine zB ?_;refine alloc fun b5=>?_;refine zB ?_;refine call (Ye l[k].x.1 a) ?_;rintro _ _ ⟨rfl,rfl⟩;refine onA ?_;rcases Bool.eq_false_or_eq_true (l[k].x.1.has a) with hh|hh
  ·have hf:vG l a=some k:=by
    unfold vG;rw [List.findIdx?_eq_some_iff_getElem];exact ⟨hk,hh,fun j hj=>by simp [h2 j hj (by omega)]⟩
   refine zB ?_;refine XD (h k hf) ?_;rintro _ _ ⟨rfl,rfl⟩;refine zB ?_;refine yes ?_;refine zB ?_;refine ret ?_;exact ends ⟨rfl,by rw [hf]⟩
  ·refine zB ?_;refine no ?_;refine zB ?_;exact next (ih (k+1) ⟨by omega,fun i hi hil=>by
    rcases Nat.lt_or_ge i k with q|q
    ·exact h2 i q hil
    ·obtain rfl:i=k:=by omega
     exact hh⟩ (by omega))
 ·obtain rfl:k=l.length:=by omega
  have hf:vG l a=none:=by
   unfold vG;rw [List.findIdx?_eq_none_iff];intro e he;obtain ⟨i,hi,rfl⟩:=List.getElem_of_mem he;exact h2 i hi hi
  refine zB ?_;refine no ?_;refine zB ?_;refine fall ?_;exact ends ⟨rfl,by rw [hf]⟩
theorem W.firstBlock {Post:Value->List HP->Prop} {k:List Item} {L:Tm} {s U F:List HP} {U':Nat->List HP} {fid:FuncId} {n:Nat} {ps:Array Nat} {sa bd:Code} {fo:Operand} (b1 b2:Nat) (base:Option Addr) (cap:Nat) (l:List QE) (hl:l.length<=100000) (a:Ad)
  (hf:ev L fo=some (.func (.func 268) #[] #[pt b1,pt b2])) (hps:ps.size=1) (hps2:∀ p∈ps.toList,p<n)
  (hy:∀ x,vG l a=some x->∀ j tmps r0,L.ok n tmps->W PR E X ⟨fid,.normal,[],some j,n⟩ (fun v t=>∃ t',t=blk j (LO fid tmps ps sa bd r0 .busy none)::t'/\v=.bool false/\t'=U' x) [.code sa,.beginRound,.code bd] (zBS ps.toList [.int .i64 (x:Int)] L) (blk j (LO fid tmps ps sa bd r0 .ready none)::U))
  (h0:vG l a=none->∀ r0,W PR E X ⟨fid,.normal,[Jm r0],none,n⟩ Post k L (U++F))
  (h1:∀ x,vG l a=some x->∀ r0,W PR E X ⟨fid,.normal,[Jm r0],none,n⟩ Post (.code .ret::k) L (U' x++F))
  (hsel:Sels s (U++[box b1 [.slice base l.length cap] 97,box b2 (adC a) 50,rsl base cap 9 (l.map qeC)]) F:=by (try simp only [List.cons_append,List.nil_append]);repeat (first|(with_reducible exact Sels.nil)|((with_reducible apply Sels.dupI);(case h=>(first|(with_reducible exact Sel.here)|((repeat (first|(with_reducible exact Sel.here)|(with_reducible apply Sel.there)));done)|(repeat (first|(exact Sel.here)|(apply Sel.there))))))|((with_reducible apply Sels.cons);(case h=>(first|(with_reducible exact Sel.here)|((repeat (first|(with_reducible exact Sel.here)|(with_reducible apply Sel.there)));done)|(repeat (first|(exact Sel.here)|(apply Sel.there)))))))) :
  W PR E X ⟨fid,.normal,[],none,n⟩ Post (.code (.rangeFunc fo ps sa bd)::k) L s:=by
 refine W.rangeFunc hf fun j tmps r0 hok=>?_;refine ⟨U++[box b1 [.slice base l.length cap] 97,box b2 (adC a) 50,rsl base cap 9 (l.map qeC)],F,fun v t=>((vG l a=none/\t=blk j (LO fid tmps ps sa bd r0 .ready none)::U)∨∃ x,vG l a=some x/\t=blk j (LO fid tmps ps sa bd r0 .done (some .ret))::U' x),?_,fun r f h=>hsel.out h,?_⟩
 ·rcases hx:vG l a with _|x
  ·refine (Vl (.func (.yield j) #[] #[]) b1 b2 base cap l hl a (all (blk j (LO fid tmps ps sa bd r0 .ready none)::U)) (all (blk j (LO fid tmps ps sa bd r0 .ready none)::U)) (fun x h=>by rw [hx] at h;cases h)).conv ?_ ?_
   ·exact fun r f h=>JJ h
   ·rintro _ _ ⟨rfl,rfl⟩;exact ⟨_,.inl ⟨rfl,rfl⟩,fun r f h=>by rw [if_neg (by rw [hx];simp)] at h;simpa using YS h⟩
  ·refine (Vl (.func (.yield j) #[] #[]) b1 b2 base cap l hl a (all (blk j (LO fid tmps ps sa bd r0 .ready none)::U)) (all (blk j (LO fid tmps ps sa bd r0 .done (some .ret))::U' x)) (fun y h=>?_)).conv ?_ ?_
   ·rw [hx] at h;cases h;refine (DoesV.yield (P:=PR) (Post':=fun v t=>v=.bool false/\t=U' x) (pre:=U) (vs:=[.int .i64 (x:Int)]) (by rw [hps];rfl) hps2 hok ?_).conv (fun r f h=>by simpa using YS h) ?_
    ·exact (hy x hx j tmps r0 hok)
    ·rintro v t ⟨t',⟨rfl,rfl⟩,⟨h,_⟩|⟨_,rfl⟩⟩
     ·cases h
     ·exact ⟨_,⟨rfl,rfl⟩,fun r f h=>zFq h⟩
   ·exact fun r f h=>JJ h
   ·rintro _ _ ⟨rfl,rfl⟩;rw [hx];exact ⟨_,.inr ⟨x,rfl,rfl⟩,fun r f h=>by simpa using YS h⟩
 ·rintro v t (⟨hl0,rfl⟩|⟨x,hx,rfl⟩)
  ·exact ⟨_,_,_,rfl,rfl,h0 hl0 r0⟩
  ·exact ⟨_,_,_,rfl,rfl,h1 x hx r0⟩
theorem zE6 (base:Option Addr) (n cap:Nat) (a:Ad):Does PR E X 197 [.slice base n cap,a.v] [] (fun v t=>∃ b1 b2,v=.func (.func 268) #[] #[pt b1,pt b2]/\t=[box b1 [.slice base n cap] 97,box b2 (adC a) 50]):=by
 refine Does.of 6 inferInstance rfl (by decide) rfl ?_
 refine zB ?_;refine zU fun b1=>?_;refine zB ?_;refine zU fun b2=>?_;refine zB ?_;refine ret ?_;exact ends ⟨b1,b2,rfl,rfl⟩
theorem Vg (base:Option Addr) (cap:Nat) (l:List QE) (hl:l.length<=100000) (a:Ad):Does PR E X 119 [.slice base l.length cap,a.v] [rsl base cap 9 (l.map qeC)] (fun v t=>v=.int .i64 (fiV (vG l a))/\t=[]):=by
 refine Does.of 11 inferInstance rfl (by decide) rfl ?_
 refine zB ?_;refine zU fun b3=>?_;refine zB ?_;refine alloc fun b4=>?_;refine zB ?_;refine call (zE6 base l.length cap a) ?_;rintro _ _ ⟨b1,b2,rfl,rfl⟩;refine zB ?_;refine W.firstBlock b1 b2 base cap l hl a rfl rfl (by decide) (U:=[box b4 [.int .i64 0] 3]) (U':=fun x=>[box b4 [.int .i64 (x:Int)] 3]) ?_ ?_ ?_
 ·intro x hx j tmps r0 hok;simp only [zBS];refine zB ?_;refine beginRound ?_;refine zB ?_;refine QZ ⟨_,rfl,rfl,rfl⟩
 ·intro h0 r0;refine zB ?_;refine ret ?_;exact ends ⟨by rw [h0];rfl,rfl⟩
 ·intro x hx r0;simp only [List.cons_append,List.nil_append];refine ret ?_;exact ends ⟨by rw [hx];rfl,rfl⟩
end Go.Proofs.YtjcbjclhagobiaaGreat
end
section
namespace Go.Proofs.YtjcbjclhagobiaaGreat
set_option maxHeartbeats 1600000
open Go Go.KL Go.KM
variable {E:Env} {X:Xs}
set_option maxRecDepth 100000
theorem zND {cap sz:Nat} {es:List (List Value)} {F s:List HP} (hs:Sel s (rsl none cap sz es) F):∀ r f,sep s r f->es=[]/\cap=0:=fun r f h=>by
 obtain ⟨f1,f2,d,l1,l2,⟨k1,k2,k3,k4⟩,_⟩:=hs.out h;have h0:=k3 rfl;exact ⟨zEX k2 h0,h0⟩
set_option maxHeartbeats 1000000 in
theorem XW (base:Option Addr) (cap:Nat) (l:List QE) (bound:Nat) (hq:QOk l bound):Does PR E X 51 [qV base l.length cap bound] [rsl base cap 9 (l.map qeC)] (fun v t=>v=.bool true/\t=[]):=by
 have h1:=hq.most;have h2:=hq.len;refine Does.of 59 inferInstance rfl (by decide) rfl ?_
 refine zB ?_;refine zU fun b1=>?_;refine zB ?_;refine no ?_ rfl (by rw [decide_eq_false (by omega),decide_eq_false (by omega),decide_eq_false (by omega)];rfl)
 refine zB ?_;refine loop (ι:=Nat) (fun k=>l.length-k) (fun k=>k<=l.length) (fun k=>[(1,pt b1),(22,.slice base l.length cap),(23,.int .i64 (l.length:Int)),(24,.int .i64 (k:Int))])
  (fun _=>[box b1 [.slice base l.length cap,.int .i64 (bound:Int)] 99,rsl base cap 9 (l.map qeC)]) 0 (by omega) ?_
 intro k hk ih;(try dsimp only at hk ih ⊢);rcases Nat.lt_or_ge k l.length with hlt|hge
 ·have hx:l[((k:Nat):Int).toNat]?=some l[k]:=by simp [hlt]
  have hf:=hq.fits _ (List.getElem_mem hlt);have hs:=hq.st _ (List.getElem_mem hlt);have ht:=zEu hq hlt;generalize l[k]=e at hx hf hs ht;obtain ⟨a,⟨p,h⟩,st⟩:=e;(try dsimp only at hf hs ht);have hnf:(!VN a (p,h))=false:=by rw [hf];rfl
  have hff:false=false:=rfl;have htt:true=true:=rfl;have hfi:(!decide (fiV none = -1))=false:=rfl;have htl:(l.take k).length=k:=by rw [List.length_take];omega
  have ht0:((k:Nat):Int).toNat-0=(l.take k).length:=by omega
  refine W.pure (p:=l.length<=cap) (fun r f hp=>?_) fun hcap=>?_
  ·obtain ⟨f1,f2,d,l1,l2,a1,g1,g2,d',m1,m2,a2,_⟩:=hp;simpa using a2.2.1
  refine into (Jq base (es':=(l.take k).map qeC) 0 k (by omega) (by rw [List.drop_zero,List.map_take])) ?_
  cases st with
  | true=>
   have hw:=hs rfl;subst hw;refine zB ?_;refine yes ?_;refine zB ?_;refine alloc fun b4=>?_;refine zB ?_;refine draw [0,1,0,4,15,31,63,127,255,511,1023,2047,4095,1023,9215,25599,65535,131071,262143,524287,1048575,2097151,1048575,8388607,1048575,17825791,67108863,134217727,268435455] [4,15,26] [1,3,8,12,14,21,23,25] [0,1,2,3,4,5,6,7,8,9,10,11,12,13,14,15,16,17,18,19,20,21,22,23,24,25,26,27,28] ?_;refine zC ?_;refine call (Jd a (zN a,h)) ?_;rintro _ _ ⟨rfl,rfl⟩;try refine zJ ?_
   refine ddA ?_;have hne:(!(decide (((zN a).a.hi:Int)=((zN a).a.hi:Int))&&(decide (((zN a).a.lo:Int)=((zN a).a.lo:Int))&&(((zN a).a.v6 == (zN a).a.v6)&&(decide ((zN a).n=(zN a).n)&&true)))))=false:=by rw [eqP];simp
   refine call (VO a) ?_;rintro _ _ ⟨rfl,rfl⟩;try refine zJ ?_
   refine ddA ?_;rw [ht0];refine call (Vg (slB base cap 0 9) (cap-0) (l.take k) (by omega) a) ?_
   rintro _ _ ⟨rfl,rfl⟩;try refine zJ ?_
   rw [ht];refine ddA ?_;refine no ?_ rfl (by simp [fiV])
   refine zB ?_;exact next (ih (k+1) (by omega) (by omega))
  | false=>
   refine zB ?_;refine yes ?_;refine zB ?_;refine alloc fun b4=>?_;refine zB ?_;refine draw [0,1,0,4,15,31,63,127,255,511,1023,2047,4095,1023,9215,25599,65535,131071,262143,524287,1048575,2097151,1048575,8388607,1048575,17825791,67108863,134217727,268435455] [4,15,26] [1,3,8,12,14,21,23,25] [0,1,2,3,4,5,6,7,8,9,10,11,12,13,14,15,16,17,18,19,20,21,22,23,24,25,26,27,28] ?_;refine zC ?_;refine call (Jd a (p,h)) ?_;rintro _ _ ⟨rfl,rfl⟩;try refine zJ ?_
   refine ddA ?_;rw [ht0];refine call (Vg (slB base cap 0 9) (cap-0) (l.take k) (by omega) a) ?_
   rintro _ _ ⟨rfl,rfl⟩;try refine zJ ?_
   rw [ht];refine ddA ?_;refine no ?_;refine zB ?_;exact next (ih (k+1) (by omega) (by omega))
 ·obtain rfl:k=l.length:=by omega
  refine zB ?_;refine no ?_;refine zB ?_;refine ret ?_;exact ends ⟨rfl,rfl⟩
theorem Yf (base:Option Addr) (cap:Nat) (l:List QE) (hl:l.length<=100000):Does PR E X 293 [.slice base l.length cap] [rsl base cap 9 (l.map qeC)] (fun v t=>∃ b' c',v=.slice b' l.length c'/\t=[osl b' c' 114 9 (l.map qeC)]):=by
 cases base with
 | none=>
  refine Does.of 8 inferInstance rfl (by decide) rfl ?_
  refine W.pure (p:=l=[]) (fun r f hp=>?_) fun hn=>?_
  ·have:=(zND (F:=[]) .here r f hp).1
   simpa using this
  subst hn;refine zB ?_;refine yes ?_;refine zB ?_;refine into (Into.nilO (T:=114) (sz:=9)) ?_;refine ret ?_;exact ends ⟨none,0,rfl,rfl⟩
 | some a=>
  refine Does.of 8 inferInstance rfl (by decide) rfl ?_
  refine zB ?_;refine no ?_;refine zB ?_;refine buildSlice fun b5=>?_;refine zB ?_;refine zA8 fun b6 c6=>?_;refine zB ?_;refine ret ?_;exact ends ⟨b6,c6,by simp,rfl⟩
def Wd (l:List QE) (bound:Nat) (a:Ad) (x:Pf×Int):List QE×Int:=
 if (vG l a).isSome then (l,1) else if l.length=bound∨VN a x=false then (l,2) else (l++[⟨a,x,false⟩],3)
set_option maxHeartbeats 1000000 in
theorem zGx (base:Option Addr) (cap:Nat) (l:List QE) (bound:Nat) (hq:QOk l bound) (a:Ad) (x:Pf×Int):Does PR E X 256 [qV base l.length cap bound,a.v,rV x] [rsl base cap 9 (l.map qeC)] (fun v t=>∃ b' c',v=.tuple #[qV b' (Wd l bound a x).1.length c' bound,.int .i64 (Wd l bound a x).2]/\t=[rsl b' c' 9 ((Wd l bound a x).1.map qeC)]):=by
 have hm:=hq.most;have hl:=hq.len;refine Does.of 45 inferInstance rfl (by decide) rfl ?_
 refine zB ?_;refine zU fun b3=>?_;refine zB ?_;refine zU fun b4=>?_;refine zB ?_;refine zU fun b5=>?_;refine zB ?_;refine alloc fun b6=>?_;refine zB ?_;refine call (XW base cap l bound hq) ?_;rintro _ _ ⟨rfl,rfl⟩;refine zB ?_;refine no ?_;refine zB ?_;refine call (Vg base cap l (by omega) a) ?_
 rintro _ _ ⟨rfl,rfl⟩;refine onA ?_;unfold Wd;cases hf:vG l a with
 | some k=>
  refine yes ?_ rfl (by unfold fiV;simp)
  refine zB ?_;refine ret ?_;exact ends ⟨base,cap,rfl,rfl⟩
 | none=>
  refine no ?_ rfl rfl;rcases Bool.eq_false_or_eq_true (decide ((l.length:Int)=(bound:Int))) with h0|h0
  ·have h0':=of_decide_eq_true h0;refine zB ?_;refine yes ?_;refine zB ?_;rw [show (if (none:Option Nat).isSome=true then (l,(1:Int)) else if l.length=bound∨VN a x=false then (l,2) else (l++[⟨a,x,false⟩],3))=(l,2) by rw [if_neg (by simp),if_pos (.inl (by omega))]]
   refine ret ?_;exact ends ⟨base,cap,rfl,rfl⟩
  ·have h0':=of_decide_eq_false h0;refine zB ?_;refine call (Jd a x) ?_;rintro _ _ ⟨rfl,rfl⟩;refine onA ?_;rcases Bool.eq_false_or_eq_true (VN a x) with hx|hx
   ·rw [show (if (none:Option Nat).isSome=true then (l,(1:Int)) else if l.length=bound∨VN a x=false then (l,2) else (l++[⟨a,x,false⟩],3))=(l++[⟨a,x,false⟩],3) by rw [if_neg (by simp),if_neg (by rw [hx];simp;omega)]]
    rw [hx];refine no ?_;refine zB ?_;refine zLc [0,1,3,0,0,24,56,127,0,256,1023,2047,4095] [2,6,7,11,12] [1,3,4,9] [0,1,3,4,5,8,9] 2 6 [7,10,11,12] ?_;try simp only [List.cons_append,List.nil_append,setd]
    repeat (first|((with_reducible apply DX.cm);(case hw=>exact zO);(case hnd=>exact rfl);(case hd=>exact rfl);(case he=>exact rfl);(case hr=>exact rfl);(case h=>exact cmA))|((with_reducible apply DX.ltP);(case hw=>exact zO);(case hnd=>exact rfl);(case hd=>exact rfl);(case he=>exact rfl);(case hr=>exact rfl);(case h=>exact zOS)))
    have hlen:(l++[(⟨a,x,false⟩:QE)]).length=l.length+1:=by simp
    rw [hlen,List.map_append];refine DX.of ?_ ?_
    ·refine Act.cl ?_;refine call (Yf base cap l (by omega)) ?_
     rintro _ _ ⟨b',c',rfl,rfl⟩;refine zJ ?_;refine ddA ?_;refine yF fun bp=>?_;refine ddA ?_;refine xP fun b8 c8=>?_;refine ddA ?_;refine xE b8 ?_;refine ret ?_;exact ends ⟨b8,c8,rfl,rfl⟩
    ·refine zDs fun bp=>?_;refine ddA ?_;refine call (Yf base cap l (by omega)) ?_
     rintro _ _ ⟨b',c',rfl,rfl⟩;refine zJ ?_;refine ddA ?_;refine xP fun b8 c8=>?_;refine ddA ?_;refine xE b8 ?_;refine ret ?_;exact ends ⟨b8,c8,rfl,rfl⟩
   ·rw [show (if (none:Option Nat).isSome=true then (l,(1:Int)) else if l.length=bound∨VN a x=false then (l,2) else (l++[⟨a,x,false⟩],3))=(l,2) by rw [if_neg (by simp),if_pos (.inr hx)]]
    rw [hx];refine yes ?_;refine zB ?_;refine ret ?_;exact ends ⟨base,cap,rfl,rfl⟩
end Go.Proofs.YtjcbjclhagobiaaGreat
end
section
namespace Go.Proofs.YtjcbjclhagobiaaGreat
set_option maxHeartbeats 1600000
open Go Go.KL Go.KM
variable {E:Env} {X:Xs}
set_option maxRecDepth 100000
def narrowTo (l:List QE) (p:Pf) (k:Nat):List QE:=(l.take k).map (wJ p)++l.drop k
theorem zDF {l:List QE} {p:Pf} {k:Nat}:(narrowTo l p k).length=l.length:=by simp [narrowTo];omega
theorem zDl {l:List QE} {p:Pf} {k:Nat} (h:k<l.length):(narrowTo l p k)[k]?=some l[k]:=by
 unfold narrowTo;have:((l.take k).map (wJ p)).length=k:=by simp;omega
 rw [List.getElem?_append_right (by omega),this,Nat.sub_self,List.getElem?_drop];simp [h]
theorem zAz {l:List QE} {p:Pf} {k:Nat} (h:k<l.length):narrowTo l p (k+1)=(narrowTo l p k).set k (wJ p l[k]):=by
 unfold narrowTo;have e:((l.take k).map (wJ p)).length=k:=by simp;omega
 rw [List.set_append_right _ _ (by omega),e,Nat.sub_self,List.drop_eq_getElem_cons h,List.set_cons_zero,<-List.take_append_getElem h,List.map_append,List.append_assoc];rfl
set_option maxHeartbeats 1000000 in
theorem zEe (base:Option Addr) (cap:Nat) (l:List QE) (bound:Nat) (hq:QOk l bound) (p:Pf):Does PR E X 234 [qV base l.length cap bound,p.v] [rsl base cap 9 (l.map qeC)] (fun v t=>∃ b' c' n,v=.tuple #[qV b' (ZH l p).length c' bound,.int .i64 n]/\t=[rsl b' c' 9 ((ZH l p).map qeC)]):=by
 have hm:=hq.most;have hl:=hq.len;refine Does.of 61 inferInstance rfl (by decide) rfl ?_
 refine zB ?_;refine zU fun b2=>?_;refine zB ?_;refine zU fun b3=>?_;refine zB ?_;refine alloc fun b4=>?_;refine zB ?_;refine call (XW base cap l bound hq) ?_;rintro _ _ ⟨rfl,rfl⟩;refine zB ?_;refine no ?_;refine zB ?_;refine call (Yf base cap l (by omega)) ?_
 rintro _ _ ⟨b',c',rfl,rfl⟩;refine zB ?_;rw [show osl b' c' 114 9 (l.map qeC)=osl b' c' 114 9 ((narrowTo l p 0).map qeC) from rfl];refine loop (ι:=Nat×Nat) (fun z=>l.length-z.1) (fun z=>z.1<=l.length/\z.2<=z.1) (fun z=>[(2,pt b2),(3,pt b3),(4,pt b4),(6,.int .i64 (z.2:Int)),(7,.slice b' l.length c'),(18,.int .i64 (l.length:Int)),(19,.int .i64 (z.1:Int))])
  (fun z=>[osl b' c' 114 9 ((narrowTo l p z.1).map qeC),box b2 [.slice base l.length cap,.int .i64 (bound:Int)] 99,box b3 (pfC p) 52,box b4 [.slice none 0 0,.int .i64 0] 99]) (0,0) ⟨by omega,by omega⟩ ?_
 rintro ⟨k,m⟩ ⟨h1,h2⟩ ih;(try dsimp only at h1 h2 ih ⊢);have hnl:=zDF (l:=l) (p:=p) (k:=k);rcases Nat.lt_or_ge k l.length with hk|hk
 ·have hx:(narrowTo l p k)[((k:Nat):Int).toNat]?=some l[k]:=by rw [show ((k:Nat):Int).toNat=k by omega];exact zDl hk
  have hs:=zAz (p:=p) hk;generalize narrowTo l p k=N at hx hs hnl;generalize l[k]=e at hx hs;obtain ⟨a,⟨q,h⟩,st⟩:=e;have ek:((k:Nat):Int).toNat=k:=by omega
  have hx3:((N.map qeC).set ((k:Nat):Int).toNat [u64 a.hi,u64 a.lo,.bool a.v6,u64 (zN a).a.hi,u64 (zN a).a.lo,.bool (zN a).a.v6,.int .i64 (zN a).n,.int .i64 h,.bool st])[((k:Nat):Int).toNat]?=some [u64 a.hi,u64 a.lo,.bool a.v6,u64 (zN a).a.hi,u64 (zN a).a.lo,.bool (zN a).a.v6,.int .i64 (zN a).n,.int .i64 h,.bool st]:=by
   rw [List.getElem?_set_self (by rw [List.length_map];omega)]
  refine zB ?_;refine yes ?_;refine zB ?_;refine draw [0,0,2,6,14,30,63,127,255,511,1023,2047,4095,255,16383,32767] [6,14] [0,5,12,13] [0,1,2,3,4,5,6,7,8,9,10,11,12,13,14,15] ?_;refine zC ?_;refine call (Jg p q) ?_;rintro _ _ ⟨rfl,rfl⟩;try refine zJ ?_
  rcases Bool.eq_false_or_eq_true (p.covers q) with hc|hc
  ·refine ddA ?_;refine yes ?_;refine zB ?_;refine call (VO a) ?_;rintro _ _ ⟨rfl,rfl⟩;refine onA ?_;refine (show W _ _ _ _ _ _ _ [osl b' c' _ 9 (((N.map qeC).set ((k:Nat):Int).toNat [u64 a.hi,u64 a.lo,.bool a.v6,u64 (zN a).a.hi,u64 (zN a).a.lo,.bool (zN a).a.v6,.int .i64 (zN a).n,.int .i64 h,.bool st]).set ((k:Nat):Int).toNat [u64 a.hi,u64 a.lo,.bool a.v6,u64 (zN a).a.hi,u64 (zN a).a.lo,.bool (zN a).a.v6,.int .i64 (zN a).n,.int .i64 h,.bool true]),_,_,_] from ?_);have e1:wJ p ⟨a,(q,h),st⟩=⟨a,(zN a,h),true⟩:=if_pos (by simp [hc])
   rw [List.set_set,ek,show [u64 a.hi,u64 a.lo,.bool a.v6,u64 (zN a).a.hi,u64 (zN a).a.lo,.bool (zN a).a.v6,.int .i64 (zN a).n,.int .i64 h,.bool true]=qeC ⟨a,(zN a,h),true⟩ from rfl,<-List.map_set,<-e1,<-hs];have hr:=ih (k+1,m+1) ⟨by show k+1<=l.length;omega,by show m+1<=k+1;omega⟩ (by show l.length-(k+1)<l.length-k;omega)
   exact next hr
  ·refine ddA ?_;refine call (Jg q p) ?_;rintro _ _ ⟨rfl,rfl⟩;try refine zJ ?_
   refine ddA ?_;rcases Bool.eq_false_or_eq_true (q.covers p) with hc2|hc2
   ·rw [hc,hc2];refine yes ?_;refine zB ?_;refine call (VO a) ?_;rintro _ _ ⟨rfl,rfl⟩;refine onA ?_;refine (show W _ _ _ _ _ _ _ [osl b' c' _ 9 (((N.map qeC).set ((k:Nat):Int).toNat [u64 a.hi,u64 a.lo,.bool a.v6,u64 (zN a).a.hi,u64 (zN a).a.lo,.bool (zN a).a.v6,.int .i64 (zN a).n,.int .i64 h,.bool st]).set ((k:Nat):Int).toNat [u64 a.hi,u64 a.lo,.bool a.v6,u64 (zN a).a.hi,u64 (zN a).a.lo,.bool (zN a).a.v6,.int .i64 (zN a).n,.int .i64 h,.bool true]),_,_,_] from ?_);have e1:wJ p ⟨a,(q,h),st⟩=⟨a,(zN a,h),true⟩:=if_pos (by simp [hc2])
    rw [List.set_set,ek,show [u64 a.hi,u64 a.lo,.bool a.v6,u64 (zN a).a.hi,u64 (zN a).a.lo,.bool (zN a).a.v6,.int .i64 (zN a).n,.int .i64 h,.bool true]=qeC ⟨a,(zN a,h),true⟩ from rfl,<-List.map_set,<-e1,<-hs];have hr:=ih (k+1,m+1) ⟨by show k+1<=l.length;omega,by show m+1<=k+1;omega⟩ (by show l.length-(k+1)<l.length-k;omega)
    exact next hr
   ·rw [hc,hc2];refine no ?_;refine zB ?_;have e1:wJ p ⟨a,(q,h),st⟩=⟨a,(q,h),st⟩:=if_neg (by simp [hc,hc2])
    have e2:N=narrowTo l p (k+1):=by
     rw [hs,e1];apply List.ext_getElem?;intro j;by_cases e:j=k
     ·subst e;rw [List.getElem?_set_self (by omega),<-hx,ek]
     ·rw [List.getElem?_set_ne (fun y=>e y.symm)]
    rw [e2];have hr:=ih (k+1,m) ⟨by show k+1<=l.length;omega,by show m<=k+1;omega⟩ (by show l.length-(k+1)<l.length-k;omega)
    exact next hr
 ·obtain rfl:k=l.length:=by omega
  refine zB ?_;refine no ?_;refine zB ?_;have e1:narrowTo l p l.length=ZH l p:=by unfold narrowTo ZH;simp
  rw [e1];refine xE b' ?_;refine ret ?_;exact ends ⟨b',c',m,by unfold ZH;rw [List.length_map];rfl,rfl⟩
end Go.Proofs.YtjcbjclhagobiaaGreat
end
section
namespace Go.Proofs.YtjcbjclhagobiaaGreat
set_option maxHeartbeats 1600000
open Go Go.KL Go.KM
variable {E:Env} {X:Xs}
set_option maxRecDepth 100000
theorem Xr {c vs:List Value} {off j:Nat} (h:off+vs.length<=c.length) (hj:j<off∨off+vs.length<=j):(lay c off vs)[j]?=c[j]?:=by
 rw [ZF _ _ _ _ h,if_neg (by omega)]
theorem zFD {c vs:List Value} {off j:Nat} (h:off+vs.length<=c.length) (h1:off<=j) (h2:j<off+vs.length):(lay c off vs)[j]?=vs[j-off]?:=by
 rw [ZF _ _ _ _ h,if_pos ⟨h1,h2⟩]
theorem zOs (l:List QE):ElOk 9 (l.map qeC):=⟨fun e he=>by
 obtain ⟨x,_,rfl⟩:=List.mem_map.1 he;rfl,fun e he v hv=>by
 obtain ⟨x,_,rfl⟩:=List.mem_map.1 he;simp only [List.mem_cons,List.not_mem_nil,or_false] at hv;rcases hv with rfl|rfl|rfl|rfl|rfl|rfl|rfl|rfl|rfl <;> rfl⟩
theorem zHq {es:List (List Value)} {c z:List Value} {off off2 n cap sz:Nat} (hes:ElOk sz es) (hn:n<es.length) (hcap:es.length<=cap) (hc:off+cap*sz<=c.length) (hk:∀ j v,es.flatten[j]?=some v->c[off+j]?=some v) (h2:off2=off+(n+1)*sz∨es.length=n+1) (hz:z.length=sz) (ho2:off2+(es.length-(n+1))*sz<=c.length) :
  (c.drop off2).take ((es.length-(n+1))*sz)=(es.drop (n+1)).flatten/\∀ j v,(es.eraseIdx n).flatten[j]?=some v->(lay (lay c (off+n*sz) ((c.drop off2).take ((es.length-(n+1))*sz))) (off+(es.length-1)*sz) (List.replicate 1 z).flatten)[off+j]?=some v:=by
 have hd:ElOk sz (es.drop (n+1)):=hes.sub fun e he=>List.mem_of_mem_drop he;have hfl:((es.drop (n+1)).flatten).length=(es.length-(n+1))*sz:=by rw [hd.flat,List.length_drop]
 have hm1:(n+1)*sz+(es.length-(n+1))*sz=es.length*sz:=by rw [<-Nat.add_mul];congr 1;omega
 have hm2:n*sz+(es.length-(n+1))*sz=(es.length-1)*sz:=by rw [<-Nat.add_mul];congr 1;omega
 have hm3:(es.length-1)*sz+sz=es.length*sz:=by
  have:=Nat.succ_mul (es.length-1) sz
  rw [<-this];congr 1;omega
 have hm4:es.length*sz<=cap*sz:=Nat.mul_le_mul_right sz hcap;have e1:(c.drop off2).take ((es.length-(n+1))*sz)=(es.drop (n+1)).flatten:=by
  apply List.ext_getElem?;intro j;by_cases hj:j<(es.length-(n+1))*sz
  ·rw [List.getElem?_take_of_lt hj,List.getElem?_drop];have hlt:j<((es.drop (n+1)).flatten).length:=by omega
   have hv:es.flatten[(n+1)*sz+j]?=some ((es.drop (n+1)).flatten[j]):=by
    have:=zFT (sz:=sz) (lo:=n+1) (m:=es.length) (j:=j) (es:=es) (v:=(es.drop (n+1)).flatten[j]) hes.len (by
     rw [List.take_of_length_le (by rw [List.length_drop];omega)]
     exact List.getElem?_eq_getElem hlt)
    exact this
   have h3:off2=off+(n+1)*sz:=by
    rcases h2 with h2|h2
    ·exact h2
    ·rw [h2] at hj;simp at hj
   rw [List.getElem?_eq_getElem hlt,<-hk _ _ hv,h3];congr 1;omega
  ·rw [List.getElem?_eq_none (by rw [List.length_take];omega),List.getElem?_eq_none (by omega)]
 refine ⟨e1,fun j v hj=>?_⟩;rw [e1];have hzl:((List.replicate 1 z).flatten).length=sz:=by simp [hz]
 have he:es.eraseIdx n=es.take n++es.drop (n+1):=List.eraseIdx_eq_take_drop_succ ..;have hjl:j<(es.length-1)*sz:=by
  have h1:ElOk sz (es.eraseIdx n):=hes.sub fun e he=>List.mem_of_mem_eraseIdx he;have:=(List.getElem?_eq_some_iff.1 hj).1
  rw [h1.flat,List.length_eraseIdx_of_lt hn] at this;exact this
 have ht:ElOk sz (es.take n):=hes.sub fun e he=>List.mem_of_mem_take he;have hnt:((es.take n).flatten).length=n*sz:=by rw [ht.flat,List.length_take,Nat.min_eq_left (by omega)]
 have hlay:off+n*sz+((es.drop (n+1)).flatten).length<=c.length:=by omega
 rw [Xr (by rw [zG];omega) (.inl (by omega))]
 rw [he,List.flatten_append] at hj;by_cases hjn:j<n*sz
 ·rw [Xr hlay (.inl (by omega))]
  rw [List.getElem?_append_left (by omega)] at hj
  refine hk j v ?_;have e2:es=es.take n++es.drop n:=(List.take_append_drop ..).symm;rw [e2,List.flatten_append,List.getElem?_append_left (by omega)]
  exact hj
 ·rw [List.getElem?_append_right (by omega),hnt] at hj
  rw [zFD hlay (by omega) (by omega),show off+j-(off+n*sz)=j-n*sz by omega]
  exact hj
set_option maxHeartbeats 1000000 in
theorem zCm (base:Option Addr) (cap:Nat) (l:List QE) (n:Nat) (hn:n<l.length) (hl:l.length<=100000):Does PR E X 387 [.slice base l.length cap,.int .i64 (n:Int),.int .i64 ((n:Int)+1)] [osl base cap 114 9 (l.map qeC)] (fun v t=>v=.slice base (l.length-1) cap/\t=[osl base cap 114 9 ((l.eraseIdx n).map qeC)]):=by
 refine Does.of 33 inferInstance rfl (by decide) rfl ?_
 refine zMn base fun hcap=>?_;rw [List.length_map] at hcap;refine zB ?_;refine cmW (zLf inferInstance inferInstance rfl rfl rfl rfl (by omega) (by omega) (by omega) (by omega)) ?_
 refine zB ?_;refine no ?_ rfl (decide_eq_false (by omega))
 refine zB ?_;refine zDj base (cap:=cap) (by omega) fun bb off c hb k1 k2 k3 k4=>?_
 subst hb;rw [List.length_map] at k2;obtain ⟨off2,e2,h2⟩:∃ off2,slB (some ⟨bb,off,none⟩) cap (n+1) 9=some ⟨bb,off2,none⟩/\(off2=off+(n+1)*9∨(cap=n+1/\off2=off)):=by
  unfold slB;by_cases e:cap=n+1
  ·rw [if_pos e];exact ⟨off,rfl,.inr ⟨e,rfl⟩⟩
  ·rw [if_neg e];exact ⟨off+(n+1)*9,by simp only [Option.map_some];rw [Qw],.inl rfl⟩
 refine draw [0,0,3,0,0,24,63,127] [6,7] [2,5] [0,1,2,3,4,5,6,7] ?_;refine zC ?_;rw [show ((n:Int)+1).toNat=n+1 by omega,e2,zHn,show ((n:Nat):Int).toNat-0=n by omega,Nat.sub_zero]
 have hd:=zHq (es:=l.map qeC) (c:=c) (z:=[.int .u64 0,.int .u64 0,.bool false,.int .u64 0,.int .u64 0,.bool false,.int .i64 0,.int .i64 0,.bool false]) (off:=off) (off2:=off2) (n:=n) (cap:=cap) (sz:=9) k1 (by rw [List.length_map];exact hn) (by rw [List.length_map];exact hcap) k3 k4 (by rw [List.length_map];omega) rfl (by rw [List.length_map];omega)
 rw [List.length_map] at hd;obtain ⟨hd1,hd2⟩:=hd;refine zLv (c:=c) (off:=off) (off2:=off2) (cap:=cap) (n:=n) (n2:=l.length-(n+1)) (sz:=9) ?_ (by omega) (by omega) (by omega) (by rw [hd1];exact (k1.sub fun e he=>List.mem_of_mem_drop he).flatOne)
 refine ddA ?_;rw [show n+(l.length-(n+1))=l.length-1 by omega]
 refine zB ?_;have e3:slB (some ⟨bb,off,none⟩) cap (l.length-1) 9=some ⟨bb,off+(l.length-1)*9,none⟩:=by
  unfold slB;rw [if_neg (by omega)];simp only [Option.map_some];rw [Qw]
 rw [show ((l.length-1:Nat):Int).toNat=l.length-1 by omega,e3,show ((l.length:Nat):Int).toNat-(l.length-1)=1 by omega]
 have hdl:((c.drop off2).take ((l.length-(n+1))*9)).length=(l.length-(n+1))*9:=by
  rw [hd1,(k1.sub fun e he=>List.mem_of_mem_drop he).flat,List.length_drop,List.length_map]
 refine zJb (n:=1) (sz:=9) (off:=off+(l.length-1)*9) (c:=lay c (off+n*9) ((c.drop off2).take ((l.length-(n+1))*9))) ?_ (by rw [zG];omega)
 refine zB ?_;have em:(l.map qeC).eraseIdx n=(l.eraseIdx n).map qeC:=by simp [List.eraseIdx_eq_take_drop_succ,List.map_take,List.map_drop]
 rw [em] at hd2;refine into (Into.box (es:=(l.eraseIdx n).map qeC) (off:=off) (cap:=cap) (sz:=9) .here (zOs _) (by rw [List.length_map,List.length_eraseIdx_of_lt hn];omega) (by rw [zG,zG];exact k3) hd2) ?_
 refine ret ?_;exact ends ⟨rfl,rfl⟩
theorem zHS (base:Option Addr) (cap:Nat) (l:List QE) (bound:Nat) (hq:QOk l bound) (n:Nat) (hn:n<l.length):Does PR E X 352 [qV base l.length cap bound,.int .i64 (n:Int)] [rsl base cap 9 (l.map qeC)] (fun v t=>∃ b' c',v=.tuple #[qV b' (l.eraseIdx n).length c' bound,.agg (qeC l[n]).toArray,.bool true]/\t=[rsl b' c' 9 ((l.eraseIdx n).map qeC)]):=by
 have hm:=hq.most;have hl:=hq.len;have hx:l[((n:Nat):Int).toNat]?=some l[n]:=by simp [hn]
 refine Does.of 40 inferInstance rfl (by decide) rfl ?_
 refine zB ?_;refine zU fun b2=>?_;refine zB ?_;refine alloc fun b4=>?_;refine zB ?_;refine alloc fun b5=>?_;refine zB ?_;refine call (XW base cap l bound hq) ?_;rintro _ _ ⟨rfl,rfl⟩;refine zB ?_;refine no ?_;refine zB ?_;refine no ?_ rfl (by rw [decide_eq_false (by omega),decide_eq_false (by omega)];rfl)
 refine zB ?_;refine draw [0,1,3,0,0,16,63,0,128,511,0,1024,0,7168,15360,1023,65535,131071] [2,6,15,16,17] [1,8,11,13,14] [0,1,3,4,5,7,8,10,11,12,13,14,2,6,9,15,16,17] ?_;refine zC ?_;refine call (Yf base cap l (by omega)) ?_
 rintro _ _ ⟨b',c',rfl,rfl⟩;refine zJ ?_;refine ddA ?_;refine call (zCm b' c' l n hn (by omega)) ?_
 rintro _ _ ⟨rfl,rfl⟩;refine zJ ?_;refine ddA ?_;rw [show l.length-1=(l.eraseIdx n).length by rw [List.length_eraseIdx_of_lt hn]]
 refine xE b' ?_;refine ret ?_;exact ends ⟨b',c',rfl,rfl⟩
end Go.Proofs.YtjcbjclhagobiaaGreat
end
section
namespace Go.Proofs.YtjcbjclhagobiaaGreat
set_option maxHeartbeats 1600000
open Go Go.KL Go.KM
variable {E:Env} {X:Xs}
set_option maxRecDepth 100000
def zDc (m:Prs) (Q:List QE) (bound:Nat) (a:Ad):List QE×Int:=match ZK m a with
 | none=>(Q,0)
 | some x=>Wd Q bound a x
theorem zKh (r most hops:Nat) (m:Prs) (hm:m.length<=1000000) (base:Option Addr) (cap:Nat) (Q:List QE) (bound:Nat) (hq:QOk Q bound) (a:Ad) (ha:a.sane=true):Does PR E X 181 [pt r,qV base Q.length cap bound,a.v] [ZJ r m most hops,rsl base cap 9 (Q.map qeC)] (fun v t=>∃ b' c',v=.tuple #[qV b' (zDc m Q bound a).1.length c' bound,.int .i64 (zDc m Q bound a).2]/\t=[ZJ r m most hops,rsl b' c' 9 ((zDc m Q bound a).1.map qeC)]):=by
 have hs:=Wq (E:=E) (X:=X) a.hi a.lo a.v6 a.h1 a.h2;have ha':QB a.hi a.lo a.v6=true:=ha;rw [ha'] at hs;have hf:(!true)=false:=rfl;refine Does.of 34 inferInstance rfl (by decide) rfl ?_
 refine zB ?_;refine zU fun b4=>?_;refine zB ?_;refine zU fun b5=>?_;refine zB ?_;refine alloc fun b6=>?_;refine zB ?_;refine call hs ?_;rintro _ _ ⟨rfl,rfl⟩;refine zB ?_;refine call (XW base cap Q bound hq) ?_;rintro _ _ ⟨rfl,rfl⟩;refine zB ?_;refine no ?_;refine zB ?_;refine call (JP r most hops m hm a) ?_;rintro _ _ ⟨rfl,rfl⟩;refine onA ?_;refine alloc fun b8=>?_;refine zB ?_;unfold zDc;cases hl:ZK m a with
 | none=>
  refine yes ?_;refine zB ?_;refine ret ?_;exact ends ⟨base,cap,rfl,rfl⟩
 | some x=>
  refine no ?_;refine zB ?_;refine call (zGx base cap Q bound hq a x) ?_;rintro _ _ ⟨b',c',rfl,rfl⟩;refine zB ?_;refine ret ?_;exact ends ⟨b',c',rfl,rfl⟩
def Yg (m:Prs) (e:QE):Option (Pf×Int):=if e.st then ZK m e.a else some e.x
theorem zCc (r most hops b:Nat) (m:Prs) (hm:m.length<=1000000) (e:QE):Does PR E X 388 [.agg (qeC e).toArray,pt b] [ZJ r m most hops,box b [pt r] 106] (fun v t=>v=prO (Yg m e)/\t=[ZJ r m most hops]):=by
 obtain ⟨a,x,st⟩:=e;refine Does.of 15 inferInstance rfl (by decide) rfl ?_
 refine zB ?_;refine zU fun b2=>?_;refine zB ?_;refine alloc fun b3=>?_;refine zB ?_;unfold Yg;cases st with
 | true=>
  refine yes ?_;refine zB ?_;refine call (JP r most hops m hm a) ?_;rintro _ _ ⟨rfl,rfl⟩;refine onA ?_;refine ret ?_;exact ends ⟨rfl,rfl⟩
 | false=>
  refine no ?_;refine zB ?_;refine ret ?_;exact ends ⟨rfl,rfl⟩
theorem zE4 (r:Nat):Does PR E X 353 [pt r] [] (fun v t=>∃ b,v=.func (.func 388) #[] #[pt b]/\t=[box b [pt r] 106]):=by
 refine Does.of 4 inferInstance rfl (by decide) rfl ?_
 refine zB ?_;refine zU fun b=>?_;refine zB ?_;refine ret ?_;exact ends ⟨b,rfl,rfl⟩
theorem zG5 (r most hops:Nat) (m:Prs) (hm:m.length<=1000000) (base:Option Addr) (cap:Nat) (Q:List QE) (bound:Nat) (hq:QOk Q bound) (n:Nat) (hn:n<Q.length):Does PR E X 296 [pt r,qV base Q.length cap bound,.int .i64 (n:Int)] [ZJ r m most hops,rsl base cap 9 (Q.map qeC)] (fun v t=>∃ b' c',v=.tuple #[qV b' (Q.eraseIdx n).length c' bound,rV ((Yg m Q[n]).getD prZ),.bool (Yg m Q[n]).isSome]/\t=[ZJ r m most hops,rsl b' c' 9 ((Q.eraseIdx n).map qeC)]):=by
 refine Does.of 35 inferInstance rfl (by decide) rfl ?_
 refine zB ?_;refine zU fun b4=>?_;refine zB ?_;refine alloc fun b6=>?_;refine zB ?_;refine alloc fun b7=>?_;refine zB ?_;refine call (zHS base cap Q bound hq n hn) ?_;rintro _ _ ⟨b',c',rfl,rfl⟩;refine zB ?_;refine alloc fun b9=>?_;refine zB ?_;refine alloc fun b10=>?_;refine zB ?_;refine no ?_;refine zB ?_;refine draw [0,1,0,7,15,31,31,0,191,511] [1,3,7,8,9] [2] [0,2,1,3,4,5,6,7,8,9] ?_;refine zC ?_;refine call (zE4 r) ?_;rintro _ _ ⟨b,rfl,rfl⟩;refine zJ ?_;refine ddA ?_;refine call (zCc r most hops b m hm Q[n]) ?_;rintro _ _ ⟨rfl,rfl⟩;try refine zJ ?_
 refine ddA ?_;refine yS fun b12=>?_;refine ddA ?_;refine draw [0,0,0,1,11,31] [3,4,5] [0,1] [0,1,2,3,4,5] ?_;refine zC ?_;refine ret ?_;exact ends ⟨b',c',rfl,rfl⟩
structure HSt where
 m:Prs
 rmost:Nat
 rhops:Nat
 T:Prs
 C:List Nat
 tmost:Nat
 pol:Int
 Q:List QE
 bound:Nat
 S:St
structure HOk (h:HSt):Prop where
 srt:Srt h.m
 len:h.m.length<=h.rmost
 rm:h.rmost<=4096
 rh:h.rhops<=65536
 t:TOk h.T h.C h.tmost
 q:QOk h.Q h.bound
 s:h.S.Ok
structure HB where
 r:Nat
 t:Nat
 qb:Option Addr
 qc:Nat
abbrev YA (b:Nat) (q:HB) (n bound:Nat) (S:St):HP:=box b [pt q.r,pt q.t,.slice q.qb n q.qc,.int .i64 (bound:Int),u64 S.s0,u64 S.s1,u64 S.s2,u64 S.s3,u64 S.s4,u64 S.s5,u64 S.s6,u64 S.s7,u64 S.s8,u64 S.s9,u64 S.s10,u64 S.s11,u64 S.s12,u64 S.s13,u64 S.s14,u64 S.s15,u64 S.s16] 191
abbrev xH (b:Nat) (h:HSt) (q:HB):List HP:=[YA b q h.Q.length h.bound h.S,ZJ q.r h.m h.rmost h.rhops,Ju q.t h.T h.tmost h.pol h.C,rsl q.qb q.qc 9 (h.Q.map qeC)]
abbrev xZ (b:Nat) (h:HSt):HP:=HP.ex (xH b h)
theorem vA (b:Nat) (q:HB) (n bound:Nat) (S:St):Does PR E X 97 [pt b] [YA b q n bound S] (fun v t=>v=.bool true/\t=[YA b q n bound S]):=by
 refine Does.of 12 inferInstance rfl (by decide) rfl ?_
 refine zB ?_;refine ret ?_;exact ends ⟨rfl,rfl⟩
theorem xF (b:Nat) (q:HB) (n bound:Nat) (S:St) (hS:S.Ok) (k j:Nat) (hk:k<17) (hj:j<=1000000000):Does PR E X 99 [pt b,.int .i64 (k:Int),.int .i64 (j:Int)] [YA b q n bound S] (fun v t=>v=.tuple #[]/\t=[YA b q n bound (S.bump k j)]):=by
 refine Does.of 18 inferInstance rfl (by decide) rfl ?_
 refine zB ?_;refine call (vA b q n bound S) ?_;rintro _ _ ⟨rfl,rfl⟩;refine onA ?_;refine yes ?_;refine zB ?_;refine call (zCl S hS k j hk hj) ?_;rintro _ _ ⟨rfl,rfl⟩;refine zB ?_;refine fall ?_;exact ends ⟨rfl,rfl⟩
theorem wD (b:Nat) (q:HB) (n bound:Nat) (S:St):Does PR E X 35 [pt b] [YA b q n bound S] (fun v t=>v=pt q.r/\t=[YA b q n bound S]):=by
 refine Does.of 9 inferInstance rfl (by decide) rfl ?_
 refine zB ?_;refine no ?_;refine zB ?_;refine ret ?_;exact ends ⟨rfl,rfl⟩
theorem YO (b:Nat) (q:HB) (n bound:Nat) (S:St):Does PR E X 74 [pt b] [YA b q n bound S] (fun v t=>v=pt q.t/\t=[YA b q n bound S]):=by
 refine Does.of 9 inferInstance rfl (by decide) rfl ?_
 refine zB ?_;refine no ?_;refine zB ?_;refine ret ?_;exact ends ⟨rfl,rfl⟩
theorem zAP (b:Nat) (q:HB) (n bound:Nat) (S:St):Does PR E X 30 [pt b] [YA b q n bound S] (fun v t=>v=qV q.qb n q.qc bound/\t=[YA b q n bound S]):=by
 refine Does.of 10 inferInstance rfl (by decide) rfl ?_
 refine zB ?_;refine alloc fun b2=>?_;refine zB ?_;refine no ?_;refine zB ?_;refine ret ?_;exact ends ⟨rfl,rfl⟩
def zAG (c:Int):Nat:=if c=1 then 4 else if c=2 then 5 else if c=3 then 6 else 3
theorem zCI (c:Int):Does PR E X 182 [.int .i64 c] [] (fun v t=>v=.int .i64 (zAG c:Int)/\t=[]):=by
 unfold zAG;refine Does.of 10 inferInstance rfl (by decide) rfl ?_
 refine zB ?_;refine zH (fun h=>?_) (fun h=>?_)
 ·rw [if_pos (of_decide_eq_true h)];refine zB ?_;refine ret ?_;exact ends ⟨rfl,rfl⟩
 ·rw [if_neg (of_decide_eq_false h)];refine zB ?_;refine zH (fun h=>?_) (fun h=>?_)
  ·rw [if_pos (of_decide_eq_true h)];refine zB ?_;refine ret ?_;exact ends ⟨rfl,rfl⟩
  ·rw [if_neg (of_decide_eq_false h)];refine zB ?_;refine zH (fun h=>?_) (fun h=>?_)
   ·rw [if_pos (of_decide_eq_true h)];refine zB ?_;refine ret ?_;exact ends ⟨rfl,rfl⟩
   ·rw [if_neg (of_decide_eq_false h)];refine zB ?_;refine ret ?_;exact ends ⟨rfl,rfl⟩
end Go.Proofs.YtjcbjclhagobiaaGreat
end
section
namespace Go.Proofs.YtjcbjclhagobiaaGreat
set_option maxHeartbeats 1600000
open Go Go.KL Go.KM
variable {E:Env} {X:Xs}
set_option maxRecDepth 100000
abbrev hNew (cap pol bound n h:Int) (presets:List Nat):HSt:=⟨[],(max 0 (min n 4096)).toNat,(max 0 (min h 65536)).toNat,[],List.replicate 128 0,(max 0 (min cap 1024)).toNat,pol,[],(max 0 (min bound 1024)).toNat,St.of presets⟩
theorem HOk.new {cap pol bound n h:Int} {l:List Nat} (hl:∀ x∈l,x<18446744073709551616):HOk (hNew cap pol bound n h l):=
 ⟨Srt.nil,by simp,by simp only;omega,by simp only;omega,⟨by simp,by simp,by simp,by simp only;omega,SkOk.new⟩,QOk.nil (by simp only;omega),St.Ok.of hl⟩
abbrev zPY (cap pol bound n h:Int) (base:Option Addr) (k c:Nat):Value:=.agg #[.int .i64 cap,.int .i64 pol,.int .i64 bound,.int .i64 n,.int .i64 h,.slice base k c]
theorem zJl (cap pol bound n h:Int) (base:Option Addr) (c:Nat) (l:List Nat) (hl:l.length<=100000):Does PR E X 72 [zPY cap pol bound n h base l.length c] [rsl base c 1 (l.map fun x=>[u64 x])] (fun v t=>∃ b,v=pt b/\t=[xZ b (hNew cap pol bound n h l)]):=by
 refine Does.of 21 inferInstance rfl (by decide) rfl ?_
 refine zB ?_;refine zU fun b1=>?_;refine zB ?_;refine draw [0,1,0,4,15,0,32,0,128,511,0,1024,4095,0,8192,32767,65535,131071,262143] [4,9,12,15,17,18] [1,3,6,8,11,14] [0,1,2,3,5,6,7,8,10,11,13,14,4,9,12,15,16,17,18] ?_;refine zC ?_;refine call (zEb n h) ?_;rintro _ _ ⟨r,rfl,rfl⟩;refine zJ ?_;refine ddA ?_;refine call (zIZ cap pol) ?_;rintro _ _ ⟨t,rfl,rfl⟩;refine zJ ?_;refine ddA ?_;refine call (zKb bound) ?_;rintro _ _ ⟨rfl,rfl⟩;try refine zJ ?_
 refine ddA ?_;refine call (zGQ base c l hl) ?_;rintro _ _ ⟨rfl,rfl⟩;refine zJ ?_;refine ddA ?_;refine YN fun b2=>?_;refine ddA ?_;refine into (Into.nilR (sz:=9)) ?_;simp only [lay,List.set_cons_zero,List.set_cons_succ,yG];refine (show W _ _ _ _ _ _ _ [rsl none 0 9 ((hNew cap pol bound n h l).Q.map qeC),YA b2 ⟨r,t,none,0⟩ (hNew cap pol bound n h l).Q.length (hNew cap pol bound n h l).bound (hNew cap pol bound n h l).S,Ju t (hNew cap pol bound n h l).T (hNew cap pol bound n h l).tmost (hNew cap pol bound n h l).pol (hNew cap pol bound n h l).C,ZJ r (hNew cap pol bound n h l).m (hNew cap pol bound n h l).rmost (hNew cap pol bound n h l).rhops,_,_] from ?_);generalize hNew cap pol bound n h l=H;refine zE (xH b2 H) ⟨r,t,none,0⟩ ?_;refine ret ?_;exact ends ⟨b2,rfl,rfl⟩
def zEO (h:HSt) (a:Ad):HSt×Int:=({ h with Q:=(zDc h.m h.Q h.bound a).1,S:=(h.S.bump 2 1).bump (zAG (zDc h.m h.Q h.bound a).2) 1 },(zDc h.m h.Q h.bound a).2)
theorem zI2 {c:Int}:zAG c<17:=by unfold zAG;split <;> (try split) <;> (try split) <;> omega
theorem zHX (b:Nat) (h:HSt) (hh:HOk h) (q:HB) (a:Ad) (ha:a.sane=true):Does PR E X 102 [pt b,a.v] [YA b q h.Q.length h.bound h.S,ZJ q.r h.m h.rmost h.rhops,rsl q.qb q.qc 9 (h.Q.map qeC)] (fun v t=>∃ b' c',v=.int .i64 (zEO h a).2/\t=[YA b ⟨q.r,q.t,b',c'⟩ (zEO h a).1.Q.length h.bound (zEO h a).1.S,ZJ q.r h.m h.rmost h.rhops,rsl b' c' 9 ((zEO h a).1.Q.map qeC)]):=by
 have hlm:=hh.len;have hrm:=hh.rm;refine Does.of 31 inferInstance rfl (by decide) rfl ?_
 refine zB ?_;refine zU fun b3=>?_;refine zB ?_;refine call (xF b q h.Q.length h.bound h.S hh.s 2 1 (by omega) (by omega)) ?_
 rintro _ _ ⟨rfl,rfl⟩;refine zB ?_;refine draw [0,1,3,7,0,16,48,112,0,511,1023,2047,2047,0,12287,32767] [9,13,14,15] [3,7,8] [0,1,2,3,4,5,6,7,8,9,10,11,12,13,14,15] ?_;refine zC ?_;refine call (zKh q.r h.rmost h.rhops h.m (by omega) q.qb q.qc h.Q h.bound hh.q a ha) ?_
 rintro _ _ ⟨b',c',rfl,rfl⟩;refine zJ ?_;refine ddA ?_;refine yS fun b5=>?_;refine ddA ?_;refine call (zCI (zDc h.m h.Q h.bound a).2) ?_;rintro _ _ ⟨rfl,rfl⟩;refine onA ?_;refine call (xF b ⟨q.r,q.t,b',c'⟩ (zDc h.m h.Q h.bound a).1.length h.bound (h.S.bump 2 1) (hh.s.bump 2 1) (zAG (zDc h.m h.Q h.bound a).2) 1 zI2 (by omega)) ?_
 rintro _ _ ⟨rfl,rfl⟩;refine zB ?_;refine ret ?_;exact ends ⟨b',c',rfl,rfl⟩
structure LRep where
 h:HSt
 y:Option (Pf×Int)
 c:Int
def hLook (h:HSt) (a:Ad):LRep:=match WF h.T a with
 | none=>⟨(zEO { h with S:=h.S.bump 0 1 } a).1,YP h.m a,(zEO { h with S:=h.S.bump 0 1 } a).2⟩
 | some x=>⟨{ h with T:=(zFo h.T h.C a).1,C:=(zFo h.T h.C a).2,S:=(h.S.bump 0 1).bump 1 1 },some (((YP h.m a).getD prZ).1,x.2),4⟩
abbrev zOp (r:LRep):Value:=.tuple #[rV (r.y.getD prZ),.bool r.y.isSome,.int .i64 r.c]
theorem zNl {m:Prs} {Q:List QE} {bound:Nat} (h:QOk Q bound) {a:Ad}:QOk (zDc m Q bound a).1 bound:=by
 unfold zDc;split
 ·exact h
 ·unfold Wd;split
  ·exact h
  ·rename_i h1
   split
   ·exact h
   ·rename_i h2
    rw [not_or] at h2;exact h.add (by have:=h.len;omega) (by simpa using h2.2) (by simpa using h1)
theorem HOk.look {h:HSt} (hh:HOk h) (a:Ad):HOk (hLook h a).h:=by
 unfold hLook;split
 ·exact ⟨hh.srt,hh.len,hh.rm,hh.rh,hh.t,zNl hh.q,(((hh.s.bump 0 1).bump 2 1).bump _ 1)⟩
 ·rename_i x hx
  refine ⟨hh.srt,hh.len,hh.rm,hh.rh,?_,hh.q,(hh.s.bump 0 1).bump 1 1⟩;show TOk (zFo h.T h.C a).1 (zFo h.T h.C a).2 _;unfold zFo;rw [hx];exact hh.t.use (List.mem_of_find?_eq_some hx)
theorem XV (b:Nat) (h:HSt) (hh:HOk h) (a:Ad) (ha:a.sane=true):Does PR E X 42 [pt b,a.v] [xZ b h] (fun v t=>v=zOp (hLook h a)/\t=[xZ b (hLook h a).h]):=by
 have hs:=Wq (E:=E) (X:=X) a.hi a.lo a.v6 a.h1 a.h2;have ha':QB a.hi a.lo a.v6=true:=ha;rw [ha'] at hs;have hf:(!true)=false:=rfl;have hlm:=hh.len;have hrm:=hh.rm;refine Does.of 64 inferInstance rfl (by decide) rfl ?_
 refine zW (xH b h) fun q=>?_;refine zB ?_;refine zU fun b3=>?_;refine zB ?_;refine alloc fun b4=>?_;refine zB ?_;refine call (vA b q h.Q.length h.bound h.S) ?_;rintro _ _ ⟨rfl,rfl⟩;refine onA ?_;refine call hs ?_;rintro _ _ ⟨rfl,rfl⟩;refine zB ?_;refine no ?_;refine zB ?_;refine call (xF b q h.Q.length h.bound h.S hh.s 0 1 (by omega) (by omega)) ?_
 rintro _ _ ⟨rfl,rfl⟩;refine zB ?_;refine draw [0,1,3,7,0,31,63,127,127,0,767,2047] [5,9,10,11] [3,4] [0,1,2,3,4,5,6,7,8,9,10,11] ?_;refine zC ?_;refine call (zKP q.t h.T h.tmost h.pol h.C hh.t a) ?_;rintro _ _ ⟨rfl,rfl⟩;refine zJ ?_;refine ddA ?_;refine yS fun b7=>?_;refine ddA ?_;unfold hLook;cases hx:WF h.T a with
 | none=>
  have e1:zFo h.T h.C a=(h.T,h.C):=by unfold zFo;rw [hx]
  rw [e1];refine yes ?_;refine zB ?_;refine draw [0,1,3,7,0,31,63,127,127,0,767,2047] [5,9,10,11] [3,4] [0,1,2,3,4,5,6,7,8,9,10,11] ?_;refine zC ?_;refine call (zAK q.r h.rmost h.rhops h.m (by omega) a) ?_
  rintro _ _ ⟨rfl,rfl⟩;refine zJ ?_;refine ddA ?_;refine yS fun b9=>?_;refine ddA ?_;refine draw [0,0,0,0,12,29,63,127] [4,5,6,7] [0,3] [0,1,2,3,4,5,6,7] ?_;refine zC ?_;refine call (zHX b { h with S:=h.S.bump 0 1 } ⟨hh.srt,hh.len,hh.rm,hh.rh,hh.t,hh.q,hh.s.bump 0 1⟩ q a ha) ?_
  rintro _ _ ⟨b',c',rfl,rfl⟩;refine zJ ?_;refine ddA ?_;refine zE (xH b (zEO { h with S:=h.S.bump 0 1 } a).1) ⟨q.r,q.t,b',c'⟩ ?_
  refine ret ?_;exact ends ⟨rfl,rfl⟩
 | some x=>
  refine no ?_;refine zB ?_;refine call (xF b q h.Q.length h.bound (h.S.bump 0 1) (hh.s.bump 0 1) 1 1 (by omega) (by omega)) ?_
  rintro _ _ ⟨rfl,rfl⟩;refine zB ?_;refine draw [0,1,3,7,0,31,63,127,127,0,767,2047] [5,9,10,11] [3,4] [0,1,2,3,4,5,6,7,8,9,10,11] ?_;refine zC ?_;refine call (zAK q.r h.rmost h.rhops h.m (by omega) a) ?_
  rintro _ _ ⟨rfl,rfl⟩;refine zJ ?_;refine ddA ?_;refine yS fun b9=>?_;refine ddA ?_;refine zE (xH b { h with T:=(zFo h.T h.C a).1,C:=(zFo h.T h.C a).2,S:=(h.S.bump 0 1).bump 1 1 }) q ?_
  refine ret ?_;exact ends ⟨rfl,rfl⟩
end Go.Proofs.YtjcbjclhagobiaaGreat
end
section
namespace Go.Proofs.YtjcbjclhagobiaaGreat
set_option maxHeartbeats 1600000
open Go Go.KL Go.KM
variable {E:Env} {X:Xs}
set_option maxRecDepth 100000
structure URep where
 h:HSt
 e:Int
 gone:Prs
def YL (h:HSt) (p:Pf) (e:Int) (m':Prs):URep:=if e≠0 then ⟨h,e,[]⟩ else ⟨{ h with m:=m',T:=(Zf h.T p).1,Q:=ZH h.Q p,S:=h.S.bump 11 (Zf h.T p).2.length },0,(Zf h.T p).2⟩
abbrev zA5 (b:Nat) (r:URep) (v:Value) (t:List HP):Prop:=∃ b' c',v=.tuple #[.int .i64 r.e,.slice b' r.gone.length c']/\t=[xZ b r.h,osl b' c' 54 5 (r.gone.map prC)]
theorem zGY {T:Prs} {C:List Nat} {most:Nat} (h:TOk T C most) (p:Pf):(Zf T p).2.length<=1024:=by
 have:=(wM h.uq).2.length_eq
 have:=h.len
 have:=h.most
 unfold Zf;split <;> refine Nat.le_trans (List.length_filter_le ..) (by omega)
theorem Vr (b:Nat) (h:HSt) (hh:HOk h) (q:HB) (p:Pf) (fv:Value) (e:Int) (A B:HP) (hp:e=0->p.sane=true) (hdo:DoesV PR E X fv [] [A] (fun v t=>v=.int .i64 e/\t=[B])) :
  Does PR E X 154 [pt b,p.v,fv] [YA b q h.Q.length h.bound h.S,Ju q.t h.T h.tmost h.pol h.C,rsl q.qb q.qc 9 (h.Q.map qeC),A]
   (fun v t=>∃ b' c' qb qc,v=.tuple #[.int .i64 e,.slice b' (YL h p e []).gone.length c']/\t=[YA b ⟨q.r,q.t,qb,qc⟩ (YL h p e []).h.Q.length h.bound (YL h p e []).h.S,Ju q.t (YL h p e []).h.T h.tmost h.pol h.C,rsl qb qc 9 ((YL h p e []).h.Q.map qeC),B,osl b' c' 54 5 ((YL h p e []).gone.map prC)]):=by
 have hfl:=zGY hh.t p;unfold YL;by_cases he:e=0
 ·subst he;simp only [ne_eq,not_true_eq_false,if_false];refine Does.of 38 inferInstance rfl (by decide) rfl ?_
  refine zB ?_;refine zU fun b4=>?_;refine zB ?_;refine XD hdo ?_;rintro _ _ ⟨rfl,rfl⟩;refine zB ?_;refine no ?_;refine zB ?_;refine draw [0,1,3,7,0,31,63] [5,6] [3,4] [0,1,2,3,4,5,6] ?_;refine zC ?_;refine call (zEG q.t h.T h.tmost h.pol h.C hh.t p (hp rfl)) ?_;rintro _ _ ⟨gb,gc,rfl,rfl⟩;try refine zJ ?_
  refine ddA ?_;refine draw [0,0,2,6,14,0,62,126,254,254,511,1535,3583] [6,12] [4,5] [0,1,2,3,4,5,6,7,8,9,10,11,12] ?_;refine zC ?_;refine call (zEe q.qb q.qc h.Q h.bound hh.q p) ?_;rintro _ _ ⟨qb,qc,nn,rfl,rfl⟩;try refine zJ ?_
  refine ddA ?_;refine call (xF b ⟨q.r,q.t,qb,qc⟩ (ZH h.Q p).length h.bound h.S hh.s 11 (Zf h.T p).2.length (by omega) (by omega)) ?_
  rintro _ _ ⟨rfl,rfl⟩;refine zB ?_;refine ret ?_;exact ends ⟨gb,gc,qb,qc,rfl,rfl⟩
 ·rw [if_pos he];refine Does.of 38 inferInstance rfl (by decide) rfl ?_
  refine zB ?_;refine zU fun b4=>?_;refine zB ?_;refine XD hdo ?_;rintro _ _ ⟨rfl,rfl⟩;refine zB ?_;refine yes ?_ rfl (by rw [decide_eq_false he];rfl)
  refine zB ?_;refine into (Into.nilO (T:=54) (sz:=5)) ?_;refine ret ?_;exact ends ⟨none,0,q.qb,q.qc,rfl,rfl⟩
def zHp (h:HSt) (p:Pf) (hop:Int):URep:=YL h p (ribAdd h.rmost h.rhops h.m p hop).1 (ribAdd h.rmost h.rhops h.m p hop).2
def xS (h:HSt) (p:Pf):URep:=YL h p (delE h.m p) (h.m.del p)
theorem Jf {most hops:Nat} {m:Prs} {p:Pf} {hop:Int} (h:(ribAdd most hops m p hop).1=0):p.sane=true:=by
 unfold ribAdd at h;split at h
 ·cases h
 ·rename_i c;simpa using c
theorem zEP {most hops:Nat} {m:Prs} {p:Pf} {hop:Int} (h:(ribAdd most hops m p hop).1≠0):(ribAdd most hops m p hop).2=m:=by
 unfold ribAdd at h ⊢;split at h
 ·rename_i c;rw [if_pos c]
 ·rename_i c
  rw [if_neg c];split at h
  ·rename_i c;rw [if_pos c]
  ·rename_i c
   rw [if_neg c];split at h
   ·rename_i c;rw [if_pos c]
   ·exact absurd rfl h
theorem zJN {m:Prs} {p:Pf} (h:delE m p=0):p.sane=true:=by
 unfold delE at h;split at h
 ·assumption
 ·cases h
theorem zJZ {m:Prs} (hs:Srt m) {p:Pf} (h:delE m p≠0):m.del p=m:=by
 refine Zh hs ?_;unfold delE at h;split at h
 ·rename_i hp
  split at h
  ·exact absurd rfl h
  ·rename_i hg;simpa using hg
 ·rename_i hp
  refine zFX fun x hx e=>hp ?_;rw [<-e];exact hs.sane x hx
theorem zML {h:HSt} {p:Pf} {e:Int} {m':Prs} (hm:e≠0->m'=h.m):(YL h p e m').h.m=m'/\(YL h p e m').h={ (YL h p e []).h with m:=m' }/\(YL h p e m').gone=(YL h p e []).gone/\(YL h p e m').e=e:=by
 unfold YL;by_cases he:e=0
 ·subst he;exact ⟨rfl,rfl,rfl,rfl⟩
 ·simp only [ne_eq,he,not_false_eq_true,if_true];rw [hm he];refine ⟨?_,?_,?_,?_⟩ <;> first|rfl|trivial
theorem zGU (r most hops b8 b4 b5:Nat) (m:Prs) (hm:Srt m) (hl:m.length<=most) (hmo:most<=4096) (p:Pf) (hop:Int):Does PR E X 155 [pt b8,pt b4,pt b5] [ZJ r m most hops,box b8 [.func (.func 153) #[pt r] #[]] 287,box b4 (pfC p) 52,box b5 [.int .i64 hop] 3] (fun v t=>v=.int .i64 (ribAdd most hops m p hop).1/\t=[ZJ r (ribAdd most hops m p hop).2 most hops]):=by
 refine Does.of 8 inferInstance rfl (by decide) rfl ?_
 refine zB ?_;refine call (zEk r most hops m hm hl hmo p hop) ?_;rintro _ _ ⟨rfl,rfl⟩;refine zB ?_;refine ret ?_;exact ends ⟨rfl,rfl⟩
theorem JQ (r most hops b6 b3:Nat) (m:Prs) (hm:Srt m) (hl:m.length<=most) (hmo:most<=4096) (p:Pf):Does PR E X 157 [pt b6,pt b3] [ZJ r m most hops,box b6 [.func (.func 156) #[pt r] #[]] 290,box b3 (pfC p) 52] (fun v t=>v=.int .i64 (delE m p)/\t=[ZJ r (m.del p) most hops]):=by
 refine Does.of 6 inferInstance rfl (by decide) rfl ?_
 refine zB ?_;refine call (QF r most hops m hm hl hmo p) ?_;rintro _ _ ⟨rfl,rfl⟩;refine zB ?_;refine ret ?_;exact ends ⟨rfl,rfl⟩
theorem DoesV.all {fv:Value} {vs:List Value} {pre post:List HP} {u:Value} (h:DoesV PR E X fv vs pre (fun v t=>v=u/\t=post)):DoesV PR E X fv vs [KL.all pre] (fun v t=>v=u/\t=[KL.all post]):=
 h.conv (fun r f x=>by simpa using YS x) fun v t ⟨e1,e2⟩=>⟨[KL.all post],⟨e1,rfl⟩,fun r f x=>zFq (by rw [<-e2];exact x)⟩
theorem zH1 (b:Nat) (h:HSt) (hh:HOk h) (p:Pf) (hop:Int):Does PR E X 78 [pt b,p.v,.int .i64 hop] [xZ b h] (zA5 b (zHp h p hop)):=by
 unfold zA5;refine Does.of 18 inferInstance rfl (by decide) rfl ?_
 refine zW (xH b h) fun q=>?_;refine zB ?_;refine zU fun b4=>?_;refine zB ?_;refine zU fun b5=>?_;refine zB ?_;refine call (wD b q h.Q.length h.bound h.S) ?_;rintro _ _ ⟨rfl,rfl⟩;refine onA ?_;refine alloc fun b8=>?_;refine zB ?_;refine VV (fun _:Unit=>[ZJ q.r h.m h.rmost h.rhops,box b8 [.func (.func 153) #[pt q.r] #[]] 287,box b4 (pfC p) 52,box b5 [.int .i64 hop] 3]) () ?_;refine call (Vr b h hh q p (.func (.func 155) #[] #[pt b8,pt b4,pt b5]) (ribAdd h.rmost h.rhops h.m p hop).1 _ _ Jf (DoesV.all (Does.clo (vs:=[]) (ca:=#[pt b8,pt b4,pt b5]) (zGU q.r h.rmost h.rhops b8 b4 b5 h.m hh.srt hh.len hh.rm p hop) rfl))) ?_;rintro _ _ ⟨b',c',qb,qc,rfl,rfl⟩;refine YG (fun _:Unit=>[ZJ q.r (ribAdd h.rmost h.rhops h.m p hop).2 h.rmost h.rhops]) fun _=>?_;refine zB ?_;obtain ⟨e1,e2,e3,e4⟩:=zML (h:=h) (p:=p) (e:=(ribAdd h.rmost h.rhops h.m p hop).1) (m':=(ribAdd h.rmost h.rhops h.m p hop).2) zEP;have e5:(YL h p (ribAdd h.rmost h.rhops h.m p hop).1 []).h.rmost=h.rmost/\(YL h p (ribAdd h.rmost h.rhops h.m p hop).1 []).h.rhops=h.rhops/\(YL h p (ribAdd h.rmost h.rhops h.m p hop).1 []).h.tmost=h.tmost/\(YL h p (ribAdd h.rmost h.rhops h.m p hop).1 []).h.pol=h.pol/\(YL h p (ribAdd h.rmost h.rhops h.m p hop).1 []).h.C=h.C/\(YL h p (ribAdd h.rmost h.rhops h.m p hop).1 []).h.bound=h.bound:=by
  unfold YL;split <;> exact ⟨rfl,rfl,rfl,rfl,rfl,rfl⟩
 unfold zHp;rw [e2,e3,e4];generalize (YL h p (ribAdd h.rmost h.rhops h.m p hop).1 []).h=H at e5 ⊢;obtain ⟨f1,f2,f3,f4,f5,f6⟩:=e5;rw [<-f1,<-f2,<-f3,<-f4,<-f5,<-f6];refine zE (xH b { H with m:=(ribAdd H.rmost H.rhops h.m p hop).2 }) ⟨q.r,q.t,qb,qc⟩ ?_
 refine ret ?_;exact ends ⟨b',c',rfl,rfl⟩
theorem Js (b:Nat) (h:HSt) (hh:HOk h) (p:Pf):Does PR E X 79 [pt b,p.v] [xZ b h] (zA5 b (xS h p)):=by
 unfold zA5;refine Does.of 16 inferInstance rfl (by decide) rfl ?_
 refine zW (xH b h) fun q=>?_;refine zB ?_;refine zU fun b3=>?_;refine zB ?_;refine call (wD b q h.Q.length h.bound h.S) ?_;rintro _ _ ⟨rfl,rfl⟩;refine onA ?_;refine alloc fun b6=>?_;refine zB ?_;refine VV (fun _:Unit=>[ZJ q.r h.m h.rmost h.rhops,box b6 [.func (.func 156) #[pt q.r] #[]] 290,box b3 (pfC p) 52]) () ?_;refine call (Vr b h hh q p (.func (.func 157) #[] #[pt b6,pt b3]) (delE h.m p) _ _ zJN (DoesV.all (Does.clo (vs:=[]) (ca:=#[pt b6,pt b3]) (JQ q.r h.rmost h.rhops b6 b3 h.m hh.srt hh.len hh.rm p) rfl))) ?_;rintro _ _ ⟨b',c',qb,qc,rfl,rfl⟩;refine YG (fun _:Unit=>[ZJ q.r (h.m.del p) h.rmost h.rhops]) fun _=>?_;refine zB ?_;obtain ⟨e1,e2,e3,e4⟩:=zML (h:=h) (p:=p) (e:=delE h.m p) (m':=h.m.del p) (zJZ hh.srt);have e5:(YL h p (delE h.m p) []).h.rmost=h.rmost/\(YL h p (delE h.m p) []).h.rhops=h.rhops/\(YL h p (delE h.m p) []).h.tmost=h.tmost/\(YL h p (delE h.m p) []).h.pol=h.pol/\(YL h p (delE h.m p) []).h.C=h.C/\(YL h p (delE h.m p) []).h.bound=h.bound:=by
  unfold YL;split <;> exact ⟨rfl,rfl,rfl,rfl,rfl,rfl⟩
 unfold xS;rw [e2,e3,e4];generalize (YL h p (delE h.m p) []).h=H at e5 ⊢;obtain ⟨f1,f2,f3,f4,f5,f6⟩:=e5;rw [<-f1,<-f2,<-f3,<-f4,<-f5,<-f6];refine zE (xH b { H with m:=h.m.del p }) ⟨q.r,q.t,qb,qc⟩ ?_
 refine ret ?_;exact ends ⟨b',c',rfl,rfl⟩
end Go.Proofs.YtjcbjclhagobiaaGreat
end
section
namespace Go.Proofs.YtjcbjclhagobiaaGreat
set_option maxHeartbeats 1600000
open Go Go.KL Go.KM
variable {E:Env} {X:Xs}
set_option maxRecDepth 100000
theorem TOk.inst {T:Prs} {C:List Nat} {most:Nat} (h:TOk T C most) {pol:Int} {x:Pf×Int} {soft:Bool}:TOk (tInst T C most pol x soft).T (tInst T C most pol x soft).C most/\(tInst T C most pol x soft).absorbed.length<=1024/\(tInst T C most pol x soft).out.length<=1:=by
 by_cases h1:most=0∨wgood x=false∨(srtT T).above x.1≠[]
 ·rw [Zy h1];exact ⟨h,by simp,by simp⟩
 by_cases h2:soft=true/\((srtT T).under x.1≠[]∨most<=T.length)
 ·rw [JB h2];exact ⟨h,by simp,by simp⟩
 rw [Wj h1 h2];rw [not_or,not_or] at h1;obtain ⟨h0,hw,ha⟩:=h1;have hw:wgood x=true:=by simpa using hw
 have ha:(srtT T).above x.1=[]:=Classical.not_not.1 ha;obtain ⟨s1,s2⟩:=wM h.uq;have hno:∀ y∈T,y.1.covers x.1=false:=fun y hy=>by
  cases hc:y.1.covers x.1 with
  | false=>rfl
  | true=>
   have:y∈(srtT T).above x.1:=List.mem_filter.2 ⟨s2.mem_iff.2 hy,hc⟩
   rw [ha] at this;cases this
 have ht1:=h.filter fun y=>!x.1.covers y.1;have hmem:∀ y∈T.filter (fun y=>!x.1.covers y.1),x.1.covers y.1=false/\y.1.covers x.1=false:=fun y hy=>by
  obtain ⟨g1,g2⟩:=List.mem_filter.1 hy;exact ⟨by simpa using g2,hno y g1⟩
 have hu:((srtT T).under x.1).length<=1024:=by
  refine Nat.le_trans (List.length_filter_le ..) ?_;rw [s2.length_eq];have:=h.len;have:=h.most;omega
 generalize T.filter (fun y=>!x.1.covers y.1)=T1 at ht1 hmem ⊢;by_cases hf:most<=T1.length
 ·rw [if_pos hf];cases hv:VR pol C T1 with
  | none=>
   exfalso
   cases T1 with
   | nil=>simp at hf;omega
   | cons y l=>unfold VR at hv;split at hv <;> (try split at hv) <;> cases hv
  | some v=>
   have hvm:∀ {l:Prs} {v:Pf×Int},VR pol C l=some v->v∈l:=by
    intro l;induction l with
    | nil=>intro v h;cases h
    | cons y l ih=>
     intro v h;unfold VR at h;split at h
     ·cases h;simp
     ·rename_i z hz
      split at h
      ·cases h;simp
      ·cases h;exact List.mem_cons_of_mem _ (ih hz)
   refine ⟨(ht1.del v.1).add hw ?_ fun y hy=>hmem y (Zk.1 hy).1,hu,by simp⟩
   have:=zET (hvm hv)
   have:=ht1.len
   omega
 ·rw [if_neg hf];exact ⟨ht1.add hw (by omega) hmem,hu,by simp⟩
theorem TOk.flush {T:Prs} {C:List Nat} {most:Nat} (h:TOk T C most) (p:Pf):TOk (Zf T p).1 C most:=by
 unfold Zf;split <;> exact h.filter _
theorem HOk.upd {h:HSt} (hh:HOk h) {p:Pf} {e:Int} {m':Prs} (hs:Srt m') (hl:m'.length<=h.rmost):HOk (YL h p e m').h:=by
 unfold YL;split
 ·exact hh
 ·exact ⟨hs,hl,hh.rm,hh.rh,hh.t.flush p,hh.q.narrow p,hh.s.bump _ _⟩
theorem Qp {most hops:Nat} {m:Prs} (hs:Srt m) (hl:m.length<=most) {p:Pf} {hop:Int}:Srt (ribAdd most hops m p hop).2/\(ribAdd most hops m p hop).2.length<=most:=by
 unfold ribAdd;split
 ·exact ⟨hs,hl⟩
 ·rename_i h1
  split
  ·exact ⟨hs,hl⟩
  ·split
   ·exact ⟨hs,hl⟩
   ·rename_i h3
    exact ⟨hs.ins (by simpa using h1) hop,by show (m.ins p hop).length<=most;omega⟩
theorem HOk.add {h:HSt} (hh:HOk h) (p:Pf) (hop:Int):HOk (zHp h p hop).h:=hh.upd (Qp hh.srt hh.len).1 (Qp hh.srt hh.len).2
theorem HOk.withdraw {h:HSt} (hh:HOk h) (p:Pf):HOk (xS h p).h:=hh.upd (hh.srt.filter _) (Nat.le_trans (List.length_filter_le ..) hh.len)
structure PRep where
 h:HSt
 done:Bool
 x:Pf×Int
 absorbed:Prs
 out:Prs
def hPick (h:HSt) (n:Int):PRep:=if n<0∨(h.Q.length:Int)<=n then ⟨h,false,prZ,[],[]⟩ else
 match h.Q[n.toNat]? with
 | none=>⟨h,false,prZ,[],[]⟩
 | some e=>match Yg h.m e with
  | none=>⟨{ h with Q:=h.Q.eraseIdx n.toNat,S:=h.S.bump 7 1 },true,prZ,[],[]⟩
  | some x=>
   ⟨{ h with Q:=h.Q.eraseIdx n.toNat,T:=(tInst h.T h.C h.tmost h.pol x false).T,C:=(tInst h.T h.C h.tmost h.pol x false).C,S:=if (tInst h.T h.C h.tmost h.pol x false).in_ then (((h.S.bump 7 1).bump 8 1).bump 9 (tInst h.T h.C h.tmost h.pol x false).absorbed.length).bump 10 (tInst h.T h.C h.tmost h.pol x false).out.length else h.S.bump 7 1 },true,x,(tInst h.T h.C h.tmost h.pol x false).absorbed,(tInst h.T h.C h.tmost h.pol x false).out⟩
theorem HOk.pick {h:HSt} (hh:HOk h) (n:Int):HOk (hPick h n).h:=by
 unfold hPick;split
 ·exact hh
 ·split
  ·exact hh
  ·split
   ·exact ⟨hh.srt,hh.len,hh.rm,hh.rh,hh.t,hh.q.del _,hh.s.bump 7 1⟩
   ·refine ⟨hh.srt,hh.len,hh.rm,hh.rh,hh.t.inst.1,hh.q.del _,?_⟩;show St.Ok (if _ then _ else _);split
    ·exact (((hh.s.bump 7 1).bump 8 1).bump 9 _).bump 10 _
    ·exact hh.s.bump 7 1
abbrev zO5 (done:Bool) (x:Pf×Int) (b1:Option Addr) (n1 c1:Nat) (b2:Option Addr) (n2 c2:Nat):List Value:=[.bool done,u64 x.1.a.hi,u64 x.1.a.lo,.bool x.1.a.v6,.int .i64 x.1.n,.int .i64 x.2,.slice b1 n1 c1,.slice b2 n2 c2]
abbrev zAy (b:Nat) (r:PRep) (v:Value) (t:List HP):Prop:=∃ b1 c1 b2 c2,v=.agg (zO5 r.done r.x b1 r.absorbed.length c1 b2 r.out.length c2).toArray/\t=[xZ b r.h,osl b1 c1 54 5 (r.absorbed.map prC),osl b2 c2 54 5 (r.out.map prC)]
set_option maxHeartbeats 2000000 in
theorem zGP (b:Nat) (h:HSt) (hh:HOk h) (n:Int):Does PR E X 236 [pt b,.int .i64 n] [xZ b h] (zAy b (hPick h n)):=by
 unfold zAy;have hlm:=hh.len;have hrm:=hh.rm;have hql:=hh.q.len;have hqm:=hh.q.most;have hf:(!true)=false:=rfl;refine Does.of 76 inferInstance rfl (by decide) rfl ?_
 refine zW (xH b h) fun q=>?_;refine zB ?_;refine alloc fun b4=>?_;refine zB ?_;by_cases hn:n<0∨(h.Q.length:Int)<=n
 ·rw [show hPick h n=⟨h,false,prZ,[],[]⟩ by unfold hPick;rw [if_pos hn]]
  rcases Bool.eq_false_or_eq_true (decide (n<0)) with c1|c1
  ·refine call (vA b q h.Q.length h.bound h.S) ?_;rintro _ _ ⟨rfl,rfl⟩;refine onA ?_;refine yes ?_;refine zB ?_;refine zE (xH b h) q ?_;refine into (Into.nilO (T:=54) (sz:=5)) ?_;refine into (Into.nilO (T:=54) (sz:=5)) ?_;refine ret ?_;exact ends ⟨none,0,none,0,rfl,rfl⟩
  ·have c2:=of_decide_eq_false c1;refine call (vA b q h.Q.length h.bound h.S) ?_;rintro _ _ ⟨rfl,rfl⟩;refine onA ?_;refine yes ?_ rfl (decide_eq_true (by omega))
   refine zB ?_;refine zE (xH b h) q ?_;refine into (Into.nilO (T:=54) (sz:=5)) ?_;refine into (Into.nilO (T:=54) (sz:=5)) ?_;refine ret ?_;exact ends ⟨none,0,none,0,rfl,rfl⟩
 obtain ⟨k,rfl⟩:∃ k:Nat,n=(k:Int):=⟨n.toNat,by omega⟩
 have hk:k<h.Q.length:=by omega
 refine call (vA b q h.Q.length h.bound h.S) ?_;rintro _ _ ⟨rfl,rfl⟩;refine onA ?_;refine no ?_ rfl (decide_eq_false (by omega))
 refine zB ?_;refine draw [0,1,3,7,0,16,48,112,0,511,1023,2047,2047,2047,0,0,53247,122879,262143] [9,14,15,16,17,18] [3,7] [0,1,2,3,4,5,6,7,8,9,10,11,12,13,14,15,16,17,18] ?_;refine zC ?_;refine call (zG5 q.r h.rmost h.rhops h.m (by omega) q.qb q.qc h.Q h.bound hh.q k hk) ?_
 rintro _ _ ⟨qb,qc,rfl,rfl⟩;try refine zJ ?_
 refine ddA ?_;refine yS fun b5=>?_;refine ddA ?_;refine yS fun b6=>?_;refine ddA ?_;refine call (xF b ⟨q.r,q.t,qb,qc⟩ (h.Q.eraseIdx k).length h.bound h.S hh.s 7 1 (by omega) (by omega)) ?_
 rintro _ _ ⟨rfl,rfl⟩;refine zB ?_;unfold hPick;rw [if_neg hn];simp only [Int.toNat_natCast,List.getElem?_eq_getElem hk];cases hs:Yg h.m h.Q[k] with
 | none=>
  refine yes ?_;refine zB ?_;refine into (Into.nilO (T:=54) (sz:=5)) ?_;refine into (Into.nilO (T:=54) (sz:=5)) ?_;refine zE (xH b { h with Q:=h.Q.eraseIdx k,S:=h.S.bump 7 1 }) ⟨q.r,q.t,qb,qc⟩ ?_
  refine ret ?_;exact ends ⟨none,0,none,0,rfl,rfl⟩
 | some x=>
  refine no ?_;refine zB ?_;refine draw [0,1,3,7,0,31,0,127] [5,6,7] [3,4] [0,1,2,3,4,5,6,7] ?_;refine zC ?_;refine call (zAR q.t h.T h.C h.tmost h.pol hh.t x false) ?_;unfold zA6;rintro _ _ ⟨ib,ic,ob,oc,rfl,rfl⟩;try refine zJ ?_
  refine ddA ?_;refine yS fun b8=>?_;refine ddA ?_;obtain ⟨hi1,hi2,hi3⟩:=hh.t.inst (pol:=h.pol) (x:=x) (soft:=false);generalize tInst h.T h.C h.tmost h.pol x false=I at hi1 hi2 hi3 ⊢;cases hin:I.in_ with
  | true=>
   refine yes ?_;refine zB ?_;refine call (xF b ⟨q.r,q.t,qb,qc⟩ (h.Q.eraseIdx k).length h.bound (h.S.bump 7 1) (hh.s.bump 7 1) 8 1 (by omega) (by omega)) ?_
   rintro _ _ ⟨rfl,rfl⟩;refine zB ?_;refine call (xF b ⟨q.r,q.t,qb,qc⟩ (h.Q.eraseIdx k).length h.bound ((h.S.bump 7 1).bump 8 1) ((hh.s.bump 7 1).bump 8 1) 9 I.absorbed.length (by omega) (by omega)) ?_
   rintro _ _ ⟨rfl,rfl⟩;refine zB ?_;refine call (xF b ⟨q.r,q.t,qb,qc⟩ (h.Q.eraseIdx k).length h.bound (((h.S.bump 7 1).bump 8 1).bump 9 I.absorbed.length) (((hh.s.bump 7 1).bump 8 1).bump 9 _) 10 I.out.length (by omega) (by omega)) ?_
   rintro _ _ ⟨rfl,rfl⟩;refine zB ?_;simp only [if_true];refine zE (xH b { h with Q:=h.Q.eraseIdx k,T:=I.T,C:=I.C,S:=(((h.S.bump 7 1).bump 8 1).bump 9 I.absorbed.length).bump 10 I.out.length }) ⟨q.r,q.t,qb,qc⟩ ?_
   refine ret ?_;exact ends ⟨ib,ic,ob,oc,rfl,rfl⟩
  | false=>
   refine no ?_;refine zB ?_;simp only [Bool.false_eq_true,if_false];refine zE (xH b { h with Q:=h.Q.eraseIdx k,T:=I.T,C:=I.C,S:=h.S.bump 7 1 }) ⟨q.r,q.t,qb,qc⟩ ?_
   refine ret ?_;exact ends ⟨ib,ic,ob,oc,rfl,rfl⟩
end Go.Proofs.YtjcbjclhagobiaaGreat
end
section
namespace Go.Proofs.YtjcbjclhagobiaaGreat
set_option maxHeartbeats 1600000
open Go Go.KL Go.KM
variable {E:Env} {X:Xs}
set_option maxRecDepth 100000
def Xu (h:HSt) (x:Pf×Int):HSt×Bool:=if wP h.m x=false then (h,false) else
 ({ h with T:=(tInst h.T h.C h.tmost h.pol x true).T,C:=(tInst h.T h.C h.tmost h.pol x true).C,S:=if (tInst h.T h.C h.tmost h.pol x true).in_ then h.S.bump 13 1 else h.S },(tInst h.T h.C h.tmost h.pol x true).in_)
theorem HOk.soft {h:HSt} (hh:HOk h) (x:Pf×Int):HOk (Xu h x).1:=by
 unfold Xu;split
 ·exact hh
 ·refine ⟨hh.srt,hh.len,hh.rm,hh.rh,hh.t.inst.1,hh.q,?_⟩;show St.Ok (if _ then _ else _);split
  ·exact hh.s.bump 13 1
  ·exact hh.s
set_option maxHeartbeats 1000000 in
theorem zGO (b:Nat) (h:HSt) (hh:HOk h) (x:Pf×Int) (hx:x.1.sane=true):Does PR E X 163 [pt b,rV x] [xZ b h] (fun v t=>v=.bool (Xu h x).2/\t=[xZ b (Xu h x).1]):=by
 have hlm:=hh.len;have hrm:=hh.rm;have hf:(!true)=false:=rfl;have hg:(!false)=true:=rfl;refine Does.of 29 inferInstance rfl (by decide) rfl ?_
 refine zW (xH b h) fun q=>?_;refine zB ?_;refine zU fun b3=>?_;refine zB ?_;unfold Xu;rcases Bool.eq_false_or_eq_true (wP h.m x) with hgd|hgd
 ·rw [if_neg (by rw [hgd];simp)]
  have hn:(!wP h.m x)=false:=by rw [hgd];rfl
  refine draw [0,1,3,7,15,31,63,127,15,511,1023,2047,4095,8191,16383,32767,65535,8191,262143,524287,1048575,2097151] [1,9,18] [7,8,16,17] [0,1,2,3,4,5,6,7,8,9,10,11,12,13,14,15,16,17,18,19,20,21] ?_;refine zC ?_;refine call (vA b q h.Q.length h.bound h.S) ?_;rintro _ _ ⟨rfl,rfl⟩;try refine zJ ?_
  refine ddA ?_;refine call (YH q.r h.rmost h.rhops h.m (by omega) x hx) ?_
  rintro _ _ ⟨rfl,rfl⟩;try refine zJ ?_
  refine ddA ?_;refine call (zAR q.t h.T h.C h.tmost h.pol hh.t x true) ?_;unfold zA6;rintro _ _ ⟨ib,ic,ob,oc,rfl,rfl⟩;try refine zJ ?_
  refine ddA ?_;generalize tInst h.T h.C h.tmost h.pol x true=I;cases hin:I.in_ with
  | true=>
   refine no ?_;refine zB ?_;refine call (xF b q h.Q.length h.bound h.S hh.s 13 1 (by omega) (by omega)) ?_
   rintro _ _ ⟨rfl,rfl⟩;refine zB ?_;simp only [if_true];refine zE (xH b { h with T:=I.T,C:=I.C,S:=h.S.bump 13 1 }) q ?_
   refine ret ?_;exact ends ⟨rfl,rfl⟩
  | false=>
   refine yes ?_;refine zB ?_;simp only [Bool.false_eq_true,if_false];refine zE (xH b { h with T:=I.T,C:=I.C,S:=h.S }) q ?_
   refine ret ?_;exact ends ⟨rfl,rfl⟩
 ·rw [if_pos hgd];have hn:(!wP h.m x)=true:=by rw [hgd];rfl
  refine draw [0,1,3,7,15,31,63,127,15,511,1023,2047,4095,8191,16383,32767,65535,8191,262143,524287,1048575,2097151] [1,9,18] [7,8,16,17] [0,1,2,3,4,5,6,7,8,9,10,11,12,13,14,15,16,17,18,19,20,21] ?_;refine zC ?_;refine call (vA b q h.Q.length h.bound h.S) ?_;rintro _ _ ⟨rfl,rfl⟩;try refine zJ ?_
  refine ddA ?_;refine call (YH q.r h.rmost h.rhops h.m (by omega) x hx) ?_
  rintro _ _ ⟨rfl,rfl⟩;try refine zJ ?_
  refine ddA ?_;refine yes ?_;refine zB ?_;refine zE (xH b h) q ?_;refine ret ?_;exact ends ⟨rfl,rfl⟩
def JA (h:HSt) (p:Pf):HSt×Bool:=({ h with T:=h.T.del p,S:=if (h.T.get p).isSome then h.S.bump 12 1 else h.S },(h.T.get p).isSome)
theorem HOk.evict {h:HSt} (hh:HOk h) (p:Pf):HOk (JA h p).1:=by
 refine ⟨hh.srt,hh.len,hh.rm,hh.rh,hh.t.del p,hh.q,?_⟩;show St.Ok (if _ then _ else _);split
 ·exact hh.s.bump 12 1
 ·exact hh.s
theorem zDh (b:Nat) (h:HSt) (hh:HOk h) (p:Pf):Does PR E X 82 [pt b,p.v] [xZ b h] (fun v t=>v=.bool (JA h p).2/\t=[xZ b (JA h p).1]):=by
 refine Does.of 14 inferInstance rfl (by decide) rfl ?_
 refine zW (xH b h) fun q=>?_;refine zB ?_;refine zU fun b3=>?_;refine zB ?_;refine draw [0,1,0,7,15] [1,3,4] [2] [0,2,1,3,4] ?_;refine zC ?_;refine call (YO b q h.Q.length h.bound h.S) ?_;rintro _ _ ⟨rfl,rfl⟩;try refine zJ ?_
 refine ddA ?_;refine call (zEd q.t h.T h.tmost h.pol h.C hh.t p) ?_;rintro _ _ ⟨rfl,rfl⟩;try refine zJ ?_
 refine ddA ?_;unfold JA;cases hg:(h.T.get p).isSome with
 | true=>
  refine yes ?_;refine zB ?_;refine call (xF b q h.Q.length h.bound h.S hh.s 12 1 (by omega) (by omega)) ?_
  rintro _ _ ⟨rfl,rfl⟩;refine zB ?_;simp only [if_true];refine zE (xH b { h with T:=h.T.del p,S:=h.S.bump 12 1 }) q ?_
  refine ret ?_;exact ends ⟨rfl,rfl⟩
 | false=>
  refine no ?_;refine zB ?_;simp only [Bool.false_eq_true,if_false];refine zE (xH b { h with T:=h.T.del p,S:=h.S }) q ?_
  refine ret ?_;exact ends ⟨rfl,rfl⟩
def zJC (h:HSt):HSt:={ h with C:=YV h.C }
theorem HOk.tick {h:HSt} (hh:HOk h):HOk (zJC h):=⟨hh.srt,hh.len,hh.rm,hh.rh,⟨hh.t.good,hh.t.apart,hh.t.len,hh.t.most,hh.t.sk.decay⟩,hh.q,hh.s⟩
theorem zHd (b:Nat) (h:HSt) (hh:HOk h):Does PR E X 84 [pt b] [xZ b h] (fun v t=>v=.tuple #[]/\t=[xZ b (zJC h)]):=by
 refine Does.of 5 inferInstance rfl (by decide) rfl ?_
 refine zW (xH b h) fun q=>?_;refine zB ?_;refine call (YO b q h.Q.length h.bound h.S) ?_;rintro _ _ ⟨rfl,rfl⟩;refine onA ?_;refine call (zHk q.t h.T h.tmost h.pol h.C hh.t) ?_;rintro _ _ ⟨rfl,rfl⟩;refine zB ?_;refine zE (xH b (zJC h)) q ?_;refine fall ?_;exact ends ⟨rfl,rfl⟩
theorem Yp (b:Nat) (h:HSt) (hh:HOk h):Does PR E X 28 [pt b] [xZ b h] (fun v t=>∃ b1 c1 b2 c2,v=.tuple #[.slice b1 (srtT h.T).length c1,.slice b2 h.T.length c2]/\t=[xZ b h,osl b1 c1 54 5 ((srtT h.T).map prC),osl b2 c2 52 4 (h.T.map fun x=>pfC x.1)]):=by
 refine Does.of 10 inferInstance rfl (by decide) rfl ?_
 refine zW (xH b h) fun q=>?_;refine zB ?_;refine call (YO b q h.Q.length h.bound h.S) ?_;rintro _ _ ⟨rfl,rfl⟩;refine onA ?_;refine call (zJ9 q.t h.T h.tmost h.pol h.C hh.t) ?_;rintro _ _ ⟨b1,c1,rfl,rfl⟩;refine zB ?_;refine call (YO b q h.Q.length h.bound h.S) ?_;rintro _ _ ⟨rfl,rfl⟩;refine onA ?_;refine call (zDy q.t h.T h.tmost h.pol h.C hh.t) ?_;rintro _ _ ⟨b2,c2,rfl,rfl⟩;refine zB ?_;refine zE (xH b h) q ?_;refine ret ?_;exact ends ⟨b1,c1,b2,c2,rfl,rfl⟩
end Go.Proofs.YtjcbjclhagobiaaGreat
end
section
namespace Go.Proofs.YtjcbjclhagobiaaGreat
set_option maxHeartbeats 1600000
open Go Go.KL Go.KM
variable {E:Env} {X:Xs}
set_option maxRecDepth 100000
theorem eqR (x y:Pf×Int):(decide ((x.1.a.hi:Int)=(y.1.a.hi:Int))&&(decide ((x.1.a.lo:Int)=(y.1.a.lo:Int))&&((x.1.a.v6 == y.1.a.v6)&&(decide (x.1.n=y.1.n)&&(decide (x.2=y.2)&&true)))))=decide (x=y):=by
 have h:=eqP x.1 y.1;simp only [Bool.and_true] at h ⊢;by_cases e:x.1=y.1
 ·rw [decide_eq_true e] at h;simp only [Bool.and_eq_true] at h;obtain ⟨h1,h2,h3,h4⟩:=h;rw [h1,h2,h3,h4];simp only [Bool.true_and];by_cases e2:x.2=y.2
  ·rw [decide_eq_true e2,decide_eq_true (Prod.ext e e2)]
  ·rw [decide_eq_false e2,decide_eq_false (fun q=>e2 (congrArg Prod.snd q))]
 ·rw [decide_eq_false e] at h;rw [decide_eq_false (fun q=>e (congrArg Prod.fst q))];generalize decide ((x.1.a.hi:Int)=(y.1.a.hi:Int))=a at h ⊢;generalize decide ((x.1.a.lo:Int)=(y.1.a.lo:Int))=b at h ⊢;generalize (x.1.a.v6 == y.1.a.v6)=c at h ⊢;generalize decide (x.1.n=y.1.n)=d at h ⊢;cases a <;> cases b <;> cases c <;> cases d <;> simp_all
theorem zHA (base:Option Addr) (cap:Nat) (l:Prs) (hl:l.length<=100000) (x:Pf×Int):Does PR E X 303 [.slice base l.length cap,rV x] [osl base cap 54 5 (l.map prC)] (fun v t=>v=.int .i64 (fiV (l.findIdx? fun y=>decide (x=y)))/\t=[osl base cap 54 5 (l.map prC)]):=by
 refine Does.of 19 inferInstance rfl (by decide) rfl ?_
 refine zB ?_;refine zU fun b3=>?_;refine zB ?_;refine loop (ι:=Nat) (fun k=>l.length-k) (fun k=>k<=l.length/\∀ i (hi:i<k) (hl:i<l.length),decide (x=l[i])=false) (fun k=>[(0,.slice base l.length cap),(3,.pointer (some ⟨b3,0,none⟩)),(7,.int .i64 (l.length:Int)),(8,.int .i64 (k:Int))])
  (fun _=>[box b3 (prC x) 54,osl base cap 54 5 (l.map prC)]) 0 ⟨by omega,fun i hi=>by omega⟩ ?_
 rintro k ⟨h1,h2⟩ ih;(try dsimp only at h1 h2 ih ⊢);rcases Nat.lt_or_ge k l.length with hk|hk
 ·have hx:l[((k:Nat):Int).toNat]?=some l[k]:=by simp [hk]
  have hfi:decide (x=l[k])=true->l.findIdx? (fun y=>decide (x=y))=some k:=fun hh=>by
   rw [List.findIdx?_eq_some_iff_getElem];exact ⟨hk,hh,fun j hj=>by simpa using h2 j hj (by omega)⟩
  have h3:decide (x=l[k])=false->∀ i (hi:i<k+1) (hl:i<l.length),decide (x=l[i])=false:=fun hh i hi hil=>by
   rcases Nat.lt_or_ge i k with q|q
   ·exact h2 i q hil
   ·obtain rfl:i=k:=by omega
    exact hh
  generalize l[k]=y at hx hfi h3;refine zB ?_;refine yes ?_;refine zB ?_;refine draw [0,0,0,6,14,31] [] [0,3,4] [0,1,2,3,4,5] ?_;refine zC ?_;rw [eqR x y];refine zH (fun hd=>?_) (fun hd=>?_)
  ·refine zB ?_;refine ret ?_;exact ends ⟨by rw [hfi hd];rfl,rfl⟩
  ·refine zB ?_;exact next (ih (k+1) ⟨by omega,h3 hd⟩ (by omega))
 ·obtain rfl:k=l.length:=by omega
  have hf:l.findIdx? (fun y=>decide (x=y))=none:=by
   rw [List.findIdx?_eq_none_iff];intro e he;obtain ⟨i,hi,rfl⟩:=List.getElem_of_mem he;exact h2 i hi hi
  refine zB ?_;refine no ?_;refine zB ?_;refine ret ?_;exact ends ⟨by rw [hf];rfl,rfl⟩
theorem zAx (base:Option Addr) (cap:Nat) (l:Prs) (hl:l.length<=100000) (x:Pf×Int):Does PR E X 241 [.slice base l.length cap,rV x] [osl base cap 54 5 (l.map prC)] (fun v t=>v=.bool (decide (x∈l))/\t=[osl base cap 54 5 (l.map prC)]):=by
 have e:decide (0<=fiV (l.findIdx? fun y=>decide (x=y)))=decide (x∈l):=by
  cases h:l.findIdx? fun y=>decide (x=y) with
  | none=>
   rw [List.findIdx?_eq_none_iff] at h;rw [decide_eq_false (by unfold fiV;simp),decide_eq_false (fun q=>by simpa using h x q)]
  | some k=>
   rw [List.findIdx?_eq_some_iff_getElem] at h;obtain ⟨h1,h2,_⟩:=h;have h2:=of_decide_eq_true h2;rw [decide_eq_true (by unfold fiV;simp),decide_eq_true (by rw [h2];exact List.getElem_mem h1)]
 refine Does.of 9 inferInstance rfl (by decide) rfl ?_
 refine zB ?_;refine zU fun b3=>?_;refine zB ?_;refine call (zHA base cap l hl x) ?_;rintro _ _ ⟨rfl,rfl⟩;refine onA ?_;rw [e];refine ret ?_;exact ends ⟨rfl,rfl⟩
section
variable {σ:Type}
structure DelOk (E:Env) (X:Xs) (del:Value) (A:σ->HP) (d:σ->Pf×Int->σ×Bool) (I:σ->Prop) (P:Pf×Int->Prop):Prop where
 h:∀ s x,I s->P x->DoesV PR E X del [rV x] [A s] (fun v t=>v=.bool (d s x).2/\t=[A (d s x).1])
 inv:∀ s x,I s->P x->I (d s x).1
def YY (d:σ->Pf×Int->σ×Bool):σ->Prs->σ×Prs
 | s,[]=>(s,[])
 | s,x::l=>((YY d (d s x).1 l).1,if (d s x).2 then (YY d (d s x).1 l).2 else x::(YY d (d s x).1 l).2)
def stD (d:σ->Pf×Int->σ×Bool):σ->Prs->σ
 | s,[]=>s
 | s,x::l=>stD d (d s x).1 l
theorem zAt {d:σ->Pf×Int->σ×Bool} {x:Pf×Int}:∀ {l:Prs} {s:σ},stD d s (l++[x])=(d (stD d s l) x).1
 | [],_=>rfl
 | y::l,s=>zAt (l:=l) (s:=(d s y).1)
def zKd (d:σ->Pf×Int->σ×Bool):σ->Prs->Option Nat
 | _,[]=>none
 | s,x::l=>if (d s x).2 then some 0 else (zKd d (d s x).1 l).map (· + 1)
theorem zBl {d:σ->Pf×Int->σ×Bool}:∀ {l:Prs} {s:σ},(∀ K x R,l=K++x::R->(d (stD d s K) x).2=false)->zKd d s l=none/\YY d s l=(stD d s l,l)
 | [],_,_=>⟨rfl,rfl⟩
 | y::l,s,h=>by
  have h0:=h [] y l rfl;have h0:(d s y).2=false:=h0;obtain ⟨h1,h2⟩:=zBl (l:=l) (s:=(d s y).1) (fun K x R e=>h (y::K) x R (by rw [e];rfl))
  unfold zKd YY;rw [h0,h1,h2];exact ⟨rfl,rfl⟩
theorem zDU {d:σ->Pf×Int->σ×Bool} {x:Pf×Int} {R:Prs}:∀ {K:Prs} {s:σ},(∀ K' y R',K=K'++y::R'->(d (stD d s K') y).2=false)->(d (stD d s K) x).2=true->zKd d s (K++x::R)=some K.length/\YY d s (K++x::R)=((YY d (d (stD d s K) x).1 R).1,K++(YY d (d (stD d s K) x).1 R).2)
 | [],s,_,h=>by
  have h:(d s x).2=true:=h;have e1:zKd d s (x::R)=if (d s x).2 then some 0 else (zKd d (d s x).1 R).map (· + 1):=rfl;have e2:YY d s (x::R)=((YY d (d s x).1 R).1,if (d s x).2 then (YY d (d s x).1 R).2 else x::(YY d (d s x).1 R).2):=rfl;show zKd d s (x::R)=_/\YY d s (x::R)=_;rw [e1,e2,h];exact ⟨rfl,rfl⟩
 | y::K,s,h,hx=>by
  have h0:(d s y).2=false:=h [] y K rfl;obtain ⟨h1,h2⟩:=zDU (K:=K) (s:=(d s y).1) (R:=R) (fun K' z R' e=>h (y::K') z R' (by rw [e];rfl)) hx
  have e1:zKd d s (y::(K++x::R))=if (d s y).2 then some 0 else (zKd d (d s y).1 (K++x::R)).map (· + 1):=rfl;have e2:YY d s (y::(K++x::R))=((YY d (d s y).1 (K++x::R)).1,if (d s y).2 then (YY d (d s y).1 (K++x::R)).2 else y::(YY d (d s y).1 (K++x::R)).2):=rfl;show zKd d s (y::(K++x::R))=_/\YY d s (y::(K++x::R))=_;rw [e1,e2,h0,h1,h2];exact ⟨rfl,rfl⟩
theorem Jv {A:σ->HP} {d:σ->Pf×Int->σ×Bool} {I:σ->Prop} {P:Pf×Int->Prop} (del:Value) (hd:DelOk E X del A d I P) (base:Option Addr) (cap:Nat) (l:Prs) (hl:l.length<=100000) (hP:∀ x∈l,P x) (s:σ) (hs:I s) :
  Does PR E X 238 [.slice base l.length cap,del] [osl base cap 54 5 (l.map prC),A s] (fun v t=>((∀ K x R,l=K++x::R->(d (stD d s K) x).2=false)/\v=.int .i64 (-1)/\t=[osl base cap 54 5 (l.map prC),A (stD d s l)])∨∃ K x R,l=K++x::R/\(∀ K' y R',K=K'++y::R'->(d (stD d s K') y).2=false)/\(d (stD d s K) x).2=true/\I (d (stD d s K) x).1/\v=.int .i64 (K.length:Int)/\t=[osl base cap 54 5 (l.map prC),A (d (stD d s K) x).1]):=by
 refine Does.of 19 inferInstance rfl (by decide) rfl ?_
 refine zB ?_;refine loop (ι:=Prs×Prs) (fun z=>z.2.length) (fun z=>z.1++z.2=l/\I (stD d s z.1)/\∀ K' y R',z.1=K'++y::R'->(d (stD d s K') y).2=false) (fun z=>[(0,.slice base l.length cap),(1,del),(7,.int .i64 (l.length:Int)),(8,.int .i64 (z.1.length:Int))])
  (fun z=>[A (stD d s z.1),osl base cap 54 5 (l.map prC)]) ([],l) ⟨rfl,hs,fun K' y R' e=>by simp at e⟩ ?_
 rintro ⟨K,R⟩ ⟨h1,h2,h3⟩ ih;(try dsimp only at h1 h2 h3 ih ⊢);have hlen:K.length+R.length=l.length:=by rw [<-h1,List.length_append]
 cases R with
 | nil=>
  have hnil:([]:Prs).length=0:=rfl;rw [List.append_nil] at h1;subst h1;refine zB ?_;refine no ?_;refine zB ?_;refine ret ?_;exact ends (.inl ⟨h3,rfl,rfl⟩)
 | cons x R=>
  have hR:(x::R).length=R.length+1:=rfl;have hx:l[((K.length:Nat):Int).toNat]?=some x:=by rw [show ((K.length:Nat):Int).toNat=K.length by omega,<-h1];simp
  have hxP:=hP x (by rw [<-h1];simp)
  refine zB ?_;refine yes ?_;refine zB ?_;refine XD (hd.h (stD d s K) x h2 hxP) ?_;rintro _ _ ⟨rfl,rfl⟩;refine zB ?_;refine zH (fun hc=>?_) (fun hc=>?_)
  ·refine zB ?_;refine ret ?_;exact ends (.inr ⟨K,x,R,h1.symm,h3,hc,hd.inv _ _ h2 hxP,rfl,rfl⟩)
  ·refine zB ?_;have hr:=ih (K++[x],R) ⟨by rw [<-h1];simp,by show I (stD d s (K++[x]));rw [zAt];exact hd.inv _ _ h2 hxP,fun K' y R' e=>by
    rcases List.eq_nil_or_concat R' with rfl|⟨R'',z,rfl⟩
    ·have e2:=List.append_inj' e rfl;obtain ⟨e3,e4⟩:=e2;simp at e4;rw [<-e3,<-e4];exact hc
    ·rw [List.concat_eq_append] at e;have e':K++[x]=(K'++y::R'')++[z]:=e.trans (by simp)
     exact h3 K' y R'' (List.append_inj' e' rfl).1⟩ (by show R.length<R.length+1;omega)
   (try dsimp only at hr);rw [zAt,show (K++[x]).length=K.length+1 by simp] at hr
   exact next hr
end
end Go.Proofs.YtjcbjclhagobiaaGreat
end
section
namespace Go.Proofs.YtjcbjclhagobiaaGreat
set_option maxHeartbeats 1600000
open Go Go.KL Go.KM
variable {E:Env} {X:Xs}
set_option maxRecDepth 100000
theorem zMe (l:Prs):ElOk 5 (l.map prC):=⟨fun e he=>by
 obtain ⟨x,_,rfl⟩:=List.mem_map.1 he;rfl,fun e he v hv=>by
 obtain ⟨x,_,rfl⟩:=List.mem_map.1 he;simp only [List.mem_cons,List.not_mem_nil,or_false] at hv;rcases hv with rfl|rfl|rfl|rfl|rfl <;> rfl⟩
set_option maxHeartbeats 1000000 in
theorem JX {σ:Type} {A:σ->HP} {d:σ->Pf×Int->σ×Bool} {I:σ->Prop} {P:Pf×Int->Prop} (del:Value) (hd:DelOk E X del A d I P) (base:Option Addr) (cap:Nat) (l:Prs) (hl:l.length<=100000) (hP:∀ x∈l,P x) (s:σ) (hs:I s) :
  Does PR E X 160 [.slice base l.length cap,del] [osl base cap 54 5 (l.map prC),A s] (fun v t=>v=.slice base (YY d s l).2.length cap/\t=[osl base cap 54 5 ((YY d s l).2.map prC),A (YY d s l).1]):=by
 refine Does.of 42 inferInstance rfl (by decide) rfl ?_
 refine zMn base fun hcap=>?_;rw [List.length_map] at hcap;refine zB ?_;refine call (Jv del hd base cap l hl hP s hs) ?_;rintro _ _ (⟨h1,rfl,rfl⟩|⟨K,x,R,rfl,h2,h3,h4,rfl,rfl⟩)
 ·refine zB ?_;refine yes ?_;refine zB ?_;obtain ⟨e1,e2⟩:=zBl h1;rw [e2];refine ret ?_;exact ends ⟨rfl,rfl⟩
 ·obtain ⟨e1,e2⟩:=zDU (R:=R) h2 h3;have hRP:∀ y∈R,P y:=fun y hy=>hP y (by simp [hy])
  have hll:(K++x::R).length=K.length+1+R.length:=by simp;omega
  rw [e2];(try dsimp only);generalize (d (stD d s K) x).1=s1 at h4;rw [hll] at hl hcap ⊢;clear e1 e2 h2 h3;refine zB ?_;refine no ?_ rfl (decide_eq_false (by omega))
  refine zB ?_;obtain ⟨N,hN⟩:∃ N,N=K.length+1+R.length:=⟨_,rfl⟩;rw [<-hN] at hl hcap ⊢;obtain ⟨F1,hF1⟩:∃ F1,F1=(YY d s1 R).1:=⟨_,rfl⟩;obtain ⟨F2,hF2⟩:∃ F2,F2=K++(YY d s1 R).2:=⟨_,rfl⟩;rw [<-hF1,<-hF2];rw [show osl base cap 54 5 ((K++x::R).map prC)=osl base cap 54 5 ((K++([x]++R)).map prC) from rfl];refine loop (ι:=σ×Prs×Prs×Prs) (fun z=>z.2.2.2.length) (fun z=>I z.1/\z.2.2.1≠[]/\(∀ y∈z.2.2.2,P y)/\z.2.1.length+z.2.2.1.length+z.2.2.2.length=N/\F1=(YY d z.1 z.2.2.2).1/\F2=z.2.1++(YY d z.1 z.2.2.2).2)
   (fun z=>[(0,.slice base N cap),(1,del),(5,.int .i64 (z.2.1.length:Int)),(6,.int .i64 ((z.2.1.length:Int)+(z.2.2.1.length:Int)))]) (fun z=>[osl base cap 54 5 ((z.2.1++(z.2.2.1++z.2.2.2)).map prC),A z.1]) (s1,K,[x],R) ⟨h4,by simp,hRP,by simp;omega,hF1,hF2⟩ ?_
  clear hF1 hF2 hN hll hRP h4 hP hs;clear K x R s1 s;rintro ⟨s,K,J,R⟩ ⟨h1,h2,h3,h4,h5,h6⟩ ih;(try dsimp only at h1 h2 h3 h4 h5 h6 ih ⊢);have hJ:=List.length_pos_iff.2 h2;cases R with
  | nil=>
   have hnil:([]:Prs).length=0:=rfl;have hF1:F1=s:=h5;have hF2:F2=K:=by rw [h6];show K++[]=K;rw [List.append_nil]
   subst hF1;subst hF2;refine zB ?_;refine no ?_ rfl (decide_eq_false (by omega))
   refine zB ?_;refine Xb base (cap:=cap) (by omega) fun bb off c hb k1 k2 k3 k4=>?_
   subst hb;have e3:slB (some ⟨bb,off,none⟩) cap F2.length 5=some ⟨bb,off+F2.length*5,none⟩:=by
    unfold slB;rw [if_neg (by omega)];simp only [Option.map_some];rw [Qw]
   rw [show ((F2.length:Nat):Int).toNat=F2.length by omega,e3]
   have hz:(List.replicate (N-F2.length) [Value.int .u64 0,.int .u64 0,.bool false,.int .i64 0,.int .i64 0]).flatten.length=(N-F2.length)*5:=by simp
   refine zJb (n:=N-F2.length) (sz:=5) (off:=off+F2.length*5) (c:=c) ?_ (by omega)
   refine zB ?_;rw [zHn,show ((F2.length:Nat):Int).toNat-0=F2.length by omega,Nat.sub_zero]
   refine into (Into.box (es:=F2.map prC) (off:=off) (cap:=cap) (sz:=5) .here (zMe _) (by rw [List.length_map];omega) (by rw [zG];exact k3) (fun j v hj=>?_)) ?_
   ·have hjl:=(List.getElem?_eq_some_iff.1 hj).1;rw [(zMe F2).flat,List.length_map] at hjl;rw [Xr (by omega) (.inl (by omega))]
    refine k4 j v ?_;rw [List.map_append,List.flatten_append,List.getElem?_append_left (by rw [(zMe F2).flat,List.length_map];exact hjl)]
    exact hj
   refine ret ?_;exact ends ⟨rfl,rfl⟩
  | cons v R=>
   have hR:(v::R).length=R.length+1:=rfl;have hx:(K++(J++v::R))[((K.length:Int)+(J.length:Int)).toNat]?=some v:=by
    rw [show ((K.length:Int)+(J.length:Int)).toNat=K.length+J.length by omega,List.getElem?_append_right (by omega),List.getElem?_append_right (by omega)]
    rw [show K.length+J.length-K.length-J.length=0 by omega];rfl
   cases J with
   | nil=>exact absurd rfl h2
   | cons j0 J=>
    have hJl:(j0::J).length=J.length+1:=rfl;have hj0:(K++(j0::J++v::R))[((K.length:Nat):Int).toNat]?=some j0:=by
     rw [show ((K.length:Nat):Int).toNat=K.length by omega];simp
    have hset:((K++(j0::J++v::R)).map prC).set ((K.length:Nat):Int).toNat (prC v)=((K++[v])++((J++[v])++R)).map prC:=by
     rw [show ((K.length:Nat):Int).toNat=K.length by omega,<-List.map_set,List.set_append_right _ _ (Nat.le_refl _),Nat.sub_self];simp
    have hll:(K++(j0::J++v::R)).length=N:=by simp;simp at h4;omega
    generalize hLL:K++(j0::J++v::R)=LL at hx hj0 hset hll ⊢;refine zB ?_;refine yes ?_;refine zB ?_;refine alloc fun b7=>?_;refine zB ?_;refine XD (hd.h s v h1 (h3 v (by simp))) ?_
    rintro _ _ ⟨rfl,rfl⟩;refine zB ?_;have hI:=hd.inv s v h1 (h3 v (by simp))
    have hR3:∀ y∈R,P y:=fun y hy=>h3 y (by simp [hy])
    have r1:(YY d s (v::R)).1=(YY d (d s v).1 R).1:=rfl;have r2:(YY d s (v::R)).2=if (d s v).2 then (YY d (d s v).1 R).2 else v::(YY d (d s v).1 R).2:=rfl;rw [r1] at h5;rw [r2] at h6;cases hq:(d s v).2 with
    | false=>
     rw [hq] at h6;refine yes ?_;refine zB ?_;refine (show W _ _ _ _ _ _ _ [osl base cap _ 5 ((LL.map prC).set ((K.length:Nat):Int).toNat (prC v)),_,_] from ?_);rw [hset];have hr:=ih ((d s v).1,K++[v],J++[v],R) ⟨hI,by simp,hR3,by show (K++[v]).length+(J++[v]).length+R.length=N;simp;omega,h5,by rw [h6];simp⟩ (by show R.length<(v::R).length;simp)
     (try dsimp only at hr);rw [show (((K++[v]).length:Nat):Int)=(K.length:Int)+1 by simp,show (((J++[v]).length:Nat):Int)=((j0::J).length:Int) by simp] at hr
     exact next hr
    | true=>
     rw [hq] at h6;refine no ?_;refine zB ?_;subst hLL;rw [show K++(j0::J++v::R)=K++((j0::J++[v])++R) by simp]
     have hr:=ih ((d s v).1,K,j0::J++[v],R) ⟨hI,by simp,hR3,by show K.length+(j0::J++[v]).length+R.length=N;simp;omega,h5,h6⟩ (by show R.length<(v::R).length;simp)
     (try dsimp only at hr);rw [show (((j0::J++[v]).length:Nat):Int)=((j0::J).length:Int)+1 by simp] at hr
     exact next hr
end Go.Proofs.YtjcbjclhagobiaaGreat
end
section
namespace Go.Proofs.YtjcbjclhagobiaaGreat
set_option maxHeartbeats 1600000
open Go Go.KL Go.KM
variable {E:Env} {X:Xs}
set_option maxRecDepth 100000
def sibs:Nat->Pf->List Pf
 | 0,_=>[]
 | k+1,p=>if p.beside.2 then p.beside.1::sibs k p.up.1 else []
def sibN (n:Int):Nat:=(max 0 (min n 8)).toNat
theorem Jr (y:Value) (bn bp:Nat) (n:Int) (p:Pf) (A:List Pf->HP) (h:∀ D s R,sibs (sibN n) p=D++s::R->DoesV PR E X y [s.v] [A D] (fun v u=>v=.bool true/\u=[A (D++[s])])) :
  Does PR E X 299 [y,pt bn,pt bp] [A [],box bn [.int .i64 n] 3,box bp (pfC p) 52] (fun v u=>v=.tuple #[]/\u=[A (sibs (sibN n) p)]):=by
 have hff:false=false:=rfl;have hK:max 0 (min n 8)=(sibN n:Int):=by unfold sibN;omega
 have hK8:sibN n<=8:=by unfold sibN;omega
 generalize sibN n=K at h hK hK8;refine Does.of 30 inferInstance rfl (by decide) rfl ?_
 refine zB ?_;rw [hK];refine loop (ι:=List Pf×Nat×Pf) (fun z=>K-z.2.1) (fun z=>z.2.1<=K/\sibs K p=z.1++sibs (K-z.2.1) z.2.2) (fun z=>[(0,y),(1,pt bn),(2,pt bp),(8,.int .i64 (K:Int)),(9,.int .i64 (z.2.1:Int))])
  (fun z=>[A z.1,box bn [.int .i64 n] 3,box bp (pfC z.2.2) 52]) ([],0,p) ⟨Nat.zero_le _,rfl⟩ ?_
 rintro ⟨D,i,q⟩ ⟨h1,h2⟩ ih;(try dsimp only at h1 h2 ih ⊢);rcases Nat.lt_or_ge i K with hi|hi
 ·obtain ⟨m,hm⟩:∃ m,K-i=m+1:=⟨K-i-1,by omega⟩
  have hs:sibs (K-i) q=if q.beside.2 then q.beside.1::sibs m q.up.1 else []:=by rw [hm];rfl
  refine zB ?_;refine yes ?_;refine zB ?_;refine call (zEC q) ?_;rintro _ _ ⟨rfl,rfl⟩;refine zB ?_;refine alloc fun b4=>?_;refine zB ?_;cases hb:q.beside.2 with
  | false=>
   have hnb:(!false)=true:=rfl;rw [hb] at hs;have hs:sibs (K-i) q=[]:=hs;refine zB ?_;refine yes ?_;refine zB ?_;refine ret ?_;exact ends ⟨rfl,by rw [h2,hs,List.append_nil]⟩
  | true=>
   have hnb:(!true)=false:=rfl;rw [hb] at hs;have hs:sibs (K-i) q=q.beside.1::sibs m q.up.1:=hs;refine zB ?_;refine XD (h D q.beside.1 (sibs m q.up.1) (by rw [h2,hs])) ?_
   rintro _ _ ⟨rfl,rfl⟩;refine zB ?_;refine no ?_;refine zB ?_;refine call (zJt q) ?_;rintro _ _ ⟨rfl,rfl⟩;refine zB ?_;have hr:=ih (D++[q.beside.1],i+1,q.up.1) ⟨by show i+1<=K;omega,by show sibs K p=(D++[q.beside.1])++sibs (K-(i+1)) q.up.1;rw [h2,hs,show K-(i+1)=m by omega];simp⟩ (by show K-(i+1)<K-i;omega)
   (try dsimp only at hr);exact next hr
 ·obtain rfl:i=K:=by omega
  have hs:sibs (i-i) q=[]:=by rw [Nat.sub_self];rfl
  refine zB ?_;refine no ?_;refine zB ?_;refine fall ?_;exact ends ⟨rfl,by rw [h2,hs,List.append_nil]⟩
theorem zBY (p:Pf) (n:Int):Does PR E X 239 [p.v,.int .i64 n] [] (fun v t=>∃ bn bp,v=.func (.func 299) #[] #[pt bn,pt bp]/\t=[box bn [.int .i64 n] 3,box bp (pfC p) 52]):=by
 refine Does.of 6 inferInstance rfl (by decide) rfl ?_
 refine zB ?_;refine zU fun b2=>?_;refine zB ?_;refine zU fun b3=>?_;refine zB ?_;refine ret ?_;exact ends ⟨b3,b2,rfl,rfl⟩
theorem W.overSibs {Post:Value->List HP->Prop} {k:List Item} {L:Tm} {s F:List HP} {U:List Pf->List HP} {fid:FuncId} {nt:Nat} {ps:Array Nat} {sa bd:Code} {fo:Operand} (bn bp:Nat) (n:Int) (p:Pf)
  (hf:ev L fo=some (.func (.func 299) #[] #[pt bn,pt bp])) (hps:ps.size=1) (hps2:∀ q∈ps.toList,q<nt)
  (hy:∀ D s R,sibs (sibN n) p=D++s::R->∀ j tmps r0,L.ok nt tmps->W PR E X ⟨fid,.normal,[],some j,nt⟩ (fun v t=>∃ t',t=blk j (LO fid tmps ps sa bd r0 .busy none)::t'/\v=.bool true/\t'=U (D++[s])) [.code sa,.beginRound,.code bd] (zBS ps.toList [s.v] L) (blk j (LO fid tmps ps sa bd r0 .ready none)::U D))
  (h0:∀ r0,W PR E X ⟨fid,.normal,[Jm r0],none,nt⟩ Post k L (U (sibs (sibN n) p)++F))
  (hsel:Sels s (U []++[box bn [.int .i64 n] 3,box bp (pfC p) 52]) F:=by (try simp only [List.cons_append,List.nil_append]);repeat (first|(with_reducible exact Sels.nil)|((with_reducible apply Sels.dupI);(case h=>(first|(with_reducible exact Sel.here)|((repeat (first|(with_reducible exact Sel.here)|(with_reducible apply Sel.there)));done)|(repeat (first|(exact Sel.here)|(apply Sel.there))))))|((with_reducible apply Sels.cons);(case h=>(first|(with_reducible exact Sel.here)|((repeat (first|(with_reducible exact Sel.here)|(with_reducible apply Sel.there)));done)|(repeat (first|(exact Sel.here)|(apply Sel.there)))))))) :
  W PR E X ⟨fid,.normal,[],none,nt⟩ Post (.code (.rangeFunc fo ps sa bd)::k) L s:=by
 refine W.rangeFunc hf fun j tmps r0 hok=>?_;refine ⟨U []++[box bn [.int .i64 n] 3,box bp (pfC p) 52],F,fun v t=>t=blk j (LO fid tmps ps sa bd r0 .ready none)::U (sibs (sibN n) p),?_,fun r f h=>hsel.out h,?_⟩
 ·refine (Jr (.func (.yield j) #[] #[]) bn bp n p (fun D=>all (blk j (LO fid tmps ps sa bd r0 .ready none)::U D)) (fun D s R e=>?_)).conv ?_ ?_
  ·refine (DoesV.yield (P:=PR) (Post':=fun v t=>v=.bool true/\t=U (D++[s])) (pre:=U D) (vs:=[s.v]) (by rw [hps];rfl) hps2 hok ?_).conv (fun r f h=>by simpa using YS h) ?_
   ·exact hy D s R e j tmps r0 hok
   ·rintro v t ⟨t',⟨rfl,rfl⟩,⟨_,rfl⟩|⟨h,_⟩⟩
    ·exact ⟨_,⟨rfl,rfl⟩,fun r f h=>zFq h⟩
    ·cases h
  ·exact fun r f h=>JJ h
  ·rintro _ _ ⟨rfl,rfl⟩;exact ⟨_,rfl,fun r f h=>by simpa using YS h⟩
 ·rintro v t rfl;exact ⟨_,_,_,rfl,rfl,h0 r0⟩
def wN (m:Prs) (out:Prs) (s:Pf):Prs:=match ZK m s.a with
 | none=>out
 | some x=>if x∈out then out else out++[x]
abbrev Zn (m:Prs) (p:Pf) (n:Int):Prs:=(sibs (sibN n) p).foldl (wN m) []
theorem zFZ {k:Nat}:∀ {p:Pf},(sibs k p).length<=k:=by
 induction k with
 | zero=>intro p;simp [sibs]
 | succ k ih=>intro p;unfold sibs;split <;> simp;exact ih
theorem zEK {m out:Prs} {s:Pf}:(wN m out s).length<=out.length+1:=by
 unfold wN;split
 ·omega
 ·split <;> simp
theorem Qm {m:Prs}:∀ {l:List Pf} {out:Prs},(l.foldl (wN m) out).length<=out.length+l.length
 | [],out=>by simp
 | s::l,out=>by
  have h1:=Qm (m:=m) (l:=l) (out:=wN m out s);have h2:=zEK (m:=m) (out:=out) (s:=s);simp only [List.foldl_cons,List.length_cons];omega
theorem zDI (r most hops:Nat) (m:Prs) (hm:m.length<=1000000) (p:Pf) (n:Int):Does PR E X 161 [pt r,p.v,.int .i64 n] [ZJ r m most hops] (fun v t=>∃ b c,v=.slice b (Zn m p n).length c/\t=[ZJ r m most hops,osl b c 54 5 ((Zn m p n).map prC)]):=by
 refine Does.of 34 inferInstance rfl (by decide) rfl ?_
 refine zB ?_;refine zU fun b3=>?_;refine zB ?_;refine zU fun b4=>?_;refine zB ?_;refine alloc fun b7=>?_;refine zB ?_;refine call (zBY p n) ?_;rintro _ _ ⟨bn,bp,rfl,rfl⟩;refine zB ?_;refine into (Into.nilO (T:=54) (sz:=5)) ?_;refine zE (fun z:Option Addr×Nat=>[box b7 [.slice z.1 ([]:Prs).length z.2] 55,osl z.1 z.2 54 5 (([]:Prs).map prC)]) (none,0) ?_;refine W.overSibs bn bp n p rfl rfl (by decide) (U:=fun D=>[HP.ex (fun z:Option Addr×Nat=>[box b7 [.slice z.1 (D.foldl (wN m) []).length z.2] 55,osl z.1 z.2 54 5 ((D.foldl (wN m) []).map prC)]),ZJ r m most hops,box b3 [pt r] 106]) ?_ ?_
 ·intro D s R hD j tmps r0 hok;have hlen:D.length<=8:=by
   have h1:=zFZ (k:=sibN n) (p:=p);rw [hD] at h1;have:sibN n<=8:=by unfold sibN;omega
   simp at h1;omega
  have hol:=Qm (m:=m) (l:=D) (out:=[]);rw [List.foldl_append];simp only [List.foldl_cons,List.foldl_nil,List.length_nil,Nat.zero_add] at hol ⊢;generalize D.foldl (wN m) []=out at hol ⊢;simp only [zBS];refine zB ?_;refine alloc fun b8=>?_;refine zB ?_;refine beginRound ?_;refine zB ?_;refine call (JP r most hops m hm s.a) ?_;rintro _ _ ⟨rfl,rfl⟩;refine onA ?_;refine alloc fun b9=>?_;refine zB ?_;refine YG (fun z:Option Addr×Nat=>[box b7 [.slice z.1 out.length z.2] 55,osl z.1 z.2 54 5 (out.map prC)]) fun z=>?_;have hout:out.length<=8:=by omega
  cases hl:ZK m s.a with
  | none=>
   have hs1:(none:Option (Pf×Int)).isSome=false:=rfl;have hbs:wN m out s=out:=by unfold wN;rw [hl]
   rw [hbs];refine zB ?_;refine no ?_;refine zB ?_;refine zE (fun z:Option Addr×Nat=>[box b7 [.slice z.1 out.length z.2] 55,osl z.1 z.2 54 5 (out.map prC)]) z ?_;refine WR ⟨_,rfl,rfl,rfl⟩
  | some x=>
   have hs1:(some x).isSome=true:=rfl;refine zB ?_;refine call (zAx z.1 z.2 out (by omega) x) ?_
   rintro _ _ ⟨rfl,rfl⟩;refine zB ?_;by_cases hx:x∈out
   ·have hbs:wN m out s=out:=by unfold wN;rw [hl];exact if_pos hx
    rw [hbs];rw [decide_eq_true hx];refine no ?_;refine zB ?_;refine zE (fun z:Option Addr×Nat=>[box b7 [.slice z.1 out.length z.2] 55,osl z.1 z.2 54 5 (out.map prC)]) z ?_;refine WR ⟨_,rfl,rfl,rfl⟩
   ·have hbs:wN m out s=out++[x]:=by unfold wN;rw [hl];exact if_neg hx
    rw [hbs,List.map_append,List.length_append];rw [decide_eq_false hx];refine yes ?_;refine zB ?_;refine buildSlice fun bs=>?_;refine zB ?_;refine xM fun ob oc=>?_;refine zB ?_;refine zE (fun z:Option Addr×Nat=>[box b7 [.slice z.1 (out.length+1) z.2] 55,osl z.1 z.2 54 5 (out.map prC++[prC x])]) (ob,oc) ?_;refine WR ⟨_,rfl,rfl,rfl⟩
 ·intro r0;simp only [List.cons_append,List.nil_append];refine zW (fun z:Option Addr×Nat=>[box b7 [.slice z.1 (Zn m p n).length z.2] 55,osl z.1 z.2 54 5 ((Zn m p n).map prC)]) fun z=>?_;refine zB ?_;refine ret ?_;exact ends ⟨z.1,z.2,rfl,rfl⟩
end Go.Proofs.YtjcbjclhagobiaaGreat
end
