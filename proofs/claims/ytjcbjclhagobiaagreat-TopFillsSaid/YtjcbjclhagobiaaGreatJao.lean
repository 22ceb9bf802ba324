/- Texts joined by a program of ours: Kx Ky Kz Kza Kzb. -/
import Derived.Test.YtjcbjclhagobiaaGreatJaa
import Derived.Conc.TokenTrace
import Derived.Conc.Beside
import Derived.Conc.CrowdSel
import Derived.Conc.Token
set_option linter.all false
section
namespace Go.KL
open Go Go.Conc
structure Knw (t:Trace) (h tok:Nat) (r f:Hp):Prop where
 own:∀ i a b,touchAt t i=some a->zGM a.loc=some b->f b≠none->b≠tok->Knows t h i
 rd:∀ i a b,touchAt t i=some a->a.write=true->zGM a.loc=some b->r b≠none->Knows t h i
 hears:Deaf t h=0
structure Tri (B:Nat) (t:Trace) (Ex:Nat->Prop):Prop where
 clean:∀ said,¬ Race said t
 over:∀ i a,touchAt t i=some a->a.loc.isMemory=true->Knows t 0 i∨Ex i
 low:∀ i a b,touchAt t i=some a->zGM a.loc=some b->b<B
def zOV (tok n:Nat) (r f:Hp) (a:Touch):Prop:=∃ b,zGM a.loc=some b/\((r b≠none/\a.write=false)∨(f b≠none/\b≠tok)∨n<=b)
theorem QY {g:Nat} {fn:FuncId} {pos:String} {es:Array Event} {op:MemOp} (h:op∈MemOp.ofEvents g fn pos es):∃ e∈es,op={ g,fn,pos,act:=.ofEvent e }:=by
 rw [ofEvents_eq] at h;obtain ⟨e,he,rfl⟩:=Array.mem_map.1 h;exact ⟨e,he,rfl⟩
theorem touch_new {t u:Trace} {i:Nat} {a:Touch} (h:touchAt (t++u) i=some a):(i<t.size/\touchAt t i=some a)∨∃ op∈u,(t++u)[i]?=some op/\op.act.touch?=some a:=by
 obtain ⟨x,hx,hxa⟩:=touch_of h;rcases getElem?_append_cases hx with ⟨hi,hx'⟩|⟨_,hxu⟩
 ·exact .inl ⟨hi,by rw [touchAt_of hx'];exact hxa⟩
 ·exact .inr ⟨x,hxu,hx,hxa⟩
theorem zGm {tok n:Nat} {r f:Hp} {e:Event} (h:zNo tok n r f e∨zKF e) {a:Touch} (ha:(MemAct.ofEvent e).touch?=some a):zOV tok n r f a/\a.loc=e.loc:=by
 rcases h with ⟨hs,h⟩|⟨m,hm,h⟩
 ·obtain ⟨loc,wr,sy⟩:=e;simp only at hs h;subst hs;cases loc with
  | cell c=>
   simp only [MemAct.ofEvent,MemAct.touch?,Option.some.injEq] at ha;subst ha;exact ⟨⟨_,rfl,h⟩,rfl⟩
  | obj c=>
   simp only [MemAct.ofEvent,MemAct.touch?,Option.some.injEq] at ha;subst ha;exact ⟨⟨_,rfl,h⟩,rfl⟩
  | output=>exact h.elim
  | goroutines=>exact h.elim
  | mark m=>exact h.elim
 ·obtain ⟨loc,wr,sy⟩:=e;simp only at hm;subst hm;rcases h with ⟨g,rfl⟩|rfl <;> simp [MemAct.ofEvent,MemAct.touch?] at ha
theorem zHY {tok n:Nat} {r f:Hp} {e:Event} (h:zNo tok n r f e∨zKF e):e.loc≠.mark .disable/\e.loc≠.mark .enable:=by
 rcases h with ⟨hs,h⟩|⟨m,hm,h⟩
 ·constructor <;> intro e' <;> rw [e'] at h <;> exact h
 ·rw [hm];rcases h with ⟨g,rfl⟩|rfl <;> simp
structure Ops (t:Trace) (h tok n n':Nat) (r f:Hp) (u:Trace):Prop where
 g:∀ op∈u,op.g=h
 ok:∀ op∈u,∀ a,op.act.touch?=some a->zOV tok n r f a/\∀ b,zGM a.loc=some b->b<n'
 deaf:Deaf (t++u) h=Deaf t h
theorem Kept.ops {E:Env} {w w':World} {r f r' f':Hp} {es:Array Event} (k:Kept E w r f w' es r' f') (t:Trace) (h:Nat) (fn:FuncId) (pos:String):Ops t h E.tok w.heap.size w'.heap.size r f (MemOp.ofEvents h fn pos es):=by
 refine ⟨fun op hop=>by obtain ⟨e,_,rfl⟩:=QY hop;rfl,fun op hop a ha=>?_,?_⟩
 ·obtain ⟨e,he,rfl⟩:=QY hop;obtain ⟨h1,h2⟩:=zGm (k.evs e he) ha;exact ⟨h1,fun b hb=>k.low e he b (by rw [<-h2];exact hb)⟩
 ·rw [Deaf_own];exact deafBehind_still (fun e he=>zHY (k.evs e he)) _
section
variable {t u:Trace} {h tok n n':Nat} {r f r' f':Hp} {Ex:Nat->Prop}
theorem Knw.none (h:Nat) (k:Deaf t h=0) (ht:∀ i a,touchAt t i=some a->False):Knw t h tok r f:=⟨fun i a _ h=>(ht i a h).elim,fun i a _ h=>(ht i a h).elim,k⟩
theorem Knw.mute (k:Knw t h tok r f) (hn:∀ op∈u,op.act.touch?=Option.none) (hd:Deaf (t++u) h=Deaf t h):Knw (t++u) h tok r f:=by
 refine ⟨fun i a b ha hb hf ht=>?_,fun i a b ha hw hb hr=>?_,hd.trans k.hears⟩
 ·rcases touch_new ha with ⟨_,h'⟩|⟨op,hop,_,hx⟩
  ·exact (k.own i a b h' hb hf ht).app u
  ·rw [hn op hop] at hx;cases hx
 ·rcases touch_new ha with ⟨_,h'⟩|⟨op,hop,_,hx⟩
  ·exact (k.rd i a b h' hw hb hr).app u
  ·rw [hn op hop] at hx;cases hx
theorem Tri.mute {Ex':Nat->Prop} (k:Tri n t Ex) (hn:∀ op∈u,op.act.touch?=Option.none) (hx:∀ i,Ex i->Ex' i∨Knows (t++u) 0 i):Tri n (t++u) Ex':=by
 refine ⟨fun said=>noRace_appendMute (k.clean said) hn,fun i a ha hm=>?_,fun i a b ha hb=>?_⟩
 ·rcases touch_new ha with ⟨_,h'⟩|⟨op,hop,_,hx⟩
  ·rcases k.over i a h' hm with h|h
   ·exact .inl (h.app u)
   ·exact (hx i h).symm
  ·rw [hn op hop] at hx;cases hx
 ·rcases touch_new ha with ⟨_,h'⟩|⟨op,hop,_,hx⟩
  ·exact k.low i a b h' hb
  ·rw [hn op hop] at hx;cases hx
theorem Knw.mine (k:Knw t h tok r f) (T:Tri n t Ex) (o:Ops t h tok n n' r f u) (hf:∀ b,f' b≠Option.none->f b=Option.none->n<=b) (hr:∀ b,r' b≠Option.none->r b=Option.none->(f b≠Option.none/\b≠tok)∨n<=b):Knw (t++u) h tok r' f':=by
 have hnew:∀ {i:Nat} {op:MemOp},op∈u->(t++u)[i]?=some op->Knows (t++u) h i:=fun hop hx=>by
  have:=knows_own hx
  rwa [o.g _ hop] at this
 refine ⟨fun i a b ha hb hfb ht=>?_,fun i a b ha hw hb hrb=>?_,o.deaf.trans k.hears⟩
 ·rcases touch_new ha with ⟨_,h'⟩|⟨op,hop,hx,_⟩
  ·by_cases e:f b=Option.none
   ·exact absurd (T.low i a b h' hb) (Nat.not_lt.2 (hf b hfb e))
   ·exact (k.own i a b h' hb e ht).app u
  ·exact hnew hop hx
 ·rcases touch_new ha with ⟨_,h'⟩|⟨op,hop,hx,_⟩
  ·by_cases e:r b=Option.none
   ·rcases hr b hrb e with x|x
    ·exact (k.own i a b h' hb x.1 x.2).app u
    ·exact absurd (T.low i a b h' hb) (Nat.not_lt.2 x)
   ·exact (k.rd i a b h' hw hb e).app u
  ·exact hnew hop hx
theorem Knw.other {g:Nat} {rg fg:Hp} (k:Knw t g tok rg fg) (hg:g≠h) (o:Ops t h tok n n' r f u) (d1:∀ b,b≠tok->fg b≠Option.none->r b=Option.none/\f b=Option.none/\b<n) (d2:∀ b,rg b≠Option.none->(b≠tok->f b=Option.none)/\b<n):Knw (t++u) g tok rg fg:=by
 refine ⟨fun i a b ha hb hfb ht=>?_,fun i a b ha hw hb hrb=>?_,(Deaf_other t (fun e=>hg e.symm) u o.g).trans k.hears⟩
 ·rcases touch_new ha with ⟨_,h'⟩|⟨op,hop,hx,hxa⟩
  ·exact (k.own i a b h' hb hfb ht).app u
  ·exfalso
   obtain ⟨⟨b',hb',hc⟩,_⟩:=o.ok op hop a hxa;rw [hb] at hb';cases hb'
   obtain ⟨e1,e2,e3⟩:=d1 b ht hfb;rcases hc with x|x|x
   ·exact x.1 e1
   ·exact x.1 e2
   ·omega
 ·rcases touch_new ha with ⟨_,h'⟩|⟨op,hop,hx,hxa⟩
  ·exact (k.rd i a b h' hw hb hrb).app u
  ·exfalso
   obtain ⟨⟨b',hb',hc⟩,_⟩:=o.ok op hop a hxa;rw [hb] at hb';cases hb'
   rcases hc with x|x|x
   ·rw [hw] at x;cases x.2
   ·exact x.1 ((d2 b hrb).1 x.2)
   ·have:=(d2 b hrb).2;omega
theorem Tri.step {Ex':Nat->Prop} (T:Tri n t Ex) (k:Knw t h tok r f) (o:Ops t h tok n n' r f u) (hnn:n<=n') (hx:∀ i,Ex i->Ex' i) (hh:h=0∨∀ i op,t.size<=i->(t++u)[i]?=some op->Ex' i):Tri n' (t++u) Ex':=by
 refine ⟨fun said=>noRace_append (T.clean said) o.g fun i a ha op hop b hb hc=>?_,fun i a ha hm=>?_,fun i a b ha hb=>?_⟩
 ·obtain ⟨⟨bb,hbb,hcase⟩,_⟩:=o.ok op hop b hb;have hab:zGM a.loc=some bb:=by rw [hc.1];exact hbb
  rcases hcase with x|x|x
  ·refine k.rd i a bb ha ?_ hab x.1;rcases hc.2.2.1 with y|y
   ·exact y
   ·rw [x.2] at y;cases y
  ·exact k.own i a bb ha hab x.1 x.2
  ·exact absurd (T.low i a bb ha hab) (Nat.not_lt.2 x)
 ·rcases touch_new ha with ⟨hi,h'⟩|⟨op,hop,hx',hxa⟩
  ·rcases T.over i a h' hm with y|y
   ·exact .inl (y.app u)
   ·exact .inr (hx i y)
  ·rcases hh with rfl|hh
   ·have:=knows_own hx'
    rw [o.g op hop] at this;exact .inl this
   ·by_cases hi:i<t.size
    ·rcases getElem?_append_cases hx' with ⟨_,h2⟩|⟨h2,_⟩
     ·rcases T.over i a (by rw [touchAt_of h2];exact hxa) hm with y|y
      ·exact .inl (y.app u)
      ·exact .inr (hx i y)
     ·omega
    ·exact .inr (hh i op (by omega) hx')
 ·rcases touch_new ha with ⟨_,h'⟩|⟨op,hop,_,hxa⟩
  ·exact Nat.lt_of_lt_of_le (T.low i a b h' hb) hnn
  ·exact (o.ok op hop a hxa).2 b hb
theorem Tri.handed (T:Tri n t (fun _=>False)):t.HandedOver:=by
 intro i g hg hne ⟨x,hx,hm,_⟩;rcases T.over i x hx hm with ⟨q,z,hq,hz,hb⟩|h
 ·rcases hb with rfl|hb
  ·rw [g?_of hq,hz] at hg;exact absurd (Option.some.inj hg).symm hne
  ·exact ⟨q,by rw [g?_of hq,hz],hb⟩
 ·exact h.elim
end
end Go.KL
end
section
namespace Go.KL
open Go Go.Conc
open Go.ConcN (sumTo upd sumTo_upd upd_ne upd_same)
def yY:Obj:=.pending #[] 0
def yH (c d:Nat) (vs:List Value):Obj:=.pending (goInt (c:Int)::goInt (d:Int)::vs).toArray 1
abbrev chO (cl:Bool) (k:Nat):Obj:=.chan 0 #[] cl k k false
def Hp.put (f:Hp) (n:Nat) (o:Obj):Hp:=fun m=>if m=n then some o else f m
theorem Xf {c d c' d':Nat} {vs vs':List Value} (h:yH c d vs=yH c' d' vs'):c=c'/\d=d'/\vs=vs':=by
 unfold yH at h;injection h with h1 h2
 have h3:=congrArg Array.toList h1;simp only [List.cons.injEq,goInt,Value.int.injEq,true_and] at h3;exact ⟨by omega,by omega,h3.2.2⟩
theorem JY {c d:Nat} {vs:List Value}:yY≠yH c d vs:=by
 intro h;unfold yY yH at h;injection h with h1;cases h1
def WJ (c d:Nat) (v zc zd:Value):Array CommCase:=#[scase c v zc,rcase d zd]
abbrev Env.kid (E:Env):Env:={ E with main:=false }
inductive XS (P:Program) (E:Env):Goroutine->Hp->Hp->(Goroutine->Hp->Hp->Prop)->Prop
 | sel {g:Goroutine} {r f:Hp} {S:Goroutine->Hp->Hp->Prop} {c d:Nat} {v zc zd:Value} {vs:List Value} (hs:g.status=.running) (ht:f E.tok=some (yH c d (v::vs)))
   (h:∀ w,stepG P false g w=.comm g (WJ c d v zc zd) true .select w #[]) (k:S (Conc.served g (commResult (WJ c d v zc zd) .select 0 undef false)) r (f.put E.tok (yH c d vs))):XS P E g r f S
def KS (P:Program) (E:Env) (g:Goroutine) (_ f:Hp):Prop:=
 g.status=.running/\mayWake P g=true/\∃ c d g' n,f E.tok=some (yH c d [])/\g'.status=.running/\(∀ w k,w.heap[c]?=some (chO false k)->stepG P false g w=.go g' (w.setChan c 0 #[] true k k false) (closeEvents c))/\QuitsD P n 0 g'
inductive XM (P:Program) (E:Env):Goroutine->Hp->Hp->(Goroutine->Hp->Hp->Prop)->Prop
 | go {g g1 child:Goroutine} {r f fM fS:Hp} {S:Goroutine->Hp->Hp->Prop} {c d:Nat} {vs:List Value} (hs:g.status=.running) (ht:f E.tok=some yY) (hc:f c=some (chO false 0)) (hd:f d=some (chO false 0)) (hcd:c≠d)
   (h:∀ w,stepG P true g w=.spawn g1 child w #[]) (hM:∀ n o,n≠E.tok->fM n=some o->f n=some o/\fS n=none/\n≠c/\n≠d) (hS:∀ n o,n≠E.tok->fS n=some o->f n=some o/\n≠c/\n≠d)
   (htM:fM E.tok=some (yH c d vs)) (htS:fS E.tok=some (yH c d vs)) (hch:child.status=.running) (kid:Safe P E.kid (XS P E) (KS P E) child r fS) (k:S g1 r fM):XM P E g r f S
 | recv {g:Goroutine} {r f:Hp} {S:Goroutine->Hp->Hp->Prop} {c d:Nat} {v z:Value} {vs:List Value} (hs:g.status=.running) (ht:f E.tok=some (yH c d (v::vs)))
   (h:∀ w,stepG P true g w=.comm g #[rcase c z] true (.recv true) w #[]) (k:S (Conc.served g (recvd true v true)) r (f.put E.tok (yH c d vs))):XM P E g r f S
 | fin {g:Goroutine} {r f:Hp} {S:Goroutine->Hp->Hp->Prop} {c d:Nat} {z:Value} (hs:g.status=.running) (ht:f E.tok=some (yH c d []))
   (h:∀ w,stepG P true g w=.comm g #[rcase c z] true (.recv true) w #[]) (k:f d=none->S (Conc.served g (recvd true z false)) r ((f.put d (chO false 0)).put E.tok yY)):XM P E g r f S
 | shut {g g':Goroutine} {r f:Hp} {S:Goroutine->Hp->Hp->Prop} {d j:Nat} (hs:g.status=.running) (hd:f d=some (chO false j)) (hs':g'.status=.running)
   (h:∀ w,w.heap[d]?=some (chO false j)->stepG P true g w=.go g' (w.setChan d 0 #[] true j j false) (closeEvents d)) (k:S g' r (f.put d (chO true j))):XM P E g r f S
section
variable {P:Program} {gs:Array Goroutine} {w w₁:World} {sl:Option (Nat×Nat)} {i j k:Nat} {g g₂ gj:Goroutine} {es:Array Event} {c cap s r:Nat} {buf:Array Value} {tm closed:Bool} {v z zj:Value}
 {blocking:Bool} {shape shj:CommShape} {cs cases:Array CommCase}
theorem Xi (hi:gs[i]?=some g) (h:stepG P (i == 0) g w=.comm g₂ #[rcase c z] blocking shape w₁ es) (hc:w₁.heap[c]?=some (.chan cap #[] closed s r tm))
  (hij:j≠i) (hj:gs[j]?=some (parked gj cs shj)) (hk:cs[k]?=some (scase c v zj)) (hp:partners (gs.setIfInBounds i ph) c true=[(j,k)]) :
  runT P (crowd gs w sl) i=(.next (crowd ((gs.setIfInBounds j (gj.finishComm P cs shj k undef false)).setIfInBounds i (g₂.finishComm P #[rcase c z] shape 0 v true)) (w₁.setChan c cap #[] closed (s+1) (r+1) tm) sl),
   MemOp.ofEvents i g.frame.fn g.frame.place es++#[{ g:=j,fn:=gj.frame.fn,pos:=gj.frame.place,act:=.send c s },{ g:=i,fn:=g₂.frame.fn,pos:=g₂.frame.place,act:=.recv c r cap },
    { g:=j,fn:=gj.frame.fn,pos:=gj.frame.place,act:=.sendDone c s },{ g:=i,fn:=g₂.frame.fn,pos:=g₂.frame.place,act:=.recvDone c r }]):=by
 rw [runT_crowd_comm hi h];have hj':=stand_get (i:=i) hij hj;have hfp:=finishPartner_at P (gs.setIfInBounds i ph) hj' (cs:=cs) (sh:=shj) rfl k undef;have hgd:(gs.setIfInBounds i ph).getD j default=parked gj cs shj:=by rw [Array.getD_eq_getD_getElem?,hj'];rfl
 have hov:offeredValue (gs.setIfInBounds i ph) j k=v:=by simp [offeredValue,hj',parked,hk,scase]
 simp [communicate,ways,rcase,hc,hp,choose,Sem.run,Question.forced,bind,Sem.bind,pure,World.setChan,crowd,hfp,hgd,hov,set_stand2,finishComm_parked,scase,parked,hk];rfl
theorem Xh (hi:gs[i]?=some g) (h:stepG P (i == 0) g w=.comm g₂ cases blocking shape w₁ es) (hk:cases[k]?=some (scase c v z))
  (ho:∀ (m:Nat) (c':CommCase),m≠k->cases[m]?=some c'->NoWays w₁ (gs.setIfInBounds i ph) c')
  (hc:w₁.heap[c]?=some (.chan cap buf false s r tm)) (hij:j≠i) (hj:gs[j]?=some (parked gj #[rcase c zj] shj)) (hp:partners (gs.setIfInBounds i ph) c false=[(j,0)]) :
  runT P (crowd gs w sl) i=(.next (crowd ((gs.setIfInBounds j (gj.finishComm P #[rcase c zj] shj 0 v true)).setIfInBounds i (g₂.finishComm P cases shape k undef false)) (w₁.setChan c cap buf false (s+1) (r+1) tm) sl),
   MemOp.ofEvents i g.frame.fn g.frame.place es++#[{ g:=i,fn:=g₂.frame.fn,pos:=g₂.frame.place,act:=.send c s },{ g:=j,fn:=gj.frame.fn,pos:=gj.frame.place,act:=.recv c r cap },
    { g:=i,fn:=g₂.frame.fn,pos:=g₂.frame.place,act:=.sendDone c s },{ g:=j,fn:=gj.frame.fn,pos:=gj.frame.place,act:=.recvDone c r }]):=by
 have hw:ways w₁ (gs.setIfInBounds i ph) (scase c v z)=[.partner j 0]:=by simp [ways,scase,hc,hp]
 have hj':=stand_get (i:=i) hij hj;have hfp:=finishPartner_at P (gs.setIfInBounds i ph) hj' (cs:=#[rcase c zj]) (sh:=shj) rfl 0 v;have hgd:(gs.setIfInBounds i ph).getD j default=parked gj #[rcase c zj] shj:=by rw [Array.getD_eq_getD_getElem?,hj'];rfl
 rw [runT_crowd_comm hi h];unfold communicate;simp only [ready_one hk (by rw [hw];simp) ho,hw]
 rw [if_neg]
 ·simp [choose,Sem.run,Question.forced,bind,Sem.bind,pure,scase,crowd,hc,hfp,hgd,set_stand2,finishComm_parked,rcase,parked,World.setChan];rfl
 ·rw [Bool.not_eq_true];exact any_ill (made_of_one hk (made_send v z hc) ho)
theorem zCy {g:Goroutine} {w:World} {c d:Nat} {v zc zd:Value} {sh:CommShape} {k k':Nat} (hc:w.heap[c]?=some (chO false k)) (hd:w.heap[d]?=some (chO false k')):(parked g (WJ c d v zc zd) sh).again w=parked g (WJ c d v zc zd) sh:=by
 simp [Goroutine.again,parked,WJ,scase,rcase,hc,hd]
theorem Ja {g:Goroutine} {c d c':Nat} {v zc zd:Value} {sh:CommShape}:offersAt (parked g (WJ c d v zc zd) sh) c' true=if c=c' then [0] else []:=by
 by_cases h:c=c' <;> simp [offersAt,parked,WJ,scase,rcase,h]
end
inductive Mode
 | idle
 | shut (c d m:Nat)
 | talk (c d:Nat) (vs:List Value) (j:Nat) (rS fS:Hp)
def Mode.is:Mode->Nat->Prop
 | .talk _ _ _ j _ _,i=>i=j
 | _,_=>False
def Mode.ex:Mode->Trace->Nat->Prop
 | .idle,_,_=>False
 | .shut _ _ m,t,i=>Before t i m
 | .talk _ _ _ j _ _,t,i=>t.g? i=some j
def Mode.tokO:Mode->Obj->Prop
 | .idle,o=>o=yY
 | .shut c d _,o=>o=yH c d []
 | .talk c d vs _ _ _,o=>o=yH c d vs
inductive SSt (P:Program) (E:Env) (c d:Nat) (vs:List Value) (rS fS:Hp):Goroutine->Prop
 | run {g:Goroutine} (hs:g.status=.running) (k:Safe P E.kid (XS P E) (KS P E) g rS fS):SSt P E c d vs rS fS g
 | park {g:Goroutine} {v zc zd:Value} {vs':List Value} (hv:vs=v::vs') (hfS:fS E.tok≠none) (k:Safe P E.kid (XS P E) (KS P E) (Conc.served g (commResult (WJ c d v zc zd) .select 0 undef false)) rS (fS.put E.tok (yH c d vs'))):SSt P E c d vs rS fS (parked g (WJ c d v zc zd) .select)
structure Off (E:Env) (N:Nat) (r f:Hp) (n:Nat):Prop where
 lt:N<=n
 tok:n≠E.tok
 f:f n=none
 r:r n=none
structure Talk (P:Program) (E:Env) (N c d:Nat) (vs:List Value) (j:Nat) (rS fS r f:Hp) (gs:Array Goroutine) (w:World) (t:Trace):Prop where
 j0:0<j
 hc:∃ k,w.heap[c]?=some (chO false k)
 hd:w.heap[d]?=some (chO false 0)
 hcd:c≠d
 oc:Off E N r f c/\Off E N rS fS c
 od:Off E N r f d/\Off E N rS fS d
 sat:Sat E.kid w rS fS
 knw:Knw t j E.tok rS fS
 kc:∀ i a,touchAt t i=some a->zGM a.loc=some c->Knows t j i
 kd:∀ i a,touchAt t i=some a->zGM a.loc=some d->Knows t 0 i
 ap:∀ n,n≠E.tok->(fS n≠none->f n=none/\r n=none)/\(rS n≠none->f n=none)
 old:∀ n,fS n≠none->n=E.tok∨N<=n
 tokS:∀ o,fS E.tok=some o->o=yH c d vs
 snd:∃ g,gs[j]?=some g/\SSt P E c d vs rS fS g
structure Shut (E:Env) (N c d m:Nat) (r f:Hp) (w:World) (t:Trace):Prop where
 hc:∃ k,w.heap[c]?=some (chO true k)
 hd:w.heap[d]?=some (chO false 0)
 hcd:c≠d
 oc:Off E N r f c
 od:Off E N r f d
 kd:∀ i a,touchAt t i=some a->zGM a.loc=some d->Knows t 0 i
 act:t.act? m=some (.close c)
 heard:t.heard m
def Mode.st (P:Program) (E:Env) (N:Nat) (r f:Hp) (gs:Array Goroutine) (w:World) (t:Trace):Mode->Prop
 | .idle=>True
 | .shut c d m=>Shut E N c d m r f w t
 | .talk c d vs j rS fS=>Talk P E N c d vs j rS fS r f gs w t
structure MI (P:Program) (E:Env) (W0:World) (md:Mode) (a:Goroutine) (r f:Hp) (gs:Array Goroutine) (w:World) (t:Trace) (q:Nat->Nat):Prop where
 main:gs[0]?=some a
 sat:Sat E w r f
 leave:∀ i g,0<i->¬ md.is i->gs[i]?=some g->QuitsD P (q i) (Deaf t i) g
 above:∀ i,gs.size<=i->Deaf t i=0
 knw:Knw t 0 E.tok r f
 tri:Tri w.heap.size t (md.ex t)
 tok:∀ o,f E.tok=some o->md.tokO o
 oldW:W0.heap.size<=w.heap.size/\∀ n,n<W0.heap.size->w.heap[n]?=W0.heap[n]?
 oldF:∀ n,f n≠none->n=E.tok∨W0.heap.size<=n
 st:md.st P E W0.heap.size r f gs w t
def QL (P:Program) (Post:Value->World->Prop) (m:Machine) (t:Trace):Prop:=
 ∃ n last o w' t',runNT P (n+1) m t=(.ended o w',t')/\runN P n m=.next last/\step P last=.ended o w'/\Good P Post last o w' t'
section
variable {P:Program} {E:Env} {W0:World} {Post:Value->World->Prop} {md:Mode} {a:Goroutine} {r f:Hp} {gs:Array Goroutine} {w:World} {sl:Option (Nat×Nat)} {t:Trace} {q:Nat->Nat}
theorem QL.next {m m':Machine} {ops:Array MemOp} (h:stepT P m=(.next m',ops)) (k:QL P Post m' (t++ops)):QL P Post m t:=by
 obtain ⟨n,last,o,w',t',h1,h2,h3,h4⟩:=k;exact ⟨n+1,last,o,w',t',by rw [runNT_succ_next h];exact h1,by rw [runN_succ_next h];exact h2,h3,h4⟩
theorem QL.last {m:Machine} {o:Outcome} {w':World} {ops:Array MemOp} (h:stepT P m=(.ended o w',ops)) (k:Good P Post m o w' (t++ops)):QL P Post m t:=
 ⟨0,m,o,w',t++ops,by simp [runNT,h],rfl,by simp [step,h],k⟩
theorem Sat.at {w:World} (h:Sat E w r f) (d:Nat):Sat E (w.at d) r f:=⟨h.os,h.out,h.tape,h.ro,h.own,h.gh,h.tok,h.apart⟩
theorem MI.at (C:MI P E W0 md a r f gs w t q) (d:Nat):MI P E W0 md a r f gs (w.at d) t q:=by
 refine ⟨C.main,Sat.at C.sat d,C.leave,C.above,C.knw,C.tri,C.tok,C.oldW,C.oldF,?_⟩;have h:=C.st;cases md with
 | idle=>trivial
 | shut c d' m=>exact ⟨h.hc,h.hd,h.hcd,h.oc,h.od,h.kd,h.act,h.heard⟩
 | talk c d' vs j rS fS=>exact ⟨h.j0,h.hc,h.hd,h.hcd,h.oc,h.od,Sat.at h.sat d,h.knw,h.kc,h.kd,h.ap,h.old,h.tokS,h.snd⟩
inductive MainOk (md:Mode):Goroutine->Prop
 | run {a:Goroutine} (h:a.status=.running):MainOk md a
 | park {g:Goroutine} {c d j:Nat} {vs:List Value} {rS fS:Hp} {z:Value} (h:md=.talk c d vs j rS fS):MainOk md (parked g #[rcase c z] (.recv true))
theorem MI.fix (C:MI P E W0 md a r f gs w t q) (hm:MainOk md a):∀ (i:Nat) (g:Goroutine),gs[i]?=some g->g.again w=g:=by
 intro i g hg;rcases Nat.eq_zero_or_pos i with rfl|hp
 ·rw [C.main] at hg;cases hg
  cases hm with
  | run h=>exact again_running _ (.inl h)
  | park h=>
   subst h;obtain ⟨k,hc⟩:=C.st.hc;exact again_all_open fun cc hcc=>by
    simp only [List.mem_toArray,List.mem_cons,List.not_mem_nil,or_false] at hcc;exact ⟨_,_,_,_,_,_,_,hcc,hc⟩
 ·by_cases hi:md.is i
  ·cases md with
   | idle=>exact hi.elim
   | shut c d m=>exact hi.elim
   | talk c d vs j rS fS=>
    cases hi
    obtain ⟨g',h1,h2⟩:=C.st.snd;rw [hg] at h1;cases h1
    obtain ⟨k,hc⟩:=C.st.hc;cases h2 with
    | run hs _=>exact again_running _ (.inl hs)
    | park _ _ _=>exact zCy hc C.st.hd
  ·exact again_running _ ((C.leave i g hp hi hg).status)
theorem MI.awake (C:MI P E W0 md a r f gs w t q) (hm:MainOk md a):∀ g∈gs,awake g:=by
 intro g hg;obtain ⟨i,hi,rfl⟩:=Array.mem_iff_getElem.1 hg;have hgi:=Array.getElem?_eq_getElem hi;rcases Nat.eq_zero_or_pos i with rfl|hp
 ·rw [C.main] at hgi;have hgi:=Option.some.inj hgi;rw [<-hgi];cases hm with
  | run h=>exact awake_of (.inl h)
  | park h=>exact awake_of (.inr (.inl rfl))
 ·by_cases hx:md.is i
  ·cases md with
   | idle=>exact hx.elim
   | shut c d m=>exact hx.elim
   | talk c d vs j rS fS=>
    cases hx
    obtain ⟨g',h1,h2⟩:=C.st.snd;rw [hgi] at h1;have h1:=Option.some.inj h1;rw [h1];cases h2 with
    | run hs _=>exact awake_of (.inl hs)
    | park _ _ _=>exact awake_of (.inr (.inl rfl))
  ·exact awake_of ((C.leave i _ hp hx hgi).status.elim .inl fun x=>.inr (.inr x))
theorem Qq {t u:Trace} {m:Nat} (hlt:m<t.size) (h:t.heard m):(t++u).heard m:=by
 obtain ⟨g',hg',hd'⟩:=h;exact ⟨g',by rw [g?_old hlt];exact hg',by rw [deaf_old (Nat.le_of_lt hlt)];exact hd'⟩
theorem zIc {t:Trace} {m:Nat} {x:MemAct} (h:t.act? m=some x):m<t.size:=lt_of_act? h
theorem Mode.ex_app {u:Trace} {md:Mode} {i:Nat} (h:md.ex t i):md.ex (t++u) i:=by
 cases md with
 | idle=>exact h
 | shut c d m=>exact Before.app u h
 | talk c d vs j rS fS=>
  have h:t.g? i=some j:=h;show (t++u).g? i=some j;have:i<t.size:=by
   unfold Trace.g? at h;obtain ⟨z,hz,_⟩:=Option.map_eq_some_iff.1 h;exact lt_size_of_getElem? hz
  rw [g?_old this];exact h
theorem MI.slip (C:MI P E W0 md a r f gs w t q) (hm:MainOk md a) {i:Nat} {g:Goroutine} (hi:gs[i]?=some g) (hp:0<i) (hx:¬ md.is i) (hrun:g.status=.running) :
  ∃ gs' ops q',runT P (crowd gs w sl) i=(.next (crowd gs' w sl),ops)/\gs'.size=gs.size/\MI P E W0 md a r f gs' w (t++ops) q'/\sumTo gs.size q'<sumTo gs.size q/\(∀ x,x≠i->gs'[x]?=gs[x]?):=by
 have hq:=C.leave i g hp hx hi;have hi0:(i == 0)=false:=by simp;omega
 have hlt:i<gs.size:=(Array.getElem?_eq_some_iff.1 hi).1;cases hqi:q i with
 | zero=>rw [hqi] at hq;rw [hq.1] at hrun;cases hrun
 | succ k=>
  rw [hqi] at hq;rcases hq with ⟨hf,_⟩|⟨_,g',es,hmu,hstp,hq'⟩
  ·rw [hf] at hrun;cases hrun
  have hrunT:=runT_crowd_go (P:=P) (sl:=sl) (i:=i) hi (by rw [hi0];exact hstp w)
  have hsum:sumTo gs.size (upd q i k)+(k+1)=sumTo gs.size q+k:=by
   have:=sumTo_upd q k id hlt
   simpa [hqi] using this
  have hother:∀ x,x≠i->((gs.map (woken P g g' w)).setIfInBounds i g')[x]?=gs[x]?:=by
   intro x hxi;rw [Array.getElem?_setIfInBounds_ne (fun e=>hxi e.symm),Array.getElem?_map];cases e:gs[x]? with
   | none=>rfl
   | some y=>simp [woken_of_again (C.fix hm x y e)]
  generalize hu:MemOp.ofEvents i g.frame.fn g.frame.place es=u at hrunT;have hug:∀ op∈u,op.g=i:=fun op hop=>by subst hu;obtain ⟨e,_,rfl⟩:=QY hop;rfl
  have hun:∀ op∈u,op.act.touch?=none:=fun op hop=>by subst hu;obtain ⟨e,he,rfl⟩:=QY hop;exact touch_mute (hmu e he)
  refine ⟨_,u,upd q i k,hrunT,by simp,⟨?_,C.sat,?_,?_,?_,?_,C.tok,C.oldW,C.oldF,?_⟩,by omega,hother⟩
  ·rw [hother 0 (by omega)];exact C.main
  ·intro x y hx0 hxm hy;by_cases e:x=i
   ·subst e;rw [Array.getElem?_setIfInBounds_self_of_lt (by simpa using hlt)] at hy
    cases hy
    rw [upd_same,<-hu,Deaf_own];exact hq'
   ·rw [hother x e] at hy;rw [upd_ne q k e,Deaf_other t (fun z=>e z.symm) u hug];exact C.leave x y hx0 hxm hy
  ·intro x hxs;rw [Deaf_other t (g':=i) (by simp at hxs;omega) u hug]
   exact C.above x (by simpa using hxs)
  ·exact C.knw.mute hun (Deaf_other t (by omega) u hug)
  ·exact C.tri.mute hun fun i h=>.inl (Mode.ex_app h)
  ·have h:=C.st;cases md with
   | idle=>trivial
   | shut c d m=>
    have hl:=zIc h.act;refine ⟨h.hc,h.hd,h.hcd,h.oc,h.od,fun x y hxy hl'=>?_,by rw [act?_old hl];exact h.act,Qq hl h.heard⟩
    rcases touch_new hxy with ⟨_,h'⟩|⟨op,hop,_,hxa⟩
    ·exact (h.kd x y h' hl').app u
    ·rw [hun op hop] at hxa;cases hxa
   | talk c d vs j rS fS=>
    refine ⟨h.j0,h.hc,h.hd,h.hcd,h.oc,h.od,h.sat,h.knw.mute hun (Deaf_other t (fun e=>hx e) u hug),fun x y hxy hl=>?_,fun x y hxy hl=>?_,h.ap,h.old,h.tokS,?_⟩
    ·rcases touch_new hxy with ⟨_,h'⟩|⟨op,hop,_,hxa⟩
     ·exact (h.kc x y h' hl).app u
     ·rw [hun op hop] at hxa;cases hxa
    ·rcases touch_new hxy with ⟨_,h'⟩|⟨op,hop,_,hxa⟩
     ·exact (h.kd x y h' hl).app u
     ·rw [hun op hop] at hxa;cases hxa
    ·obtain ⟨gj,h1,h2⟩:=h.snd;exact ⟨gj,by rw [hother j (fun e=>hx e.symm)];exact h1,h2⟩
end
end Go.KL
end
section
namespace Go.KL
open Go Go.Conc
open Go.ConcN (sumTo upd sumTo_upd upd_ne upd_same)
theorem xI {w:World} {n:Nat} {o:Obj} (h:w.heap[n]?=some o):n<w.heap.size:=(Array.getElem?_eq_some_iff.1 h).1
theorem Sat.ro_lt {E:Env} {w:World} {r f:Hp} (h:Sat E w r f) {n:Nat} (hr:r n≠none):n<w.heap.size:=by
 cases e:r n with
 | none=>exact absurd e hr
 | some o=>exact xI (h.ro.h _ _ e)
theorem Sat.dis {E:Env} {w:World} {r f:Hp} (h:Sat E w r f) {n:Nat} (hr:r n≠none):f n=none:=(h.apart.h n).resolve_left hr
theorem Sat.dis' {E:Env} {w:World} {r f:Hp} (h:Sat E w r f) {n:Nat} (hr:f n≠none):r n=none:=(h.apart.h n).resolve_right hr
theorem zL {α:Type} {x:Option α} {o:α} (h:x=some o):x≠none:=by rw [h];simp
section
variable {P:Program} {E:Env} {W0:World} {Post:Value->World->Prop} {md:Mode} {a a' g g':Goroutine} {r f r' f':Hp} {gs:Array Goroutine} {w w':World} {sl:Option (Nat×Nat)} {t u:Trace} {q:Nat->Nat} {es:Array Event} {N n c d j:Nat} {vs:List Value} {rS fS rS' fS':Hp}
theorem Off.kept (h:Off E N r f n) (k:Kept E w r f w' es r' f') (hn:n<w.heap.size):Off E N r' f' n:=by
 have e1:f' n=none:=by
  cases e:f' n with
  | none=>rfl
  | some o=>exact absurd (k.fresh n (zL e) h.f) (Nat.not_le.2 hn)
 have e2:r' n=none:=by
  cases e:r' n with
  | none=>rfl
  | some o=>exact (k.roFresh n (zL e) h.r).elim (fun x=>absurd h.f x.1) (fun x=>absurd x (Nat.not_le.2 hn))
 exact ⟨h.lt,h.tok,e1,e2⟩
theorem Wi (o:Ops t n E.tok N w'.heap.size r f u) {b:Nat} (hb:b<N) (hf:f b=none) (hr:r b=none) {op:MemOp} (hop:op∈u) {x:Touch} (hx:op.act.touch?=some x) (hl:zGM x.loc=some b):False:=by
 obtain ⟨⟨b',hb',hc⟩,_⟩:=o.ok op hop x hx;rw [hl] at hb';cases hb'
 rcases hc with x|x|x
 ·exact x.1 hr
 ·exact x.1 hf
 ·omega
theorem zGa (C:MI P E W0 md a r f gs w t q) (hch:∀ c d vs j rS fS,md=.talk c d vs j rS fS->w'.heap[c]?=w.heap[c]?/\w'.heap[d]?=w.heap[d]?) {x:Nat} {y:Goroutine} (hx:x≠0) (hy:gs[x]?=some y):y.again w'=y:=by
 by_cases hi:md.is x
 ·cases md with
  | idle=>exact hi.elim
  | shut c d m=>exact hi.elim
  | talk c d vs j rS fS=>
   cases hi
   obtain ⟨g',h1,h2⟩:=C.st.snd;rw [hy] at h1;cases h1
   obtain ⟨k,hc⟩:=C.st.hc;obtain ⟨e1,e2⟩:=hch _ _ _ _ _ _ rfl;cases h2 with
   | run hs _=>exact again_running _ (.inl hs)
   | park _ _ _=>exact zCy (e1.trans hc) (e2.trans C.st.hd)
 ·exact again_running _ ((C.leave x y (by omega) hi hy).status)
theorem MI.own' {es0:Array Event} (C:MI P E W0 md a r f gs w t q) (hst:stepG P true a w=.go a' w' es) (k:Kept E w r f w' es0 r' f') (o:Ops t 0 E.tok w.heap.size w'.heap.size r f (MemOp.ofEvents 0 a.frame.fn a.frame.place es)) :
  ∃ gs',runT P (crowd gs w sl) 0=(.next (crowd gs' w' sl),MemOp.ofEvents 0 a.frame.fn a.frame.place es)/\gs'.size=gs.size/\MI P E W0 md a' r' f' gs' w' (t++MemOp.ofEvents 0 a.frame.fn a.frame.place es) q/\∀ x,x≠0->gs'[x]?=gs[x]?:=by
 have hlt:0<gs.size:=(Array.getElem?_eq_some_iff.1 C.main).1;have hT:=runT_crowd_go (P:=P) (sl:=sl) (i:=0) C.main (show stepG P (0 == 0) a w=_ from hst);have hch:∀ c d vs j rS fS,md=.talk c d vs j rS fS->w'.heap[c]?=w.heap[c]?/\w'.heap[d]?=w.heap[d]?:=by
  rintro c d vs j rS fS rfl;have h:=C.st;obtain ⟨k0,hc⟩:=h.hc;exact ⟨k.keep c (xI hc) (.inl h.oc.1.f),k.keep d (xI h.hd) (.inl h.od.1.f)⟩
 have hother:∀ x,x≠0->((gs.map (woken P a a' w')).setIfInBounds 0 a')[x]?=gs[x]?:=by
  intro x hx;rw [Array.getElem?_setIfInBounds_ne (fun e=>hx e.symm),Array.getElem?_map];cases e:gs[x]? with
  | none=>rfl
  | some y=>simp [woken_of_again (zGa C hch hx e)]
 generalize hu:MemOp.ofEvents 0 a.frame.fn a.frame.place es=u at hT o;have hold:∀ n,n<w.heap.size->(f n=none∨n=E.tok)->w'.heap[n]?=w.heap[n]?:=k.keep;refine ⟨_,hT,by simp,⟨Array.getElem?_setIfInBounds_self_of_lt (by simpa using hlt),k.sat,?_,?_,C.knw.mine C.tri o k.fresh k.roFresh,C.tri.step C.knw o k.size (fun i h=>Mode.ex_app h) (.inl rfl),fun o' ho'=>C.tok o' (k.tk o' ho'),?_,?_,?_⟩,hother⟩
 ·intro x y hx0 hxm hy;rw [hother x (by omega)] at hy
  rw [Deaf_other t (g':=0) (by omega) u o.g]
  exact C.leave x y hx0 hxm hy
 ·intro x hxs;have hxs:gs.size<=x:=by simpa using hxs
  rw [Deaf_other t (g':=0) (by omega) u o.g]
  exact C.above x hxs
 ·refine ⟨Nat.le_trans C.oldW.1 k.size,fun n hn=>?_⟩;rw [<-C.oldW.2 n hn];refine k.keep n (Nat.lt_of_lt_of_le hn C.oldW.1) ?_;by_cases e:f n=none
  ·exact .inl e
  ·exact (C.oldF n e).elim .inr fun h=>by omega
 ·intro n hn;by_cases e:f n=none
  ·have:=k.fresh n hn e;have:=C.oldW.1;omega
  ·exact C.oldF n e
 ·have h:=C.st;cases md with
  | idle=>trivial
  | shut c d m=>
   obtain ⟨k0,hc⟩:=h.hc;have hl:=zIc h.act;refine ⟨⟨k0,(k.keep c (xI hc) (.inl h.oc.f)).trans hc⟩,(k.keep d (xI h.hd) (.inl h.od.f)).trans h.hd,h.hcd,h.oc.kept k (xI hc),h.od.kept k (xI h.hd),fun x y hxy hl'=>?_,by rw [act?_old hl];exact h.act,Qq hl h.heard⟩
   rcases touch_new hxy with ⟨_,h'⟩|⟨op,hop,hx',hxa⟩
   ·exact (h.kd x y h' hl').app u
   ·exact (Wi o (xI h.hd) h.od.f h.od.r hop hxa hl').elim
  | talk c d vs j rS fS=>
   obtain ⟨k0,hc⟩:=h.hc;have hj:=h.j0;have hf':∀ n,f n=none->n<w.heap.size->f' n=none:=fun n h1 h2=>by
    cases e:f' n with
    | none=>rfl
    | some o=>exact absurd (k.fresh n (zL e) h1) (Nat.not_le.2 h2)
   have hr':∀ n,r n=none->f n=none->n<w.heap.size->r' n=none:=fun n h0 h1 h2=>by
    cases e:r' n with
    | none=>rfl
    | some o=>exact (k.roFresh n (zL e) h0).elim (fun x=>absurd h1 x.1) (fun x=>absurd x (Nat.not_le.2 h2))
   refine ⟨h.j0,⟨k0,(hch _ _ _ _ _ _ rfl).1.trans hc⟩,(hch _ _ _ _ _ _ rfl).2.trans h.hd,h.hcd,⟨h.oc.1.kept k (xI hc),h.oc.2⟩,⟨h.od.1.kept k (xI h.hd),h.od.2⟩,?_,?_,fun x y hxy hl=>?_,fun x y hxy hl=>?_,?_,h.old,h.tokS,?_⟩
   ·refine ⟨k.sat.os,k.sat.out,k.sat.tape,⟨fun n o hn=>?_⟩,fun n o hn hg=>?_,h.sat.gh,Nat.lt_of_lt_of_le h.sat.tok k.size,h.sat.apart⟩
    ·have hlt:=h.sat.ro_lt (zL hn);have:=h.sat.ro.h _ _ hn
     unfold World.hp at this ⊢;rw [k.keep n hlt (by
      by_cases e:n=E.tok
      ·exact .inr e
      ·exact .inl ((h.ap n e).2 (zL hn)))]
     exact this
    ·have hlt:=h.sat.lt (zL hn);have:=h.sat.own _ _ hn hg
     unfold World.hp at this ⊢;rw [k.keep n hlt (.inl ((h.ap n (h.sat.notTok hn hg)).1 (zL hn)).1)];exact this
   ·refine h.knw.other (by omega) o (fun b hb hfb=>?_) (fun b hrb=>⟨fun hb=>(h.ap b hb).2 hrb,h.sat.ro_lt hrb⟩)
    obtain ⟨e1,e2⟩:=(h.ap b hb).1 hfb;exact ⟨e2,e1,h.sat.lt hfb⟩
   ·rcases touch_new hxy with ⟨_,h'⟩|⟨op,hop,_,hxa⟩
    ·exact (h.kc x y h' hl).app u
    ·exact (Wi o (xI hc) h.oc.1.f h.oc.1.r hop hxa hl).elim
   ·rcases touch_new hxy with ⟨_,h'⟩|⟨op,hop,_,hxa⟩
    ·exact (h.kd x y h' hl).app u
    ·exact (Wi o (xI h.hd) h.od.1.f h.od.1.r hop hxa hl).elim
   ·intro n hn;refine ⟨fun hfn=>?_,fun hrn=>hf' n ((h.ap n hn).2 hrn) (h.sat.ro_lt hrn)⟩;obtain ⟨e1,e2⟩:=(h.ap n hn).1 hfn;exact ⟨hf' n e1 (h.sat.lt hfn),hr' n e2 e1 (h.sat.lt hfn)⟩
   ·obtain ⟨gj,h1,h2⟩:=h.snd;exact ⟨gj,by rw [hother j (by omega)];exact h1,h2⟩
theorem MI.own (C:MI P E W0 md a r f gs w t q) (hst:stepG P true a w=.go a' w' es) (k:Kept E w r f w' es r' f') :
  ∃ gs',runT P (crowd gs w sl) 0=(.next (crowd gs' w' sl),MemOp.ofEvents 0 a.frame.fn a.frame.place es)/\gs'.size=gs.size/\MI P E W0 md a' r' f' gs' w' (t++MemOp.ofEvents 0 a.frame.fn a.frame.place es) q/\∀ x,x≠0->gs'[x]?=gs[x]?:=
 C.own' hst k (k.ops t 0 a.frame.fn a.frame.place)
theorem MI.sown (C:MI P E W0 (.talk c d vs j rS fS) a r f gs w t q) (hm:MainOk (.talk c d vs j rS fS) a) (hj:gs[j]?=some g) (hst:stepG P false g w=.go g' w' es) (k:Kept E.kid w rS fS w' es rS' fS') (hs:g'.status=.running) (kk:Safe P E.kid (XS P E) (KS P E) g' rS' fS') :
  ∃ gs' ops,runT P (crowd gs w sl) j=(.next (crowd gs' w' sl),ops)/\gs'.size=gs.size/\gs'[j]?=some g'/\MI P E W0 (.talk c d vs j rS' fS') a r f gs' w' (t++ops) q:=by
 have h:=C.st;have hj0:=h.j0;obtain ⟨k0,hc⟩:=h.hc;have hlt:j<gs.size:=(Array.getElem?_eq_some_iff.1 hj).1;have hT:=runT_crowd_go (P:=P) (sl:=sl) (i:=j) hj (by rw [show (j == 0)=false by simp;omega];exact hst)
 have ec:w'.heap[c]?=w.heap[c]?:=k.keep c (xI hc) (.inl h.oc.2.f);have ed:w'.heap[d]?=w.heap[d]?:=k.keep d (xI h.hd) (.inl h.od.2.f);have hfix:∀ x y,x≠j->gs[x]?=some y->y.again w'=y:=by
  intro x y hx hy;rcases Nat.eq_zero_or_pos x with rfl|hp
  ·rw [C.main] at hy;cases hy
   cases hm with
   | run h=>exact again_running _ (.inl h)
   | park h=>
    cases h
    exact again_all_open fun cc hcc=>by
     simp only [List.mem_toArray,List.mem_cons,List.not_mem_nil,or_false] at hcc;exact ⟨_,_,_,_,_,_,_,hcc,ec.trans hc⟩
  ·exact again_running _ ((C.leave x y hp (fun e=>hx e) hy).status)
 have hother:∀ x,x≠j->((gs.map (woken P g g' w')).setIfInBounds j g')[x]?=gs[x]?:=by
  intro x hx;rw [Array.getElem?_setIfInBounds_ne (fun e=>hx e.symm),Array.getElem?_map];cases e:gs[x]? with
  | none=>rfl
  | some y=>simp [woken_of_again (hfix x y hx e)]
 have o:=k.ops t j g.frame.fn g.frame.place;generalize hu:MemOp.ofEvents j g.frame.fn g.frame.place es=u at hT o;have hself:((gs.map (woken P g g' w')).setIfInBounds j g')[j]?=some g':=Array.getElem?_setIfInBounds_self_of_lt (by simpa using hlt)
 have hf':∀ n,fS n=none->n<w.heap.size->fS' n=none:=fun n h1 h2=>by
  cases e:fS' n with
  | none=>rfl
  | some o=>exact absurd (k.fresh n (zL e) h1) (Nat.not_le.2 h2)
 have hr':∀ n,rS n=none->fS n=none->n<w.heap.size->rS' n=none:=fun n h0 h1 h2=>by
  cases e:rS' n with
  | none=>rfl
  | some o=>exact (k.roFresh n (zL e) h0).elim (fun x=>absurd h1 x.1) (fun x=>absurd x (Nat.not_le.2 h2))
 have hfS:∀ n,n≠E.tok->f n≠none->fS n=none:=fun n hn hfn=>by
  cases e:fS n with
  | none=>rfl
  | some o=>exact absurd ((h.ap n hn).1 (zL e)).1 hfn
 have hrS:∀ n,n≠E.tok->f n≠none->rS n=none:=fun n hn hfn=>by
  cases e:rS n with
  | none=>rfl
  | some o=>exact absurd ((h.ap n hn).2 (zL e)) hfn
 have hrf:∀ n,n≠E.tok->r n≠none->fS n=none:=fun n hn hrn=>by
  cases e:fS n with
  | none=>rfl
  | some o=>exact absurd ((h.ap n hn).1 (zL e)).2 hrn
 refine ⟨_,u,hT,by simp,hself,⟨by rw [hother 0 (by omega)];exact C.main,?_,?_,?_,?_,?_,C.tok,?_,C.oldF,?_⟩⟩
 ·refine ⟨k.sat.os,k.sat.out,k.sat.tape,⟨fun n o hn=>?_⟩,fun n o hn hg=>?_,C.sat.gh,Nat.lt_of_lt_of_le C.sat.tok k.size,C.sat.apart⟩
  ·have hlt:=C.sat.ro_lt (zL hn);have:=C.sat.ro.h _ _ hn
   unfold World.hp at this ⊢;rw [k.keep n hlt (by
    by_cases e:n=E.tok
    ·exact .inr e
    ·exact .inl (hrf n e (zL hn)))]
   exact this
  ·have hlt:=C.sat.lt (zL hn);have:=C.sat.own _ _ hn hg
   unfold World.hp at this ⊢;rw [k.keep n hlt (.inl (hfS n (C.sat.notTok hn hg) (zL hn)))];exact this
 ·intro x y hx0 hxm hy;have hxj:x≠j:=fun e=>hxm e;rw [hother x hxj] at hy;rw [Deaf_other t (g':=j) (fun e=>hxj e.symm) u o.g];exact C.leave x y hx0 hxm hy
 ·intro x hxs;have hxs:gs.size<=x:=by simpa using hxs
  rw [Deaf_other t (g':=j) (by omega) u o.g]
  exact C.above x hxs
 ·refine C.knw.other (by omega) o (fun b hb hfb=>⟨hrS b hb hfb,hfS b hb hfb,C.sat.lt hfb⟩) (fun b hrb=>⟨fun hb=>hrf b hb hrb,C.sat.ro_lt hrb⟩)
 ·refine C.tri.step h.knw o k.size (fun i h=>Mode.ex_app (md:=.talk c d vs j rS fS) h) (.inr fun i op hi hop=>?_);show (t++u).g? i=some j;rw [g?_of hop];congr 1;rcases getElem?_append_cases hop with ⟨h1,_⟩|⟨_,h2⟩
  ·omega
  ·exact o.g op h2
 ·refine ⟨Nat.le_trans C.oldW.1 k.size,fun n hn=>?_⟩;rw [<-C.oldW.2 n hn];refine k.keep n (Nat.lt_of_lt_of_le hn C.oldW.1) ?_;by_cases e:fS n=none
  ·exact .inl e
  ·exact (h.old n e).elim .inr fun h=>by omega
 ·refine ⟨h.j0,⟨k0,ec.trans hc⟩,ed.trans h.hd,h.hcd,⟨h.oc.1,(show Off E.kid _ _ _ _ from Off.kept (E:=E.kid) ⟨h.oc.2.lt,h.oc.2.tok,h.oc.2.f,h.oc.2.r⟩ k (xI hc)) |> fun z=>⟨z.lt,z.tok,z.f,z.r⟩⟩,
   ⟨h.od.1,(show Off E.kid _ _ _ _ from Off.kept (E:=E.kid) ⟨h.od.2.lt,h.od.2.tok,h.od.2.f,h.od.2.r⟩ k (xI h.hd)) |> fun z=>⟨z.lt,z.tok,z.f,z.r⟩⟩,k.sat,h.knw.mine C.tri o k.fresh k.roFresh,fun x y hxy hl=>?_,fun x y hxy hl=>?_,?_,?_,fun o' ho'=>h.tokS o' (k.tk o' ho'),⟨g',hself,.run hs kk⟩⟩
  ·rcases touch_new hxy with ⟨_,h'⟩|⟨op,hop,_,hxa⟩
   ·exact (h.kc x y h' hl).app u
   ·exact (Wi (E:=E.kid) o (xI hc) h.oc.2.f h.oc.2.r hop hxa hl).elim
  ·rcases touch_new hxy with ⟨_,h'⟩|⟨op,hop,_,hxa⟩
   ·exact (h.kd x y h' hl).app u
   ·exact (Wi (E:=E.kid) o (xI h.hd) h.od.2.f h.od.2.r hop hxa hl).elim
  ·intro n hn;refine ⟨fun hfn=>?_,fun hrn=>?_⟩
   ·constructor
    ·cases e:f n with
     | none=>rfl
     | some o=>exact absurd (hf' n (hfS n hn (zL e)) (C.sat.lt (zL e))) hfn
    ·cases e:r n with
     | none=>rfl
     | some o=>exact absurd (hf' n (hrf n hn (zL e)) (C.sat.ro_lt (zL e))) hfn
   ·cases e:f n with
    | none=>rfl
    | some o=>exact absurd (hr' n (hrS n hn (zL e)) (hfS n hn (zL e)) (C.sat.lt (zL e))) hrn
  ·intro n hn;by_cases e:fS n=none
   ·have:=k.fresh n hn e;have:=C.oldW.1;omega
   ·exact h.old n e
end
end Go.KL
end
section
namespace Go.KL
open Go Go.Conc
open Go.ConcN (sumTo upd sumTo_upd upd_ne upd_same)
theorem wV {f:Hp} {n:Nat} {o:Obj}:f.put n o n=some o:=by simp [Hp.put]
theorem xA {f:Hp} {n m:Nat} {o:Obj} (h:m≠n):f.put n o m=f m:=by simp [Hp.put,h]
section
variable {P:Program} {E:Env} {W0:World} {Post:Value->World->Prop} {md:Mode} {a a' g g':Goroutine} {r f r' f':Hp} {gs:Array Goroutine} {w w':World} {sl:Option (Nat×Nat)} {t u:Trace} {q:Nat->Nat} {es:Array Event} {N n c d j:Nat} {vs:List Value} {rS fS rS' fS':Hp}
theorem Sat.putTok (h:Sat E w r f) {o o':Obj} (ht:f E.tok=some o) (hg:gobj o'=true):Sat E w r (f.put E.tok o'):=by
 refine ⟨h.os,h.out,h.tape,h.ro,fun n x e hx=>?_,fun n x e=>?_,h.tok,⟨fun n=>?_⟩⟩
 ·by_cases hn:n=E.tok
  ·subst hn;rw [wV] at e;cases e;rw [hg] at hx;cases hx
  ·rw [xA hn] at e;exact h.own n x e hx
 ·by_cases hn:n=E.tok
  ·subst hn;rw [wV] at e;cases e;simp [hg]
  ·rw [xA hn] at e;exact h.gh n x e
 ·by_cases hn:n=E.tok
  ·subst hn;exact .inl (h.dis' (zL ht))
  ·rw [xA hn];exact h.apart.h n
theorem xL {k:Nat} {cl:Bool}:(w.setChan c 0 #[] cl k k false).heap.size=w.heap.size:=by simp [World.setChan]
theorem Sat.setc (h:Sat E w r f) (hr:r c=none) (hf:f c=none) {k:Nat} {cl:Bool}:Sat E (w.setChan c 0 #[] cl k k false) r f:=by
 have hne:∀ n,n≠c->(w.setChan c 0 #[] cl k k false).heap[n]?=w.heap[n]?:=fun n hn=>heap_setChan_ne w _ _ _ _ _ _ (fun e=>hn e.symm);refine ⟨h.os,h.out,h.tape,⟨fun n o e=>?_⟩,fun n o e hg=>?_,h.gh,by rw [xL];exact h.tok,h.apart⟩
 ·unfold World.hp;rw [hne n (by rintro rfl;rw [hr] at e;cases e)]
  exact h.ro.h _ _ e
 ·unfold World.hp;rw [hne n (by rintro rfl;rw [hf] at e;cases e)]
  exact h.own _ _ e hg
theorem Knw.sub {h tok:Nat} (k:Knw t h tok r f) (hf:∀ b,b≠tok->f' b≠Option.none->f b≠Option.none):Knw t h tok r f':=
 ⟨fun i x b h1 h2 h3 h4=>k.own i x b h1 h2 (hf b h4 h3) h4,k.rd,k.hears⟩
theorem zJQ {o:Obj}:∀ b,b≠n->f.put n o b≠none->f b≠none:=fun b hb h=>by rwa [xA hb] at h
theorem MI.meet {v:Value} (C:MI P E W0 (.talk c d (v::vs) j rS fS) a r f gs w t q) (hf:f E.tok=some (yH c d (v::vs))) {gs':Array Goroutine} {k:Nat} (hw:w'=w.setChan c 0 #[] false k k false)
  (hun:∀ op∈u,op.act.touch?=none) (hdf:∀ x,Deaf (t++u) x=Deaf t x) (hsz:gs'.size=gs.size) (h0:gs'[0]?=some a') (hj:gs'[j]?=some g') (hother:∀ x,x≠0->x≠j->gs'[x]?=gs[x]?) (hs:g'.status=.running)
  (kk:Safe P E.kid (XS P E) (KS P E) g' rS (fS.put E.tok (yH c d vs))) (hfS:fS E.tok≠none):MI P E W0 (.talk c d vs j rS (fS.put E.tok (yH c d vs))) a' r (f.put E.tok (yH c d vs)) gs' w' (t++u) q:=by
 subst hw;have h:=C.st;obtain ⟨k0,hc⟩:=h.hc;obtain ⟨oS,hoS⟩:=Option.ne_none_iff_exists'.1 hfS;have hj0:=h.j0;have hpn:∀ (f:Hp) n o,n≠E.tok->f n=none->f.put E.tok o n=none:=fun f n o hn h=>by rw [xA hn];exact h
 have hmute:∀ i x b,touchAt (t++u) i=some x->zGM x.loc=some b->touchAt t i=some x:=fun i x b hx hb=>by
  rcases touch_new hx with ⟨_,h'⟩|⟨op,hop,_,hxa⟩
  ·exact h'
  ·rw [hun op hop] at hxa;cases hxa
 refine ⟨h0,(C.sat.setc h.oc.1.r h.oc.1.f).putTok hf rfl,?_,?_,(C.knw.mute hun (hdf 0)).sub zJQ,?_,?_,?_,?_,?_⟩
 ·intro x y hx0 hxm hy;rw [hother x (by omega) (fun e=>hxm e)] at hy
  rw [hdf];exact C.leave x y hx0 (fun e=>hxm e) hy
 ·intro x hx;rw [hdf];exact C.above x (by omega)
 ·rw [xL];exact C.tri.mute hun fun i hi=>.inl (Mode.ex_app (md:=.talk c d vs j rS fS) hi)
 ·intro o ho;rw [wV] at ho;cases ho;rfl
 ·refine ⟨by rw [xL];exact C.oldW.1,fun n hn=>?_⟩
  rw [heap_setChan_ne w _ _ _ _ _ _ (by have:=h.oc.1.lt;omega)]
  exact C.oldW.2 n hn
 ·intro n hn;by_cases e:n=E.tok
  ·exact .inl e
  ·rw [xA e] at hn;exact C.oldF n hn
 ·refine ⟨h.j0,⟨k,heap_setChan_self w hc _ _ _ _ _ _⟩,by rw [heap_setChan_ne w _ _ _ _ _ _ h.hcd];exact h.hd,h.hcd,⟨⟨h.oc.1.lt,h.oc.1.tok,hpn _ _ _ h.oc.1.tok h.oc.1.f,h.oc.1.r⟩,⟨h.oc.2.lt,h.oc.2.tok,hpn _ _ _ h.oc.2.tok h.oc.2.f,h.oc.2.r⟩⟩,
   ⟨⟨h.od.1.lt,h.od.1.tok,hpn _ _ _ h.od.1.tok h.od.1.f,h.od.1.r⟩,⟨h.od.2.lt,h.od.2.tok,hpn _ _ _ h.od.2.tok h.od.2.f,h.od.2.r⟩⟩,(Sat.setc (E:=E.kid) h.sat h.oc.2.r h.oc.2.f).putTok hoS rfl,(h.knw.mute hun (hdf j)).sub zJQ,
   fun i x hx hl=>(h.kc i x (hmute i x _ hx hl) hl).app u,fun i x hx hl=>(h.kd i x (hmute i x _ hx hl) hl).app u,?_,?_,fun o ho=>?_,⟨g',hj,.run hs kk⟩⟩
  ·intro n hn;rw [xA hn,xA hn];exact h.ap n hn
  ·intro n hn;by_cases e:n=E.tok
   ·exact .inl e
   ·rw [xA e] at hn;exact h.old n hn
  ·rw [wV] at ho;cases ho;rfl
theorem MI.put0 (C:MI P E W0 md a r f gs w t q) (a':Goroutine) (hmd:∀ c d vs j rS fS,md=.talk c d vs j rS fS->j≠0):MI P E W0 md a' r f (gs.setIfInBounds 0 a') w t q:=by
 have hlt:0<gs.size:=(Array.getElem?_eq_some_iff.1 C.main).1;have hother:∀ x,x≠0->(gs.setIfInBounds 0 a')[x]?=gs[x]?:=fun x hx=>Array.getElem?_setIfInBounds_ne (fun e=>hx e.symm);refine ⟨Array.getElem?_setIfInBounds_self_of_lt hlt,C.sat,fun x y h1 h2 h3=>C.leave x y h1 h2 (by rw [hother x (by omega)] at h3;exact h3),fun x hx=>C.above x (by simpa using hx),C.knw,C.tri,C.tok,C.oldW,C.oldF,?_⟩
 have h:=C.st;cases md with
 | idle=>trivial
 | shut c d m=>exact h
 | talk c d vs j rS fS=>
  obtain ⟨gj,h1,h2⟩:=h.snd;exact ⟨h.j0,h.hc,h.hd,h.hcd,h.oc,h.od,h.sat,h.knw,h.kc,h.kd,h.ap,h.old,h.tokS,⟨gj,by rw [hother j (hmd _ _ _ _ _ _ rfl)];exact h1,h2⟩⟩
theorem MI.putS (C:MI P E W0 (.talk c d vs j rS fS) a r f gs w t q) (hj:gs[j]?=some g) (h':SSt P E c d vs rS fS g'):MI P E W0 (.talk c d vs j rS fS) a r f (gs.setIfInBounds j g') w t q:=by
 have h:=C.st;have hj0:=h.j0;have hlt:j<gs.size:=(Array.getElem?_eq_some_iff.1 hj).1;have hother:∀ x,x≠j->(gs.setIfInBounds j g')[x]?=gs[x]?:=fun x hx=>Array.getElem?_setIfInBounds_ne (fun e=>hx e.symm);exact ⟨by rw [hother 0 (by omega)];exact C.main,C.sat,fun x y h1 h2 h3=>C.leave x y h1 h2 (by rw [hother x (fun e=>h2 e)] at h3;exact h3),fun x hx=>C.above x (by simpa using hx),C.knw,C.tri,C.tok,C.oldW,C.oldF,
  ⟨h.j0,h.hc,h.hd,h.hcd,h.oc,h.od,h.sat,h.knw,h.kc,h.kd,h.ap,h.old,h.tokS,⟨g',Array.getElem?_setIfInBounds_self_of_lt hlt,h'⟩⟩⟩
theorem MI.sghost (C:MI P E W0 (.talk c d vs j rS fS) a r f gs w t q) (hj:gs[j]?=some g) (hs:g.status=.running) (hr:rS.le rS') (hf:fS'.le fS) (hd:rS'.disj fS') (hn:∀ n,rS' n≠none->rS n=none->fS n=rS' n) (hg:∀ n o,rS' n=some o->rS n=none->gobj o=false)
  (kk:Safe P E.kid (XS P E) (KS P E) g rS' fS'):MI P E W0 (.talk c d vs j rS' fS') a r f gs w t q:=by
 have h:=C.st;have hsat:=h.sat.ghost hr hf hd hn hg;have hff:∀ n,fS' n≠none->fS n≠none:=fun n hn e=>hn (hf.none e);have hrr:∀ n,rS' n≠none->rS n≠none∨(fS n≠none/\n≠E.tok):=fun n hn'=>by
  by_cases e:rS n=none
  ·have h1:=hn n hn' e;obtain ⟨o,ho⟩:=Option.ne_none_iff_exists'.1 hn';exact .inr ⟨by rw [h1];exact hn',h.sat.notTok (h1.trans ho) (hg n o ho e)⟩
  ·exact .inl e
 have hoff:∀ {n},Off E W0.heap.size rS fS n->Off E W0.heap.size rS' fS' n:=fun {n} o=>by
  refine ⟨o.lt,o.tok,hf.none o.f,?_⟩;cases e:rS' n with
  | none=>rfl
  | some x=>exact (hrr n (zL e)).elim (fun y=>absurd o.r y) (fun y=>absurd o.f y.1)
 refine ⟨C.main,C.sat,C.leave,C.above,C.knw,C.tri,C.tok,C.oldW,C.oldF,⟨h.j0,h.hc,h.hd,h.hcd,⟨h.oc.1,hoff h.oc.2⟩,⟨h.od.1,hoff h.od.2⟩,hsat,⟨fun i x b h1 h2 h3 h4=>h.knw.own i x b h1 h2 (hff b h3) h4,fun i x b h1 h2 h3 h4=>?_,h.knw.hears⟩,h.kc,h.kd,fun n hn'=>⟨fun h1=>(h.ap n hn').1 (hff n h1),fun h1=>?_⟩,fun n h1=>h.old n (hff n h1),fun o ho=>h.tokS o (hf.h _ _ ho),⟨g,hj,.run hs kk⟩⟩⟩
 ·rcases hrr b h4 with x|x
  ·exact h.knw.rd i _ b h1 h2 h3 x
  ·exact h.knw.own i _ b h1 h3 x.1 x.2
 ·rcases hrr n h1 with x|x
  ·exact (h.ap n hn').2 x
  ·exact ((h.ap n hn').1 x.1).1
theorem MI.ghost (C:MI P E W0 md a r f gs w t q) (hr:r.le r') (hf:f'.le f) (hd:r'.disj f') (hn:∀ n,r' n≠none->r n=none->f n=r' n) (hg:∀ n o,r' n=some o->r n=none->gobj o=false):MI P E W0 md a r' f' gs w t q:=by
 have hsat:=C.sat.ghost hr hf hd hn hg;have hff:∀ n,f' n≠none->f n≠none:=fun n hn e=>hn (hf.none e);have hrr:∀ n,r' n≠none->r n≠none∨(f n≠none/\n≠E.tok):=fun n hn'=>by
  by_cases e:r n=none
  ·have h1:=hn n hn' e;obtain ⟨o,ho⟩:=Option.ne_none_iff_exists'.1 hn';exact .inr ⟨by rw [h1];exact hn',C.sat.notTok (h1.trans ho) (hg n o ho e)⟩
  ·exact .inl e
 have hoff:∀ {n},Off E W0.heap.size r f n->Off E W0.heap.size r' f' n:=fun {n} o=>by
  refine ⟨o.lt,o.tok,hf.none o.f,?_⟩;cases e:r' n with
  | none=>rfl
  | some x=>exact (hrr n (zL e)).elim (fun y=>absurd o.r y) (fun y=>absurd o.f y.1)
 refine ⟨C.main,hsat,C.leave,C.above,⟨fun i x b h1 h2 h3 h4=>C.knw.own i x b h1 h2 (hff b h3) h4,fun i x b h1 h2 h3 h4=>?_,C.knw.hears⟩,C.tri,fun o ho=>C.tok o (hf.h _ _ ho),C.oldW,fun n hn'=>C.oldF n (hff n hn'),?_⟩
 ·rcases hrr b h4 with x|x
  ·exact C.knw.rd i _ b h1 h2 h3 x
  ·exact C.knw.own i _ b h1 h3 x.1 x.2
 ·have h:=C.st;cases md with
  | idle=>trivial
  | shut c d m=>exact ⟨h.hc,h.hd,h.hcd,hoff h.oc,hoff h.od,h.kd,h.act,h.heard⟩
  | talk c d vs j rS fS=>
   refine ⟨h.j0,h.hc,h.hd,h.hcd,⟨hoff h.oc.1,h.oc.2⟩,⟨hoff h.od.1,h.od.2⟩,h.sat,h.knw,h.kc,h.kd,fun n hn'=>⟨fun h1=>?_,fun h1=>hf.none ((h.ap n hn').2 h1)⟩,h.old,h.tokS,h.snd⟩;obtain ⟨e1,e2⟩:=(h.ap n hn').1 h1;refine ⟨hf.none e1,?_⟩;cases e:r' n with
   | none=>rfl
   | some x=>exact (hrr n (zL e)).elim (fun y=>absurd e2 y) (fun y=>absurd e1 y.1)
theorem MI.close (C:MI P E W0 (.talk c d [] j rS fS) a r f gs w t q) (hm:MainOk (.talk c d [] j rS fS) a) (hj:gs[j]?=some g) (hwake:mayWake P g=true) (hs':g'.status=.running)
  (hst:∀ k,w.heap[c]?=some (chO false k)->stepG P false g w=.go g' (w.setChan c 0 #[] true k k false) (closeEvents c)) (hq:QuitsD P n 0 g') (hpc:∀ b z c',a=parked b #[rcase c' z] (.recv true)->c'=c) :
  ∃ gs' ops w' m q',runT P (crowd gs w sl) j=(.next (crowd gs' w' sl),ops)/\gs'.size=gs.size/\MI P E W0 (.shut c d m) (a.again w') r f gs' w' (t++ops) q':=by
 have h:=C.st;have hj0:=h.j0;obtain ⟨k0,hc⟩:=h.hc;have hlt:j<gs.size:=(Array.getElem?_eq_some_iff.1 hj).1;have hlt0:0<gs.size:=(Array.getElem?_eq_some_iff.1 C.main).1;have hT:=runT_crowd_go (P:=P) (sl:=sl) (i:=j) hj (by rw [show (j == 0)=false by simp;omega];exact hst k0 hc)
 rw [closeOps] at hT;generalize hu:(#[{ g:=j,fn:=g.frame.fn,pos:=g.frame.place,act:=.access ⟨.obj c,false,true⟩ },{ g:=j,fn:=g.frame.fn,pos:=g.frame.place,act:=.close c }]:Trace)=u at hT;have hug:∀ op∈u,op.g=j:=by
  intro op hop;subst hu;simp only [List.mem_toArray,List.mem_cons,List.not_mem_nil,or_false] at hop;rcases hop with rfl|rfl <;> rfl
 have hut:∀ op∈u,∀ x,op.act.touch?=some x->x=⟨.obj c,false,.atomic⟩:=by
  intro op hop x hx;subst hu;simp only [List.mem_toArray,List.mem_cons,List.not_mem_nil,or_false] at hop;rcases hop with rfl|rfl
  ·simp only [MemAct.touch?,Option.some.injEq] at hx;rw [<-hx];rfl
  ·cases hx
 have hdq:∀ x,Deaf (t++u) x=Deaf t x:=by
  intro x;subst hu;refine Deaf_quiet fun op hop d=>?_;simp only [List.mem_toArray,List.mem_cons,List.not_mem_nil,or_false] at hop;rcases hop with rfl|rfl <;> rfl
 have e0:(t++u)[t.size]?=some { g:=j,fn:=g.frame.fn,pos:=g.frame.place,act:=.access ⟨.obj c,false,true⟩ }:=by subst hu;simp
 have e1:(t++u)[t.size+1]?=some { g:=j,fn:=g.frame.fn,pos:=g.frame.place,act:=.close c }:=by subst hu;simp
 have hwk:∀ y,woken P g g' (w.setChan c 0 #[] true k0 k0 false) y=y.again (w.setChan c 0 #[] true k0 k0 false):=by
  intro y;unfold woken;simp [hwake,hs']
 have hother:∀ x,x≠0->x≠j->((gs.map (woken P g g' (w.setChan c 0 #[] true k0 k0 false))).setIfInBounds j g')[x]?=gs[x]?:=by
  intro x hx hxj;rw [Array.getElem?_setIfInBounds_ne (fun e=>hxj e.symm),Array.getElem?_map];cases e:gs[x]? with
  | none=>rfl
  | some y=>simp only [Option.map_some,hwk];rw [again_running _ ((C.leave x y (by omega) (fun z=>hxj z) e).status)]
 have hne:∀ n,n≠c->(w.setChan c 0 #[] true k0 k0 false).heap[n]?=w.heap[n]?:=fun n hn=>heap_setChan_ne w _ _ _ _ _ _ (fun e=>hn e.symm);have hm1:(t++u).heard (t.size+1):=by
  refine ⟨j,g?_of e1,?_⟩;have e2:(t++u).size=t.size+2:=by subst hu;simp
  have hd2:=deaf_succ (g:=j) e1;have hd:(t++u).deaf j (t.size+1+1)=0:=by
   have:=hdq j
   unfold Deaf at this;rw [e2] at this;rw [this];exact h.knw.hears
  rw [hd] at hd2;exact hd2.symm
 have hjm:∀ i,(t++u).g? i=some j->i<t.size+2->Before (t++u) i (t.size+1):=by
  intro i hi hil;obtain ⟨z,hz,hzg⟩:=Option.map_eq_some_iff.1 hi;rcases Nat.lt_or_ge i (t.size+1) with hl|hl
  ·exact .inr (hb_po hl hz e1 hzg)
  ·exact .inl (by omega)
 refine ⟨_,u,_,t.size+1,upd q j n,hT,by simp,⟨?_,?_,?_,?_,?_,?_,C.tok,?_,C.oldF,?_⟩⟩
 ·rw [Array.getElem?_setIfInBounds_ne (by omega),Array.getElem?_map,C.main,Option.map_some,hwk]
 ·exact C.sat.setc h.oc.1.r h.oc.1.f
 ·intro x y hx0 _ hy;rw [hdq];by_cases e:x=j
  ·subst e;rw [Array.getElem?_setIfInBounds_self_of_lt (by simpa using hlt)] at hy
   cases hy
   rw [upd_same,h.knw.hears];exact hq
  ·rw [hother x (by omega) e] at hy
   rw [upd_ne q n e];exact C.leave x y hx0 (fun z=>e z) hy
 ·intro x hx;rw [hdq];exact C.above x (by simpa using hx)
 ·refine ⟨fun i x b hx hb hfb ht=>?_,fun i x b hx hw hb hrb=>?_,(hdq 0).trans C.knw.hears⟩
  ·rcases touch_new hx with ⟨_,h'⟩|⟨op,hop,_,hxa⟩
   ·exact (C.knw.own i x b h' hb hfb ht).app u
   ·rw [hut op hop x hxa] at hb;cases hb;exact absurd h.oc.1.f hfb
  ·rcases touch_new hx with ⟨_,h'⟩|⟨op,hop,_,hxa⟩
   ·exact (C.knw.rd i x b h' hw hb hrb).app u
   ·rw [hut op hop x hxa] at hb;cases hb;exact absurd h.oc.1.r hrb
 ·rw [xL];refine ⟨fun said=>noRace_append (C.tri.clean said) hug fun i x hx op hop y hy hcf=>?_,fun i x hx hmem=>?_,fun i x b hx hb=>?_⟩
  ·rw [hut op hop y hy] at hcf;exact h.kc i x hx (by rw [hcf.1];rfl)
  ·rcases touch_new hx with ⟨hi,h'⟩|⟨op,hop,hxi,hxa⟩
   ·rcases C.tri.over i x h' hmem with y|y
    ·exact .inl (y.app u)
    ·exact .inr (hjm i (Mode.ex_app (md:=.talk c d [] j rS fS) y) (by omega))
   ·refine .inr (hjm i (by rw [g?_of hxi,hug op hop]) ?_)
    have:=lt_size_of_getElem? hxi
    subst hu;simpa using this
  ·rcases touch_new hx with ⟨_,h'⟩|⟨op,hop,_,hxa⟩
   ·exact C.tri.low i x b h' hb
   ·rw [hut op hop x hxa] at hb;cases hb;exact xI hc
 ·refine ⟨by rw [xL];exact C.oldW.1,fun n hn=>?_⟩
  rw [hne n (by have:=h.oc.1.lt;omega)]
  exact C.oldW.2 n hn
 ·refine ⟨⟨k0,heap_setChan_self w hc _ _ _ _ _ _⟩,by rw [hne d (Ne.symm h.hcd)];exact h.hd,h.hcd,h.oc.1,h.od.1,fun i x hx hl=>?_,act?_of e1,hm1⟩
  rcases touch_new hx with ⟨_,h'⟩|⟨op,hop,_,hxa⟩
  ·exact (h.kd i x h' hl).app u
  ·rw [hut op hop x hxa] at hl;cases hl;exact absurd rfl h.hcd
theorem MI.found (C:MI P E W0 (.shut c d n) a r f gs w t q) (hrun:a.status=.running) {z:Value} (hst:∀ w,stepG P true a w=.comm a' #[rcase c z] true (.recv true) w #[]) {o:Obj} (hf:f E.tok=some o) :
  ∃ gs' ops,runT P (crowd gs w sl) 0=(.next (crowd gs' w sl),ops)/\gs'.size=gs.size/\MI P E W0 .idle (Conc.served a' (recvd true z false)) r ((f.put d (chO false 0)).put E.tok yY) gs' w (t++ops) q:=by
 have h:=C.st;obtain ⟨k0,hc⟩:=h.hc;have hlt:0<gs.size:=(Array.getElem?_eq_some_iff.1 C.main).1;have hp:partners (gs.setIfInBounds 0 ph) c true=[]:=by
  refine partners_nil fun x y hy=>?_;rcases getElem?_stand gs 0 x y hy with ⟨_,rfl⟩|⟨hx,hy'⟩
  ·exact offersAt_ph _ _
  ·exact offersAt_of_not_blocked (fun hb=>by rcases (C.leave x y (by omega) (fun z=>z) hy').status with e|e <;> rw [e] at hb <;> cases hb) _ _
 have hT:=crowd_recv_closed (P:=P) (sl:=sl) (i:=0) C.main (show stepG P (0 == 0) a w=_ from hst w) hc hp;rw [finishComm_recv,ofEvents_none,Array.empty_append] at hT;generalize hu:(#[{ g:=0,fn:=a'.frame.fn,pos:=a'.frame.place,act:=.recvClosed c }]:Trace)=u at hT;have hun:∀ op∈u,op.act.touch?=none:=by
  intro op hop;subst hu;simp only [List.mem_toArray,List.mem_cons,List.not_mem_nil,or_false] at hop;subst hop;rfl
 have hdq:∀ x,Deaf (t++u) x=Deaf t x:=by
  intro x;subst hu;refine Deaf_quiet fun op hop d=>?_;simp only [List.mem_toArray,List.mem_cons,List.not_mem_nil,or_false] at hop;subst hop;rfl
 have e0:(t++u)[t.size]?=some { g:=0,fn:=a'.frame.fn,pos:=a'.frame.place,act:=.recvClosed c }:=by subst hu;simp
 have hml:=zIc h.act;have edge:HappensBefore (t++u) n t.size:=
  Relation.TransGen.single (.inr ⟨.closed (by rw [act?_old hml];exact h.act) (act?_of e0),Qq hml h.heard,⟨0,g?_of e0,by rw [deaf_old (Nat.le_refl _)];exact C.knw.hears⟩⟩)
 have hother:∀ x,x≠0->(gs.setIfInBounds 0 (Conc.served a' (recvd true z false)))[x]?=gs[x]?:=fun x hx=>Array.getElem?_setIfInBounds_ne (fun e=>hx e.symm);have hsat:Sat E w r (f.put d (chO false 0)):=by
  refine ⟨C.sat.os,C.sat.out,C.sat.tape,C.sat.ro,fun n x e hx=>?_,fun n x e=>?_,C.sat.tok,⟨fun n=>?_⟩⟩
  ·by_cases hn:n=d
   ·subst hn;rw [wV] at e;cases e;exact h.hd
   ·rw [xA hn] at e;exact C.sat.own n x e hx
  ·by_cases hn:n=d
   ·subst hn;rw [wV] at e;cases e;constructor
    ·intro h;cases h
    ·intro h';exact absurd h' h.od.tok
   ·rw [xA hn] at e;exact C.sat.gh n x e
  ·by_cases hn:n=d
   ·subst hn;exact .inl h.od.r
   ·rw [xA hn];exact C.sat.apart.h n
 refine ⟨_,u,hT,by simp,⟨Array.getElem?_setIfInBounds_self_of_lt hlt,hsat.putTok (o:=o) (by rw [xA (Ne.symm h.od.tok)];exact hf) rfl,fun x y h1 h2 h3=>?_,fun x hx=>?_,?_,?_,?_,C.oldW,fun n hn=>?_,trivial⟩⟩
 ·rw [hother x (by omega)] at h3
  rw [hdq];exact C.leave x y h1 (fun z=>z) h3
 ·rw [hdq];exact C.above x (by simpa using hx)
 ·have k:=C.knw.mute hun (hdq 0);refine ⟨fun i x b hx hb hfb ht=>?_,k.rd,k.hears⟩;rw [xA ht] at hfb;by_cases e:b=d
  ·subst e;rcases touch_new hx with ⟨_,h'⟩|⟨op,hop,_,hxa⟩
   ·exact (h.kd i x h' hb).app u
   ·rw [hun op hop] at hxa;cases hxa
  ·rw [xA e] at hfb;exact k.own i x b hx hb hfb ht
 ·refine C.tri.mute hun fun i hi=>.inr ?_;have hi:Before t i n:=hi;exact ⟨t.size,_,e0,rfl,.inr ((hi.app u).hb edge)⟩
 ·intro o ho;rw [wV] at ho;cases ho;rfl
 ·by_cases e:n=E.tok
  ·exact .inl e
  ·rw [xA e] at hn;by_cases e2:n=d
   ·subst e2;exact .inr h.od.lt
   ·rw [xA e2] at hn;exact C.oldF n hn
theorem MI.spawn (C:MI P E W0 md a r f gs w t q) {g1 child:Goroutine} {fM:Hp} (ht:f E.tok=some yY) (hc:f c=some (chO false 0)) (hd:f d=some (chO false 0)) (hcd:c≠d)
  (hst:stepG P true a w=.spawn g1 child w #[]) (hM:∀ n o,n≠E.tok->fM n=some o->f n=some o/\fS n=none/\n≠c/\n≠d) (hS:∀ n o,n≠E.tok->fS n=some o->f n=some o/\n≠c/\n≠d)
  (htM:fM E.tok=some (yH c d vs)) (htS:fS E.tok=some (yH c d vs)) (hch:child.status=.running) (kid:Safe P E.kid (XS P E) (KS P E) child r fS) :
  ∃ gs' ops,runT P (crowd gs w sl) 0=(.next (crowd gs' w sl),ops)/\MI P E W0 (.talk c d vs gs.size r fS) g1 r fM gs' w (t++ops) q:=by
 have hmd:md=.idle:=by
  cases md with
  | idle=>rfl
  | shut c d m=>exact absurd (C.tok _ ht) JY
  | talk c d vs j rS fS=>exact absurd (C.tok _ ht) JY
 subst hmd;have hlt:0<gs.size:=(Array.getElem?_eq_some_iff.1 C.main).1;have hT:=runT_crowd_spawn (P:=P) (sl:=sl) (i:=0) C.main (show stepG P (0 == 0) a w=_ from hst);rw [ofEvents_none] at hT;generalize hu:(((#[]:Array MemOp).push { g:=0,fn:=a.frame.fn,pos:=a.frame.place,act:=.go gs.size }).push { g:=gs.size,fn:=child.frame.fn,pos:=a.frame.place,act:=.start }:Trace)=u at hT;have hu':u = #[{ g:=0,fn:=a.frame.fn,pos:=a.frame.place,act:=.go gs.size },{ g:=gs.size,fn:=child.frame.fn,pos:=a.frame.place,act:=.start }]:=by rw [<-hu];rfl
 have hun:∀ op∈u,op.act.touch?=none:=by
  intro op hop;rw [hu'] at hop;simp only [List.mem_toArray,List.mem_cons,List.not_mem_nil,or_false] at hop;rcases hop with rfl|rfl <;> rfl
 have hdq:∀ x,Deaf (t++u) x=Deaf t x:=by
  intro x;refine Deaf_quiet fun op hop d=>?_;rw [hu'] at hop;simp only [List.mem_toArray,List.mem_cons,List.not_mem_nil,or_false] at hop;rcases hop with rfl|rfl <;> rfl
 have e0:(t++u)[t.size]?=some { g:=0,fn:=a.frame.fn,pos:=a.frame.place,act:=.go gs.size }:=by rw [hu'];simp
 have e1:(t++u)[t.size+1]?=some { g:=gs.size,fn:=child.frame.fn,pos:=a.frame.place,act:=.start }:=by rw [hu'];simp
 have hd1:(t++u).deaf gs.size (t.size+1)=0:=by
  rw [deaf_succ e0,deaf_old (Nat.le_refl _)];exact C.above gs.size (Nat.le_refl _)
 have edge:HappensBefore (t++u) t.size (t.size+1):=
  Relation.TransGen.single (.inr ⟨.spawn (act?_of e0) (act?_of e1) (g?_of e1),⟨0,g?_of e0,by rw [deaf_old (Nat.le_refl _)];exact C.knw.hears⟩,⟨gs.size,g?_of e1,hd1⟩⟩)
 have hkid:∀ i,Knows t 0 i->Knows (t++u) gs.size i:=fun i h=>⟨t.size+1,_,e1,rfl,.inr ((h.hb_new (Nat.le_refl _) e0 rfl).trans edge)⟩;have hmute:∀ i x,touchAt (t++u) i=some x->touchAt t i=some x:=fun i x hx=>by
  rcases touch_new hx with ⟨_,h'⟩|⟨op,hop,_,hxa⟩
  ·exact h'
  ·rw [hun op hop] at hxa;cases hxa
 have hct:=C.sat.notTok hc rfl;have hdt:=C.sat.notTok hd rfl;have hrt:r E.tok=none:=C.sat.dis' (zL ht);have hMf:∀ n,n≠E.tok->fM n≠none->f n≠none:=fun n hn h=>by
  obtain ⟨o,ho⟩:=Option.ne_none_iff_exists'.1 h;exact zL (hM n o hn ho).1
 have hSf:∀ n,n≠E.tok->fS n≠none->f n≠none:=fun n hn h=>by
  obtain ⟨o,ho⟩:=Option.ne_none_iff_exists'.1 h;exact zL (hS n o hn ho).1
 have hMn:∀ n,n≠E.tok->(n=c∨n=d)->fM n=none:=fun n hn h=>by
  cases e:fM n with
  | none=>rfl
  | some o=>obtain ⟨_,_,h1,h2⟩:=hM n o hn e;exact (h.elim h1 h2).elim
 have hSn:∀ n,n≠E.tok->(n=c∨n=d)->fS n=none:=fun n hn h=>by
  cases e:fS n with
  | none=>rfl
  | some o=>obtain ⟨_,h1,h2⟩:=hS n o hn e;exact (h.elim h1 h2).elim
 have hsat:∀ (f':Hp),(∀ n o,n≠E.tok->f' n=some o->f n=some o)->(∀ o,f' E.tok=some o->gobj o=true)->Sat E w r f':=by
  intro f' h1 h2;refine ⟨C.sat.os,C.sat.out,C.sat.tape,C.sat.ro,fun n x e hx=>?_,fun n x e=>?_,C.sat.tok,⟨fun n=>?_⟩⟩
  ·by_cases hn:n=E.tok
   ·subst hn;rw [h2 x e] at hx;cases hx
   ·exact C.sat.own n x (h1 n x hn e) hx
  ·by_cases hn:n=E.tok
   ·subst hn;rw [h2 x e];simp
   ·exact C.sat.gh n x (h1 n x hn e)
  ·by_cases hn:n=E.tok
   ·subst hn;exact .inl hrt
   ·cases e:f' n with
    | none=>exact .inr rfl
    | some o=>exact .inl (C.sat.dis' (zL (h1 n o hn e)))
 have hsS:=hsat fS (fun n o hn h=>(hS n o hn h).1) (fun o ho=>by rw [htS] at ho;cases ho;rfl)
 have hNc:W0.heap.size<=c:=(C.oldF c (zL hc)).resolve_left hct;have hNd:W0.heap.size<=d:=(C.oldF d (zL hd)).resolve_left hdt;refine ⟨_,u,hT,⟨?_,hsat fM (fun n o hn h=>(hM n o hn h).1) (fun o ho=>by rw [htM] at ho;cases ho;rfl),?_,?_,?_,?_,?_,C.oldW,?_,?_⟩⟩
 ·rw [Array.getElem?_push_lt (by simpa using hlt)]
  simp [hlt]
 ·intro x y hx0 hxm hy;have hxs:x≠gs.size:=fun e=>hxm e;rw [hdq];refine C.leave x y hx0 (fun z=>z) ?_;rw [Array.getElem?_push] at hy;simp only [Array.size_setIfInBounds,hxs,if_false] at hy;rwa [Array.getElem?_setIfInBounds_ne (by omega)] at hy
 ·intro x hx;rw [hdq];exact C.above x (by simp at hx;omega)
 ·exact (C.knw.mute hun (hdq 0)).sub hMf
 ·exact C.tri.mute hun fun i hi=>hi.elim
 ·intro o ho;rw [htM] at ho;cases ho;rfl
 ·intro n hn;by_cases e:n=E.tok
  ·exact .inl e
  ·exact C.oldF n (hMf n e hn)
 ·refine ⟨hlt,⟨0,C.sat.own c _ hc rfl⟩,C.sat.own d _ hd rfl,hcd,⟨⟨hNc,hct,hMn c hct (.inl rfl),C.sat.dis' (zL hc)⟩,⟨hNc,hct,hSn c hct (.inl rfl),C.sat.dis' (zL hc)⟩⟩,⟨⟨hNd,hdt,hMn d hdt (.inr rfl),C.sat.dis' (zL hd)⟩,⟨hNd,hdt,hSn d hdt (.inr rfl),C.sat.dis' (zL hd)⟩⟩,
   ⟨hsS.os,hsS.out,hsS.tape,hsS.ro,hsS.own,hsS.gh,hsS.tok,hsS.apart⟩,⟨fun i x b hx hb hfb htk=>hkid i (C.knw.own i x b (hmute i x hx) hb (hSf b htk hfb) htk),fun i x b hx hw hb hrb=>hkid i (C.knw.rd i x b (hmute i x hx) hw hb hrb),(hdq gs.size).trans (C.above gs.size (Nat.le_refl _))⟩,
   fun i x hx hl=>hkid i (C.knw.own i x c (hmute i x hx) hl (zL hc) hct),fun i x hx hl=>(C.knw.own i x d (hmute i x hx) hl (zL hd) hdt).app u,?_,?_,fun o ho=>by rw [htS] at ho;cases ho;rfl,⟨child,by rw [Array.getElem?_push];simp,.run hch kid⟩⟩
  ·intro n hn;refine ⟨fun hfn=>⟨?_,C.sat.dis' (hSf n hn hfn)⟩,fun hrn=>?_⟩
   ·cases e:fM n with
    | none=>rfl
    | some o=>exact absurd (hM n o hn e).2.1 hfn
   ·cases e:fM n with
    | none=>rfl
    | some o=>exact absurd (C.sat.dis hrn) (hMf n hn (zL e))
  ·intro n hn;by_cases e:n=E.tok
   ·exact .inl e
   ·exact C.oldF n (hSf n e hn)
end
end Go.KL
end
section
namespace Go.KL
open Go Go.Conc
open Go.ConcN (sumTo upd sumTo_upd upd_ne upd_same)
section
variable {P:Program} {E:Env} {W0:World} {Post:Value->World->Prop} {md:Mode} {a a' g g':Goroutine} {r f r' f':Hp} {gs:Array Goroutine} {w w':World} {sl:Option (Nat×Nat)} {t u:Trace} {q:Nat->Nat} {es:Array Event} {N n c d j:Nat} {vs:List Value} {rS fS rS' fS':Hp}
def Mv (P:Program) (Post:Value->World->Prop) (gs:Array Goroutine) (w:World) (sl:Option (Nat×Nat)) (i:Nat) (t:Trace):Prop:=
 (∃ m' ops,runT P (crowd gs w sl) i=(.next m',ops)/\QL P Post m' (t++ops))∨∃ o w' ops,runT P (crowd gs w sl) i=(.ended o w',ops)/\∀ w0 sl0,Good P Post (crowd gs w0 sl0) o w' (t++ops)
theorem pump (hm:MainOk md a) (gj:Goroutine) (hrun:a.status=.running∨∃ j,md.is j/\gj.status=.running)
  (act0:a.status=.running->∀ gs w sl t q,MI P E W0 md a r f gs w t q->(∀ j,md.is j->gs[j]?=some gj)->Mv P Post gs w sl 0 t)
  (actj:∀ j,md.is j->gj.status=.running->∀ gs w sl t q,MI P E W0 md a r f gs w t q->gs[j]?=some gj->Mv P Post gs w sl j t) :
  ∀ gs w sl t q,MI P E W0 md a r f gs w t q->(∀ j,md.is j->gs[j]?=some gj)->QL P Post (crowd gs w sl) t:=by
 have key:∀ μ gs w sl t q,sumTo gs.size q=μ->MI P E W0 md a r f gs w t q->(∀ j,md.is j->gs[j]?=some gj)->QL P Post (crowd gs w sl) t:=by
  intro μ;induction μ using Nat.strongRecOn with
  | _ μ ih=>
   intro gs w sl t q hμ C hj;have hsome:∃ (i:Nat) (g:Goroutine),gs[i]?=some g/\g.status=.running:=by
    rcases hrun with h|⟨j,h1,h2⟩
    ·exact ⟨0,a,C.main,h⟩
    ·exact ⟨j,gj,hj j h1,h2⟩
   obtain ⟨i,g,d,sl',hi,hg,hst⟩:=crowd_pick (P:=P) (w:=w) (sl:=sl) (C.awake hm) hsome;have C':=C.at d;have fin:Mv P Post gs (w.at d) sl' i t->QL P Post (crowd gs w sl) t:=by
    rintro (⟨m',ops,h1,h2⟩|⟨o,w',ops,h1,h2⟩)
    ·exact .next (hst.trans h1) h2
    ·exact .last (hst.trans h1) (h2 w sl)
   rcases Nat.eq_zero_or_pos i with rfl|hp
   ·rw [C.main] at hi;cases hi
    exact fin (act0 hg gs (w.at d) sl' t q C' hj)
   ·by_cases hx:md.is i
    ·have:=hj i hx
     rw [hi] at this;cases this
     exact fin (actj i hx hg gs (w.at d) sl' t q C' hi)
    ·obtain ⟨gs',ops,q',h1,h2,h3,h4,h5⟩:=C'.slip (sl:=sl') hm hi hp hx hg;refine .next (hst.trans h1) (ih (sumTo gs'.size q') (by rw [h2,<-hμ];exact h4) gs' _ sl' _ q' rfl h3 fun j hj'=>?_)
     rw [h5 j (fun e=>hx (e ▸ hj'))];exact hj j hj'
 exact fun gs w sl t q C hj=>key _ gs w sl t q rfl C hj
theorem Wp {P:Program} {E:Env} {E':Env} {g:Goroutine} {r f:Hp} (h:Safe P E' (XS P E) (KS P E) g r f):g.status=.running:=by
 induction h with
 | stop h=>exact h.1
 | step N hs _ _ _=>exact hs
 | ghost _ _ _ _ _ _ ih=>exact ih
 | big h _ _=>cases h with
  | sel hs _ _ _=>exact hs
theorem MI.wait (C:MI P E W0 (.talk c d vs j rS fS) a r f gs w t q) (hrun:a.status=.running) (hj:gs[j]?=some g) {v zc zd:Value} {vs':List Value} (hv:vs=v::vs') (hst:∀ w,stepG P false g w=.comm g (WJ c d v zc zd) true .select w #[]) (hfS:fS E.tok≠none)
  (kk:Safe P E.kid (XS P E) (KS P E) (Conc.served g (commResult (WJ c d v zc zd) .select 0 undef false)) rS (fS.put E.tok (yH c d vs'))) :
  runT P (crowd gs w sl) j=(.next (crowd (gs.setIfInBounds j (parked g (WJ c d v zc zd) .select)) w sl),#[])/\MI P E W0 (.talk c d vs j rS fS) a r f (gs.setIfInBounds j (parked g (WJ c d v zc zd) .select)) w t q:=by
 have h:=C.st;have hj0:=h.j0;obtain ⟨k0,hc⟩:=h.hc;have hno:∀ (x:Nat) (y:Goroutine),(gs.setIfInBounds j ph)[x]?=some y->∀ b b',offersAt y b b'=[]:=by
  intro x y hy b b';rcases getElem?_stand gs j x y hy with ⟨_,rfl⟩|⟨hx,hy'⟩
  ·exact offersAt_ph _ _
  ·refine offersAt_of_not_blocked (fun hb=>?_) _ _;rcases Nat.eq_zero_or_pos x with rfl|hp
   ·rw [C.main] at hy';cases hy';rw [hrun] at hb;cases hb
   ·rcases (C.leave x y hp (fun e=>hx e) hy').status with e|e <;> rw [e] at hb <;> cases hb
 have hw:∀ cc∈WJ c d v zc zd,NoWays w (gs.setIfInBounds j ph) cc:=by
  intro cc hcc;simp only [WJ,List.mem_toArray,List.mem_cons,List.not_mem_nil,or_false] at hcc;rcases hcc with rfl|rfl
  ·exact ways_send_none hc (Nat.le_refl _) (partners_nil fun x y hy=>hno x y hy _ _)
  ·exact ways_recv_none h.hd (partners_nil fun x y hy=>hno x y hy _ _)
 refine ⟨?_,C.putS hj (.park hv hfS kk)⟩;have:=crowd_waits (P:=P) (sl:=sl) (i:=j) hj (by rw [show (j == 0)=false by simp;omega];exact hst w) hw
 rw [ofEvents_none] at this;exact this
theorem zPQ {x y:Nat} {fx fy:FuncId} {px py:String} {c k cap:Nat}:(#[{ g:=x,fn:=fx,pos:=px,act:=.send c k },{ g:=y,fn:=fy,pos:=py,act:=.recv c k cap },{ g:=x,fn:=fx,pos:=px,act:=.sendDone c k },{ g:=y,fn:=fy,pos:=py,act:=.recvDone c k }]:Trace)=met x y fx px fy py c k cap:=rfl
theorem MI.take {v:Value} {vs':List Value} {zc zd z:Value} {gj:Goroutine} (C:MI P E W0 (.talk c d (v::vs') j rS fS) a r f gs w t q) (hst:∀ w,stepG P true a w=.comm g #[rcase c z] true (.recv true) w #[]) (hf:f E.tok=some (yH c d (v::vs')))
  (hj:gs[j]?=some (parked gj (WJ c d v zc zd) .select)) (kk:Safe P E.kid (XS P E) (KS P E) (Conc.served gj (commResult (WJ c d v zc zd) .select 0 undef false)) rS (fS.put E.tok (yH c d vs'))) (hfS:fS E.tok≠none) :
  ∃ gs' ops w',runT P (crowd gs w sl) 0=(.next (crowd gs' w' sl),ops)/\MI P E W0 (.talk c d vs' j rS (fS.put E.tok (yH c d vs'))) (Conc.served g (recvd true v true)) r (f.put E.tok (yH c d vs')) gs' w' (t++ops) q:=by
 have h:=C.st;have hj0:=h.j0;obtain ⟨k0,hc⟩:=h.hc;have hlt:j<gs.size:=(Array.getElem?_eq_some_iff.1 hj).1;have hlt0:0<gs.size:=(Array.getElem?_eq_some_iff.1 C.main).1;have hj':=stand_get (i:=0) (show j≠0 by omega) hj
 have hp:partners (gs.setIfInBounds 0 ph) c true=[(j,0)]:=by
  rw [partners_one hj' fun x y hx hy=>?_,Ja,if_pos rfl]
  ·rfl
  ·rcases getElem?_stand gs 0 x y hy with ⟨_,rfl⟩|⟨hx0,hy'⟩
   ·exact offersAt_ph _ _
   ·refine offersAt_of_not_blocked (fun hb=>?_) _ _;rcases (C.leave x y (by omega) (fun e=>hx e) hy').status with e|e <;> rw [e] at hb <;> cases hb
 have hT:=Xi (P:=P) (sl:=sl) (i:=0) (k:=0) (v:=v) (zj:=zc) C.main (show stepG P (0 == 0) a w=_ from hst w) hc (show j≠0 by omega) hj (by rfl) hp
 rw [zPQ,ofEvents_none,Array.empty_append] at hT;refine ⟨_,_,_,hT,C.meet hf (k:=k0+1) rfl (fun op hop=>met_mute _ _ _ _ _ _ _ _ _ op hop) (fun x=>Deaf_quiet fun op hop=>met_quiet _ _ _ _ _ _ _ _ _ x op hop) (by simp) (Array.getElem?_setIfInBounds_self_of_lt (by simpa using hlt0)) (g':=Conc.served gj (commResult (WJ c d v zc zd) .select 0 undef false)) ?_ (fun x hx hxj=>?_) rfl kk hfS⟩
 ·rw [Array.getElem?_setIfInBounds_ne (by omega),Array.getElem?_setIfInBounds_self_of_lt hlt];rfl
 ·rw [Array.getElem?_setIfInBounds_ne (fun e=>hx e.symm),Array.getElem?_setIfInBounds_ne (fun e=>hxj e.symm)]
theorem MI.give {v:Value} {vs':List Value} {zc zd z:Value} (C:MI P E W0 (.talk c d (v::vs') j rS fS) (parked a #[rcase c z] (.recv true)) r f gs w t q) (hf:f E.tok=some (yH c d (v::vs'))) (hst:∀ w,stepG P false g w=.comm g (WJ c d v zc zd) true .select w #[])
  (hj:gs[j]?=some g) (kk:Safe P E.kid (XS P E) (KS P E) (Conc.served g (commResult (WJ c d v zc zd) .select 0 undef false)) rS (fS.put E.tok (yH c d vs'))) (hfS:fS E.tok≠none) :
  ∃ gs' ops w',runT P (crowd gs w sl) j=(.next (crowd gs' w' sl),ops)/\MI P E W0 (.talk c d vs' j rS (fS.put E.tok (yH c d vs'))) (Conc.served a (recvd true v true)) r (f.put E.tok (yH c d vs')) gs' w' (t++ops) q:=by
 have h:=C.st;have hj0:=h.j0;obtain ⟨k0,hc⟩:=h.hc;have hlt:j<gs.size:=(Array.getElem?_eq_some_iff.1 hj).1;have hlt0:0<gs.size:=(Array.getElem?_eq_some_iff.1 C.main).1;have h0':=stand_get (i:=j) (show 0≠j by omega) C.main
 have hleave:∀ (x:Nat) (y:Goroutine),x≠0->(gs.setIfInBounds j ph)[x]?=some y->∀ b b',offersAt y b b'=[]:=by
  intro x y hx hy b b';rcases getElem?_stand gs j x y hy with ⟨_,rfl⟩|⟨hxj,hy'⟩
  ·exact offersAt_ph _ _
  ·refine offersAt_of_not_blocked (fun hb=>?_) _ _;rcases (C.leave x y (by omega) (fun e=>hxj e) hy').status with e|e <;> rw [e] at hb <;> cases hb
 have hp:partners (gs.setIfInBounds j ph) c false=[(0,0)]:=by
  rw [partners_one h0' fun x y hx hy=>hleave x y hx hy _ _,offersAt_parked_recv,if_pos rfl];rfl
 have ho:∀ (m:Nat) (c':CommCase),m≠0->(WJ c d v zc zd)[m]?=some c'->NoWays w (gs.setIfInBounds j ph) c':=by
  intro m c' hm hm';rcases m with _|_|m
  ·exact absurd rfl hm
  ·have e:c'=rcase d zd:=by simpa [WJ] using hm'.symm
   subst e;refine ways_recv_none h.hd (partners_nil fun x y hy=>?_);rcases Nat.eq_zero_or_pos x with rfl|hx
   ·rw [h0'] at hy;cases hy;exact offersAt_parked_recv' ..
   ·exact hleave x y (by omega) hy _ _
  ·simp [WJ] at hm'
 have hT:=Xh (P:=P) (sl:=sl) (i:=j) (k:=0) (v:=v) (z:=zc) (zj:=z) hj (by rw [show (j == 0)=false by simp;omega];exact hst w) (by rfl) ho hc (show 0≠j by omega) C.main hp
 rw [zPQ,ofEvents_none,Array.empty_append] at hT;refine ⟨_,_,_,hT,C.meet hf (k:=k0+1) rfl (fun op hop=>met_mute _ _ _ _ _ _ _ _ _ op hop) (fun x=>Deaf_quiet fun op hop=>met_quiet _ _ _ _ _ _ _ _ _ x op hop) (by simp) (a':=Conc.served a (recvd true v true)) ?_ (g':=Conc.served g (commResult (WJ c d v zc zd) .select 0 undef false)) (Array.getElem?_setIfInBounds_self_of_lt (by simpa using hlt)) (fun x hx hxj=>?_) rfl kk hfS⟩
 ·rw [Array.getElem?_setIfInBounds_ne (by omega),Array.getElem?_setIfInBounds_self_of_lt hlt0];rfl
 ·rw [Array.getElem?_setIfInBounds_ne (fun e=>hxj e.symm),Array.getElem?_setIfInBounds_ne (fun e=>hx e.symm)]
theorem WW (hrun:a.status=.running) (act0:∀ md gs w sl t q,MI P E W0 md a r f gs w t q->Mv P Post gs w sl 0 t):∀ md gs w sl t q,MI P E W0 md a r f gs w t q->QL P Post (crowd gs w sl) t:=by
 have hm:∀ md,MainOk md a:=fun md=>.run hrun;have still:∀ md,(∀ i,¬ md.is i)->∀ gs w sl t q,MI P E W0 md a r f gs w t q->QL P Post (crowd gs w sl) t:=fun md hi gs w sl t q C=>
  pump (hm md) a (.inl hrun) (fun _ gs w sl t q C _=>act0 md gs w sl t q C) (fun j h=>absurd h (hi j)) gs w sl t q C (fun j h=>absurd h (hi j))
 have parkd:∀ c d vs j rS fS gj,gj.status=.blocked->∀ gs w sl t q,MI P E W0 (.talk c d vs j rS fS) a r f gs w t q->gs[j]?=some gj->QL P Post (crowd gs w sl) t:=fun c d vs j rS fS gj hb gs w sl t q C hj=>
  pump (hm _) gj (.inl hrun) (fun _ gs w sl t q C _=>act0 _ gs w sl t q C) (fun _ _ h=>by rw [hb] at h;cases h) gs w sl t q C (fun x h=>by cases h;exact hj)
 intro md gs w sl t q C;cases md with
 | idle=>exact still .idle (fun _ h=>h) gs w sl t q C
 | shut c d m=>exact still (.shut c d m) (fun _ h=>h) gs w sl t q C
 | talk c d vs j rS fS=>
  obtain ⟨gj,hj,hsn⟩:=C.st.snd;cases hsn with
  | park hv _ kk=>exact parkd c d vs j rS fS _ rfl gs w sl t q C hj
  | run hs kk=>
   have key:∀ {gj:Goroutine} {rS fS:Hp},Safe P E.kid (XS P E) (KS P E) gj rS fS->∀ gs w sl t q,MI P E W0 (.talk c d vs j rS fS) a r f gs w t q->gs[j]?=some gj->QL P Post (crowd gs w sl) t:=by
    intro gj rS fS hsafe;induction hsafe with
    | @stop gj rS fS hK=>
     intro gs w sl t q C hj;refine pump (hm _) gj (.inl hrun) (fun _ gs w sl t q C _=>act0 _ gs w sl t q C) (fun x hx _ gs w sl t q C hj=>?_) gs w sl t q C (fun x hx=>by cases hx;exact hj)
     cases hx
     obtain ⟨h1,h2,c',d',g',n,h3,h4,h5,h6⟩:=hK;obtain ⟨rfl,rfl,rfl⟩:=Xf (C.st.tokS _ h3);obtain ⟨gs',ops,w',m,q',e1,e2,e3⟩:=C.close (sl:=sl) (hm _) hj h2 h4 (fun k hk=>h5 w k hk) h6 (fun b z c' e=>by rw [e] at hrun;cases hrun)
     rw [again_running _ (.inl hrun)] at e3;exact .inl ⟨_,_,e1,still (.shut _ _ m) (fun _ h=>h) _ _ _ _ _ e3⟩
    | @step gj rS fS N hs h ih' ih=>
     intro gs w sl t q C hj;refine pump (hm _) gj (.inl hrun) (fun _ gs w sl t q C _=>act0 _ gs w sl t q C) (fun x hx _ gs w sl t q C hj=>?_) gs w sl t q C (fun x hx=>by cases hx;exact hj)
     cases hx
     have hw:=C.st.sat;obtain ⟨e1,k⟩:=h w hw;obtain ⟨gs',ops,e2,e3,e4,e5⟩:=C.sown (sl:=sl) (hm _) hj e1 k (Wp (ih' w hw)) (ih' w hw);exact .inl ⟨_,_,e2,ih w hw _ _ _ _ _ e5 e4⟩
    | @ghost gj rS fS rS' fS' hr hf hd hn hg kk ih=>
     intro gs w sl t q C hj;exact ih _ _ _ _ _ (C.sghost hj (Wp kk) hr hf hd hn hg kk) hj
    | @big gj rS fS S hX ih' ih=>
     intro gs w sl t q C hj;cases hX with
     | sel hs ht hst hk=>
      obtain ⟨rfl,rfl,rfl⟩:=Xf (C.st.tokS _ ht);refine pump (hm _) gj (.inl hrun) (fun _ gs w sl t q C _=>act0 _ gs w sl t q C) (fun x hx _ gs w sl t q C hj=>?_) gs w sl t q C (fun x hx=>by cases hx;exact hj)
      cases hx
      obtain ⟨e1,e2⟩:=C.wait (sl:=sl) hrun hj rfl hst (zL ht) (ih' _ _ _ hk);refine .inl ⟨_,_,e1,?_⟩;rw [Array.append_empty];exact parkd _ _ _ _ _ _ _ rfl _ _ _ _ _ e2 (Array.getElem?_setIfInBounds_self_of_lt (Array.getElem?_eq_some_iff.1 hj).1)
   exact key kk gs w sl t q C hj
theorem zGz {z:Value} (hrun:a.status=.running) (hf:f E.tok=some (yH c d vs))
  (next:∀ v vs',vs=v::vs'->∀ rS fS gs w sl t q,MI P E W0 (.talk c d vs' j rS fS) (Conc.served a (recvd true v true)) r (f.put E.tok (yH c d vs')) gs w t q->QL P Post (crowd gs w sl) t)
  (shut:vs=[]->∀ m gs w sl t q,MI P E W0 (.shut c d m) { parked a #[rcase c z] (.recv true) with status:=.running } r f gs w t q->QL P Post (crowd gs w sl) t) :
  ∀ {gj:Goroutine} {rS fS:Hp},Safe P E.kid (XS P E) (KS P E) gj rS fS->∀ gs w sl t q,MI P E W0 (.talk c d vs j rS fS) (parked a #[rcase c z] (.recv true)) r f gs w t q->gs[j]?=some gj->QL P Post (crowd gs w sl) t:=by
 intro gj rS fS hsafe;have hm:∀ rS fS,MainOk (.talk c d vs j rS fS) (parked a #[rcase c z] (.recv true)):=fun rS fS=>.park rfl;induction hsafe with
 | @stop gj rS fS hK=>
  intro gs w sl t q C hj;refine pump (hm _ _) gj (.inr ⟨j,rfl,hK.1⟩) (fun h=>by cases h) (fun x hx _ gs w sl t q C hj=>?_) gs w sl t q C (fun x hx=>by cases hx;exact hj)
  cases hx
  obtain ⟨h1,h2,c',d',g',n,h3,h4,h5,h6⟩:=hK;obtain ⟨rfl,rfl,rfl⟩:=Xf (C.st.tokS _ h3);obtain ⟨gs',ops,w',m,q',e1,e2,e3⟩:=C.close (sl:=sl) (hm _ _) hj h2 h4 (fun k hk=>h5 w k hk) h6 (fun b z' c'' e=>by
   unfold parked at e;injection e with _ _ _ _ e5
   injection e5 with e5
   injection e5 with e5 _
   injection e5 with e5
   injection e5 with e5 _
   unfold rcase at e5;injection e5 with e5 _ _
   injection e5 with e5
   injection e5 with e5
   exact e5.symm)
  obtain ⟨k1,hc1⟩:=e3.st.hc;rw [again_some_closed (k:=0) (z:=z) (by rfl) hc1] at e3
  exact .inl ⟨_,_,e1,shut rfl _ _ _ _ _ _ e3⟩
 | @step gj rS fS N hs h ih' ih=>
  intro gs w sl t q C hj;refine pump (hm _ _) gj (.inr ⟨j,rfl,hs⟩) (fun h=>by cases h) (fun x hx _ gs w sl t q C hj=>?_) gs w sl t q C (fun x hx=>by cases hx;exact hj)
  cases hx
  have hw:=C.st.sat;obtain ⟨e1,k⟩:=h w hw;obtain ⟨gs',ops,e2,e3,e4,e5⟩:=C.sown (sl:=sl) (hm _ _) hj e1 k (Wp (ih' w hw)) (ih' w hw);exact .inl ⟨_,_,e2,ih w hw _ _ _ _ _ e5 e4⟩
 | @ghost gj rS fS rS' fS' hr hff hd hn hg kk ih=>
  intro gs w sl t q C hj;exact ih _ _ _ _ _ (C.sghost hj (Wp kk) hr hff hd hn hg kk) hj
 | @big gj rS fS S hX ih' ih=>
  intro gs w sl t q C hj;cases hX with
  | sel hs ht hst hk=>
   obtain ⟨rfl,rfl,rfl⟩:=Xf (C.st.tokS _ ht);refine pump (hm _ _) gj (.inr ⟨j,rfl,hs⟩) (fun h=>by cases h) (fun x hx _ gs w sl t q C hj=>?_) gs w sl t q C (fun x hx=>by cases hx;exact hj)
   cases hx
   obtain ⟨gs',ops,w',e1,e2⟩:=C.give (sl:=sl) hf hst hj (ih' _ _ _ hk) (zL ht);exact .inl ⟨_,_,e1,next _ _ rfl _ _ _ _ _ _ _ e2⟩
theorem MI.shutd (C:MI P E W0 md a r f gs w t q) (hd:f d=some (chO false n)) (hst:∀ w,w.heap[d]?=some (chO false n)->stepG P true a w=.go a' (w.setChan d 0 #[] true n n false) (closeEvents d)) :
  ∃ gs' ops,runT P (crowd gs w sl) 0=(.next (crowd gs' (w.setChan d 0 #[] true n n false) sl),ops)/\MI P E W0 md a' r (f.put d (chO true n)) gs' (w.setChan d 0 #[] true n n false) (t++ops) q:=by
 have hdt:=C.sat.notTok hd rfl;have hwd:=C.sat.own d _ hd rfl;have hrd:r d=none:=C.sat.dis' (zL hd);have hne:∀ x,x≠d->(w.setChan d 0 #[] true n n false).heap[x]?=w.heap[x]?:=fun x hx=>heap_setChan_ne w _ _ _ _ _ _ (fun e=>hx e.symm);have k:Kept E w r f (w.setChan d 0 #[] true n n false) #[] r (f.put d (chO true n)):=by
  refine ⟨⟨C.sat.os,C.sat.out,C.sat.tape,⟨fun x o e=>?_⟩,fun x o e hg=>?_,fun x o e=>?_,by rw [xL];exact C.sat.tok,⟨fun x=>?_⟩⟩,Hp.le_refl _,by rw [xL];exact Nat.le_refl _,fun x _ hx=>?_,fun x hx hfx=>?_,fun x hx hrx=>absurd hrx hx,fun e he=>by simp at he,fun e he=>by simp at he,fun o ho=>?_⟩
  ·unfold World.hp;rw [hne x (by rintro rfl;rw [hrd] at e;cases e)]
   exact C.sat.ro.h _ _ e
  ·by_cases hx:x=d
   ·subst hx;rw [wV] at e;cases e;exact heap_setChan_self w hwd _ _ _ _ _ _
   ·rw [xA hx] at e;unfold World.hp;rw [hne x hx];exact C.sat.own _ _ e hg
  ·by_cases hx:x=d
   ·subst hx;rw [wV] at e;cases e;constructor
    ·intro h;cases h
    ·intro h;exact absurd h hdt
   ·rw [xA hx] at e;exact C.sat.gh _ _ e
  ·by_cases hx:x=d
   ·subst hx;exact .inl hrd
   ·rw [xA hx];exact C.sat.apart.h x
  ·refine hne x ?_;rintro rfl;rcases hx with hx|hx
   ·rw [hd] at hx;cases hx
   ·exact hdt hx
  ·by_cases e:x=d
   ·subst e;rw [hd] at hfx;cases hfx
   ·rw [xA e] at hx;exact absurd hfx hx
  ·rwa [xA (Ne.symm hdt)] at ho
 have o:Ops t 0 E.tok w.heap.size (w.setChan d 0 #[] true n n false).heap.size r f (MemOp.ofEvents 0 a.frame.fn a.frame.place (closeEvents d)):=by
  rw [closeOps];refine ⟨fun op hop=>?_,fun op hop x hx=>?_,?_⟩
  ·simp only [List.mem_toArray,List.mem_cons,List.not_mem_nil,or_false] at hop;rcases hop with rfl|rfl <;> rfl
  ·simp only [List.mem_toArray,List.mem_cons,List.not_mem_nil,or_false] at hop;rcases hop with rfl|rfl
   ·simp only [MemAct.touch?,Option.some.injEq] at hx;subst hx;refine ⟨⟨d,rfl,.inr (.inl ⟨zL hd,hdt⟩)⟩,fun b hb=>?_⟩;cases hb;rw [xL];exact xI hwd
   ·cases hx
  ·refine Deaf_quiet fun op hop d=>?_;simp only [List.mem_toArray,List.mem_cons,List.not_mem_nil,or_false] at hop;rcases hop with rfl|rfl <;> rfl
 obtain ⟨gs',e1,_,e2,_⟩:=C.own' (sl:=sl) (hst w hwd) k o;exact ⟨gs',_,e1,e2⟩
def KE (P:Program) (E:Env) (Post:Value->World->Prop) (N:Nat) (g:Goroutine) (r f:Hp):Prop:=
 g.status=.running/\f E.tok=some yY/\∀ w,Sat E w r f->N<=w.heap.size->∃ v w' es r' f',stepG P true g w=.ended (.done v) w' es/\Kept E w r f w' es r' f'/\Post v w'
theorem zGW {i:Nat} {o:Outcome} (hi:gs[i]?=some g) (h:stepG P (i == 0) g w=.ended o w' es):runT P (crowd gs w sl) i=(.ended o w',MemOp.ofEvents i g.frame.fn g.frame.place es):=runT_many_ended hi h
theorem zFu {z:Value} (hrun:a.status=.running) (hst:∀ w,stepG P true a w=.comm a #[rcase c z] true (.recv true) w #[]) (hf:f E.tok=some (yH c d vs))
  (next:∀ v vs',vs=v::vs'->∀ md gs w sl t q,MI P E W0 md (Conc.served a (recvd true v true)) r (f.put E.tok (yH c d vs')) gs w t q->QL P Post (crowd gs w sl) t)
  (fin:vs=[]->f d=none->∀ md gs w sl t q,MI P E W0 md (Conc.served a (recvd true z false)) r ((f.put d (chO false 0)).put E.tok yY) gs w t q->QL P Post (crowd gs w sl) t) :
  ∀ md gs w sl t q,MI P E W0 md a r f gs w t q->QL P Post (crowd gs w sl) t:=by
 have found:∀ {b:Goroutine},b.status=.running->b.frame=a.frame->b.callers=a.callers->b.dying=a.dying->∀ {m},∀ gs w sl t q,vs=[]->MI P E W0 (.shut c d m) b r f gs w t q->Mv P Post gs w sl 0 t:=by
  intro b hb h1 h2 h3 m gs w sl t q hv C;have hfd:f d=none:=C.st.od.f;obtain ⟨gs',ops,e1,e2,e3⟩:=C.found (sl:=sl) (a':=a) hb (z:=z) (fun w=>by rw [<-hst w];exact stepG_same h1 h2 h3 w) hf
  exact .inl ⟨_,_,e1,fin hv hfd _ _ _ _ _ _ e3⟩
 refine WW hrun fun md gs w sl t q C=>?_;cases md with
 | idle=>exact absurd (C.tok _ hf).symm JY
 | shut c' d' m=>
  obtain ⟨rfl,rfl,rfl⟩:=Xf (C.tok _ hf);exact found hrun rfl rfl rfl gs w sl t q rfl C
 | talk c' d' vs' j rS fS=>
  obtain ⟨rfl,rfl,rfl⟩:=Xf (C.tok _ hf);obtain ⟨gj,hj,hsn⟩:=C.st.snd;have hj0:=C.st.j0;cases hsn with
  | @park g0 v zc zd vs' hv hfS kk=>
   subst hv;obtain ⟨gs',ops,w',e1,e2⟩:=C.take (sl:=sl) hst hf hj kk hfS;exact .inl ⟨_,_,e1,next _ _ rfl _ _ _ _ _ _ e2⟩
  | run hs kk=>
   obtain ⟨k0,hc⟩:=C.st.hc;have hw:∀ cc∈#[rcase c z],NoWays w (gs.setIfInBounds 0 ph) cc:=by
    intro cc hcc;simp only [List.mem_toArray,List.mem_cons,List.not_mem_nil,or_false] at hcc;subst hcc;refine ways_recv_none hc (partners_nil fun x y hy=>?_);rcases getElem?_stand gs 0 x y hy with ⟨_,rfl⟩|⟨hx,hy'⟩
    ·exact offersAt_ph _ _
    ·refine offersAt_of_not_blocked (fun hb=>?_) _ _;by_cases e:x=j
     ·subst e;rw [hj] at hy';cases hy';rw [hs] at hb;cases hb
     ·rcases (C.leave x y (by omega) (fun z=>e z) hy').status with e|e <;> rw [e] at hb <;> cases hb
   have hT:=crowd_waits (P:=P) (sl:=sl) (i:=0) C.main (show stepG P (0 == 0) a w=_ from hst w) hw;rw [ofEvents_none] at hT;refine .inl ⟨_,_,hT,?_⟩;rw [Array.append_empty];refine zGz hrun hf (fun v vs' hv rS fS gs w sl t q C=>next v vs' hv _ gs w sl t q C) (fun hv m gs w sl t q C=>?_) kk _ _ _ _ _ (C.put0 _ fun _ _ _ _ _ _ e=>by cases e;omega) (by rw [Array.getElem?_setIfInBounds_ne (by omega)];exact hj)
   exact pump (md:=.shut c d m) (a:={ parked a #[rcase c z] (.recv true) with status:=.running }) (.run rfl) a (.inl rfl) (fun _ gs w sl t q C _=>found (b:={ parked a #[rcase c z] (.recv true) with status:=.running }) rfl rfl rfl rfl gs w sl t q hv C) (fun j h=>h.elim) gs w sl t q C (fun j h=>h.elim)
def Aft (W0:World) (Post:Value->World->Prop) (v:Value) (w:World):Prop:=Post v w/\W0.heap.size<=w.heap.size/\∀ n,n<W0.heap.size->w.heap[n]?=W0.heap[n]?
theorem Safe.ends (h:Safe P E (XM P E) (KE P E Post W0.heap.size) a r f) (hE:E.main=true):∀ md gs w sl t q,MI P E W0 md a r f gs w t q->QL P (Aft W0 Post) (crowd gs w sl) t:=by
 induction h with
 | @stop a r f hK=>
  obtain ⟨h1,h2,h3⟩:=hK;refine WW h1 fun md gs w sl t q C=>?_;cases md with
  | shut c d m=>exact absurd (C.tok _ h2) JY
  | talk c d vs j rS fS=>exact absurd (C.tok _ h2) JY
  | idle=>
   obtain ⟨v,w',es,r',f',e1,k,hp⟩:=h3 w C.sat C.oldW.1;have hp:Aft W0 Post v w':=⟨hp,Nat.le_trans C.oldW.1 k.size,fun n hn=>(k.keep n (Nat.lt_of_lt_of_le hn C.oldW.1) (by
    by_cases e:f n=none
    ·exact .inl e
    ·rcases C.oldF n e with z|z
     ·exact .inr z
     ·omega)).trans (C.oldW.2 n hn)⟩
   have hT:=zGW (sl:=sl) (i:=0) C.main (show stepG P (0 == 0) a w=_ from e1);have o:=k.ops t 0 a.frame.fn a.frame.place;have T:=C.tri.step (Ex':=fun _=>False) C.knw o k.size (fun i h=>h) (.inl rfl);refine .inr ⟨_,_,_,hT,fun w0 sl0=>⟨v,rfl,hp,T.clean,T.handed,⟨fun x hx=>?_,rfl⟩,fun i x hx hi=>?_⟩⟩
   ·obtain ⟨i,hi⟩:=List.mem_iff_getElem?.1 hx;rw [List.getElem?_drop] at hi;exact ⟨_,(C.leave (1+i) x (by omega) (fun z=>z) (by simpa [crowd] using hi)).leaves⟩
   ·have hq:=C.leave i x (by omega) (fun z=>z) hx
    refine ⟨q i,?_⟩;have e:(t++MemOp.ofEvents 0 a.frame.fn a.frame.place es).deaf i (t++MemOp.ofEvents 0 a.frame.fn a.frame.place es).size=Deaf t i:=Deaf_other t (g:=i) (g':=0) (by omega) _ o.g
    rw [e];exact hq.hears _
 | @step a r f N hs h ih' ih=>
  refine WW hs fun md gs w sl t q C=>?_;obtain ⟨e1,k⟩:=h w C.sat;rw [hE] at e1;obtain ⟨gs',e2,e3,e4,_⟩:=C.own (sl:=sl) e1 k;exact .inl ⟨_,_,e2,ih w C.sat _ _ _ _ _ _ e4⟩
 | @ghost a r f r' f' hr hf hd hn hg kk ih=>exact fun md gs w sl t q C=>ih _ _ _ _ _ _ (C.ghost hr hf hd hn hg)
 | @big a r f S hX ih' ih=>
  cases hX with
  | go hs ht hc hd hcd hst hM hS htM htS hch kid k=>
   refine WW hs fun md gs w sl t q C=>?_;obtain ⟨gs',ops,e1,e2⟩:=C.spawn (sl:=sl) ht hc hd hcd (hst w) hM hS htM htS hch kid;exact .inl ⟨_,_,e1,ih _ _ _ k _ _ _ _ _ _ e2⟩
  | recv hs ht hst k=>
   exact zFu hs hst ht (fun v' vs' hv md gs w sl t q C=>by cases hv;exact ih _ _ _ k _ _ _ _ _ _ C) (fun hv=>by cases hv)
  | fin hs ht hst k=>
   exact zFu hs hst ht (fun v' vs' hv=>by cases hv) (fun _ hfd md gs w sl t q C=>ih _ _ _ (k hfd) _ _ _ _ _ _ C)
  | shut hs hd hs' hst k=>
   refine WW hs fun md gs w sl t q C=>?_;obtain ⟨gs',ops,e1,e2⟩:=C.shutd (sl:=sl) hd hst;exact .inl ⟨_,_,e1,ih _ _ _ k _ _ _ _ _ _ e2⟩
end
end Go.KL
end
