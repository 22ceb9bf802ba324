/- Texts joined by a program of ours: Kzc Kzd Kze Kzf Va Vb Gc Gd Ge Gi Gj Gk Gl Vc Vd Vg Vf. -/
import Derived.Test.YtjcbjclhagobiaaGreatJac
import Derived.Test.YtjcbjclhagobiaaGreatJad
import Derived.Test.YtjcbjclhagobiaaGreatJae
import Derived.Test.YtjcbjclhagobiaaGreatJag
import Derived.Test.YtjcbjclhagobiaaGreatJan
import Derived.Test.YtjcbjclhagobiaaGreatJao
import Derived.Conc.EventLaws
import Derived.Conc.QuitsD
import Derived.ProofKit
import Derived.Carry
import Derived.ChangeArms
import Derived.Deep.Slices
import Derived.Conc.Holds
import Derived.Conc.LeavingOf
import Derived.Test.YtjcbjclhagobiaaGreatRows
set_option linter.all false
section
namespace Go.KL
open Go Go.Conc
def ZT (ats:Array TypeId) (ty:TypeId) (c:Nat):Deferred:={ target:=.builtin .close ats ty #[false],args:=#[.chan (some c)] }
section
variable {P:Program} {E:Env} {X:Xs} {b:Fx} {Post:Value->List HP->Prop} {k:List Item} {L:Tm} {s:List HP} {l rest:List Oper} {d:Nat} {dst:Option Nat} {ty:TypeId} {pos:String} {af:Array Edge} {gd:Option (Nat×Bool)}
theorem zH6 {ats:Array TypeId} {t:TypeId} {cc:Array Bool} {c j:Nat} {w:World} (hc:w.heap[c]?=some (chO false j)) (es:Array Event):(invoke (.builtin .close ats t cc) #[.chan (some c)]).runT P w es=(.ok (.value (.tuple #[])) (w.setChan c 0 #[] true j j false),es++closeEvents c):=by
 unfold invoke;simp only;unfold Go.builtin;simp only;show (Sem.bind _ _).runT P w es=_;rw [Sem.runT_bind'];have:(Builtin.close_ ats t #[.chan (some c)]).runT P w es=(.ok (.tuple #[]) (w.setChan c 0 #[] true j j false),es++closeEvents c):=by
  rw [Sem.runT_eq,run_close_open _ _ hc,events_close_open _ _ hc];have e1:∀ x y:Event,(es.push x).push y=es++#[x,y]:=fun x y=>by apply Array.ext';simp
  rw [e1];rfl
 rw [this];rfl
theorem zG1 {fn:FuncId} {c:Nat} (hq:(P.funcs[fn]?).any (·.norace)=false):seen P fn (closeEvents c)=closeEvents c:=
 seen_eq hq (by intro e he f;simp only [closeEvents,List.mem_toArray,List.mem_cons,List.not_mem_nil,or_false] at he;rcases he with rfl|rfl <;> simp)
theorem Qr {mn:Bool} {fr:Frame} {cs:List Frame} {w:World} {ats:Array TypeId} {t:TypeId} {c j:Nat} (hm:fr.mode=.returning) (hd:fr.defers=[ZT ats t c]) (hc:w.heap[c]?=some (chO false j)) (hq:(P.funcs[fr.fn]?).any (·.norace)=false) :
  stepG P mn (G fr cs) w=.go (G { fr with defers:=[] } cs) (w.setChan c 0 #[] true j j false) (closeEvents c):=by
 have hr:=zH6 (P:=P) (ats:=ats) (t:=t) (cc:=#[false]) hc #[];have hst:stepG P mn (G fr cs) w=callDeferred P { fr with defers:=[] } cs none (ZT ats t c) w:=by
  obtain ⟨fn,tmps,todo,defers,mode,kind,ro⟩:=fr;dsimp only at hm hd;subst hm;subst hd;rfl
 rw [hst];unfold callDeferred;rw [if_neg (by simp [ZT])]
 show GStep.after (seen P fr.fn _) _=_;unfold ZT;simp only;rw [hr];simp only [Array.empty_append];rw [zG1 hq];rfl
theorem zGt {t elem:TypeId} {bytes:Nat} {x:Operand} {kk:IntKind} {dir:ChanDir} (h:TyU P t (.chan dir elem)) (he:TyB P elem bytes) (hx:ev L x=some (.int kk 0)) :
  Ex P E X b L s ⟨dst,.makeChan t x,ty,pos,af,gd⟩ (fun v s'=>∃ bb,v=.chan (some bb)/\s'=blk bb (chO false 0)::s):=by
 obtain ⟨ti,hti,hb⟩:=he.h;refine Ex.op rfl (.inr rfl) (fun e' he=>?_);unfold execOp;simp only [he _ _ hx];refine T.bind (Q:=fun x s'=>∃ bb,x=.chan (some bb)/\s'=blk bb (chO false 0)::s) ?_ ?_
 ·unfold Instr.makeChan;refine T.calmBind (a:=(0:Int)) ((Calm.pure _).bind (Calm.pure _)) ?_;refine T.calmBind (Calm.underlying h.h) ?_;simp only;refine T.calmBind (Calm.typeInfo hti) ?_;rw [if_neg (by simp)]
  refine T.bind (Q:=fun x s'=>s'=blk x (chO false 0)::s) (T.ext (T.new _ rfl) fun a A h=>by rw [h];rfl) ?_
  rintro bb s' rfl;exact T.calm (Calm.pure _) ⟨bb,rfl,rfl⟩
 ·rintro x B ⟨bb,e1,e2⟩;exact T.calm (Calm.pure _) ⟨_,.inl rfl,bb,e1,e2⟩
theorem zEq {n:Nat} {o o':Obj} {F:List HP} {r f:Hp} (h:sep (blk n o::F) r f):sep (blk n o'::F) r (f.put n o'):=by
 obtain ⟨f1,f2,d,l1,l2,a,k⟩:=h;have a:f1 n=some o:=a;have hn:f2 n=none:=by
  rcases d.h n with x|x
  ·rw [a] at x;cases x
  ·exact x
 refine ⟨Hp.one n o',f2,⟨fun m=>?_⟩,⟨fun m x e=>?_⟩,⟨fun m x e=>?_⟩,Hp.one_same n o',k⟩
 ·by_cases e:m=n
  ·subst e;exact .inr hn
  ·exact .inl (by simp [Hp.one,e])
 ·obtain ⟨rfl,rfl⟩:=Hp.one_some e;exact wV
 ·have:m≠n:=by rintro rfl;rw [hn] at e;cases e
  rw [xA this];exact l2.h _ _ e
theorem zCD {fnc:Func} {tmps:Array Value} (h:fnc.results.all (fun r=>match r with | .tmp _=>true|_=>false)=true):∃ v,Calm P (results fnc tmps) v:=by
 unfold results;have:∃ vs,Calm P (fnc.results.mapM fun
  | .tmp t=>(pure (tmps.getD t undef):Sem Value)
  | .cell a t=>do loadVar t (<-asAddr (tmps.getD a undef))) vs:=by
  rw [Array.mapM_eq_mapM_toList,map_eq_pure_bind];have hl:∀ rs:List ResultVar,(∀ r∈rs,(match r with | .tmp _=>true|_=>false)=true)->∃ vs,Calm P (rs.mapM fun
   | .tmp t=>(pure (tmps.getD t undef):Sem Value)
   | .cell a t=>do loadVar t (<-asAddr (tmps.getD a undef))) vs:=by
   intro rs;induction rs with
   | nil=>exact fun _=>⟨[],Calm.pure _⟩
   | cons r rs ih=>
    intro hr;obtain ⟨vs,hvs⟩:=ih fun x hx=>hr x (List.mem_cons_of_mem _ hx);have h0:=hr r (List.mem_cons_self ..);cases r with
    | cell=>cases h0
    | tmp t=>
     refine ⟨tmps.getD t undef::vs,?_⟩;rw [List.mapM_cons];exact (Calm.pure _).bind (hvs.bind (Calm.pure _))
  obtain ⟨vs,hvs⟩:=hl fnc.results.toList (fun r hr=>by
   rw [Array.all_eq_true_iff_forall_mem] at h;exact h r (Array.mem_toList_iff.1 hr))
  exact ⟨vs.toArray,hvs.bind (Calm.pure _)⟩
 obtain ⟨vs,hvs⟩:=this;exact ⟨_,hvs.bind (Calm.pure _)⟩
def zNZ:Operand->Bool
 | .const _=>true
 | _=>false
theorem zAW {mn:Bool} {tmps:Array Value} {cs:List Frame} {w:World} {all:Array Oper} {i:Nat} {is:List Nat} {x:Operand} {ats:Array TypeId} {c:Nat} (h:all[i]?=some ⟨none,.defer ⟨.builtin .close,#[x],ats⟩,ty,pos,af,gd⟩) (hw:Region.wanted ⟨none,.defer ⟨.builtin .close,#[x],ats⟩,ty,pos,af,gd⟩ (yielded all tmps)=true) (hro:b.roundOf=none)
  (hc:zNZ x=false) (hx:(b.at tmps (.inRegion all (i::is)::k)).eval x=.chan (some c)) :
  stepG P mn (G (b.at tmps (.inRegion all (i::is)::k)) cs) w=.go (G (({ b with defers:=ZT ats ty c::b.defers }:Fx).at tmps (.inRegion all is::k)) cs) w (seen P b.fn (if b.kind == .early then #[] else #[])):=by
 rw [Zw h hw (.inl hro)];have e:execOp (b.at tmps (.inRegion all (i::is)::k)).eval ⟨none,.defer ⟨.builtin .close,#[x],ats⟩,ty,pos,af,gd⟩=pure (.defer (ZT ats ty c)):=by
  unfold execOp;simp only [resolve,List.map_toArray,List.map_cons,List.map_nil,hx];cases x <;> first|(cases hc;done)|rfl
 rw [e];have e2:(({ b with defers:=ZT ats ty c::b.defers }:Fx).at tmps (.inRegion all (i::is)::k)).finish undef=({ b with defers:=ZT ats ty c::b.defers }:Fx).at tmps (.inRegion all is::k):=by
  rw [wE h];rfl
 unfold stepG.apply;simp only [if_true];show GStep.after _ (.go { frame:=(({ b with defers:=ZT ats ty c::b.defers }:Fx).at tmps (.inRegion all (i::is)::k)).finish undef,callers:=cs,status:=.running,dying:=none } w)=_
 rw [e2];rfl
theorem Sat.run_calm {w:World} {r f:Hp} {F A:List HP} {α:Type} {m:Sem α} {v v0:α} (hs:Sat E w r f) (hA:sep (A++F) r f) (h:T P E m A (fun x B=>x=v/\B=A)) (hc:Calm P m v0):v0=v:=by
 obtain ⟨a,w',es',r',f',A',e1,_,⟨hx,_⟩,_⟩:=h w r f F #[] hs hA;rw [hc w #[]] at e1;injection e1 with e1 _
 injection e1 with e1 _
 rw [e1,hx]
theorem zGL {x:Operand} {ats:Array TypeId} {c:Nat} {fnc:Func} (g:WL P E (XM P E) { b with defers:=[ZT ats ty c] } (fun v t=>∃ t' j,t=blk c (chO false j)::t'/\Post v t') l rest k L s) (hE:E.main=true) (hb:b.defers=[]) (hro:b.roundOf=none) (hf:P.funcs[b.fn]?=some fnc) (hq:fnc.norace=false)
  (hres:fnc.results.all (fun r=>match r with | .tmp _=>true|_=>false)=true) (hc:zNZ x=false) (hx:ev L x=some (.chan (some c))) (hw:Want L l ⟨none,.defer ⟨.builtin .close,#[x],ats⟩,ty,pos,af,gd⟩ true) :
  WL P E (XM P E) b Post l (⟨none,.defer ⟨.builtin .close,#[x],ats⟩,ty,pos,af,gd⟩::rest) k L s:=by
 intro n hrest K cs F hr tmps r f hok hs;obtain ⟨h1,h2⟩:=vD hrest;have e:List.range' n ((⟨none,.defer ⟨.builtin .close,#[x],ats⟩,ty,pos,af,gd⟩:Oper)::rest).length=n::List.range' (n+1) rest.length:=by simp [List.range'_succ]
 rw [e];have h1:l.toArray[n]?=some (⟨none,.defer ⟨.builtin .close,#[x],ats⟩,ty,pos,af,gd⟩:Oper):=by simpa using h1
 have hx':(b.at tmps (.inRegion l.toArray (n::List.range' (n+1) rest.length)::k)).eval x=.chan (some c):=Zd hok hx;refine .next rfl fun w hsat=>⟨_,w,_,r,f,zAW h1 (wY (fun t _ v e=>hok.h t v e) hw) hro hc hx',wR (Kept.refl hsat) (fun e he=>?_),?_⟩
 ·have:=wH he
  split at this <;> simp at this
 rw [hb];refine g (n+1) h2 K cs F ?_ tmps r f hok hs;clear hsat hs hok hx' r f tmps;intro fr v s' t r f hl he ⟨t',j,ht,hp⟩ hss;subst ht;obtain ⟨l1,l2,l3,l4,⟨l5,_,fnc',l6,l7⟩|⟨_,l5,_⟩⟩:=hl
 case inr=>rw [show ({ b with defers:=[ZT ats ty c] }:Fx).roundOf=b.roundOf from rfl,hro] at l5;cases l5
 have l6:P.funcs[b.fn]?=some fnc':=l6;rw [hf] at l6;cases l6
 obtain ⟨v0,hv0⟩:=zCD (P:=P) (tmps:=fr.tmps) hres;by_cases hex:∃ w,Sat E w r f
 case neg=>exact .next rfl fun w hsat=>absurd ⟨w,hsat⟩ hex
 obtain ⟨w0,hsat0⟩:=hex;have hv:v0=v:=hsat0.run_calm hss l7 hv0;subst hv;have hs2:sep (blk c (chO false j)::(t'++F)) r f:=by
  obtain ⟨f1,f2,d,k1,k2,a1,a2⟩:=zD.1 hss;exact zD.2 ⟨f1,f2,d,k1,k2,he _ _ a1,a2⟩
 have hfc:f c=some (chO false j):=by
  obtain ⟨f1,f2,d,k1,k2,a1,a2⟩:=hs2;exact k1.h _ _ a1
 refine .big (S:=fun g' r' f'=>g'=G { fr with defers:=[] } cs/\r'=r/\f'=f.put c (chO true j)) (.shut (d:=c) (j:=j) (g':=G { fr with defers:=[] } cs) rfl hfc rfl (fun w hw=>?_) ⟨rfl,rfl,rfl⟩) ?_
 ·refine Qr l5 l3 hw ?_;rw [l1];show (P.funcs[b.fn]?).any _=false;rw [hf];exact hq
 ·rintro _ _ _ ⟨rfl,rfl,rfl⟩;have hs3:=zEq (o':=chO true j) hs2;refine hr { fr with defers:=[] } v0 t' t' _ _ ⟨l1,l2,hb.symm,l4,.inl ⟨l5,hro,fnc,hf,T.calm hv0 ⟨rfl,rfl⟩⟩⟩ (fun _ _ h=>h) hp ?_
  obtain ⟨f1,f2,d,k1,k2,a1,a2⟩:=hs3;exact wF (Hp.le_refl _) k2 a2
theorem zCE {tmps:Array Value} {cs:List Frame} {w:World} {all:Array Oper} {i:Nat} {is:List Nat} {o:Oper} {ct elem:TypeId} {dir:ChanDir} {zv:Value} {x:Operand} {c:Nat} (ho:o.op=.recv ct x true) (h:all[i]?=some o) (hw:Region.wanted o (yielded all tmps)=true)
  (hu:TyU P ct (.chan dir elem)) (hz:Calm P (zeroValue elem) zv) (hx:(b.at tmps (.inRegion all (i::is)::k)).eval x=.chan (some c)) :
  stepG P true (G (b.at tmps (.inRegion all (i::is)::k)) cs) w=.comm (G (b.at tmps (.inRegion all (i::is)::k)) cs) #[rcase c zv] true (.recv true) w #[]:=by
 rw [Zw h hw (.inr (by rw [ho];rfl))]
 have e:Calm P (execOp (b.at tmps (.inRegion all (i::is)::k)).eval o) (.comm #[rcase c zv] true (.recv true)):=by
  unfold execOp;simp only [ho,hx];refine (Calm.underlying hu.h).bind ?_;exact hz.bind (Calm.pure _)
 unfold stepG.apply;simp only [if_true,e w #[]];have hs:seen P b.fn (if b.kind == .early then #[] else #[]) = #[]:=by
  have:(if b.kind == CallKind.early then (#[]:Array Event) else #[]) = #[]:=by split <;> rfl
  rw [this];exact seen_none _ _
 show GStep.after (seen P b.fn (if b.kind == .early then #[] else #[])) _=_;rw [hs];rfl
theorem zDY {n:Nat} {o:Obj} {F:List HP} {r f:Hp} (h:sep (blk n o::F) r f):f n=some o:=by
 obtain ⟨f1,f2,d,k1,k2,a1,a2⟩:=h;exact k1.h _ _ a1
theorem zBZ {A F F':List HP} {B:HP} {r f:Hp} (h:sep (A++F') r f) (g:∀ r f,sep A r f->sep (B::F) r f):sep (B::(F++F')) r f:=by
 obtain ⟨f1,f2,d,l1,l2,a1,a2⟩:=zD.1 h;exact (zD (s:=B::F)).2 ⟨f1,f2,d,l1,l2,g _ _ a1,a2⟩
theorem zPB {ct elem:TypeId} {dir:ChanDir} {agg:Bool} {sz:Nat} {z:List Value} {x:Operand} {c d':Nat} {v:Value} {vs:List Value} {F:List HP} (hE:E.main=true) (g:WL P E (XM P E) b Post l rest k ((d,.tuple #[v,.bool true])::L) (blk E.tok (yH c d' vs)::F))
  (hx:ev L x=some (.chan (some c))) (hs:Sel s (blk E.tok (yH c d' (v::vs))) F) (hu:TyU P ct (.chan dir elem)) (he:TyN P elem agg sz z) (hw:Want L l ⟨some d,.recv ct x true,ty,pos,af,gd⟩ true) (hd:Nat.blt d b.n=true) :
  WL P E (XM P E) b Post l (⟨some d,.recv ct x true,ty,pos,af,gd⟩::rest) k L s:=by
 obtain ⟨zv,hzv,_⟩:=Calm.zeroValue he;intro n hrest K cs F' hr tmps r f hok hss;obtain ⟨h1,h2⟩:=vD hrest;have e:List.range' n ((⟨some d,.recv ct x true,ty,pos,af,gd⟩:Oper)::rest).length=n::List.range' (n+1) rest.length:=by simp [List.range'_succ]
 rw [e];have h1:l.toArray[n]?=some (⟨some d,.recv ct x true,ty,pos,af,gd⟩:Oper):=by simpa using h1
 have hx':(b.at tmps (.inRegion l.toArray (n::List.range' (n+1) rest.length)::k)).eval x=.chan (some c):=Zd hok hx;have hs2:=zBZ hss fun r f h=>hs.out h;refine .big (S:=fun g' r' f'=>g'=G (b.at (putd (some d) (.tuple #[v,.bool true]) tmps) (.inRegion l.toArray (List.range' (n+1) rest.length)::k)) cs/\r'=r/\f'=f.put E.tok (yH c d' vs)) (.recv (c:=c) (d:=d') (v:=v) (z:=zv) (vs:=vs) rfl (zDY hs2) (fun w=>zCE rfl h1 (wY (fun t _ v e=>hok.h t v e) hw) hu hzv hx') ⟨?_,rfl,rfl⟩) ?_
 ·unfold Conc.served recvd;simp only [if_true];show ({ frame:=(b.at tmps (.inRegion l.toArray (n::List.range' (n+1) rest.length)::k)).finish (.tuple #[v,.bool true]),callers:=cs,status:=.running,dying:=none,offers:=none }:Goroutine)=_;rw [wE h1];rfl
 ·rintro _ _ _ ⟨rfl,rfl,rfl⟩;have hs3:=zEq (o':=yH c d' vs) hs2;refine g (n+1) h2 K cs F' hr _ _ _ (VS (d:=some d) hok (fun x hx=>by cases hx;exact Yk hd)) ?_
  exact hs3
theorem zO6 {ct elem:TypeId} {dir:ChanDir} {agg:Bool} {sz:Nat} {z:List Value} {x:Operand} {c d':Nat} {F:List HP} (hE:E.main=true) (g:∀ zv,WL P E (XM P E) b Post l rest k ((d,.tuple #[zv,.bool false])::L) (blk E.tok yY::blk d' (chO false 0)::F))
  (hx:ev L x=some (.chan (some c))) (hs:Sel s (blk E.tok (yH c d' [])) F) (hu:TyU P ct (.chan dir elem)) (he:TyN P elem agg sz z) (hw:Want L l ⟨some d,.recv ct x true,ty,pos,af,gd⟩ true) (hd:Nat.blt d b.n=true) :
  WL P E (XM P E) b Post l (⟨some d,.recv ct x true,ty,pos,af,gd⟩::rest) k L s:=by
 obtain ⟨zv,hzv,_⟩:=Calm.zeroValue he;intro n hrest K cs F' hr tmps r f hok hss;obtain ⟨h1,h2⟩:=vD hrest;have e:List.range' n ((⟨some d,.recv ct x true,ty,pos,af,gd⟩:Oper)::rest).length=n::List.range' (n+1) rest.length:=by simp [List.range'_succ]
 rw [e];have h1:l.toArray[n]?=some (⟨some d,.recv ct x true,ty,pos,af,gd⟩:Oper):=by simpa using h1
 have hx':(b.at tmps (.inRegion l.toArray (n::List.range' (n+1) rest.length)::k)).eval x=.chan (some c):=Zd hok hx;have hs2:=zBZ hss fun r f h=>hs.out h;refine .big (S:=fun g' r' f'=>f d'=none/\g'=G (b.at (putd (some d) (.tuple #[zv,.bool false]) tmps) (.inRegion l.toArray (List.range' (n+1) rest.length)::k)) cs/\r'=r/\f'=(f.put d' (chO false 0)).put E.tok yY) (.fin (c:=c) (d:=d') (z:=zv) rfl (zDY hs2) (fun w=>zCE rfl h1 (wY (fun t _ v e=>hok.h t v e) hw) hu hzv hx') fun hfd=>⟨hfd,?_,rfl,rfl⟩) ?_
 ·unfold Conc.served recvd;simp only [if_true];show ({ frame:=(b.at tmps (.inRegion l.toArray (n::List.range' (n+1) rest.length)::k)).finish (.tuple #[zv,.bool false]),callers:=cs,status:=.running,dying:=none,offers:=none }:Goroutine)=_;rw [wE h1];rfl
 ·rintro _ _ _ ⟨hfd,rfl,rfl,rfl⟩;refine g zv (n+1) h2 K cs F' hr _ _ _ (VS (d:=some d) hok (fun x hx=>by cases hx;exact Yk hd)) ?_
  have hne:E.tok≠d':=by
   rintro e;have:=zDY hs2
   rw [e,hfd] at this;cases this
  obtain ⟨f1,f2,dd,k1,k2,a1,a2⟩:=hs2;have hf2:f2 d'=none:=k2.none hfd;have hft:f2 E.tok=none:=by
   rcases dd.h E.tok with x|x
   ·rw [show f1 E.tok=some _ from a1] at x;cases x
   ·exact x
  refine ⟨Hp.one E.tok yY,(Hp.one d' (chO false 0)).union f2,⟨fun m=>?_⟩,⟨fun m x e=>?_⟩,⟨fun m x e=>?_⟩,Hp.one_same ..,Hp.one d' (chO false 0),f2,⟨fun m=>?_⟩,Hp.le_union_left _ _,Hp.le_union_right ⟨fun m=>?_⟩,Hp.one_same ..,a2⟩
  ·by_cases em:m=E.tok
   ·subst em;right
    rw [Hp.union_none];exact ⟨by simp [Hp.one,hne],hft⟩
   ·exact .inl (by simp [Hp.one,em])
  ·obtain ⟨rfl,rfl⟩:=Hp.one_some e;exact wV
  ·unfold Hp.union at e;by_cases em:m=d'
   ·subst em;simp at e;subst e;rw [xA (Ne.symm hne)];exact wV
   ·have e2:f2 m=some x:=by simpa [Hp.one,em] using e
    have:m≠E.tok:=by rintro rfl;rw [hft] at e2;cases e2
    rw [xA this,xA em];exact k2.h _ _ e2
  ·by_cases em:m=d'
   ·subst em;exact .inr hf2
   ·exact .inl (by simp [Hp.one,em])
  ·by_cases em:m=d'
   ·subst em;exact .inr hf2
   ·exact .inl (by simp [Hp.one,em])
end
end Go.KL
end
section
namespace Go.KL
open Go Go.Conc
section
variable {P:Program} {E:Env} {X:Xs} {b:Fx} {Post:Value->List HP->Prop} {k:List Item} {L:Tm} {s:List HP} {l rest:List Oper} {d:Nat} {dst:Option Nat} {ty:TypeId} {pos:String} {af:Array Edge} {gd:Option (Nat×Bool)}
def zBh (P:Program) (ds:List Deferred):Frame:={ (default:Frame) with fn:=P.funcs.size,defers:=ds,mode:=.panicking [goexitEntry] }
def fnD (g:FuncId) (ca:Array Value):Deferred:={ target:=.fn (.func g) ca,args:=#[] }
theorem says {mn:Bool} {tmps:Array Value} {cs:List Frame} {w:World} {all:Array Oper} {i:Nat} {is:List Nat} {o:Oper} {nx:Next} (h:all[i]?=some o) (hw:Region.wanted o (yielded all tmps)=true) (hd:b.roundOf=none∨Op.isDefer o.op=false) (e:Calm P (execOp (b.at tmps (.inRegion all (i::is)::k)).eval o) nx) :
  stepG P mn (G (b.at tmps (.inRegion all (i::is)::k)) cs) w=stepG.apply P true (b.at tmps (.inRegion all (i::is)::k)) cs none (pure nx) w:=by
 rw [Zw h hw hd];unfold stepG.apply;simp only [if_true,e w #[]];rfl
theorem zF2 {fn:FuncId} {q:Bool}:seen P fn (if q then #[] else #[]) = #[]:=by
 have:(if q then (#[]:Array Event) else #[]) = #[]:=by split <;> rfl
 rw [this];exact seen_none _ _
theorem zNk {mn:Bool} {tmps:Array Value} {cs:List Frame} {w:World} {all:Array Oper} {i:Nat} {is:List Nat} {x:Operand} {g:FuncId} {ca:Array Value} {ats:Array TypeId} (h:all[i]?=some ⟨none,.go ⟨.value x,#[],ats⟩,ty,pos,af,gd⟩) (hw:Region.wanted ⟨none,.go ⟨.value x,#[],ats⟩,ty,pos,af,gd⟩ (yielded all tmps)=true)
  (hx:(b.at tmps (.inRegion all (i::is)::k)).eval x=.func (.func g) #[] ca) :
  stepG P mn (G (b.at tmps (.inRegion all (i::is)::k)) cs) w=.spawn (G (b.at tmps (.inRegion all is::k)) cs) (G (zBh P [fnD g ca]) []) w #[]:=by
 have e:Calm P (execOp (b.at tmps (.inRegion all (i::is)::k)).eval ⟨none,.go ⟨.value x,#[],ats⟩,ty,pos,af,gd⟩) (.spawn (fnD g ca)):=by
  unfold execOp;simp only [resolve,hx,Deferred.ofValue];have e0:(#[]:Array Value)++Array.map (b.at tmps (.inRegion all (i::is)::k)).eval #[] = #[]:=by simp
  rw [e0];exact (Calm.pure _).bind (Calm.pure _)
 rw [says h hw (.inr rfl) e];unfold stepG.apply;simp only [if_true];show GStep.after (seen P b.fn (if b.kind == .early then #[] else #[])) _=_;rw [zF2];show GStep.after #[] (if (P.follows .goNilFatal&&false&&_&&_) then _ else _)=_;rw [Bool.and_false,Bool.false_and,Bool.false_and,if_neg (by simp),wE h]
 rfl
theorem zAs {n:Nat} {o:Obj} {A:List HP} {r f:Hp} (h:sep A r f) (hn:f n=none):sep (blk n o::A) r (f.put n o):=by
 refine ⟨Hp.one n o,f,⟨fun m=>?_⟩,⟨fun m x e=>?_⟩,⟨fun m x e=>?_⟩,Hp.one_same ..,h⟩
 ·by_cases em:m=n
  ·subst em;exact .inr hn
  ·exact .inl (by simp [Hp.one,em])
 ·obtain ⟨rfl,rfl⟩:=Hp.one_some e;exact wV
 ·have:m≠n:=by rintro rfl;rw [hn] at e;cases e
  rw [xA this];exact e
theorem zPK {x:Operand} {g:FuncId} {ca:Array Value} {ats:Array TypeId} {c d':Nat} {vs:List Value} {A F:List HP} (hE:E.main=true) (gk:WL P E (XM P E) b Post l rest k L (blk E.tok (yH c d' vs)::F))
  (hsel:∀ r f,sep s r f->sep (blk E.tok yY::blk c (chO false 0)::blk d' (chO false 0)::(A++F)) r f)
  (kid:∀ r f,sep (blk E.tok (yH c d' vs)::A) r f->Safe P E.kid (XS P E) (KS P E) (G (zBh P [fnD g ca]) []) r f)
  (hx:ev L x=some (.func (.func g) #[] ca)) (hw:Want L l ⟨none,.go ⟨.value x,#[],ats⟩,ty,pos,af,gd⟩ true) :
  WL P E (XM P E) b Post l (⟨none,.go ⟨.value x,#[],ats⟩,ty,pos,af,gd⟩::rest) k L s:=by
 intro n hrest K cs F' hr tmps r f hok hss;obtain ⟨h1,h2⟩:=vD hrest;have e:List.range' n ((⟨none,.go ⟨.value x,#[],ats⟩,ty,pos,af,gd⟩:Oper)::rest).length=n::List.range' (n+1) rest.length:=by simp [List.range'_succ]
 rw [e];have h1:l.toArray[n]?=some (⟨none,.go ⟨.value x,#[],ats⟩,ty,pos,af,gd⟩:Oper):=by simpa using h1
 have hx':(b.at tmps (.inRegion l.toArray (n::List.range' (n+1) rest.length)::k)).eval x=.func (.func g) #[] ca:=Zd hok hx;obtain ⟨f1,f2,dd,l1,l2,a1,a2⟩:=zD.1 hss;obtain ⟨t1,t2,td,tl1,tl2,ta,tb⟩:=hsel _ _ a1;obtain ⟨c1,c2,cd,cl1,cl2,cA,cb⟩:=tb;obtain ⟨e1,e2,ed,el1,el2,eA,eb⟩:=cb;obtain ⟨fA,fF,fd,fl1,fl2,fa,fb⟩:=zD.1 eb;have ta:t1 E.tok=some yY:=ta;have cA:c1 c=some (chO false 0):=cA;have eA:e1 d'=some (chO false 0):=eA;have ht2:t2 E.tok=none:=(td.h E.tok).resolve_left (by rw [ta];simp)
 have hc2:c2 c=none:=(cd.h c).resolve_left (by rw [cA];simp)
 have he2:e2 d'=none:=(ed.h d').resolve_left (by rw [eA];simp)
 have hf2:∀ m,f1 m≠none->f2 m=none:=fun m hm=>(dd.h m).resolve_left hm;have hft:f E.tok=some yY:=l1.h _ _ (tl1.h _ _ ta);have hfc:f c=some (chO false 0):=l1.h _ _ (tl2.h _ _ (cl1.h _ _ cA));have hfd:f d'=some (chO false 0):=l1.h _ _ (tl2.h _ _ (cl2.h _ _ (el1.h _ _ eA)));have hcd:c≠d':=by
  rintro rfl;have:=cl2.h _ _ (el1.h _ _ eA)
  rw [show c2 c=some _ from el1.h _ _ eA] at hc2;cases hc2
 have hAe:fA.le c2:=fl1.trans el2;have hFe:fF.le c2:=fl2.trans el2;have hAt:fA E.tok=none:=(hAe.trans cl2).none ht2;have hFt:fF E.tok=none:=(hFe.trans cl2).none ht2;have hM0:fF.disj f2:=⟨fun m=>by
  by_cases em:fF m=none
  ·exact .inl em
  ·obtain ⟨o,ho⟩:=Option.ne_none_iff_exists'.1 em;exact .inr (hf2 m (by rw [tl2.h _ _ ((hFe.trans cl2).h _ _ ho)];simp))⟩
 have hf2t:f2 E.tok=none:=hf2 _ (by rw [tl1.h _ _ ta];simp)
 have hsM:sep (F++F') r (fF.union f2):=zD.2 ⟨fF,f2,hM0,Hp.le_union_left _ _,Hp.le_union_right hM0,fb,a2⟩;refine .big (S:=fun g' r' f'=>g'=G (b.at tmps (.inRegion l.toArray (List.range' (n+1) rest.length)::k)) cs/\r'=r/\f'=(fF.union f2).put E.tok (yH c d' vs)) (.go (c:=c) (d:=d') (vs:=vs) (fM:=(fF.union f2).put E.tok (yH c d' vs)) (fS:=fA.put E.tok (yH c d' vs)) rfl hft hfc hfd hcd (fun w=>zNk h1 (wY (fun t _ v e=>hok.h t v e) hw) hx') ?_ ?_ wV wV rfl (kid r _ (zAs fa hAt)) ⟨rfl,rfl,rfl⟩) ?_
 ·intro m o hm ho;rw [xA hm] at ho ⊢;unfold Hp.union at ho;cases hF:fF m with
  | some y=>
   rw [hF] at ho;have:y=o:=by simpa using ho
   subst this;refine ⟨l1.h _ _ ((hFe.trans (cl2.trans tl2)).h _ _ hF),?_,?_,?_⟩
   ·exact (fd.h m).resolve_right (by rw [hF];simp)
   ·rintro rfl;have:=hFe.h _ _ hF;rw [hc2] at this;cases this
   ·rintro rfl;have:=fl2.h _ _ hF;rw [he2] at this;cases this
  | none=>
   rw [hF] at ho;have ho:f2 m=some o:=by simpa using ho
   have hf1:f1 m=none:=(dd.h m).resolve_right (by rw [ho];simp)
   refine ⟨l2.h _ _ ho,(hAe.trans (cl2.trans tl2)).none hf1,?_,?_⟩
   ·rintro rfl;rw [tl2.h _ _ (cl1.h _ _ cA)] at hf1;cases hf1
   ·rintro rfl;rw [tl2.h _ _ (cl2.h _ _ (el1.h _ _ eA))] at hf1;cases hf1
 ·intro m o hm ho;rw [xA hm] at ho;refine ⟨l1.h _ _ ((hAe.trans (cl2.trans tl2)).h _ _ ho),?_,?_⟩
  ·rintro rfl;have:=hAe.h _ _ ho;rw [hc2] at this;cases this
  ·rintro rfl;have:=fl1.h _ _ ho;rw [he2] at this;cases this
 ·rintro _ _ _ ⟨rfl,rfl,rfl⟩;refine gk (n+1) h2 K cs F' hr _ _ _ hok ?_;refine zAs hsM ?_;rw [Hp.union_none];exact ⟨hFt,hf2t⟩
end
end Go.KL
end
section
namespace Go.KL
open Go Go.Conc
section
variable {P:Program} {E:Env} {X:Xs} {b:Fx} {Post:Value->List HP->Prop} {k:List Item} {L:Tm} {s:List HP} {l rest:List Oper} {d:Nat} {dst:Option Nat} {ty:TypeId} {pos:String} {af:Array Edge} {gd:Option (Nat×Bool)}
class TyZv (P:Program) (t:TypeId):Prop where
 h:∃ v,Calm P (zeroValue t) v
theorem TyZv.of {t:TypeId} (h:((P.info? t).bind (·.zero)).isSome=true):TyZv P t:=⟨by
 cases hi:P.info? t with
 | none=>rw [hi] at h;cases h
 | some i=>
  rw [hi] at h;cases hz:i.zero with
  | none=>simp [hz] at h
  | some v=>
   refine ⟨v,(Calm.typeInfo hi).bind ?_⟩;rw [hz];exact Calm.pure _⟩
theorem zPj {ch1 ch2 sn:Operand} {e1 e2:TypeId} {c d':Nat} {v:Value} {vs:List Value} {F:List HP} (hE:E.main=true) (g:∀ zd,WL P E.kid (XS P E) b Post l rest k ((d,.tuple #[.int .i64 0,.bool false,zd])::L) (blk E.tok (yH c d' vs)::F))
  (hx1:ev L ch1=some (.chan (some c))) (hx2:ev L ch2=some (.chan (some d'))) (hv:ev L sn=some v) (hs:Sel s (blk E.tok (yH c d' (v::vs))) F) (h1:TyZv P e1) (h2:TyZv P e2)
  (hw:Want L l ⟨some d,.select #[⟨ch1,some sn,e1⟩,⟨ch2,none,e2⟩] true,ty,pos,af,gd⟩ true) (hd:Nat.blt d b.n=true) :
  WL P E.kid (XS P E) b Post l (⟨some d,.select #[⟨ch1,some sn,e1⟩,⟨ch2,none,e2⟩] true,ty,pos,af,gd⟩::rest) k L s:=by
 obtain ⟨zc,hzc⟩:=h1.h;obtain ⟨zd,hzd⟩:=h2.h;intro n hrest K cs F' hr tmps r f hok hss;obtain ⟨p1,p2⟩:=vD hrest;have e:List.range' n ((⟨some d,.select #[⟨ch1,some sn,e1⟩,⟨ch2,none,e2⟩] true,ty,pos,af,gd⟩:Oper)::rest).length=n::List.range' (n+1) rest.length:=by simp [List.range'_succ]
 rw [e];have p1:l.toArray[n]?=some (⟨some d,.select #[⟨ch1,some sn,e1⟩,⟨ch2,none,e2⟩] true,ty,pos,af,gd⟩:Oper):=by simpa using p1
 have q1:(b.at tmps (.inRegion l.toArray (n::List.range' (n+1) rest.length)::k)).eval ch1=.chan (some c):=Zd hok hx1;have q2:(b.at tmps (.inRegion l.toArray (n::List.range' (n+1) rest.length)::k)).eval ch2=.chan (some d'):=Zd hok hx2;have q3:(b.at tmps (.inRegion l.toArray (n::List.range' (n+1) rest.length)::k)).eval sn=v:=Zd hok hv;have hs2:=zBZ hss fun r f h=>hs.out h;have hc:Calm P (execOp (b.at tmps (.inRegion l.toArray (n::List.range' (n+1) rest.length)::k)).eval ⟨some d,.select #[⟨ch1,some sn,e1⟩,⟨ch2,none,e2⟩] true,ty,pos,af,gd⟩) (.comm (WJ c d' v zc zd) true .select):=by
  unfold execOp;simp only;refine Calm.bind (a:=WJ c d' v zc zd) ?_ (Calm.pure _);rw [Array.mapM_eq_mapM_toList,map_eq_pure_bind];refine Calm.bind (a:=[scase c v zc,rcase d' zd]) ?_ (Calm.pure _);simp only [List.mapM_cons,List.mapM_nil,q1,q2,q3,Option.map_some,Option.map_none];refine Calm.bind (hzc.bind (Calm.pure _)) ?_;refine Calm.bind (Calm.bind (hzd.bind (Calm.pure _)) (Calm.bind (Calm.pure _) (Calm.pure _))) ?_;exact Calm.pure _
 have hst:∀ w,stepG P false (G (b.at tmps (.inRegion l.toArray (n::List.range' (n+1) rest.length)::k)) cs) w=.comm (G (b.at tmps (.inRegion l.toArray (n::List.range' (n+1) rest.length)::k)) cs) (WJ c d' v zc zd) true .select w #[]:=by
  intro w;rw [says p1 (wY (fun t _ v e=>hok.h t v e) hw) (.inr rfl) hc];unfold stepG.apply;simp only [if_true];show GStep.after (seen P b.fn (if b.kind == .early then #[] else #[])) _=_;rw [zF2];rfl
 have hres:commResult (WJ c d' v zc zd) .select 0 undef false=.tuple #[.int .i64 0,.bool false,zd]:=by
  unfold commResult WJ;simp [scase,rcase,goInt]
 refine .big (S:=fun g' r' f'=>g'=G (b.at (putd (some d) (.tuple #[.int .i64 0,.bool false,zd]) tmps) (.inRegion l.toArray (List.range' (n+1) rest.length)::k)) cs/\r'=r/\f'=f.put E.tok (yH c d' vs)) (.sel (c:=c) (d:=d') (v:=v) (zc:=zc) (zd:=zd) (vs:=vs) rfl (zDY hs2) hst ⟨?_,rfl,rfl⟩) ?_
 ·rw [hres];unfold Conc.served;show ({ frame:=(b.at tmps (.inRegion l.toArray (n::List.range' (n+1) rest.length)::k)).finish (.tuple #[.int .i64 0,.bool false,zd]),callers:=cs,status:=.running,dying:=none,offers:=none }:Goroutine)=_;rw [wE p1];rfl
 ·rintro _ _ _ ⟨rfl,rfl,rfl⟩;have hs3:=zEq (o':=yH c d' vs) hs2;exact g zd (n+1) p2 K cs F' hr _ _ _ (VS (d:=some d) hok (fun x hx=>by cases hx;exact Yk hd)) hs3
theorem Qg {mn:Bool} {fr:Frame} {cs:List Frame} {w:World} (h:fr.mode≠.run):stepG P mn (G fr cs) w=unwind P mn fr cs none w:=by
 unfold stepG;show (match (none:Option Dying),fr.mode with|some d@{ calling:=false,.. },_=>_|_,.run=>_|_,_=>_)=_;cases hm:fr.mode with
 | run=>exact absurd hm h
 | returning=>rfl
 | panicking c=>rfl
theorem quits {fr:Frame} {fnc:Func} (hm:fr.mode=.returning) (hd:fr.defers=[]) (hk:fr.kind=.deferred) (hf:P.funcs[fr.fn]?=some fnc) (hr:fnc.results = #[]):QuitsD P 2 0 (G fr [zBh P []]):=by
 refine QuitsD.ctl (g':=G (zBh P []) []) rfl (fun w=>?_) (QuitsD.ctl (g':={ G (zBh P []) [] with status:=.finished }) rfl (fun w=>?_) ⟨rfl,rfl⟩)
 ·rw [Qg (by rw [hm];simp)]
  obtain ⟨fn,tmps,todo,defers,mode,kind,ro⟩:=fr;dsimp only at hm hd hk hf;subst hm;subst hd;subst hk;unfold unwind;simp only [hf];have hr2:(results fnc tmps).runT P w #[]=(.ok (.tuple #[]) w,#[]):=by
   rw [Sem.runT_eq,results_none hr _ P w,events_results_none hr _ _]
  rw [hr2];simp only [seen_none];rfl
 ·rw [Qg (by simp [zBh])]
  unfold unwind;have hc:(zBh P []).catches P=false:=by
   unfold Frame.catches;split
   ·rename_i h1 h2;cases h2
   ·rfl
  show (if (zBh P []).catches P then _ else _)=_;rw [hc,if_neg (by simp)]
  rfl
def SW (K:Goroutine->Hp->Hp->Prop) (cs:List Frame) (P:Program) (E:Env) (X:Xs) (b:Fx) (todo:List Item) (L:Tm) (s:List HP):Prop:=
 ∀ (F:List HP) tmps r f,L.ok b.n tmps->sep (s++F) r f->Safe P E X K (G (b.at tmps todo) cs) r f
def SWL (K:Goroutine->Hp->Hp->Prop) (cs:List Frame) (P:Program) (E:Env) (X:Xs) (b:Fx) (l rest:List Oper) (k:List Item) (L:Tm) (s:List HP):Prop:=
 ∀ n,l.drop n=rest->SW K cs P E X b (.inRegion l.toArray (List.range' n rest.length)::k) L s
variable {K:Goroutine->Hp->Hp->Prop} {cs:List Frame}
theorem SW.seq {x y:Code} (g:SW K cs P E X b (.code x::.code y::k) L s):SW K cs P E X b (.code (.seq x y)::k) L s:=fun F tmps r f h hs=>.idle rfl (fun _=>rfl) (g F tmps r f h hs)
theorem SW.opsL {i:Nat} {l:List Oper} (g:SWL K cs P E X b l l k L s):SW K cs P E X b (.code (.region i l.toArray false)::k) L s:=by
 intro F tmps r f h hs;refine .idle (g':=G (b.at tmps (.inRegion l.toArray (List.range l.toArray.size)::k)) cs) rfl (fun _=>rfl) ?_;have:=g 0 rfl F tmps r f h hs
 rw [List.range_eq_range'];simpa using this
theorem SWL.done (g:SW K cs P E X b k L s):SWL K cs P E X b l [] k L s:=fun _ _ F tmps r f h hs=>.idle rfl (fun _=>rfl) (g F tmps r f h hs)
theorem SWL.ex {o:Oper} {Q:Value->List HP->Prop} (hw:Want L l o true) (hd:ltd o.dst b.n=true) (h:Ex P E X b L s o Q) (g:∀ v s',Q v s'->SWL K cs P E X b l rest k (setd o.dst v L) s'):SWL K cs P E X b l (o::rest) k L s:=by
 intro n hrest F tmps r f hok hs;obtain ⟨h1,h2⟩:=vD hrest;have e:List.range' n (o::rest).length=n::List.range' (n+1) rest.length:=by simp [List.range'_succ]
 rw [e];refine h K cs F l n _ k tmps r f (by simpa using h1) (wY (fun t _ v e=>hok.h t v e) hw) (fun t _ v e=>hok.h t v e) hs fun v s' r' f' q hs'=>?_
 exact g v s' q (n+1) h2 F _ r' f' (VS hok (VY hd)) hs'
theorem SWL.defer {x:Operand} {ats:Array TypeId} {c:Nat} (g:SWL K cs P E X { b with defers:=[ZT ats ty c] } l rest k L s) (hb:b.defers=[]) (hro:b.roundOf=none) (hc:zNZ x=false) (hx:ev L x=some (.chan (some c))) (hw:Want L l ⟨none,.defer ⟨.builtin .close,#[x],ats⟩,ty,pos,af,gd⟩ true) :
  SWL K cs P E X b l (⟨none,.defer ⟨.builtin .close,#[x],ats⟩,ty,pos,af,gd⟩::rest) k L s:=by
 intro n hrest F tmps r f hok hs;obtain ⟨h1,h2⟩:=vD hrest;have e:List.range' n ((⟨none,.defer ⟨.builtin .close,#[x],ats⟩,ty,pos,af,gd⟩:Oper)::rest).length=n::List.range' (n+1) rest.length:=by simp [List.range'_succ]
 rw [e];have h1:l.toArray[n]?=some (⟨none,.defer ⟨.builtin .close,#[x],ats⟩,ty,pos,af,gd⟩:Oper):=by simpa using h1
 have hx':(b.at tmps (.inRegion l.toArray (n::List.range' (n+1) rest.length)::k)).eval x=.chan (some c):=Zd hok hx;refine .next rfl fun w hsat=>⟨_,w,_,r,f,zAW h1 (wY (fun t _ v e=>hok.h t v e) hw) hro hc hx',wR (Kept.refl hsat) (fun e he=>?_),?_⟩
 ·have:=wH he
  split at this <;> simp at this
 rw [hb];exact g (n+1) h2 F tmps r f hok hs
theorem wakes {fr:Frame} {cs:List Frame} (h:fr.mode=.returning):mayWake P (G fr cs)=true:=by
 obtain ⟨fn,tmps,todo,defers,mode,kind,ro⟩:=fr;dsimp only at h;subst h;cases todo with
 | nil=>rfl
 | cons a l=>cases a <;> first|rfl|(rename_i ops ix;cases ix <;> rfl)
theorem W.sender {todo:List Item} {ats:Array TypeId} {c d':Nat} {fnc:Func} (h:W P E.kid (XS P E) { b with defers:=[ZT ats ty c] } (fun _ t=>t=[blk E.tok (yH c d' [])]) todo L s) (hk:b.kind=.deferred) (hf:P.funcs[b.fn]?=some fnc) (hr:fnc.results = #[]) (hq:fnc.norace=false) (hro:b.roundOf=none) :
  SW (KS P E) [zBh P []] P E.kid (XS P E) { b with defers:=[ZT ats ty c] } todo L s:=by
 intro F tmps r f hok hs;refine h (KS P E) [zBh P []] F (fun fr v s' t r f hl he ht hss=>?_) tmps r f hok hs;subst ht;obtain ⟨l1,l2,l3,l4,⟨l5,_,_⟩|⟨_,l5,_⟩⟩:=hl
 case inr=>rw [show ({ b with defers:=[ZT ats ty c] }:Fx).roundOf=b.roundOf from rfl,hro] at l5;cases l5
 have hft:f E.tok=some (yH c d' []):=by
  obtain ⟨f1,f2,d,k1,k2,a1,a2⟩:=zD.1 hss;exact k1.h _ _ (zDY (he _ _ a1))
 have l1:fr.fn=b.fn:=l1;have l2:fr.kind=b.kind:=l2;refine .stop ⟨rfl,?_,c,d',G { fr with defers:=[] } [zBh P []],2,hft,rfl,fun w j hw=>?_,?_⟩
 ·exact wakes l5
 ·exact Qr l5 l3 hw (by rw [l1,hf];exact hq)
 ·exact quits l5 rfl (by rw [<-hk,<-l2]) (by rw [<-hf,<-l1]) hr
theorem zJ6 {g:FuncId} {ca:Array Value} {fnc:Func} {body:Code} {n:Nat} {A:List HP} (hf:P.funcs[g]?=some fnc) (hb:fnc.body=some body) (hn:(fnc.name == "runtime.NumGoroutine")=false) (hfs:vL fnc ca.toList=n)
  (h:SW K [zBh P []] P E X ⟨g,.deferred,[],none,n⟩ [.code body] (zMQ 0 ca.toList) A):∀ r f,sep A r f->Safe P E X K (G (zBh P [fnD g ca]) []) r f:=by
 intro r f hs;subst hfs;refine .idle (g':=G ((⟨g,.deferred,[],none,vL fnc ca.toList⟩:Fx).at (ca++Array.replicate (fnc.ntmps-ca.size) undef) [.code body]) [zBh P []]) rfl (fun w=>?_) (h [] _ r f QR (by rw [List.append_nil];exact hs))
 rw [Qg (by simp [zBh])]
 show callDeferred P (zBh P []) [] none (fnD g ca) w=_;unfold callDeferred;rw [if_neg (by simp [fnD])]
 have hc:(invoke (fnD g ca).target (fnD g ca).args).runT P w #[]=(.ok (.enter g ca) w,#[]):=by
  show (callFunc g (#[]++ca)).runT P w #[]=_;rw [Array.empty_append];exact Calm.callFunc hf hb hn w #[]
 rw [hc];simp only [seen_none];have he:Frame.enter P g ca .deferred=(⟨g,.deferred,[],none,vL fnc ca.toList⟩:Fx).at (ca++Array.replicate (fnc.ntmps-ca.size) undef) [.code body]:=by
  unfold Frame.enter;simp only [hf,Option.map_some,Option.getD_some,Option.bind_some,hb];rfl
 rw [<-he];rfl
theorem Ghost.box {bb:Nat} {c:List Value} {T:TypeId} {F:List HP} (hs:Sel s (KL.box bb c T) F):Ghost s (KL.rbox bb c::F):=by
 intro r f hd hp;obtain ⟨f1,f2,d,l1,l2,h6,k⟩:=hs.out hp;have h6:f1 bb=some (.cells c.toArray T (0,0)):=h6;have dd:(Hp.one bb (.cells c.toArray T (0,0))).disj f2:=d.mono (Hp.one_le h6) (Hp.le_refl _);have hro:r.disj (Hp.one bb (.cells c.toArray T (0,0))):=hd.mono (Hp.le_refl _) (Hp.one_le (l1.h _ _ h6));refine ⟨r.union (Hp.one bb (.cells c.toArray T (0,0))),f2,Hp.le_union_left _ _,l2,Hp.union_disj (hd.mono (Hp.le_refl _) l2) dd,fun n x y=>?_,fun n o x y=>?_,?_⟩
 ·unfold Hp.union at x ⊢;rw [y] at x ⊢;simp only [Option.none_or] at x ⊢;cases e:Hp.one bb (.cells c.toArray T (0,0)) n with
  | none=>exact absurd e x
  | some o=>
   obtain ⟨rfl,rfl⟩:=Hp.one_some e;exact l1.h _ _ h6
 ·unfold Hp.union at x;rw [y] at x;simp only [Option.none_or] at x;obtain ⟨rfl,rfl⟩:=Hp.one_some x;rfl
 ·refine ⟨Hp.emp,f2,Hp.emp_disj _,Hp.emp_le _,Hp.le_refl _,fun i v hv=>?_,wF (Hp.le_union_left _ _) (Hp.le_refl _) k⟩;have:(Hp.one bb (.cells c.toArray T (0,0))).cell ⟨bb,i,none⟩=some v:=by
   simp [Hp.cell,hv]
  exact (Hp.le_union_right hro).cell this
theorem zD6 (bb:Nat) {c:List Value} {T:TypeId} {F:List HP} (g:WL P E X b Post l rest k L (KL.rbox bb c::F)) (hs:Sel s (box bb c T) F:=by ((try simp only [List.cons_append,List.nil_append]);repeat (first|(with_reducible exact Sel.here)|(with_reducible apply Sel.there)))):WL P E X b Post l rest k L s:=WL.ghost (Ghost.box hs) g
theorem zOF (c d':Nat) (vs:List Value) (A F:List HP) {x:Operand} {g:FuncId} {ca:Array Value} {ats:Array TypeId} (hE:E.main=true)
  (kid:∀ r f,sep (blk E.tok (yH c d' vs)::A) r f->Safe P E.kid (XS P E) (KS P E) (G (zBh P [fnD g ca]) []) r f) (gk:WL P E (XM P E) b Post l rest k L (blk E.tok (yH c d' vs)::F))
  (hsel:Into s (blk E.tok yY::blk c (chO false 0)::blk d' (chO false 0)::(A++F)):=by ((try dsimp only);(try simp only [List.cons_append,List.nil_append]);(with_reducible apply Into.of);repeat (first|(with_reducible exact Sels.nil)|((with_reducible apply Sels.dupI);(case h=>(first|(with_reducible exact Sel.here)|((repeat (first|(with_reducible exact Sel.here)|(with_reducible apply Sel.there)));done)|(repeat (first|(exact Sel.here)|(apply Sel.there))))))|((with_reducible apply Sels.cons);(case h=>(first|(with_reducible exact Sel.here)|((repeat (first|(with_reducible exact Sel.here)|(with_reducible apply Sel.there)));done)|(repeat (first|(exact Sel.here)|(apply Sel.there)))))))))
  (hx:ev L x=some (.func (.func g) #[] ca):=by exact rfl) (hw:Want L l ⟨none,.go ⟨.value x,#[],ats⟩,ty,pos,af,gd⟩ true:=by exact zO) :
  WL P E (XM P E) b Post l (⟨none,.go ⟨.value x,#[],ats⟩,ty,pos,af,gd⟩::rest) k L s:=zPK hE gk hsel.h kid hx hw
theorem makeChan {t elem:TypeId} {dir:ChanDir} {bytes:Nat} {x:Operand} {kk:IntKind} (g:∀ bb,WL P E X b Post l rest k ((d,.chan (some bb))::L) (blk bb (chO false 0)::s)) [h:TyU P t (.chan dir elem)] [he:TyB P elem bytes] (hx:ev L x=some (.int kk 0):=by exact rfl)
  (hw:Want L l ⟨some d,.makeChan t x,ty,pos,af,gd⟩ true:=by (exact zO)) (hd:Nat.blt d b.n=true:=by exact rfl):WL P E X b Post l (⟨some d,.makeChan t x,ty,pos,af,gd⟩::rest) k L s:=
 WL.ex hw hd (zGt h he hx) (fun v s' ⟨bb,e1,e2⟩=>by rw [e1,e2];exact g bb)
end
end Go.KL
end
section
namespace Go.KL
open Go Go.Conc
section
variable {P:Program} {E:Env} {Q:Value->Prop} {r0:Hp}
def keep (r0:Hp):HP:=ro (fun r=>r0.le r) fun h g=>g.trans h
theorem zLj {b:Fx} {fr:Frame} {v:Value} {s' F:List HP} {r f:Hp} {N:Nat} {Post:Value->World->Prop} (hE:E.main=true) (hk:b.kind=.normal) (hd:b.defers=[]) (hro:b.roundOf=none) (h:Leaves P E b fr v s') (hs:sep (s'++F) r f) (hin:P.inits.idxOf? b.fn=none) (ht:f E.tok=some yY)
  (hp:∀ w' r' f',sep (s'++F) r' f'->Sat E w' r' f'->Post v w'):KE P E Post N (G fr []) r f:=by
 obtain ⟨h1,h2,h4,_,⟨h3,_,fnc,h5,h6⟩|⟨_,h3,_⟩⟩:=h
 case inr=>rw [hro] at h3;cases h3
 refine ⟨rfl,ht,fun w hsat _=>?_⟩;obtain ⟨x,w',es,r',f',s'',e1,k1,⟨hx,hB⟩,s1⟩:=h6 w r f F #[] hsat hs;subst hB;have e0:(#[]:Array Event)++es=es:=by simp
 rw [e0] at e1;refine ⟨v,w',seen P fr.fn es,r',f',?_,wR k1 (fun e he=>wH he),hp _ _ _ s1 k1.sat⟩;rw [Qg (by rw [h3];simp)]
 unfold unwind;rw [h4,hd];simp only [h3,h1,h5,e1];simp only [doReturn,h2,hk,GStep.after,hx];simp;rw [h1,hin];simp
theorem MI.start {a:Goroutine} {w:World} {r f:Hp} (hs:Sat E w r f) (hf:∀ n,f n≠none->n=E.tok) (ht:f E.tok=some yY):MI P E w .idle a r f #[a] w #[] (fun _=>0):=by
 refine ⟨rfl,hs,fun i g hi _ hg=>?_,fun i _=>?_,⟨fun i x b h=>?_,fun i x b h=>?_,?_⟩,⟨fun said h=>?_,fun i x h=>?_,fun i x b h=>?_⟩,fun o ho=>?_,⟨Nat.le_refl _,fun _ _=>rfl⟩,fun n hn=>.inl (hf n hn),trivial⟩
 ·have:i<1:=by simpa using (Array.getElem?_eq_some_iff.1 hg).1
  omega
 ·rfl
 ·obtain ⟨y,hy,_⟩:=touch_of h;simp at hy
 ·obtain ⟨y,hy,_⟩:=touch_of h;simp at hy
 ·rfl
 ·obtain ⟨i,j,_,⟨x,y,hx,_⟩,_⟩:=h;simp [Trace.act?] at hx
 ·obtain ⟨y,hy,_⟩:=touch_of h;simp at hy
 ·obtain ⟨y,hy,_⟩:=touch_of h;simp at hy
 ·rw [ht] at ho;cases ho;rfl
theorem Does.resM {g:FuncId} {args:Array Value} {pre:List HP} {Post:Value->List HP->Prop} {PW:Value->World->Prop} {w:World} {r f:Hp} (hd:Does P E (XM P E) g args.toList pre Post) (hE:E.main=true) (hin:P.inits.idxOf? g=none) (hs:Sat E w r f) (hf:∀ n,f n≠none->n=E.tok) (ht:f E.tok=some yY) (hp:sep pre r f)
  (hq:∀ v t,Post v t->(∀ r f,sep t r f->f E.tok=some yY)/\∀ w':World,w'.os=E.os->w'.tape=E.tape->w'.output=E.out->r.le w'.hp->PW v w'):QL P (Aft w PW) (solo (G (Frame.enter P g args .normal) []) w) #[]:=by
 obtain ⟨fnc,body,p1,p2,p3,p4⟩:=hd;rw [solo_eq_crowd,zAw p1 p2];have hk:(keep r).p r f:=Hp.le_refl _;have hpk:sep (pre++[keep r]) r f:=zD.2 ⟨f,Hp.emp,Hp.disj_emp _,Hp.le_refl _,Hp.emp_le _,hp,⟨Hp.emp,Hp.emp,Hp.disj_emp _,Hp.le_refl _,Hp.le_refl _,hk,trivial⟩⟩;refine Safe.ends (W0:=w) (E:=E) (Post:=PW) (a:=G ((⟨g,.normal,[],none,vL fnc args.toList⟩:Fx).at (args++Array.replicate (fnc.ntmps-args.size) undef) [.code body]) []) (r:=r) (f:=f) ?_ hE .idle #[_] w none #[] (fun _=>0) (MI.start hs hf ht);refine p4 (KE P E PW w.heap.size) [] [keep r] (fun fr v s' t r' f' hl he hpo hss=>?_) _ r f QR hpk;obtain ⟨q1,q2⟩:=hq v t hpo;refine .stop (zLj hE rfl rfl rfl hl hss hin ?_ fun w' r'' f'' hs'' hsat=>?_)
 ·obtain ⟨f1,f2,d,l1,l2,a1,a2⟩:=zD.1 hss;exact l1.h _ _ (q1 _ _ (he _ _ a1))
 ·obtain ⟨f1,f2,d,l1,l2,a1,a2⟩:=zD.1 hs'';obtain ⟨_,_,_,_,_,k,_⟩:=a2;have k:r.le r'':=k;exact q2 w' hsat.os hsat.tape hsat.out (k.trans hsat.ro)
end
end Go.KL
end
section
namespace Go.KL
open Go Go.ChangeShapes Go.RowKit Go.Deep
section
variable {H:Type} {enc:TypeId×Value->H} {P:Program} {w:World} {base:Nat} {spare:Nat->Bool} {held:Bool}
theorem zHK {t e:TypeId} {fuel:Nat} {cs:List Value} {x:DataW H×List MemPlace} (ht:P.underlying t=some (.slice e)) (he:P.underlying e=some (.int .u8)) (hc:P.cellsOf e=1) (h:DataW.trod enc P w base spare held fuel t cs=some x) :
  ∃ (b:Option Addr) (cap:Nat) (l:List Nat),cs=[.slice b l.length cap]/\(∀ x∈l,x<256)/\∀ f,(rsl b cap 1 (l.map u8e)).p w.hp f:=by
 rcases open_slice1 ht hc h with ⟨rfl,_⟩|⟨a,len,cap,m,n,V,D,Pl,rfl,hb,hl,hm,hmm,_,hx⟩
 ·exact ⟨none,0,[],rfl,(fun _ h=>by cases h),fun f=>⟨⟨(fun e h=>by cases h),(fun e h=>by cases h)⟩,Nat.le_refl _,(fun _=>rfl),(fun a h=>by cases h)⟩⟩
 ·have hlm:len<=m:=by rw [hmm];split <;> omega
  have hv:∀ i,i<len->∃ k:Nat,k<256/\V i=.int .u8 (k:Int):=fun i hi=>by
   obtain ⟨k,h1,_,h2⟩:=DataW.trod_int he (hx i (by omega)).2
   simp only [Lit.wf,IntKind.min,IntKind.max,IntKind.signed,IntKind.bits] at h2;simp at h2;have h1:V i=.int .u8 k:=by simpa using h1
   exact ⟨k.toNat,by omega,by rw [h1,Int.toNat_of_nonneg (by omega)]⟩
  let g:Nat->Nat:=fun i=>match V i with | .int _ k=>k.toNat|_=>0
  have hg:∀ i,i<len->g i<256/\V i=.int .u8 (g i:Int):=fun i hi=>by
   obtain ⟨k,h1,h2⟩:=hv i hi;have:g i=k:=by show (match V i with | .int _ k=>k.toNat|_=>0)=k;rw [h2];simp
   rw [this];exact ⟨h1,h2⟩
  refine ⟨some a,cap,(List.range len).map g,by simp,fun x hx=>?_,fun f=>⟨zGo _,by simpa using hl,(fun h=>by cases h),fun a' ha j v hj=>?_⟩⟩
  ·obtain ⟨i,hi,rfl⟩:=List.mem_map.1 hx;exact (hg i (List.mem_range.1 hi)).1
  ·cases ha
   have hfl:(((List.range len).map g).map u8e).flatten=(List.range len).map fun i=>Value.int .u8 (g i:Int):=by
    rw [List.map_map];generalize List.range len=R;induction R with
    | nil=>rfl
    | cons r R ih=>simp only [List.map_cons,List.flatten_cons,ih];rfl
   rw [hfl,List.getElem?_map] at hj;cases hr:(List.range len)[j]? with
   | none=>rw [hr] at hj;cases hj
   | some i=>
    obtain ⟨hj1,rfl⟩:=List.getElem?_eq_some_iff.1 hr;simp only [List.length_range] at hj1;simp only [List.getElem_range] at hj hr ⊢;rw [hr] at hj;cases hj
    show w.cell? (a.add j)=_;rw [(hx j (by omega)).1,(hg j hj1).2]
end
theorem seps {A:HP} {s:List HP} {r:Hp} (h:A.p r Hp.emp) (k:sep s r Hp.emp):sep (A::s) r Hp.emp:=⟨Hp.emp,Hp.emp,Hp.emp_disj _,Hp.emp_le _,Hp.emp_le _,h,k⟩
theorem zIT {H:Type} {enc:TypeId×Value->H} {P:Program} {f:Func} {s:ChangeSpec} {apart fresh handsOn:Bool} {W W':World} {args:Array Value} {t:TypeId} {ds:List (DataW H)} {before:List MemPlace}
  (hl:laidOutB P=true) (hts:f.params.toList.all (fun t=>P.readableRec t&&decide (t<P.types.size))=true) (hsv:s.vars=[]) (hr:f.resultTypes = #[t]) (ht:P.underlying t=some .bool)
  (hW:DataW.Whole enc P f.params.toList s.vars apart W args.toList ds [] before) (hf:s.fn H ds={ results:=[.lit (.bool true)],args:=ds }) (hb:Below W.heap.size W W') :
  s.post enc P f apart fresh handsOn false W args (.bool true) W':=by
 have hlt:=hW.lt;obtain ⟨p,q,h1,h2,rfl,hz,hn⟩:=hW;have h2':q=[]:=by rw [hsv] at h2;exact h2
 subst h2';have all:∀ {ts:List TypeId} {vs:List Value} {ds:List (DataW H)} {p:List MemPlace},ts.all (fun t=>P.readableRec t&&decide (t<P.types.size))=true->(∀ x∈p,x.block<W.heap.size)->DataW.TrodAll enc P W 0 (fun _=>true) true ts vs ds p->DataW.TrodAll enc P W' 0 (fun b=>decide (b<W.heap.size)) true ts vs ds p:=by
  intro ts;induction ts with
  | nil=>intro vs ds p _ _ h;cases vs <;> cases ds <;> first|exact h|exact h.elim
  | cons t ts ih=>
   intro vs ds p ha hp h;cases vs with
   | nil=>cases ds <;> exact h.elim
   | cons v vs=>
    cases ds with
    | nil=>exact h.elim
    | cons d ds=>
     obtain ⟨p1,p2,k1,k2,rfl⟩:=h;simp only [List.all_cons,Bool.and_eq_true] at ha;exact ⟨p1,p2,Below.trod hl ha.1.1 (of_decide_eq_true ha.1.2) k1 hb (fun x hx=>hp x (by simp [hx])),ih (by simpa using ha.2) (fun x hx=>hp x (by simp [hx])) k2,rfl⟩
 refine ⟨ds,[],p++[],[],p,[],⟨p,[],h1,h2,rfl,hz,hn⟩,?_,?_,?_,hb.frame _,fun h=>by cases h⟩
 ·rw [List.append_nil,hf,hr];exact trodAll_mk1 (shut_bool ht true)
 ·rw [List.append_nil,hf];exact all hts (fun x hx=>hlt x (by simp [hx])) h1
 ·rw [List.append_nil,hf,hsv];exact rfl
end Go.KL
end
section
namespace Go.KL
open Go Go.ChangeShapes Go.RowKit Go.Deep
section
variable {H:Type} {enc:TypeId×Value->H} {P:Program} {w:World} {base:Nat} {spare:Nat->Bool} {held:Bool}
theorem XR {t:TypeId} {agg:Bool} {sz:Nat} {z:List Value} (h:TyN P t agg sz z):P.cellsOf t=sz:=by
 obtain ⟨i,v,d,h1,h2,_⟩:=h.h;simp [Program.cellsOf,h1,h2]
theorem yB {t:TypeId} (i:Nat) {off:Nat} {ft:TypeId} {agg agg2:Bool} {sz sz2:Nat} {z z2:List Value} {fuel:Nat} {cs:List Value} {x:DataW H×List MemPlace} [hf:TyF P t i off ft] [hn:TyN P ft agg sz z] [hn2:TyN P t agg2 sz2 z2]
  (h:DataW.trod enc P w base spare held fuel t cs=some x):cs.length=sz2/\∃ n y,DataW.trod enc P w base spare held n ft ((cs.drop off).take sz)=some y:=by
 obtain ⟨fs,f,j,h1,h2,h3,h4,_,_⟩:=hf.h;obtain ⟨xs,n,_,_,h5,h6,h7⟩:=DataW.trod_struct h1 h;have h8:=h7 i f h2;rw [h3,h4,XR hn] at h8;have hi:i<xs.length:=by
  rw [h6];cases hh:fs[i]? with
  | none=>rw [hh] at h2;cases h2
  | some _=>exact (Array.getElem?_eq_some_iff.1 hh).1
 exact ⟨by rw [h5,XR hn2],n,xs[i],by rw [h8,List.getElem?_eq_getElem hi]⟩
theorem wG {t:TypeId} {k:IntKind} {fuel:Nat} {cs:List Value} {x:DataW H×List MemPlace} [ht:TyU P t (.int k)] (h:DataW.trod enc P w base spare held fuel t cs=some x):∃ n:Int,cs=[.int k n]/\(Lit.int k n).wf=true:=by
 obtain ⟨n,h1,_,h2⟩:=DataW.trod_int ht.h h;exact ⟨n,h1,h2⟩
theorem zIE {n:Int} (h:(Lit.int .u64 n).wf=true):∃ m:Nat,n=(m:Int)/\m<18446744073709551616:=by
 simp only [Lit.wf,IntKind.min,IntKind.max,IntKind.signed,IntKind.bits] at h;simp at h;exact ⟨n.toNat,by omega,by omega⟩
theorem zIN {t:TypeId} {fuel:Nat} {cs:List Value} {x:DataW H×List MemPlace} [ht:TyU P t .bool] (h:DataW.trod enc P w base spare held fuel t cs=some x):∃ q,cs=[.bool q]:=by
 obtain ⟨n,h1,_⟩:=DataW.trod_bool ht.h h;exact ⟨n,h1⟩
theorem zAV {α:Type} (f:α->List Value) {t e:TypeId} {agg:Bool} {sz:Nat} {z:List Value} (R:α->Prop) [ht:TyU P t (.slice e)] [he:TyN P e agg sz z]
  (hone:∀ a,R a->(f a).length=sz/\∀ v∈f a,Jy v=true)
  (hel:∀ (n:Nat) (cs:List Value) (y:DataW H×List MemPlace),DataW.trod enc P w base spare held n e cs=some y->∃ a,cs=f a/\R a)
  {fuel:Nat} {cs:List Value} {x:DataW H×List MemPlace} (h:DataW.trod enc P w base spare held fuel t cs=some x) :
  ∃ (b:Option Addr) (cap:Nat) (l:List α),cs=[.slice b l.length cap]/\(∀ a∈l,R a)/\∀ g,(rsl b cap sz (l.map f)).p w.hp g:=by
 classical
 rcases open_slice ht.h h with ⟨rfl,_⟩|⟨a,len,cap,m,n,D,Pl,rfl,hb,hl,hm,hmm,_,hx⟩
 ·exact ⟨none,0,[],rfl,(fun _ h=>by cases h),fun f=>⟨⟨(fun e h=>by cases h),(fun e h=>by cases h)⟩,Nat.le_refl _,(fun _=>rfl),(fun a h=>by cases h)⟩⟩
 ·have hlm:len<=m:=by rw [hmm];split <;> omega
  rw [XR he] at hx;have hv:∀ i,i<len->∃ y:α,R y/\w.cells? base (a.add (i*sz)) sz=some (f y):=fun i hi=>by
   obtain ⟨cs',h1,h2⟩:=hx i (by omega)
   obtain ⟨y,rfl,hr⟩:=hel _ _ _ h2;exact ⟨y,hr,h1⟩
  have hlist:∀ k,k<=len->∃ l:List α,l.length=k/\∀ i y,l[i]?=some y->R y/\w.cells? base (a.add (i*sz)) sz=some (f y):=by
   intro k;induction k with
   | zero=>exact fun _=>⟨[],rfl,fun i y h=>by simp at h⟩
   | succ k ih=>
    intro hk;obtain ⟨l,h1,h2⟩:=ih (by omega)
    obtain ⟨y,h3,h4⟩:=hv k (by omega)
    refine ⟨l++[y],by simp [h1],fun i z hz=>?_⟩
    rcases Nat.lt_or_ge i k with g|g
    ·rw [List.getElem?_append_left (by omega)] at hz;exact h2 i z hz
    ·have hi:i<(l++[y]).length:=(List.getElem?_eq_some_iff.1 hz).1;simp [h1] at hi;have:i=k:=by omega
     subst this;rw [List.getElem?_append_right (by omega),h1,Nat.sub_self] at hz
     cases hz;exact ⟨h3,h4⟩
  obtain ⟨l,hl1,hl2⟩:=hlist len (Nat.le_refl _);have hR:∀ y∈l,R y:=fun y hy=>by
   obtain ⟨i,hi⟩:=List.getElem?_of_mem hy;exact (hl2 i y hi).1
  refine ⟨some a,cap,l,by rw [hl1],hR,fun g=>⟨⟨fun e he=>?_,fun e he=>?_⟩,by simpa [hl1] using hl,(fun h=>by cases h),fun a' ha j v hj=>?_⟩⟩
  ·obtain ⟨y,hy,rfl⟩:=List.mem_map.1 he;exact (hone y (hR y hy)).1
  ·obtain ⟨y,hy,rfl⟩:=List.mem_map.1 he;exact (hone y (hR y hy)).2
  ·cases ha
   show w.cell? (a.add j)=some v;have key:∀ (l:List α) (off:Nat),(∀ i y,l[i]?=some y->R y/\w.cells? base (a.add ((off+i)*sz)) sz=some (f y))->∀ j,(l.map f).flatten[j]?=some v->w.cell? (a.add (off*sz+j))=some v:=by
    intro l;induction l with
    | nil=>intro off _ j hj;simp at hj
    | cons y l ih=>
     intro off h j hj;obtain ⟨hry,hcy⟩:=h 0 y rfl;obtain ⟨_,h3,h4⟩:=World.cells?_some hcy;rw [List.map_cons,List.flatten_cons] at hj;rcases Nat.lt_or_ge j sz with g|g
     ·rw [List.getElem?_append_left (by omega)] at hj
      have h5:=h4 j g;rw [Nat.add_zero,zEc] at h5;rw [h5,hj]
     ·rw [List.getElem?_append_right (by omega),h3] at hj
      have:=ih (off+1) (fun i z hz=>by
       have:=h (i+1) z (by simpa using hz)
       rwa [show off+(i+1)=off+1+i by omega] at this) (j-sz) hj
      rw [show off*sz+j=(off+1)*sz+(j-sz) by rw [Nat.add_mul];omega]
      exact this
   have:=key l 0 (fun i y hy=>by simpa using hl2 i y hy) j hj
   simpa using this
end
end Go.KL
namespace Go.Proofs.YtjcbjclhagobiaaGreat
set_option maxHeartbeats 1600000
open Go Go.KL Go.KM Go.ChangeShapes Go.RowKit Go.Deep
section
variable {H:Type} {enc:TypeId×Value->H} {w:World} {base:Nat} {spare:Nat->Bool} {held:Bool}
theorem zJm {fuel:Nat} {cs:List Value} {x:DataW H×List MemPlace} (h:DataW.trod enc PR w base spare held fuel 24 cs=some x) :
  ∃ (b:Option Addr) (cap:Nat) (l:List Nat),cs=[.slice b l.length cap]/\(∀ a∈l,a<18446744073709551616)/\∀ g,(rsl b cap 1 (l.map zDd)).p w.hp g:=
 zAV zDd (fun a=>a<18446744073709551616) (fun a _=>⟨rfl,fun v hv=>by simp [zDd] at hv;subst hv;rfl⟩) (fun n cs y h=>by
  obtain ⟨k,h1,h2⟩:=wG h;obtain ⟨m,rfl,h3⟩:=zIE h2;exact ⟨m,h1,h3⟩) h
structure zS.Reads (w:World) (s:zS):Prop where
 ok:s.1.Ok
 packet:∀ x∈s.1.packet,x<256
 row:∀ g,(rsl s.2.1 s.2.2 1 (s.1.packet.map u8e)).p w.hp g
theorem zJF {fuel:Nat} {cs:List Value} {x:DataW H×List MemPlace} (h:DataW.trod enc PR w base spare held fuel 63 cs=some x):∃ s:zS,cs=s.cells/\s.Reads w:=by
 obtain ⟨hl,n0,y0,g0⟩:=yB 0 h;obtain ⟨_,n1,y1,g1⟩:=yB 1 h;obtain ⟨_,n2,y2,g2⟩:=yB 2 h;obtain ⟨_,n3,y3,g3⟩:=yB 3 h;obtain ⟨_,n4,y4,g4⟩:=yB 4 h;obtain ⟨_,n5,y5,g5⟩:=yB 0 g1;obtain ⟨_,n6,y6,g6⟩:=yB 1 g1;obtain ⟨_,n7,y7,g7⟩:=yB 0 g5;obtain ⟨_,n8,y8,g8⟩:=yB 1 g5;obtain ⟨_,n9,y9,g9⟩:=yB 2 g5;match cs,hl with
 | [c0,c1,c2,c3,c4,c5,c6,c7],_=>
  simp only [List.drop_zero,List.take_succ_cons,List.take_zero,List.drop_succ_cons] at g0 g2 g3 g4 g6 g7 g8 g9;obtain ⟨what,e0,_⟩:=wG g0;obtain ⟨hop,e2,_⟩:=wG g2;obtain ⟨n,e3,_⟩:=wG g3;obtain ⟨pb,pc,packet,e4,hp,hr⟩:=zHK (TyU.h (P:=PR) (t:=22)) (TyU.h (P:=PR) (t:=5)) (XR (P:=PR) (t:=5) inferInstance) g4;obtain ⟨pn,e6,_⟩:=wG g6;obtain ⟨hi,e7,h7⟩:=wG g7;obtain ⟨lo,e8,h8⟩:=wG g8;obtain ⟨q,e9⟩:=zIN g9;obtain ⟨hi,rfl,hhi⟩:=zIE h7;obtain ⟨lo,rfl,hlo⟩:=zIE h8;cases e0;cases e2;cases e3;cases e4;cases e6;cases e7;cases e8;cases e9
  exact ⟨(⟨what,hi,lo,q,pn,hop,n,packet⟩,pb,pc),rfl,⟨hhi,hlo⟩,hp,hr⟩
theorem zHC {fuel:Nat} {cs:List Value} {x:DataW H×List MemPlace} (h:DataW.trod enc PR w base spare held fuel 33 cs=some x) :
  ∃ (b:Option Addr) (cap:Nat) (l:List zS),cs=[.slice b l.length cap]/\(∀ s∈l,s.Reads w)/\(∀ g,(rsl b cap 8 (l.map zS.cells)).p w.hp g)/\∀ g,(rall (l.map zS.row)).p w.hp g:=by
 obtain ⟨b,cap,l,h1,h2,h3⟩:=zAV (f:=zS.cells) (zS.Reads w) (fun a _=>⟨rfl,fun v hv=>by simp [zS.cells] at hv;rcases hv with rfl|rfl|rfl|rfl|rfl|rfl|rfl|rfl <;> rfl⟩) (fun n cs y h=>zJF h) h
 refine ⟨b,cap,l,h1,h2,h3,fun g x hx=>?_⟩;obtain ⟨s,hs,rfl⟩:=List.mem_map.1 hx;exact (h2 s hs).row _
theorem zLD {fuel:Nat} {cs:List Value} {x:DataW H×List MemPlace} (h:DataW.trod enc PR w base spare held fuel 32 cs=some x) :
  ∃ (c:CfgM) (b:Option Addr) (cap:Nat),cs=c.cells b cap/\(∀ a∈c.presets,a<18446744073709551616)/\∀ g,(rsl b cap 1 (c.presets.map zDd)).p w.hp g:=by
 obtain ⟨hl,n0,y0,g0⟩:=yB 0 h;obtain ⟨_,n1,y1,g1⟩:=yB 1 h;obtain ⟨_,n2,y2,g2⟩:=yB 2 h;obtain ⟨_,n3,y3,g3⟩:=yB 3 h;obtain ⟨_,n4,y4,g4⟩:=yB 4 h;obtain ⟨_,n5,y5,g5⟩:=yB 5 h;obtain ⟨_,n6,y6,g6⟩:=yB 6 h;match cs,hl with
 | [c0,c1,c2,c3,c4,c5,c6],_=>
  simp only [List.drop_zero,List.take_succ_cons,List.take_zero,List.drop_succ_cons] at g0 g1 g2 g3 g4 g5 g6;obtain ⟨a0,e0,_⟩:=wG g0;obtain ⟨a1,e1,_⟩:=wG g1;obtain ⟨a2,e2,_⟩:=wG g2;obtain ⟨a3,e3,_⟩:=wG g3;obtain ⟨a4,e4,_⟩:=wG g4;obtain ⟨a5,e5,_⟩:=wG g5;obtain ⟨b,cap,l,e6,h1,h2⟩:=zJm g6;cases e0;cases e1;cases e2;cases e3;cases e4;cases e5;cases e6
  exact ⟨⟨a0,a1,a2,a3,a4,a5,l⟩,b,cap,rfl,h1,h2⟩
end
end Go.Proofs.YtjcbjclhagobiaaGreat
end
section
namespace Go.Proofs.YtjcbjclhagobiaaGreat
set_option maxHeartbeats 1600000
open Go Go.KL Go.KM
variable {E:Env} {X:Xs}
set_option maxRecDepth 100000
instance:TyU PR 163 (.chan .both 266):=⟨by kernel_rfl⟩
instance:TyU PR 265 (.chan .both 77):=⟨by kernel_rfl⟩
instance:TyU PR 164 (.chan .recv 77):=⟨by kernel_rfl⟩
instance:TyZv PR 77:=.of (by kernel_rfl)
instance:TyZv PR 266:=.of (by kernel_rfl)
instance:TyB PR 266 0:=.of (by kernel_rfl)
abbrev SpV:=Sp×Option Addr×Nat
def SpV.cells (x:SpV):List Value:=[.int .i64 x.1.what,u64 x.1.p.a.hi,u64 x.1.p.a.lo,.bool x.1.p.a.v6,.int .i64 x.1.p.n,.int .i64 x.1.hop,.int .i64 x.1.n,.slice x.2.1 x.1.pkt.length x.2.2]
abbrev SpV.v (x:SpV):Value:=.agg (SpV.cells x).toArray
abbrev zPI (b5 b2 b3 c d:Nat) (base:Option Addr) (cap:Nat) (l:List SpV):List HP:=[rbox b5 [.chan (some c)],rbox b2 [.slice base l.length cap],rbox b3 [.chan (some d)],rsl base cap 8 (l.map SpV.cells)]
set_option maxHeartbeats 1000000 in
theorem zK4 (b5 b2 b3 c d:Nat) (base:Option Addr) (cap:Nat) (l:List SpV) (hl:l.length<=1000000) (hE:E.main=true):∀ r f,sep (blk E.tok (yH c d (l.map SpV.v))::zPI b5 b2 b3 c d base cap l) r f->KL.Safe PR E.kid (XS PR E) (KS PR E) (Go.Conc.G (zBh PR [fnD 138 #[pt b5,pt b2,pt b3]]) []) r f:=by
 refine zJ6 (fnc:=Go.Proofs.Tryz.f138) (n:=20) (ca:=#[pt b5,pt b2,pt b3]) (by kernel_rfl) rfl (by decide) rfl ?_
 refine SW.seq ?_;refine SW.opsL ?_;refine SWL.ex (by exact zO) rfl (Lt.ex (.inl rfl) (zFt (bb:=b5) (off:=0) (c:=[.chan (some c)]) (v:=.chan (some c)) inferInstance rfl (.there .here) rfl)) ?_
 rintro _ _ ⟨rfl,rfl⟩;refine SWL.defer (c:=c) ?_ rfl rfl rfl rfl (by exact zO)
 refine SWL.done ?_;refine W.sender (d':=d) (fnc:=Go.Proofs.Tryz.f138) (b:=⟨138,.deferred,[],none,20⟩) ?_ rfl (by kernel_rfl) rfl rfl rfl
 refine zB ?_;refine loop (ι:=Nat) (fun i=>l.length-i) (fun i=>i<=l.length) (fun i=>[(0,pt b5),(1,pt b2),(2,pt b3),(6,.slice base l.length cap),(7,.int .i64 (l.length:Int)),(8,.int .i64 (i:Int))]) (fun i=>blk E.tok (yH c d ((l.drop i).map SpV.v))::zPI b5 b2 b3 c d base cap l) 0 (Nat.zero_le _) ?_;intro i hi ih;(try dsimp only at hi ih ⊢);rcases Nat.lt_or_ge i l.length with h|h
 ·obtain ⟨x,hx0⟩:∃ x,l[i]?=some x:=⟨l[i],List.getElem?_eq_getElem h⟩;have hd:(l.drop i).map SpV.v=SpV.v x::(l.drop (i+1)).map SpV.v:=by
   rw [List.drop_eq_getElem_cons h];rw [List.getElem?_eq_getElem h] at hx0;cases hx0;rfl
  have hx:l[(i:Int).toNat]?=some x:=by rw [Int.toNat_natCast];exact hx0
  rw [hd];refine zB ?_;refine yes ?_ rfl (decide_eq_true (by omega))
  refine zB ?_;refine alloc fun b4=>?_;refine zB ?_;refine zPj (c:=c) (d':=d) (v:=SpV.v x) (vs:=(l.drop (i+1)).map SpV.v) hE (fun zd=>?_) rfl rfl rfl (.there .here) inferInstance inferInstance (by exact zO) rfl
  refine zB ?_;refine yes ?_ rfl rfl;refine zB ?_;exact next (ih (i+1) (by omega) (by omega))
 ·have:i=l.length:=by omega
  subst this;rw [List.drop_of_length_le (Nat.le_refl _)];refine zB ?_;refine no ?_ rfl (decide_eq_false (by omega))
  refine zB ?_;refine fall ?_;exact ends rfl
theorem zIR (d:Nat) (base:Option Addr) (cap:Nat) (l:List SpV) (hl:l.length<=1000000) (hE:E.main=true):KL.Does PR E (XM PR E) 65 [.slice base l.length cap,.chan (some d)] [blk E.tok yY,blk d (chO false 0),rsl base cap 8 (l.map SpV.cells)] (fun v t=>∃ c,v=.chan (some c)/\t=[blk E.tok (yH c d (l.map SpV.v))]):=by
 refine KL.Does.of 9 inferInstance rfl (by decide) rfl ?_
 refine zB ?_;refine zU fun b2=>?_;refine zB ?_;refine zU fun b3=>?_;refine zB ?_;refine makeChan fun c=>?_;refine zB ?_;refine alloc fun b5=>?_;refine zB ?_;refine zD6 b5 ?_;refine zD6 b2 ?_;refine zD6 b3 ?_;refine zOF c d (l.map SpV.v) (zPI b5 b2 b3 c d base cap l) [rbox b5 [.chan (some c)]] hE (zK4 b5 b2 b3 c d base cap l hl hE) ?_;refine zB ?_;refine ret ?_;exact ends ⟨c,rfl,rfl⟩
end Go.Proofs.YtjcbjclhagobiaaGreat
end
section
namespace Go.Proofs.YtjcbjclhagobiaaGreat
set_option maxHeartbeats 1600000
open Go Go.KL Go.KM
variable {E:Env} {X:Xs}
set_option maxRecDepth 100000
def rpk (l:List SpV):HP:=
 ro (fun r=>∀ x∈l,(rsl x.2.1 x.2.2 1 (x.1.pkt.map u8e)).p r Hp.emp) fun h g x hx=>(rsl x.2.1 x.2.2 1 (x.1.pkt.map u8e)).mono h (g x hx)
instance {l:List SpV}:(rpk l).Dup:=⟨fun h=>h⟩
theorem Into.rpkGet {s F:List HP} {l:List SpV} (x:SpV) (hm:x∈l) (h1:Sel s (rpk l) F):Into s (KL.rsl x.2.1 x.2.2 1 (x.1.pkt.map u8e)::s):=⟨fun r f h=>by
 obtain ⟨f1,f2,d,l1,l2,a,k⟩:=h1.out h;exact wB (A:=KL.rsl x.2.1 x.2.2 1 (x.1.pkt.map u8e)) (fun h=>h) (f':=Hp.emp) (a x hm) h⟩
abbrev AnV:=An×AB
def AnV.cells (x:AnV):List Value:=anC x.1 x.2
def ran (l:List AnV):HP:=
 ro (fun r=>∀ x∈l,∀ f,sep (anS x.1 x.2) r f) fun h g x hx f=>wF h (Hp.le_refl _) (g x hx f)
instance {l:List AnV}:(ran l).Dup:=⟨fun h=>h⟩
theorem Into.ranNil {s:List HP}:Into s (ran []::s):=⟨fun r f h=>wB (A:=ran []) (fun h=>h) (f':=f) (fun x hx=>by cases hx) h⟩
theorem zLJ {a:An} {q:AB} {r:Hp} (h1:∀ A∈anS a q,∀ f,A.p r f) (f:Hp):sep (anS a q) r f:=by
 refine wB (A:=_) (fun h=>h) (f':=f) (h1 _ (by simp) f) ?_
 refine wB (A:=_) (fun h=>h) (f':=f) (h1 _ (by simp) f) ?_
 refine wB (A:=_) (fun h=>h) (f':=f) (h1 _ (by simp) f) ?_
 refine wB (A:=_) (fun h=>h) (f':=f) (h1 _ (by simp) f) ?_
 refine wB (A:=_) (fun h=>h) (f':=f) (h1 _ (by simp) f) ?_
 exact wB (A:=_) (fun h=>h) (f':=f) (h1 _ (by simp) f) trivial
theorem Into.ranSnoc {s F G:List HP} {l:List AnV} (x:AnV) (h1:Sel s (ran l) F) (h2:Sels s (anS x.1 x.2) G):Into s (ran (l++[x])::s):=⟨fun r f h=>by
 obtain ⟨f1,f2,d,l1,l2,a,k⟩:=h1.out h;have b:sep (anS x.1 x.2++G) r f:=h2.out h;have hx:∀ f,sep (anS x.1 x.2) r f:=by
  obtain ⟨g1,g2,_,_,_,b1,_⟩:=zD.1 b;obtain ⟨_,_,_,_,_,p1,_,_,_,_,_,p2,_,_,_,_,_,p3,_,_,_,_,_,p4,_,_,_,_,_,p5,_,_,_,_,_,p6,_⟩:=b1;refine fun f=>zLJ (fun A hA f=>?_) f;simp only [anS,List.mem_cons,List.not_mem_nil,or_false] at hA;rcases hA with rfl|rfl|rfl|rfl|rfl|rfl
  ·exact p1
  ·exact p2
  ·exact p3
  ·exact p4
  ·exact p5
  ·exact p6
 refine wB (A:=ran (l++[x])) (fun h=>h) (f':=f1) (fun y hy=>?_) h;rcases List.mem_append.1 hy with hy|hy
 ·exact a y hy
 ·rw [List.mem_singleton.1 hy];exact hx⟩
theorem zOQ {P:Program} {b:Fx} {Post:Value->List HP->Prop} {L:Tm} {s:List HP} {t:List Item} (x:AnV) (l:List AnV) {F G:List HP} (g:W P E X b Post t L (ran (l++[x])::s)) (h1:Sel s (ran l) F:=by ((try simp only [List.cons_append,List.nil_append]);repeat (first|(with_reducible exact Sel.here)|(with_reducible apply Sel.there))))
  (h2:Sels s (anS x.1 x.2) G:=by (try simp only [List.cons_append,List.nil_append]);repeat (first|(with_reducible exact Sels.nil)|((with_reducible apply Sels.dupI);(case h=>(first|(with_reducible exact Sel.here)|((repeat (first|(with_reducible exact Sel.here)|(with_reducible apply Sel.there)));done)|(repeat (first|(exact Sel.here)|(apply Sel.there)))))))):W P E X b Post t L s:=into (Into.ranSnoc x h1 h2) g
def wU (e:En):List Sp->En×List An
 | []=>(e,[])
 | s::l=>((wU (eStep e s).1 l).1,(eStep e s).2::(wU (eStep e s).1 l).2)
theorem zGj (e:En) (l:List Sp) (s:Sp):wU e (l++[s])=((eStep (wU e l).1 s).1,(wU e l).2++[(eStep (wU e l).1 s).2]):=by
 induction l generalizing e with
 | nil=>rfl
 | cons x l ih=>simp only [List.cons_append,wU,ih]
theorem zGA {e:En} (he:EnOk e):∀ {l:List Sp},(∀ s∈l,s.pkt.length<=1000000)->EnOk (wU e l).1:=by
 intro l;induction l generalizing e with
 | nil=>exact fun _=>he
 | cons x l ih=>exact fun h=>ih (he.step x (h x (by simp))) fun s hs=>h s (by simp [hs])
theorem zCh (e:En) (l:List Sp):(wU e l).2.length=l.length:=by
 induction l generalizing e with
 | nil=>rfl
 | cons x l ih=>simp [wU,ih]
end Go.Proofs.YtjcbjclhagobiaaGreat
end
section
namespace Go.Proofs.YtjcbjclhagobiaaGreat
set_option maxHeartbeats 1600000
open Go Go.KL Go.KM
variable {E:Env} {X:Xs}
set_option maxRecDepth 100000
structure SpsOk (l:List SpV):Prop where
 b:∀ x∈l,∀ y∈x.1.pkt,y<256
 m:∀ x∈l,x.1.pkt.length<=1000000
 len:l.length<=100000
set_option maxHeartbeats 4000000 in
theorem JN (c:Cfg) (cb:Option Addr) (ck:Nat) (hpre:c.pre.length<=100000) (hpre2:∀ x∈c.pre,x<18446744073709551616) (base:Option Addr) (cap:Nat) (l:List SpV) (hl:SpsOk l) (hE:E.main=true):KL.Does PR E (XM PR E) 21 [zJy c cb ck,.slice base l.length cap] [blk E.tok yY,rsl cb ck 1 (c.pre.map fun x=>[u64 x]),rsl base cap 8 (l.map SpV.cells),rpk l]
  (fun v t=>∃ b ob oc,∃ D:List AnV,D.map (·.1)=(wU (Jw c) (l.map (·.1))).2/\v=.tuple #[pt b,.slice ob D.length oc]/\t=[blk E.tok yY,zGh b (wU (Jw c) (l.map (·.1))).1,rsl ob oc 19 (D.map AnV.cells),ran D]):=by
 refine KL.Does.of 28 inferInstance rfl (by decide) rfl ?_
 refine zB ?_;refine zU fun b2=>?_;refine zB ?_;refine KL.makeChan fun d=>?_;refine zB ?_;refine zGL (fnc:=Go.Proofs.Tryz.f21) (c:=d) ?_ hE rfl rfl (by kernel_rfl) rfl (by kernel_rfl) rfl rfl (by exact zO)
 refine zB ?_;refine call (zCs c cb ck hpre) ?_;rintro _ _ ⟨b,rfl,rfl⟩;refine zB ?_;refine call (zIR d base cap l (by have:=hl.len;omega) hE) ?_
 rintro _ _ ⟨ch,rfl,rfl⟩;refine zB ?_;refine into (Into.nilO (T:=69) (sz:=19)) ?_;refine into Into.ranNil ?_;have hlen:=hl.len;refine loop (ι:=Nat×(Option Addr×Nat)×List AnV) (fun z=>l.length-z.1) (fun z=>z.1<=l.length/\z.2.2.map (·.1)=(wU (Jw c) ((l.take z.1).map (·.1))).2) (fun z=>[(4,.pointer none),(5,.slice none 0 0),(6,.chan (some d)),(7,pt b),(8,.slice z.2.1.1 z.2.2.length z.2.1.2),(16,.chan (some ch))])
  (fun z=>[blk E.tok (yH ch d ((l.drop z.1).map SpV.v)),zGh b (wU (Jw c) ((l.take z.1).map (·.1))).1,osl z.2.1.1 z.2.1.2 69 19 (z.2.2.map AnV.cells),ran z.2.2,rpk l]) (0,(none,0),[]) ⟨Nat.zero_le _,rfl⟩ ?_
 rintro ⟨i,⟨ob,oc⟩,D⟩ ⟨h1,h2⟩ ih;(try dsimp only at h1 h2 ih ⊢);have hDl:D.length=i:=by
  have:=congrArg List.length h2
  rw [List.length_map,zCh,List.length_map,List.length_take] at this;omega
 rcases Nat.lt_or_ge i l.length with h|h
 ·obtain ⟨x,hx0⟩:∃ x,l[i]?=some x:=⟨l[i],List.getElem?_eq_getElem h⟩;have hxm:=List.mem_of_getElem? hx0;have hd:(l.drop i).map SpV.v=SpV.v x::(l.drop (i+1)).map SpV.v:=by
   rw [List.drop_eq_getElem_cons h];rw [List.getElem?_eq_getElem h] at hx0;cases hx0;rfl
  have ht:(l.take (i+1)).map (·.1)=(l.take i).map (·.1)++[x.1]:=by rw [List.take_add_one,hx0];simp
  rw [hd];have hEn:=zGA (EnOk.new hpre2) (l:=(l.take i).map (·.1)) (fun s hs=>by
   obtain ⟨y,hy,rfl⟩:=List.mem_map.1 hs;exact hl.m y (List.mem_of_mem_take hy))
  refine into (Into.rpkGet x hxm (.there (.there (.there (.there .here))))) ?_;refine zB ?_;refine zPB (c:=ch) (d':=d) (v:=SpV.v x) (vs:=(l.drop (i+1)).map SpV.v) hE ?_ rfl (.there .here) inferInstance inferInstance (by exact zO) rfl
  refine zB ?_;refine yes ?_ rfl rfl;refine zB ?_;refine alloc fun b9=>?_;refine zB ?_;refine call (Xg b (wU (Jw c) ((l.take i).map (·.1))).1 hEn x.1 x.2.1 x.2.2 (hl.b x hxm) (hl.m x hxm)) ?_;rintro _ _ ⟨q,rfl,rfl⟩;refine zB ?_;have hp:wU (Jw c) ((l.take (i+1)).map (·.1))=((eStep (wU (Jw c) ((l.take i).map (·.1))).1 x.1).1,(wU (Jw c) ((l.take i).map (·.1))).2++[(eStep (wU (Jw c) ((l.take i).map (·.1))).1 x.1).2]):=by rw [ht];exact zGj _ _ _
  generalize eStep (wU (Jw c) ((l.take i).map (·.1))).1 x.1=R at hp ⊢;refine buildSlice fun b6=>?_;refine zB ?_;refine xM fun b7 c7=>?_;refine zB ?_;refine zOQ (R.2,q) D ?_;have hcell:D.map AnV.cells++[yG (anV R.2 q)]=(D++[(R.2,q)]).map AnV.cells:=by rw [List.map_append];rfl
  rw [hcell];have hih:=ih (i+1,(b7,c7),D++[(R.2,q)]) ⟨by show i+1<=_;omega,by rw [hp,List.map_append,h2];rfl⟩ (by show l.length-(i+1)<l.length-i;omega)
  dsimp only at hih;rw [hp,List.length_append,List.length_singleton] at hih;exact next hih
 ·have:i=l.length:=by omega
  subst this;rw [List.take_of_length_le (Nat.le_refl _)] at h2;rw [List.take_of_length_le (Nat.le_refl _),List.drop_of_length_le (Nat.le_refl _)];refine zB ?_;refine zO6 (c:=ch) (d':=d) hE (fun zv=>?_) rfl .here inferInstance inferInstance (by exact zO) rfl
  refine zB ?_;refine no ?_ rfl rfl;refine zB ?_;refine xE ob ?_;refine ret ?_;exact ends ⟨_,0,rfl,b,ob,oc,D,h2,rfl,rfl⟩
end Go.Proofs.YtjcbjclhagobiaaGreat
end
section
namespace Go.Proofs.YtjcbjclhagobiaaGreat
set_option maxHeartbeats 1600000
open Go Go.KL Go.KM
variable {E:Env} {X:Xs}
set_option maxRecDepth 100000
structure StOk (s:StepM):Prop where
 hi:s.hi<18446744073709551616
 lo:s.lo<18446744073709551616
 b:∀ y∈s.packet,y<256
 m:s.packet.length<=1000000
theorem YB {l:List Nat} {n:Nat} (hl:∀ x∈l,x<256):∀ x∈l.drop n,x<256:=fun x h=>hl x (List.mem_of_mem_drop h)
theorem zLy {l:List Nat} (hl:∀ x∈l,x<256):(xC l).1.hi<18446744073709551616/\(xC l).1.lo<18446744073709551616/\∀ x∈(xC l).2,x<256:=by
 have hw:∀ x∈vP (zFc (l.headD 0)) (ZG (zFc (l.headD 0)) (l.tail.headD 0)) (l.drop 2),x<256:=by
  intro x hx;rcases List.mem_append.1 hx with h|h
  ·exact zBX (YB hl) x h
  ·rw [(List.mem_replicate.1 h).2];omega
 have h1:=xR hw (n:=min (width (zFc (l.headD 0)) / 8) 8) (Nat.min_le_right _ _);have h2:=xR (l:=(vP (zFc (l.headD 0)) (ZG (zFc (l.headD 0)) (l.tail.headD 0)) (l.drop 2)).drop 8) (fun x hx=>hw x (List.mem_of_mem_drop hx)) (n:=width (zFc (l.headD 0)) / 8-8) (by have:=yD (zFc (l.headD 0));omega)
 refine ⟨?_,?_,YB (YB hl)⟩
 ·unfold xC;dsimp only;split
  ·exact wZ h1
  ·exact h1
 ·unfold xC;dsimp only;split
  ·exact wZ h2
  ·exact h2
theorem zIJ (w:Nat) {l:List Nat} (hl:∀ x∈l,x<256) (hm:l.length<=1000000):StOk (zT w l).1/\(∀ x∈(zT w l).2,x<256):=by
 obtain ⟨p1,p2,p3⟩:=zLy hl;have ht:∀ x∈l.tail,x<256:=fun x h=>hl x (List.mem_of_mem_tail h);have z:(0:Nat)<18446744073709551616:=by decide
 unfold zT;split
 ·refine ⟨⟨z,z,fun y hy=>ht y (List.mem_of_mem_take hy),?_⟩,fun x hx=>ht x (List.mem_of_mem_drop hx)⟩;show (l.tail.take _).length<=_;rw [List.length_take,List.length_tail];omega
 ·exact ⟨⟨p1,p2,by simp,by simp⟩,fun x hx=>p3 x (List.mem_of_mem_drop hx)⟩
 ·exact ⟨⟨p1,p2,by simp,by simp⟩,p3⟩
 ·exact ⟨⟨z,z,by simp,by simp⟩,ht⟩
 ·exact ⟨⟨p1,p2,by simp,by simp⟩,p3⟩
 ·exact ⟨⟨p1,p2,by simp,by simp⟩,fun x hx=>p3 x (List.mem_of_mem_tail hx)⟩
 ·exact ⟨⟨z,z,by simp,by simp⟩,hl⟩
theorem zAj:∀ (k:Nat) {l:List Nat},(∀ x∈l,x<256)->l.length<=1000000->∀ s∈yI k l,StOk s
 | 0,_,_,_=>by simp [yI]
 | k+1,[],_,_=>by simp [yI]
 | k+1,a::l,hl,hm=>by
  have hl':∀ x∈l,x<256:=fun x h=>hl x (by simp [h])
  have hm':l.length<=1000000:=by simp at hm;omega
  obtain ⟨h1,h2⟩:=zIJ (a%10) hl' hm';intro s hs;rcases List.mem_cons.1 hs with rfl|hs
  ·exact h1
  ·exact zAj k h2 (Nat.le_trans (VX _ _) hm') s hs
theorem zEp {l:List Nat} (hl:∀ x∈l,x<256) (hm:l.length<=1000000):∀ s∈xD l,StOk s:=
 zAj _ (YB hl) (by rw [List.length_drop];omega)
theorem zDS {l:List Nat} (hl:∀ x∈l,x<256):∀ (k:Nat),∀ x∈Zs l k,x<18446744073709551616
 | 0=>by simp [Zs]
 | k+1=>by
  intro x hx;rcases List.mem_append.1 hx with h|h
  ·exact zDS hl k x h
  ·rw [List.mem_singleton.1 h];exact (QV (YB hl) (k:=7) (by decide)).2
def zNR (s:StepM):Sp:=⟨s.what,⟨⟨s.hi%18446744073709551616,s.lo%18446744073709551616,s.v6,Nat.mod_lt _ (by decide),Nat.mod_lt _ (by decide)⟩,s.pn⟩,s.hop,s.n,s.packet⟩
abbrev toV (s:zS):SpV:=(zNR s.1,s.2)
theorem zIm {s:zS} (h:StOk s.1):SpV.cells (toV s)=zS.cells s:=by
 unfold SpV.cells zS.cells toV zNR;simp only [Nat.mod_eq_of_lt h.hi,Nat.mod_eq_of_lt h.lo]
def zHL (c:CfgM):Cfg:=⟨c.cap,c.policy,c.bound,c.n,c.h,c.fetch,c.presets⟩
theorem Into.rpk {s F:List HP} {vs:List zS} (hs:Sel s (rall (vs.map zS.row)) F):Into s (rpk (vs.map toV)::s):=⟨fun r f h=>by
 obtain ⟨f1,f2,d,l1,l2,a,k⟩:=hs.out h;refine wB (A:=Go.Proofs.YtjcbjclhagobiaaGreat.rpk (vs.map toV)) (fun h=>h) (f':=f) (fun x hx=>?_) h;obtain ⟨y,hy,rfl⟩:=List.mem_map.1 hx;exact a (zS.row y) (List.mem_map_of_mem (f:=zS.row) hy)⟩
theorem zKr (base:Option Addr) (cap:Nat) (l:List Nat) (hl:∀ x∈l,x<256) (hm:l.length<=100000) (hE:E.main=true):KL.Does PR E (XM PR E) 13 [.slice base l.length cap] [blk E.tok yY,rsl base cap 1 (l.map u8e)]
  (fun v t=>∃ ob oc,∃ D:List AnV,D.map (·.1)=(wU (Jw (zHL (zC1 l))) ((xD l).map zNR)).2/\v=.slice ob D.length oc/\t=[blk E.tok yY,rsl ob oc 19 (D.map AnV.cells),ran D]):=by
 have hok:=zEp hl (by omega)
 refine KL.Does.of 14 inferInstance rfl (by decide) rfl ?_
 refine zB ?_;refine call (zEm l hl base cap) ?_;rintro _ _ ⟨b1,c1,b2,c2,vs,hvs,rfl,rfl⟩;have hvo:∀ s∈vs,StOk s.1:=fun s hs=>hok s.1 (by rw [<-hvs];exact List.mem_map_of_mem (f:=(·.1)) hs)
 have hcl:vs.map zS.cells=(vs.map toV).map SpV.cells:=by
  rw [List.map_map];exact List.map_congr_left fun s hs=>(zIm (hvo s hs)).symm
 have hvl:vs.length=(vs.map toV).length:=(List.length_map _).symm;have hlen:vs.length<=l.length:=by
  rw [show vs.length=(xD l).length by rw [<-hvs,List.length_map]]
  have:=zDE l
  omega
 refine WA b1 ?_;refine WA b2 ?_;refine WL.into (Into.rpk (vs:=vs) (by (try simp only [List.cons_append,List.nil_append]);repeat (first|(with_reducible exact Sel.here)|(with_reducible apply Sel.there)))) ?_
 rw [hcl,hvl];have hsp:(vs.map toV).map (·.1)=(xD l).map zNR:=by rw [List.map_map,<-hvs,List.map_map];rfl
 have hSps:SpsOk (vs.map toV):=⟨fun x hx=>by
  obtain ⟨y,hy,rfl⟩:=List.mem_map.1 hx;exact (hvo y hy).b,fun x hx=>by
  obtain ⟨y,hy,rfl⟩:=List.mem_map.1 hx;exact (hvo y hy).m,by rw [<-hvl];omega⟩
 generalize vs.map toV=V at hsp hSps ⊢;refine zB ?_;refine call (JN (zHL (zC1 l)) b1 c1 ?_ ?_ b2 c2 V hSps hE) ?_
 ·show (Zs _ _).length<=_;rw [rdNums_len];omega
 ·exact zDS (YB hl) _
 ·rw [hsp];rintro _ _ ⟨b,ob,oc,D,hD,rfl,rfl⟩;refine zB ?_;refine ret ?_;exact ends ⟨ob,oc,D,hD,rfl,rfl⟩
end Go.Proofs.YtjcbjclhagobiaaGreat
end
section
namespace Go.Proofs.YtjcbjclhagobiaaGreat
set_option maxHeartbeats 1600000
open Go Go.KL Go.KM
set_option maxRecDepth 100000
def zLR:CfgM:=⟨1,0,1,1,1,0,[]⟩
def zM6:List StepM:=[⟨1,0,0,false,0,5,0,[]⟩,⟨0,0,0,false,0,0,0,zCk⟩,⟨5,0,0,false,0,0,0,[]⟩,⟨0,0,0,false,0,0,0,zCk⟩]
def Yu:List Nat:=zCr zLR zM6
def zOx:List An:=(wU (Jw (zHL (zC1 Yu))) ((xD Yu).map zNR)).2
theorem zLI:zOx.map (fun a=>(a.v.cls,a.v.hop))=[(0,0),(3,5),(0,0),(4,5)]:=by decide +kernel
theorem zEF:Yu.length<=1000:=by decide +kernel
theorem zGi:∀ x∈Yu,x<256:=by decide +kernel
end Go.Proofs.YtjcbjclhagobiaaGreat
end
section
namespace Go.Proofs.YtjcbjclhagobiaaGreat
set_option maxHeartbeats 1600000
open Go Go.KL Go.KM
variable {E:Env} {X:Xs}
set_option maxRecDepth 100000
theorem zOJ:zL5 [10,0,0,1] false=exA:=by decide +kernel
abbrev exV (pb:Option Addr) (pc:Nat):List zS:=[(⟨1,0,0,false,0,5,0,[]⟩,none,0),(⟨0,0,0,false,0,0,0,zCk⟩,pb,pc),(⟨5,0,0,false,0,0,0,[]⟩,none,0),(⟨0,0,0,false,0,0,0,zCk⟩,pb,pc)]
theorem zOP (pb:Option Addr) (pc:Nat):∀ s∈exV pb pc,s.1.Ok:=by
 intro s hs;simp only [exV,List.mem_cons,List.not_mem_nil,or_false] at hs;have z:(0:Nat)<18446744073709551616:=by decide
 rcases hs with rfl|rfl|rfl|rfl <;> exact ⟨z,z⟩
theorem Into.exRall (pb:Option Addr) (pc:Nat) {s F:List HP} (h:Sel s (KL.rsl pb pc 1 (zCk.map u8e)) F):Into s (rall ((exV pb pc).map zS.row)::s):=⟨fun r f hp=>by
 obtain ⟨f1,f2,d,l1,l2,a,k⟩:=h.out hp;refine wB (A:=rall ((exV pb pc).map zS.row)) (fun h=>h) (f':=f) (fun x hx=>?_) hp;have hz:(KL.rsl none 0 1 (([]:List Nat).map u8e)).p r Hp.emp:=⟨⟨fun e he=>(by cases he),fun e he=>(by cases he)⟩,by simp,fun _=>rfl,fun a h=>(by cases h)⟩
 simp only [exV,List.map_cons,List.map_nil,List.mem_cons,List.not_mem_nil,or_false] at hx;rcases hx with rfl|rfl|rfl|rfl
 ·exact hz
 ·exact a
 ·exact hz
 ·exact a⟩
theorem zLE {α β:Type} (f:α->β):∀ {D:List α} {a b c d:β},D.map f=[a,b,c,d]->∃ x0 x1 x2 x3,D=[x0,x1,x2,x3]/\f x0=a/\f x1=b/\f x2=c/\f x3=d
 | [],_,_,_,_,h=>by simp at h
 | [_],_,_,_,_,h=>by simp at h
 | [_,_],_,_,_,_,h=>by simp at h
 | [_,_,_],_,_,_,_,h=>by simp at h
 | [x0,x1,x2,x3],_,_,_,_,h=>by
  simp only [List.map_cons,List.map_nil,List.cons.injEq,and_true] at h;exact ⟨x0,x1,x2,x3,rfl,h⟩
 | _::_::_::_::_::_,_,_,_,_,h=>by simp at h
theorem VW (hE:E.main=true):KL.Does PR E (XM PR E) 11 [] [blk E.tok yY] (fun v t=>v=.bool true/\t=[blk E.tok yY]):=by
 refine KL.Does.of 52 inferInstance rfl (by decide) rfl ?_
 refine zB ?_;refine buildSlice fun b7=>?_;refine WA (some ⟨b7,0,none⟩) ?_;refine zB ?_;have hf:=Zx (E:=E) (X:=XM PR E) [10,0,0,1] (by decide) false rfl (some ⟨b7,0,none⟩) 4
 rw [zOJ] at hf;refine call hf ?_;rintro _ _ ⟨rfl,rfl⟩;refine zB ?_;refine alloc fun b1=>?_;refine zB ?_;refine call zHG ?_;rintro _ _ ⟨pb,pc,rfl,rfl⟩;refine zB ?_;refine alloc fun b3=>?_;refine zB ?_;refine buildSlice fun b21=>?_;refine WA (some ⟨b21,0,none⟩) ?_;change WL _ _ _ _ _ _ _ _ _ (rsl (some ⟨b21,0,none⟩) 4 8 ((exV pb pc).map zS.cells)::_)
 refine WL.into (Into.exRall pb pc (by repeat (first|(with_reducible exact Sel.here)|(with_reducible apply Sel.there)))) ?_
 refine WL.into (Into.nilR (sz:=1)) ?_;refine zB ?_;refine call (zD7 zLR none 0 (exV pb pc) (zOP pb pc) (by simp [zLR]) (by show 4<=1000000;decide) (some ⟨b21,0,none⟩) 4) ?_
 rintro _ _ ⟨eb,ec,rfl,rfl⟩;have hb:zCr zLR ((exV pb pc).map (·.1))=Yu:=rfl;rw [hb];refine WA eb ?_;refine zB ?_;refine call (zKr eb ec Yu zGi (by have:=zEF;omega) hE) ?_
 rintro _ _ ⟨ob,oc,D,hD,rfl,rfl⟩;have hD2:D.map (fun x=>(x.1.v.cls,x.1.v.hop))=[(0,0),(3,5),(0,0),(4,5)]:=by
  rw [<-zLI];show _=((wU (Jw (zHL (zC1 Yu))) ((xD Yu).map zNR)).2).map _;rw [<-hD,List.map_map];rfl
 clear hD;obtain ⟨x0,x1,x2,x3,rfl,_,k1,_,k3⟩:=zLE _ hD2;simp only [Prod.mk.injEq] at k1 k3;have c1:=k1.1;have c3:=k3.1;have h3:=k3.2;clear hD2;refine zB ?_;rw [c1,c3,h3];refine ret ?_;exact ends ⟨rfl,rfl⟩
end Go.Proofs.YtjcbjclhagobiaaGreat
end
section
namespace Go.Proofs.YtjcbjclhagobiaaGreat
set_option maxHeartbeats 1600000
open Go Go.KL Go.KM
variable {E:Env} {X:Xs}
set_option maxRecDepth 100000
def zGG (c:Cfg) (l:List SpV):Bool:=(decide (l.length<=50)&&decide (c.pre.length<=100))&&l.all fun x=>decide (x.1.pkt.length<=3000)
theorem QM (c:Cfg) (cb:Option Addr) (ck:Nat) (base:Option Addr) (cap:Nat) (l:List SpV):KL.Does PR E X 19 [zJy c cb ck,.slice base l.length cap] [rsl base cap 8 (l.map SpV.cells)] (fun v t=>v=.bool (zGG c l)/\t=[]):=by
 refine KL.Does.of 28 inferInstance rfl (by decide) rfl ?_
 refine zB ?_;refine zU fun b2=>?_;refine zB ?_;by_cases h:l.length<=50/\c.pre.length<=100
 ·refine no ?_ rfl (by rw [decide_eq_false (show ¬ (50<(l.length:Int)) by omega),decide_eq_false (show ¬ (100<(c.pre.length:Int)) by omega)];rfl)
  refine zB ?_;refine loop (ι:=Nat) (fun i=>l.length-i) (fun i=>i<=l.length/\∀ x∈l.take i,x.1.pkt.length<=3000) (fun i=>[(1,.slice base l.length cap),(4,.bool false),(5,.int .i64 (i:Int))]) (fun _=>[rsl base cap 8 (l.map SpV.cells)]) 0 ⟨Nat.zero_le _,by simp⟩ ?_
  rintro i ⟨hi,hf⟩ ih;(try dsimp only at hi hf ih ⊢);rcases Nat.lt_or_ge i l.length with h2|h2
  ·obtain ⟨x,hx0⟩:∃ x,l[i]?=some x:=⟨l[i],List.getElem?_eq_getElem h2⟩;have hx:l[(i:Int).toNat]?=some x:=by rw [Int.toNat_natCast];exact hx0
   have hxm:=List.mem_of_getElem? hx0;refine zB ?_;refine yes ?_ rfl (decide_eq_true (by omega))
   refine zB ?_;by_cases hp:x.1.pkt.length<=3000
   ·refine no ?_ rfl (decide_eq_false (by omega))
    refine zB ?_;refine next (ih (i+1) ⟨by omega,fun y hy=>?_⟩ (by omega))
    rw [List.take_add_one,hx0] at hy;rcases List.mem_append.1 hy with hy|hy
    ·exact hf y hy
    ·simp at hy;subst hy;exact hp
   ·refine yes ?_ rfl (decide_eq_true (by omega))
    refine zB ?_;have hb:zGG c l=false:=by
     unfold zGG;rw [Bool.and_eq_false_iff];right
     rw [List.all_eq_false];exact ⟨x,hxm,by simpa using hp⟩
    rw [hb];refine ret ?_;exact ends ⟨rfl,rfl⟩
  ·have:i=l.length:=by omega
   subst this;rw [List.take_of_length_le (Nat.le_refl _)] at hf;have hb:zGG c l=true:=by
    unfold zGG;rw [decide_eq_true h.1,decide_eq_true h.2];simp only [Bool.and_self,Bool.true_and,List.all_eq_true];exact fun x hx=>decide_eq_true (hf x hx)
   rw [hb];refine zB ?_;refine no ?_ rfl (decide_eq_false (by omega))
   refine zB ?_;refine ret ?_;exact ends ⟨rfl,rfl⟩
 ·have hb:zGG c l=false:=by
   unfold zGG;rw [Bool.and_eq_false_iff];left
   rw [Bool.and_eq_false_iff];rcases Nat.lt_or_ge 50 l.length with g|g
   ·left;exact decide_eq_false (by omega)
   ·right;exact decide_eq_false (by omega)
  rw [hb];refine yes ?_ rfl (by
   rcases Nat.lt_or_ge 50 l.length with g|g
   ·rw [decide_eq_true (show 50<(l.length:Int) by omega)];rfl
   ·rw [decide_eq_true (show 100<(c.pre.length:Int) by omega),Bool.or_true])
  refine zB ?_;refine ret ?_;exact ends ⟨rfl,rfl⟩
set_option maxHeartbeats 1000000 in
theorem Wx (c:Cfg) (cb:Option Addr) (ck:Nat) (base:Option Addr) (cap:Nat) (l:List SpV) (hl:l.length<=100000):KL.Does PR E X 20 [zJy c cb ck,.slice base l.length cap] [rsl base cap 8 (l.map SpV.cells)] (fun v t=>∃ b' c',v=.tuple #[zJy c cb ck,.slice b' l.length c']/\t=[rsl b' c' 8 (l.map SpV.cells)]):=by
 refine KL.Does.of 59 inferInstance rfl (by decide) rfl ?_
 refine zB ?_;refine zU fun b2=>?_;refine zB ?_;refine alloc fun b4=>?_;refine zB ?_;refine into (Into.nilO (T:=77) (sz:=8)) ?_;refine loop (ι:=Nat×Option Addr×Nat) (fun z=>l.length-z.1) (fun z=>z.1<=l.length) (fun z=>[(1,.slice base l.length cap),(2,pt b2),(4,pt b4),(5,.slice none 0 0),(6,.slice z.2.1 z.1 z.2.2),(7,.int .i64 (z.1:Int))]) (fun z=>[osl z.2.1 z.2.2 77 8 ((l.take z.1).map SpV.cells),rsl base cap 8 (l.map SpV.cells),box b2 (yG (zJy c cb ck)) 32,box b4 [.int .i64 0,.int .i64 0,.int .i64 0,.int .i64 0,.int .i64 0,.int .i64 0,.slice none 0 0] 26]) (0,none,0) (Nat.zero_le _) ?_;rintro ⟨i,ob,oc⟩ hi ih;(try dsimp only at hi ih ⊢);have htl:((l.take i).map SpV.cells).length=i:=by rw [List.length_map,List.length_take];omega
 rcases Nat.lt_or_ge i l.length with h2|h2
 ·obtain ⟨x,hx0⟩:∃ x,l[i]?=some x:=⟨l[i],List.getElem?_eq_getElem h2⟩;have hx:l[(i:Int).toNat]?=some x:=by rw [Int.toNat_natCast];exact hx0
  refine zB ?_;refine yes ?_ rfl (decide_eq_true (by omega))
  refine zB ?_;refine draw [0,0,0,6,14,30,0,0,192,448,960,0,0,6144,14336,30720,0,0,196608,458752,983040,0,0,6291456,14680064,31457280,67108862,134217726,268435455,536870911] [27,28,29] [3,5,8,10,13,15,18,20,23,25] [0,1,2,3,4,5,6,7,8,9,10,11,12,13,14,15,16,17,18,19,20,21,22,23,24,25,26,27,28,29] ?_;refine zC ?_;refine yF fun b8=>?_;refine zC ?_;refine xP fun b9 c9=>?_;refine ddA ?_;have hcell:(l.take i).map SpV.cells++[yG (SpV.v x)]=(l.take (i+1)).map SpV.cells:=by rw [List.take_add_one,hx0,List.map_append];rfl
  have hih:=ih (i+1,b9,c9) (by show i+1<=_;omega) (by show l.length-(i+1)<l.length-i;omega)
  (try dsimp only at hih);rw [<-hcell] at hih;exact next hih
 ·have:i=l.length:=by omega
  subst this;rw [List.take_of_length_le (Nat.le_refl _)];refine zB ?_;refine no ?_ rfl (decide_eq_false (by omega))
  refine zB ?_;refine xE ob ?_;refine ret ?_;exact ends ⟨ob,oc,rfl,rfl⟩
theorem zJg {P:Program} {b:Fx} {Post:Value->List HP->Prop} {L:Tm} {s:List HP} {t:List Item} {l:List SpV} (x:SpV) (hm:x∈l) {F:List HP} (g:W P E X b Post t L (rsl x.2.1 x.2.2 1 (x.1.pkt.map u8e)::s)) (h1:Sel s (rpk l) F:=by ((try simp only [List.cons_append,List.nil_append]);repeat (first|(with_reducible exact Sel.here)|(with_reducible apply Sel.there)))):W P E X b Post t L s:=into (Into.rpkGet x hm h1) g
structure InOk (c:Cfg) (l:List SpV):Prop where
 pre:∀ x∈c.pre,x<18446744073709551616
 b:∀ x∈l,∀ y∈x.1.pkt,y<256
theorem zFW {c:Cfg} {l:List SpV} (h:zGG c l=true):l.length<=50/\c.pre.length<=100/\∀ x∈l,x.1.pkt.length<=3000:=by
 unfold zGG at h;simp only [Bool.and_eq_true,decide_eq_true_eq,List.all_eq_true] at h;exact ⟨h.1.1,h.1.2,h.2⟩
end Go.Proofs.YtjcbjclhagobiaaGreat
end
section
namespace Go.KL
open Go Go.Conc
def _root_.Go.World.cut2 (w:World):Hp:=fun n=>if n=2 then none else w.hp n
def zK2:Hp:=fun n=>if n=2 then some yY else none
def zN0 (w:World):Env:=⟨w.os,w.output,w.tape,true,2⟩
theorem zNT (w:World):w.cut2.le w.hp:=by
 refine ⟨fun n o h=>?_⟩;unfold World.cut2 at h;split at h
 ·cases h
 ·exact h
theorem zE7 {n:Nat} {o:Obj} (e:zK2 n=some o):n=2/\o=yY:=by
 unfold zK2 at e;split at e
 ·rename_i h
  cases e;exact ⟨h,rfl⟩
 ·cases e
theorem zLa {w:World} (h:2<w.heap.size):Sat (zN0 w) w w.cut2 zK2:=by
 refine ⟨rfl,rfl,rfl,zNT w,fun n o e g=>?_,fun n o e=>?_,h,⟨fun n=>?_⟩⟩
 ·obtain ⟨_,rfl⟩:=zE7 e;cases g
 ·obtain ⟨h,rfl⟩:=zE7 e;exact ⟨fun _=>h,fun _=>rfl⟩
 ·unfold World.cut2 zK2;by_cases e:n=2
  ·left;rw [if_pos e]
  ·right;rw [if_neg e]
theorem zBD {w:World} {base:Option Addr} {cap sz:Nat} {es:List (List Value)} (h2:∀ a,(w.hp.cell a).isSome->a.block≠2) {g:Hp} (h:(rsl base cap sz es).p w.hp g) (g':Hp):(rsl base cap sz es).p w.cut2 g':=by
 obtain ⟨h3,h4,h5,h6⟩:=h;refine ⟨h3,h4,h5,fun a ha j v hj=>?_⟩;have e:=h6 a ha j v hj;have hb:=h2 (a.add j) (by rw [e];rfl)
 unfold Hp.cell World.cut2 at *;rw [if_neg hb];exact e
end Go.KL
end
section
namespace Go.Proofs.YtjcbjclhagobiaaGreat
set_option maxHeartbeats 1600000
open Go Go.KL Go.KM Go.ChangeShapes Go.WideShapes Go.RowKit Go.Conc
theorem zK0 {w:World} (h:w.ShapedOpen PR):2<w.heap.size/\∀ a,(w.hp.cell a).isSome->a.block≠2:=by
 have hg:PR.globals.size=0:=by kernel_rfl
 have h0:∃ x y,(begin PR (fun _ _=>0) default).world.heap[2]?=some (.finalizers x y):=by
  have hb:(match (begin PR (fun _ _=>0) default).world.heap[2]? with|some (.finalizers _ _)=>true|_=>false)=true:=by kernel_rfl
  split at hb
  ·rename_i x y h
   exact ⟨x,y,h⟩
  ·cases hb
 obtain ⟨x,y,h0⟩:=h0;obtain ⟨o,o0,e1,e2,e3⟩:=h.2 2 (by omega) ((Array.getElem?_eq_some_iff.1 h0).1)
 rw [h0] at e2;cases e2
 rw [hg,if_pos (by decide)] at e3
 refine ⟨(Array.getElem?_eq_some_iff.1 e1).1,fun a ha hb=>?_⟩;unfold Hp.cell World.hp at ha;rw [hb,e1] at ha;cases o <;> simp [Obj.alike] at e3 ha
theorem zCi {H:Type} {enc:TypeId×Value->H} {a:Assume} {C:Checked} {os:Os} {f:FuncId} {fn:Func} {s:ChangeSpec} {conds:List PathCond} {apart fresh handsOn again:Bool}
  (own:ownKnob C.prog.godebug=none) (started:os.Started) (hfn:C.prog.funcs[f]?=some fn)
  (witness:∃ (w:World) (tape:Tape) (i:Input),w.os=os/\(w.forCall tape i).Shaped C.prog/\i.vars=[]/\Input.okWide C.prog (w.forCall tape i) .any w.heap.size f i/\
   s.pre6 enc C.prog fn conds apart (w.forCall tape i).memory i.args/\a.holds C.prog (lone (Frame.enter C.prog f i.args .normal) [] (w.forCall tape i)))
  (runs:∀ (W:World) (base:Nat) (args:Array Value) (ds gs:List (DataW H)) (before:List MemPlace),W.ShapedOpen C.prog->
   (∀ (j:Nat) t v,fn.params[j]?=some t->args[j]?=some v->Value.okWide C.prog W .any base t v)->
   DataW.Whole enc C.prog fn.params.toList s.vars apart W args.toList ds gs before->
   QL C.prog (fun v W'=>s.post enc C.prog fn apart fresh handsOn again W args v W') (solo (Conc.G (Frame.enter C.prog f args .normal) []) W) #[]) :
  ReturnsInLeavingWide a C os f .any (s.pre6 enc C.prog fn conds apart) (s.post enc C.prog fn apart fresh handsOn again):=by
 refine returnsInLeavingWide_of_good own started witness ?_;intro w tape i _ hsh _ hok hpre hholds;obtain ⟨_,_,_,fn',hfn',_,_,_,_,hval⟩:=hok;have e:fn'=fn:=Option.some.inj (hfn'.symm.trans hfn);subst e;obtain ⟨⟨ds,gs,before,hw,hc⟩,hz⟩:=hpre;have hw':=DataW.Whole.of_heap (w':=w.forCall tape i) (by rfl) hw
 obtain ⟨M,last,o,w',t',h1,h2,h3,h4⟩:=runs (w.forCall tape i) w.heap.size i.args ds gs before hsh hval hw';exact ⟨M,last,o,w',t',h1,h2,h3,h4.mono fun v hp=>ChangeSpec.post_blind hp⟩
end Go.Proofs.YtjcbjclhagobiaaGreat
end
section
namespace Go.Proofs.YtjcbjclhagobiaaGreat
set_option maxHeartbeats 1600000
open Go
theorem zFy:laidOutB Tryz.checked.prog=true:=by kernel_rfl
theorem zGf:mapsRowed Tryz.checked.prog=true:=by kernel_rfl
theorem zHB:Tryz.checked.prog.plainKeys=true:=by kernel_rfl
theorem zD3:Tryz.checked.prog.stopsHeard=true:=by kernel_rfl
theorem zIy:Tryz.checked.prog.mayEnter=true:=by kernel_rfl
theorem zOL:Tryz.checked.prog.liftsFinal=false:=by kernel_rfl
theorem zO8:Tryz.checked.prog.make=some Rows.topChecksRow.make:=by kernel_rfl
theorem zPm {a b:Bool} (h:a=true) (k:b=true):(a&&b)=true:=by rw [h,k];rfl
end Go.Proofs.YtjcbjclhagobiaaGreat
end
section
namespace Go.Proofs.YtjcbjclhagobiaaGreat
set_option maxHeartbeats 1600000
open Go Go.KL Go.KM Go.ChangeShapes Go.WideShapes Go.RowKit Go.Conc
theorem zPk:ownKnob Tryz.prog.godebug=none:=by kernel_rfl
theorem zOH:Tryz.prog.underlying 4=some .bool:=by kernel_rfl
theorem zHV {s:zS} (h:s.1.Ok):SpV.cells (toV s)=zS.cells s:=by
 unfold SpV.cells zS.cells toV zNR;simp only [Nat.mod_eq_of_lt h.1,Nat.mod_eq_of_lt h.2]
theorem zAs {s:List HP} {r:Hp} (k:sep s r Hp.emp):sep (blk 2 yY::s) r zK2:=⟨zK2,Hp.emp,Hp.disj_emp _,Hp.le_refl _,Hp.emp_le _,rfl,k⟩
theorem zMr {w:World} (h2:∀ a,(w.hp.cell a).isSome->a.block≠2) {l:List zS} (h:∀ s∈l,s.Reads w):(rpk (l.map toV)).p w.cut2 Hp.emp:=by
 intro x hx;obtain ⟨y,hy,rfl⟩:=List.mem_map.1 hx;exact zBD h2 ((h y hy).row Hp.emp) _
theorem zK8 {H:Type} {enc:TypeId×Value->H} {s:ChangeSpec} {apart fresh handsOn:Bool} {W:World} {f:FuncId} {fn:Func} {args:Array Value} {pre:List HP} {ds:List (DataW H)} {before:List MemPlace} {t:TypeId}
  (z1:2<W.heap.size) (hd:KL.Does PR (zN0 W) (XM PR (zN0 W)) f args.toList pre (fun v t=>v=.bool true/\t=[blk (zN0 W).tok yY])) (hin:PR.inits.idxOf? f=none) (hp:sep pre W.cut2 zK2)
  (hl:laidOutB PR=true) (hts:fn.params.toList.all (fun t=>PR.readableRec t&&decide (t<PR.types.size))=true) (hsv:s.vars=[]) (hr:fn.resultTypes = #[t]) (ht:PR.underlying t=some .bool)
  (hW:DataW.Whole enc PR fn.params.toList s.vars apart W args.toList ds [] before) (hf:s.fn H ds={ results:=[.lit (.bool true)],args:=ds }) :
  QL PR (fun v W'=>s.post enc PR fn apart fresh handsOn false W args v W') (solo (Conc.G (Frame.enter PR f args .normal) []) W) #[]:=by
 have hc:QL PR (Aft W fun v W'=>v=.bool true/\W'.os=W.os/\W'.tape=W.tape/\W'.output=W.output) (solo (Conc.G (Frame.enter PR f args .normal) []) W) #[]:=by
  refine KL.Does.resM hd rfl hin (zLa z1) (fun n hn=>?_) rfl hp (fun v t h=>?_)
  ·cases e:zK2 n with
   | none=>exact absurd e hn
   | some o=>exact (zE7 e).1
  ·obtain ⟨e1,rfl⟩:=h;refine ⟨fun r g hs=>?_,fun w' h1 h2 h3 _=>⟨e1,h1,h2,h3⟩⟩;obtain ⟨f1,f2,d,l1,l2,a,_⟩:=hs;exact l1.h _ _ a
 obtain ⟨n,last,o,w',t',h1,h2,h3,h4⟩:=hc;refine ⟨n,last,o,w',t',h1,h2,h3,h4.mono fun v hv=>?_⟩;obtain ⟨⟨e,ho,htp,hou⟩,hsz,hbl⟩:=hv;subst e;exact zIT hl hts hsv hr ht hW hf ⟨ho,htp,hou,hsz,hbl⟩
set_option maxRecDepth 100000 in
theorem zDw {H:Type} {enc:TypeId×Value->H} {W:World} {args:Array Value} {ds:List (DataW H)} {p:List MemPlace} {base:Nat} (z2:∀ a,(W.hp.cell a).isSome->a.block≠2)
  (hA:DataW.TrodAll enc Tryz.prog W 0 (fun _=>true) true [32,33] args.toList ds p)
  (hval:∀ (j:Nat) t v,#[32,33][j]?=some t->args[j]?=some v->Value.okWide Tryz.prog W .any base t v) :
  ∃ (c:Cfg) (cb:Option Addr) (ck:Nat) (b2:Option Addr) (c2:Nat) (l:List SpV),args.toList=[zJy c cb ck,.slice b2 l.length c2]/\InOk c l/\sep [blk 2 yY,rsl cb ck 1 (c.pre.map fun x=>[u64 x]),rsl b2 c2 8 (l.map SpV.cells),rpk l] W.cut2 zK2/\ds.length=2:=by
 obtain ⟨v1,v2,d1,d2,p1,p2,rfl,rfl,rfl,h1,h2⟩:=trodAll_two hA;obtain ⟨f1,g1⟩:=h1;obtain ⟨f2,g2⟩:=h2;obtain ⟨c,cb,ck,e1,hc1,r1⟩:=zLD g1;obtain ⟨b2,c2,l2,e2,hl2,r2,r3⟩:=zHC g2;have w1:v1=zJy (zHL c) cb ck:=by
  obtain ⟨fs,_,_,hfs,_⟩:=KL.TyF.h (P:=Tryz.prog) (t:=32) (i:=0);obtain ⟨cs,rfl,_⟩:=okWide_struct hfs (hval 0 _ v1 rfl rfl);have e1:cs.toList=c.cells cb ck:=e1;rw [<-Array.toArray_toList (xs:=cs),e1];rfl
 have w2:v2=.slice b2 l2.length c2:=by
  obtain ⟨a,n,c,rfl⟩:=okWide_slice (KL.TyU.h (P:=Tryz.prog) (t:=33)) (hval 1 _ v2 rfl rfl);simpa [Value.cells] using e2
 subst w1 w2;have hcl:l2.map zS.cells=(l2.map toV).map SpV.cells:=by
  rw [List.map_map];exact List.map_congr_left fun s hs=>(zHV (hl2 s hs).ok).symm
 refine ⟨zHL c,cb,ck,b2,c2,l2.map toV,by rw [List.length_map],⟨hc1,fun x hx=>?_⟩,zAs (seps (zBD z2 (r1 Hp.emp) _) (seps (zBD z2 (by rw [<-hcl];exact r2 Hp.emp) _) (seps (zMr z2 hl2) trivial))),rfl⟩
 obtain ⟨y,hy,rfl⟩:=List.mem_map.1 hx;exact (hl2 y hy).packet
end Go.Proofs.YtjcbjclhagobiaaGreat
end
