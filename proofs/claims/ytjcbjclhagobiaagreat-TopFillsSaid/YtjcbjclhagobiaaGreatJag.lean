/- Texts joined by a program of ours: Ce Ch Ci Cj Ck Cl Na Da Db Dc Dd Nb De Nc. -/
import Derived.Test.YtjcbjclhagobiaaGreatJaf
set_option linter.all false
section
namespace Go.KL
open Go
def rall (l:List (Option Addr×Nat×List Nat)):HP:=
 ro (fun r=>∀ x∈l,(rsl x.1 x.2.1 1 (x.2.2.map u8e)).p r Hp.emp) fun h g x hx=>(rsl x.1 x.2.1 1 (x.2.2.map u8e)).mono h (g x hx)
instance {l:List (Option Addr×Nat×List Nat)}:(rall l).Dup:=⟨fun h=>h⟩
theorem Into.rallNil {s:List HP}:Into s (rall []::s):=⟨fun r f h=>wB (A:=rall []) (fun h=>h) (f':=f) (fun x hx=>by cases hx) h⟩
theorem Into.rallSnoc {s F F2:List HP} {l:List (Option Addr×Nat×List Nat)} {b:Option Addr} {c:Nat} {m:List Nat} (h1:Sel s (rall l) F) (h2:Sel s (KL.rsl b c 1 (m.map u8e)) F2):Into s (rall (l++[(b,c,m)])::s):=⟨fun r f h=>by
 obtain ⟨f1,f2,d,l1,l2,a1,_⟩:=h1.out h;obtain ⟨g1,g2,d',m1,m2,a2,_⟩:=h2.out h;refine wB (A:=rall (l++[(b,c,m)])) (fun h=>h) (f':=f) (fun x hx=>?_) h;rcases List.mem_append.1 hx with hx|hx
 ·exact a1 x hx
 ·simp at hx;subst hx;exact a2⟩
theorem Into.rallGet {s F:List HP} {l:List (Option Addr×Nat×List Nat)} {b:Option Addr} {c:Nat} {m:List Nat} (hm:(b,c,m)∈l) (h1:Sel s (rall l) F):Into s (KL.rsl b c 1 (m.map u8e)::s):=⟨fun r f h=>by
 obtain ⟨f1,f2,d,l1,l2,a1,_⟩:=h1.out h;exact wB (A:=KL.rsl b c 1 (m.map u8e)) (fun h=>h) (f':=f) (a1 _ hm) h⟩
theorem rsnoc {s F F2:List HP} {l:List (Option Addr×Nat×List Nat)} (b:Option Addr) (c:Nat) (m:List Nat) (h1:Sel s (rall l) F:=by (repeat (first|(with_reducible exact Sel.here)|(with_reducible apply Sel.there)))) (h2:Sel s (rsl b c 1 (m.map u8e)) F2:=by (repeat (first|(with_reducible exact Sel.here)|(with_reducible apply Sel.there)))):Into s (rall (l++[(b,c,m)])::s):=.rallSnoc h1 h2
theorem Into.nilB {s:List HP}:Into s (KL.rsl none 0 1 (([]:List Nat).map u8e)::s):=Into.nilR
theorem Does.frame {P:Program} {E:Env} {X:Xs} {f:FuncId} {args:List Value} {pre F:List HP} {Post:Value->List HP->Prop} (h:Does P E X f args pre Post):Does P E X f args (pre++F) (fun v t=>∃ t',Post v t'/\t=t'++F):=by
 obtain ⟨fnc,body,h1,h2,h3,h4⟩:=h;refine ⟨fnc,body,h1,h2,h3,fun K cs F' hr tmps r f hok hs=>?_⟩;refine h4 K cs (F++F') (fun fr v s' t r f hl he hp hss=>?_) tmps r f hok (by rw [<-List.append_assoc];exact hs)
 obtain ⟨l1,l2,l3,l4,⟨l5a,l5b,fnc',l5,l6⟩|⟨_,l5,_⟩⟩:=hl
 case inr=>cases l5
 refine hr fr v (s'++F) (t++F) r f ⟨l1,l2,l3,l4,.inl ⟨l5a,l5b,fnc',l5,?_⟩⟩ (fun r f hq=>?_) ⟨t,hp,rfl⟩ (by rw [List.append_assoc];exact hss)
 ·intro w r f F2 es hsat hsep;obtain ⟨a,w',es',r',f',A',e1,k1,⟨q1,q2⟩,s1⟩:=l6 w r f (F++F2) es hsat (by rw [<-List.append_assoc];exact hsep)
  exact ⟨a,w',es',r',f',s'++F,e1,k1,⟨q1,rfl⟩,by rw [q2] at s1;rw [List.append_assoc];exact s1⟩
 ·obtain ⟨f1,f2,d,l1,l2,h1,h2⟩:=zD.1 hq;exact zD.2 ⟨f1,f2,d,l1,l2,he _ _ h1,h2⟩
theorem Does.framed {P:Program} {E:Env} {X:Xs} {f:FuncId} {args:List Value} {pre F:List HP} {Post Post':Value->List HP->Prop} (F0:List HP) (h:Does P E X f args pre Post) (he:pre++F0=F) (g:∀ v t,Post v t->Post' v (t++F0)):Does P E X f args F Post':=by
 subst he;exact h.frame.post fun v t ⟨t',h1,h2⟩=>by rw [h2];exact g v t' h1
theorem Does.convI {P:Program} {E:Env} {X:Xs} {f:FuncId} {args:List Value} {pre pre':List HP} {Post Post':Value->List HP->Prop} (h:Does P E X f args pre Post) (hi:Into pre' pre) (g:∀ v t,Post v t->∃ t',Into t t'/\Post' v t'):Does P E X f args pre' Post':=by
 obtain ⟨fnc,body,h1,h2,h3,h4⟩:=h;refine ⟨fnc,body,h1,h2,h3,fun K cs F' hr tmps r f hok hs=>?_⟩;refine h4 K cs F' (fun fr v s' t r f hl he hp hss=>?_) tmps r f hok ((hi.app (F:=F')).h _ _ hs);obtain ⟨t',k1,k2⟩:=g v t hp;exact hr fr v s' t' r f hl (fun r f hq=>k1.h _ _ (he _ _ hq)) k2 hss
end Go.KL
namespace Go.Proofs.YtjcbjclhagobiaaGreat
open Go Go.KL Go.KM
variable {E:Env} {X:Xs}
structure StepM where
 what:Int
 hi:Nat
 lo:Nat
 v6:Bool
 pn:Int
 hop:Int
 n:Int
 packet:List Nat
abbrev zS:=StepM×Option Addr×Nat
def zS.cells (s:zS):List Value:=[.int .i64 s.1.what,u64 s.1.hi,u64 s.1.lo,.bool s.1.v6,.int .i64 s.1.pn,.int .i64 s.1.hop,.int .i64 s.1.n,.slice s.2.1 s.1.packet.length s.2.2]
def zS.row (s:zS):Option Addr×Nat×List Nat:=(s.2.1,s.2.2,s.1.packet)
def zT (w:Nat) (l:List Nat):StepM×List Nat:=
 let z:StepM:=⟨w,0,0,false,0,0,0,[]⟩
 let p:=(xC l).1
 let r:=(xC l).2
 match w with
 | 0=>({ z with packet:=l.tail.take (l.headD 0) },l.tail.drop (l.headD 0))
 | 1=>({ z with hi:=p.hi,lo:=p.lo,v6:=p.v6,pn:=p.n,hop:=(QH r 2:Nat) },r.drop 2)
 | 2=>({ z with hi:=p.hi,lo:=p.lo,v6:=p.v6,pn:=p.n },r)
 | 5=>({ z with n:=(l.headD 0:Nat) },l.tail)
 | 6=>({ z with hi:=p.hi,lo:=p.lo,v6:=p.v6,pn:=p.n },r)
 | 7=>({ z with hi:=p.hi,lo:=p.lo,v6:=p.v6,pn:=p.n,n:=(r.headD 0:Nat) },r.tail)
 | _=>(z,l)
def zLh:Nat->Nat
 | 0=>129
 | 1=>130
 | 2=>131
 | 5=>132
 | 6=>131
 | 7=>133
 | _=>128
def zD4 (w:Int):List Value:=[.int .i64 w,u64 0,u64 0,.bool false,.int .i64 0,.int .i64 0,.int .i64 0,.slice none 0 0]
theorem zKA (w:Nat) (hw:w<10) (rb sb:Nat) (T T2:TypeId) (l:List Nat) (hl:∀ x∈l,x<256) (base:Option Addr) (cap:Nat):Does PR E X (zLh w) [.pointer (some ⟨rb,0,none⟩),.pointer (some ⟨sb,0,none⟩)] [box rb [.slice base l.length cap] T,rsl base cap 1 (l.map u8e),box sb (zD4 w) T2]
  (fun v t=>∃ base' cap' pb pc,t=[box rb [.slice base' (zT w l).2.length cap'] T,rsl base' cap' 1 ((zT w l).2.map u8e),box sb (zS.cells ((zT w l).1,pb,pc)) T2,rsl pb pc 1 ((zT w l).1.packet.map u8e)]):=by
 have hz:∀ (a b c:HP),Into [a,b,c] [a,b,c,rsl none 0 1 (([]:List Nat).map u8e)]:=fun a b c=>⟨fun r f h=>by
  have:=Into.nilB.h r f h
  exact (Sel.there (Sel.there (Sel.there Sel.here)):Sel [a,b,c,rsl none 0 1 (([]:List Nat).map u8e)] (rsl none 0 1 (([]:List Nat).map u8e)) [a,b,c]).back this⟩
 have nn:∀ w:Nat,zLh w=128->(zT w l).1=⟨w,0,0,false,0,0,0,[]⟩->(zT w l).2=l->Does PR E X (zLh w) [.pointer (some ⟨rb,0,none⟩),.pointer (some ⟨sb,0,none⟩)] [box rb [.slice base l.length cap] T,rsl base cap 1 (l.map u8e),box sb (zD4 w) T2]
  (fun v t=>∃ base' cap' pb pc,t=[box rb [.slice base' (zT w l).2.length cap'] T,rsl base' cap' 1 ((zT w l).2.map u8e),box sb (zS.cells ((zT w l).1,pb,pc)) T2,rsl pb pc 1 ((zT w l).1.packet.map u8e)]):=fun w h1 h2 h3=>by
  rw [h1,h2,h3];exact ((zCt _ _).framed (Post':=fun v t=>t=[box rb [.slice base l.length cap] T,rsl base cap 1 (l.map u8e),box sb (zD4 w) T2]) _ rfl fun v t e=>by rw [e];rfl).convI .refl fun v t e=>by subst e;exact ⟨_,hz _ _ _,base,cap,none,0,rfl⟩
 obtain rfl|rfl|rfl|rfl|rfl|rfl|rfl|rfl|rfl|rfl:w=0∨w=1∨w=2∨w=3∨w=4∨w=5∨w=6∨w=7∨w=8∨w=9:=by omega
 ·exact (zDf rb sb T T2 l hl base cap _ _ _ _ _ _ _ _).post fun v t ⟨b',c',pb,pc,e⟩=>⟨b',c',pb,pc,e⟩
 ·exact (zEL rb sb T T2 l hl base cap _ _ _ _ _ _ _ _).convI .refl fun v t ⟨b',c',e⟩=>by subst e;exact ⟨_,hz _ _ _,b',c',none,0,rfl⟩
 ·exact (Xe rb sb T T2 l hl base cap _ _ _ _ _ _ _ _).convI .refl fun v t ⟨b',c',e⟩=>by subst e;exact ⟨_,hz _ _ _,b',c',none,0,rfl⟩
 ·exact nn _ rfl rfl rfl
 ·exact nn _ rfl rfl rfl
 ·exact (zC7 rb sb T T2 l hl base cap _ _ _ _ _ _ _ _).convI .refl fun v t ⟨b',c',e⟩=>by subst e;exact ⟨_,hz _ _ _,b',c',none,0,rfl⟩
 ·exact (Xe rb sb T T2 l hl base cap _ _ _ _ _ _ _ _).convI .refl fun v t ⟨b',c',e⟩=>by subst e;exact ⟨_,hz _ _ _,b',c',none,0,rfl⟩
 ·exact (zGy rb sb T T2 l hl base cap _ _ _ _ _ _ _ _).convI .refl fun v t ⟨b',c',e⟩=>by subst e;exact ⟨_,hz _ _ _,b',c',none,0,rfl⟩
 ·exact nn _ rfl rfl rfl
 ·exact nn _ rfl rfl rfl
def zNh:List Value:=[.func (.func 129) #[] #[],.func (.func 130) #[] #[],.func (.func 131) #[] #[],.func (.func 128) #[] #[],.func (.func 128) #[] #[],.func (.func 132) #[] #[],.func (.func 131) #[] #[],.func (.func 133) #[] #[],.func (.func 128) #[] #[],.func (.func 128) #[] #[]]
theorem zGX:Does PR E X 58 [] [] (fun v t=>v=.agg zNh.toArray/\t=[]):=by
 refine Does.of 7 inferInstance rfl (by decide) rfl ?_
 refine zB ?_;refine alloc fun b1=>?_;refine zB ?_;refine ret ?_;exact ends ⟨rfl,rfl⟩
def Zs (l:List Nat):Nat->List Nat
 | 0=>[]
 | k+1=>Zs l k++[QH (l.drop (8*k)) 8]
@[simp] theorem rdNums_len {l:List Nat}:∀ {k:Nat},(Zs l k).length=k
 | 0=>rfl
 | k+1=>by simp [Zs,rdNums_len (k:=k)]
def zDd (x:Nat):List Value:=[u64 x]
def yI:Nat->List Nat->List StepM
 | 0,_=>[]
 | _+1,[]=>[]
 | k+1,a::l=>(zT (a%10) l).1::yI k (zT (a%10) l).2
structure CfgM where
 cap:Int
 policy:Int
 bound:Int
 n:Int
 h:Int
 fetch:Int
 presets:List Nat
def CfgM.cells (c:CfgM) (base:Option Addr) (cap:Nat):List Value:=[.int .i64 c.cap,.int .i64 c.policy,.int .i64 c.bound,.int .i64 c.n,.int .i64 c.h,.int .i64 c.fetch,.slice base c.presets.length cap]
def yC (l:List Nat) (i:Nat):Nat:=(l.drop i).headD 0
def zC1 (l:List Nat):CfgM:=⟨(yC l 0%32:Nat),(yC l 1%2:Nat),(yC l 2%32:Nat),(yC l 3:Nat),(yC l 4:Nat),(yC l 5%9:Nat),Zs (l.drop 7) (yC l 6%18)⟩
def xD (l:List Nat):List StepM:=yI 4096 (l.drop (7+8*(yC l 6%18)))
theorem VX (w:Nat) (l:List Nat):(zT w l).2.length<=l.length:=by
 have hp:(xC l).2.length<=l.length:=by
  unfold xC;simp only [List.length_drop];omega
 unfold zT;split <;> simp only [List.length_drop,List.length_tail] <;> omega
theorem zBp {l:List Nat} (hl:∀ x∈l,x<256) (w:Nat):∀ x∈(zT w l).2,x<256:=by
 have hp:∀ x∈(xC l).2,x<256:=fun x hx=>hl x (List.mem_of_mem_drop (List.mem_of_mem_drop hx));unfold zT;split <;> intro x hx
 ·exact hl x (List.mem_of_mem_tail (List.mem_of_mem_drop hx))
 ·exact hp x (List.mem_of_mem_drop hx)
 ·exact hp x hx
 ·exact hl x (List.mem_of_mem_tail hx)
 ·exact hp x hx
 ·exact hp x (List.mem_of_mem_tail hx)
 ·exact hl x hx
theorem zAL (rb:Nat) (T:TypeId) (l:List Nat) (i:Nat) (hl:∀ x∈l,x<256) (base:Option Addr) (cap:Nat):Does PR E X 56 [.pointer (some ⟨rb,0,none⟩)] [box rb [.slice base (l.drop i).length cap] T,rsl base cap 1 ((l.drop i).map u8e)]
  (fun v t=>∃ base' cap',v=.int .i64 (yC l i:Int)/\t=[box rb [.slice base' (l.drop (i+1)).length cap'] T,rsl base' cap' 1 ((l.drop (i+1)).map u8e)]):=
 (ZM rb T (l.drop i) (fun x hx=>hl x (List.mem_of_mem_drop hx)) base cap).post fun v t ⟨b',c',h1,h2⟩=>⟨b',c',h1,by rw [h2,List.tail_drop]⟩
theorem zEm (l:List Nat) (hl:∀ x∈l,x<256) (base:Option Addr) (cap:Nat):Does PR E X 12 [.slice base l.length cap] [rsl base cap 1 (l.map u8e)]
  (fun v t=>∃ (b1:Option Addr) (c1:Nat) (b2:Option Addr) (c2:Nat) (vs:List zS),vs.map (·.1)=xD l/\v=.tuple #[.agg ((zC1 l).cells b1 c1).toArray,.slice b2 vs.length c2]/\t=[osl b1 c1 48 1 ((zC1 l).presets.map zDd),osl b2 c2 77 8 (vs.map zS.cells),rall (vs.map zS.row)]):=by
 refine Does.of 75 inferInstance rfl (by decide) rfl ?_
 refine zB ?_;refine alloc fun b2=>?_;refine zB ?_;refine zU fun b4=>?_;refine zB ?_;refine call (ZM b4 _ l hl base cap) ?_;rintro _ _ ⟨ba1,ca1,rfl,rfl⟩;refine zB ?_;refine alloc fun b5=>?_;refine zB ?_;rw [<-List.drop_one];have h0:l.headD 0=yC l 0:=rfl;rw [h0];refine call (zAL b4 _ l 1 hl ba1 ca1) ?_;rintro _ _ ⟨ba2,ca2,rfl,rfl⟩;refine zB ?_;refine call (zAL b4 _ l 2 hl ba2 ca2) ?_;rintro _ _ ⟨ba3,ca3,rfl,rfl⟩;refine zB ?_;refine call (zAL b4 _ l 3 hl ba3 ca3) ?_;rintro _ _ ⟨ba4,ca4,rfl,rfl⟩;refine zB ?_;refine call (zAL b4 _ l 4 hl ba4 ca4) ?_;rintro _ _ ⟨ba5,ca5,rfl,rfl⟩;refine zB ?_;refine call (zAL b4 _ l 5 hl ba5 ca5) ?_;rintro _ _ ⟨ba6,ca6,rfl,rfl⟩;refine zB ?_;refine call (zAL b4 _ l 6 hl ba6 ca6) ?_;rintro _ _ ⟨ba7,ca7,rfl,rfl⟩;refine zB ?_;have e0:((yC l 0:Nat):Int)%32=((yC l 0%32:Nat):Int):=by omega
 have e1:((yC l 1:Nat):Int)%2=((yC l 1%2:Nat):Int):=by omega
 have e2:((yC l 2:Nat):Int)%32=((yC l 2%32:Nat):Int):=by omega
 have e5:((yC l 5:Nat):Int)%9=((yC l 5%9:Nat):Int):=by omega
 have e6:((yC l 6:Nat):Int)%18=((yC l 6%18:Nat):Int):=by omega
 simp only [e0,e1,e2,e5,e6];have hn:yC l 6%18<18:=Nat.mod_lt _ (by decide)
 refine into (Into.nilO (T:=48) (sz:=1)) ?_;have d7:∀ k,(l.drop 7).drop k=l.drop (7+k):=fun k=>List.drop_drop ..;generalize hN:yC l 6%18=N;rw [hN] at hn;refine loop (ι:=Nat×(Option Addr×Nat)×(Option Addr×Nat)) (fun i=>N-i.1) (fun i=>i.1<=N) (fun i=>[(2,.pointer (some ⟨b2,0,none⟩)),(4,.pointer (some ⟨b4,0,none⟩)),(5,.pointer (some ⟨b5,0,none⟩)),(36,.int .i64 ((N:Nat):Int)),(37,.int .i64 (i.1:Int))])
  (fun i=>[box b4 [.slice i.2.1.1 (l.drop (7+8*i.1)).length i.2.1.2] 150,rsl i.2.1.1 i.2.1.2 1 ((l.drop (7+8*i.1)).map u8e),box b5 [.int .i64 (yC l 0%32:Nat),.int .i64 (yC l 1%2:Nat),.int .i64 (yC l 2%32:Nat),.int .i64 (yC l 3:Nat),.int .i64 (yC l 4:Nat),.int .i64 (yC l 5%9:Nat),.slice i.2.2.1 i.1 i.2.2.2] 26,osl i.2.2.1 i.2.2.2 48 1 ((Zs (l.drop 7) i.1).map zDd),box b2 [.int .i64 0,.int .i64 0,.int .i64 0,.int .i64 0,.int .i64 0,.int .i64 0,.slice none 0 0] 26]) (0,(ba7,ca7),(none,0)) (by simp) ?_
 rintro ⟨i,⟨br,cr⟩,⟨bp,cp⟩⟩ hi ih;(try dsimp only at hi ih ⊢);refine zB ?_;refine zH (fun h=>?_) (fun h=>?_)
 ·refine zB ?_;refine draw [0,1,0,4,12,31,63,127] [3,4,5,7] [1] [0,1,2,3,4,5,6,7] ?_;refine zC ?_;refine call (JF b4 _ (l.drop (7+8*i)) (fun x hx=>hl x (List.mem_of_mem_drop hx)) br cr 8 (by omega)) ?_
  rintro _ _ ⟨b8,c8,rfl,rfl⟩;refine zJ ?_;refine zC ?_;refine yF fun b9=>?_;refine zC ?_;refine xP fun b10 c10=>?_;refine zC ?_;refine zB ?_;have en:List.map zDd (Zs (l.drop 7) i)++[yG (.int .u64 ((QH (l.drop (7+8*i)) 8:Nat):Int))]=List.map zDd (Zs (l.drop 7) (i+1)):=by
   rw [Zs,d7];simp [zDd,yG]
  have ed:(l.drop (7+8*i)).drop 8=l.drop (7+8*(i+1)):=by rw [List.drop_drop];congr 1
  rw [en,ed];have hi':i<N:=by have:=of_decide_eq_true h;omega
  exact next (ih (i+1,(b8,c8),(b10,c10)) (by dsimp only;omega) (by dsimp only;omega))
 ·have hi':i=N:=by have:=of_decide_eq_false h;omega
  subst hi';refine zB ?_;refine call zGX ?_;rintro _ _ ⟨rfl,rfl⟩;refine zB ?_;refine alloc fun b7=>?_;refine zB ?_;refine into (Into.nilO (T:=77) (sz:=8)) ?_;refine into Into.rallNil ?_;have hl7:∀ x∈l.drop (7+8*i),x<256:=fun x hx=>hl x (List.mem_of_mem_drop hx);refine loop (ι:=List zS×List Nat×(Option Addr×Nat)×(Option Addr×Nat)) (fun j=>j.2.1.length) (fun j=>j.1.length<=4096/\(∀ x∈j.2.1,x<256)/\j.1.map (·.1)++yI (4096-j.1.length) j.2.1=xD l) (fun j=>[(2,.pointer (some ⟨b2,0,none⟩)),(4,.pointer (some ⟨b4,0,none⟩)),(5,.pointer (some ⟨b5,0,none⟩)),(6,.slice j.2.2.2.1 j.1.length j.2.2.2.2),(7,.pointer (some ⟨b7,0,none⟩))])
   (fun j=>[box b7 zNh 154,box b4 [.slice j.2.2.1.1 j.2.1.length j.2.2.1.2] 150,rsl j.2.2.1.1 j.2.2.1.2 1 (j.2.1.map u8e),osl j.2.2.2.1 j.2.2.2.2 77 8 (j.1.map zS.cells),rall (j.1.map zS.row),box b5 [.int .i64 (yC l 0%32:Nat),.int .i64 (yC l 1%2:Nat),.int .i64 (yC l 2%32:Nat),.int .i64 (yC l 3:Nat),.int .i64 (yC l 4:Nat),.int .i64 (yC l 5%9:Nat),.slice bp i cp] 26,osl bp cp 48 1 ((Zs (l.drop 7) i).map zDd),box b2 [.int .i64 0,.int .i64 0,.int .i64 0,.int .i64 0,.int .i64 0,.int .i64 0,.slice none 0 0] 26])
   ([],l.drop (7+8*i),(br,cr),(none,0)) ⟨by simp,hl7,by unfold xD;rw [hN];rfl⟩ ?_
  rintro ⟨vs,m,⟨br2,cr2⟩,⟨bs,cs⟩⟩ ⟨hvs,hm,hrd⟩ ih2;(try dsimp only at hvs hm hrd ih2 ⊢);refine zB ?_;refine zH (fun h2=>?_) (fun h2=>?_)
  ·simp only [Bool.and_eq_true,decide_eq_true_eq] at h2;obtain ⟨a,m,rfl⟩:∃ a m',m=a::m':=by
    cases m with
    | nil=>simp at h2
    | cons a m=>exact ⟨a,m,rfl⟩
   refine zB ?_;refine call (ZM b4 _ (a::m) hm br2 cr2) ?_;rintro _ _ ⟨b8,c8,rfl,rfl⟩;refine zB ?_;refine alloc fun b9=>?_;simp only [List.headD_cons,List.tail_cons];have ea:((a:Nat):Int)%10=((a%10:Nat):Int):=by omega
   rw [ea];have hw:a%10<10:=Nat.mod_lt _ (by decide)
   have hrs:yI (4096-vs.length) (a::m)=(zT (a%10) m).1::yI (4096-(vs.length+1)) (zT (a%10) m).2:=by
    rw [show 4096-vs.length=(4096-(vs.length+1))+1 by omega];rfl
   rw [hrs] at hrd;have hm2:=zBp (l:=m) (fun x hx=>hm x (by simp [hx])) (a%10)
   have hml:=VX (a%10) m;generalize a%10=w at hw hrd hm2 hml;have hm1:∀ x∈m,x<256:=fun x hx=>hm x (by simp [hx])
   have hpv:zNh[0+((w:Nat):Int).toNat*1]?=some (.func (.func (zLh w)) #[] #[]):=by
    obtain rfl|rfl|rfl|rfl|rfl|rfl|rfl|rfl|rfl|rfl:w=0∨w=1∨w=2∨w=3∨w=4∨w=5∨w=6∨w=7∨w=8∨w=9:=by omega
    all_goals rfl
   refine zB ?_;refine call (zKA w hw b4 b9 _ _ m hm1 b8 c8) ?_;rintro _ _ ⟨b10,c10,pb,pc,rfl⟩;refine zB ?_;refine buildSlice fun b11=>?_;refine zB ?_;refine xM fun b12 c12=>?_;refine zB ?_;refine into (rsnoc pb pc (zT w m).1.packet) ?_;have ev:List.map zS.cells vs++[yG (.agg #[.int .i64 (zT w m).1.what,u64 (zT w m).1.hi,u64 (zT w m).1.lo,.bool (zT w m).1.v6,.int .i64 (zT w m).1.pn,.int .i64 (zT w m).1.hop,.int .i64 (zT w m).1.n,.slice pb (zT w m).1.packet.length pc])]=List.map zS.cells (vs++[((zT w m).1,pb,pc)]):=by
    rw [List.map_append];rfl
   have er:List.map zS.row vs++[(pb,pc,(zT w m).1.packet)]=List.map zS.row (vs++[((zT w m).1,pb,pc)]):=by
    rw [List.map_append];rfl
   have el:vs.length+1=(vs++[((zT w m).1,pb,pc)]).length:=by simp
   rw [ev,er,el];refine next (ih2 (vs++[((zT w m).1,pb,pc)],(zT w m).2,(b10,c10),(b12,c12)) ⟨?_,hm2,?_⟩ ?_)
   ·simp;omega
   ·simpa using hrd
   ·simp;omega
  ·refine zB ?_;refine ret ?_;refine ends (t:=[osl bp cp 48 1 ((Zs (l.drop 7) i).map zDd),osl bs cs 77 8 (vs.map zS.cells),rall (vs.map zS.row)]) ⟨bp,cp,bs,cs,vs,?_,?_,?_⟩
   ·rw [<-hrd];simp only [Bool.and_eq_false_iff,decide_eq_false_iff_not] at h2;rcases h2 with h2|h2
    ·have:m=[]:=by cases m with
      | nil=>rfl
      | cons=>simp at h2
     subst this;cases 4096-vs.length <;> simp [yI]
    ·rw [show 4096-vs.length=0 by omega];simp [yI]
   ·simp only [pack_two,CfgM.cells,zC1,hN,rdNums_len]
   ·simp only [zC1,hN]
end Go.Proofs.YtjcbjclhagobiaaGreat
end
section
namespace Go.Proofs.YtjcbjclhagobiaaGreat
open Go Go.KL Go.KM
variable {E:Env} {X:Xs}
def Xw (h k:Nat):Nat:=h / 2^(56-8*k)%256
theorem zKj {h k:Nat}:Xw h k<256:=Nat.mod_lt _ (by decide)
def Ze (hi lo:Nat) (v6:Bool):List Nat:=(List.range (width v6 / 8)).map fun k=>if k<8 then Xw hi k else Xw lo (k-8)
theorem ZQ {hi lo:Nat} {v6:Bool}:(Ze hi lo v6).length=width v6 / 8:=by simp [Ze]
theorem zJS {hi lo:Nat} {v6:Bool}:∀ x∈Ze hi lo v6,x<256:=fun x hx=>by
 obtain ⟨k,_,rfl⟩:=List.mem_map.1 hx;split <;> exact zKj
theorem zFx {h:Nat} {y:Int} {k:Nat} (hy:y=((56-8*k:Nat):Int)):IntKind.u8.wrap (Wa .u64 (h:Int) y)=(Xw h k:Int):=by
 subst hy;unfold Wa Xw;have e:min (((56-8*k:Nat):Int)).toNat IntKind.u64.bits=56-8*k:=by
  show min (((56-8*k:Nat):Int)).toNat 64=_;omega
 rw [e,Int.fdiv_eq_ediv_of_nonneg _ (by exact Int.le_of_lt (Int.pow_pos (by decide)))]
 show ((h:Int) / 2^(56-8*k))%256=_;have e2:((2:Int)^(56-8*k))=((2^(56-8*k):Nat):Int):=by simp
 rw [e2];omega
theorem zIx {f:Nat->Nat} {i m:Nat} (h:i<m):(((List.range i).map f++List.replicate (m-i) 0).map u8e).set i [.int .u8 ((f i:Nat):Int)]=((List.range (i+1)).map f++List.replicate (m-(i+1)) 0).map u8e:=by
 have e:([.int .u8 ((f i:Nat):Int)]:List Value)=u8e (f i):=rfl;rw [e,<-List.map_set];congr 1;rw [List.set_append,if_neg (by simp),List.length_map,List.length_range,Nat.sub_self,List.range_succ,List.map_append,List.append_assoc]
 congr 1;rw [show m-i=(m-(i+1))+1 by omega,List.replicate_succ]
 rfl
theorem Yr {f:Nat->Nat} {i m:Nat} (h:i<m):(((List.range i).map f++List.replicate (m-i) 0).map u8e)[((i:Nat):Int).toNat]?=some [.int .u8 0]:=by
 rw [Int.toNat_natCast,List.getElem?_map,List.getElem?_append_right (by simp),List.length_map,List.length_range,Nat.sub_self,List.getElem?_replicate]
 simp [u8e];omega
theorem Xc (hi lo:Nat) (v6:Bool) (h1:hi<18446744073709551616) (h2:lo<18446744073709551616):Does PR E X 124 [.agg #[u64 hi,u64 lo,.bool v6]] [] (fun v t=>∃ b,v=.slice (some ⟨b,0,none⟩) (width v6 / 8) (width v6 / 8)/\t=[rsl (some ⟨b,0,none⟩) (width v6 / 8) 1 ((Ze (topN (min (width v6) 64) hi) (topN (width v6-64) lo) v6).map u8e)]):=by
 refine Does.of 36 inferInstance rfl (by decide) rfl ?_
 have hw:width v6=128∨width v6=32:=by cases v6 <;> simp [width]
 refine zB ?_;refine zU fun b1=>?_;refine zB ?_;refine call (ZX hi lo v6 h1 h2) ?_;rintro _ _ ⟨rfl,rfl⟩;refine zB ?_;refine alloc fun b3=>?_;refine zB ?_;refine call (yO _) ?_;rintro _ _ ⟨rfl,rfl⟩;refine zB ?_;refine makeSlice fun b4=>?_;refine zB ?_;generalize topN (min (width v6) 64) hi=HI;generalize topN (width v6-64) lo=LO;have em:((width v6:Int) / 8).toNat=width v6 / 8:=by omega
 simp only [em];have er:List.replicate (width v6 / 8) [Value.int IntKind.u8 0]=((List.range 0).map (fun k=>if k<8 then Xw HI k else Xw LO (k-8))++List.replicate (width v6 / 8-0) 0).map u8e:=by simp [u8e]
 rw [er];refine loop (ι:=Nat) (fun i=>width v6 / 8-i) (fun i=>i<=width v6 / 8) (fun i=>[(3,.pointer (some ⟨b3,0,none⟩)),(4,.slice (some ⟨b4,0,none⟩) (width v6 / 8) (width v6 / 8)),(15,.int .i64 ((width v6 / 8:Nat):Int)),(16,.int .i64 (i:Nat))]) (fun i=>[osl (some ⟨b4,0,none⟩) (width v6 / 8) 5 1 (((List.range i).map (fun k=>if k<8 then Xw HI k else Xw LO (k-8))++List.replicate (width v6 / 8-i) 0).map u8e),box b3 [u64 HI,u64 LO] 246]) 0 (by simp) ?_
 intro i hi ih;(try dsimp only at hi ih ⊢);refine zB ?_;refine zH (fun h=>?_) (fun h=>?_)
 ·have hi':i<width v6 / 8:=by have:=of_decide_eq_true h;omega
  have hlen:(((List.range i).map (fun k=>if k<8 then Xw HI k else Xw LO (k-8))++List.replicate (width v6 / 8-i) 0).map u8e).length=width v6 / 8:=by simp;omega
  have hz:=Yr (f:=fun k=>if k<8 then Xw HI k else Xw LO (k-8)) hi';have hzs:=zIx (f:=fun k=>if k<8 then Xw HI k else Xw LO (k-8)) hi';have hit:((i:Nat):Int).toNat=i:=Int.toNat_natCast i;rcases Nat.lt_or_ge i 8 with h8|h8
  ·have hd:((i:Int)*8 / 64)=0:=by omega
   refine zB ?_;simp only [hd];refine zB ?_;have e1:=zFx (h:=HI) (y:=56-(i:Int)*8%64) (k:=i) (by omega)
   simp only [if_pos h8] at hzs;simp only [e1,hit,hzs];exact next (ih (i+1) (by omega) (by omega))
  ·have hd:((i:Int)*8 / 64)=1:=by omega
   refine zB ?_;simp only [hd];refine zB ?_;have e1:=zFx (h:=LO) (y:=56-(i:Int)*8%64) (k:=i-8) (by omega)
   simp only [if_neg (show ¬ i<8 by omega)] at hzs
   simp only [e1,hit,hzs];exact next (ih (i+1) (by omega) (by omega))
 ·have hi':i=width v6 / 8:=by have:=of_decide_eq_false h;omega
  subst hi';refine zB ?_;refine xE (some ⟨b4,0,none⟩) ?_;refine ret ?_;rw [Nat.sub_self,List.replicate_zero,List.append_nil];exact ends (t:=[rsl (some ⟨b4,0,none⟩) (width v6 / 8) 1 ((Ze HI LO v6).map u8e)]) ⟨b4,rfl,rfl⟩
def QX (x:Nat):Nat->List Nat
 | 0=>[]
 | k+1=>x / 2^(8*k)%256::QX x k
@[simp] theorem encN_len {x:Nat}:∀ {n:Nat},(QX x n).length=n
 | 0=>rfl
 | n+1=>by simp [QX,encN_len (n:=n)]
theorem zFh {x:Nat}:∀ {n j:Nat},j<n->(QX x n)[n-(j+1)]?=some (x / 2^(8*j)%256)
 | n+1,j,h=>by
  rcases Nat.lt_or_ge j n with g|g
  ·rw [show n+1-(j+1)=(n-(j+1))+1 by omega,QX,List.getElem?_cons_succ]
   exact zFh g
  ·have:j=n:=by omega
   subst this;rw [Nat.sub_self];rfl
theorem zDD {x n j:Nat} (h:j<n):(QX x n).take (n-j)=(QX x n).take (n-(j+1))++[x / 2^(8*j)%256]:=by
 rw [show n-j=(n-(j+1))+1 by omega,List.take_add_one,zFh h];rfl
theorem zM9 {x:Nat} {y:Int} {k:Nat} (hk:k<=7) (hy:y=((8*k:Nat):Int)):IntKind.u8.wrap (Wa .u64 (x:Int) y)=((x / 2^(8*k)%256:Nat):Int):=by
 subst hy;unfold Wa;have e:min (((8*k:Nat):Int)).toNat IntKind.u64.bits=8*k:=by
  show min (((8*k:Nat):Int)).toNat 64=_;omega
 rw [e,Int.fdiv_eq_ediv_of_nonneg _ (by exact Int.le_of_lt (Int.pow_pos (by decide)))]
 show ((x:Int) / 2^(8*k))%256=_;have e2:((2:Int)^(8*k))=((2^(8*k):Nat):Int):=by simp
 rw [e2,<-Int.natCast_ediv];omega
theorem Vy (wb:Nat) (T:TypeId) (l:List Nat) (base:Option Addr) (cap x n:Nat) (hn:n<=8) (hl:l.length<=1000000000):Does PR E X 126 [.pointer (some ⟨wb,0,none⟩),u64 x,.int .i64 (n:Int)] [box wb [.slice base l.length cap] T,osl base cap 5 1 (l.map u8e)]
  (fun v t=>∃ base' cap',t=[box wb [.slice base' (l++QX x n).length cap'] T,osl base' cap' 5 1 ((l++QX x n).map u8e)]):=by
 refine Does.of 28 inferInstance rfl (by decide) rfl ?_
 refine zB ?_;refine loop (ι:=Nat×Option Addr×Nat) (fun i=>i.1) (fun i=>i.1<=n) (fun i=>[(0,.pointer (some ⟨wb,0,none⟩)),(1,u64 x),(6,.int .i64 ((i.1:Int)-1))]) (fun i=>[box wb [.slice i.2.1 (l++(QX x n).take (n-i.1)).length i.2.2] T,osl i.2.1 i.2.2 5 1 ((l++(QX x n).take (n-i.1)).map u8e)]) (n,base,cap) (by simp) ?_ (hs:=⟨fun r f h=>by simpa using h⟩)
 rintro ⟨j,bs,cs⟩ hj ih;(try dsimp only at hj ih ⊢);refine zB ?_;refine zH (fun h=>?_) (fun h=>?_)
 ·have hj':0<j:=by have:=of_decide_eq_true h;omega
  obtain ⟨j,rfl⟩:∃ k,j=k+1:=⟨j-1,by omega⟩
  have ej:(((j+1:Nat):Int)-1)=(j:Int):=by omega
  rw [ej];have hlen:(l++(QX x n).take (n-(j+1))).length<=1000000008:=by simp;omega
  refine zB ?_;refine buildSlice fun b9=>?_;refine zB ?_;refine xM fun b10 c10=>?_;refine zB ?_;have e1:=zM9 (x:=x) (y:=(j:Int)*8) (k:=j) (by omega) (by omega)
  have e2:List.map u8e (l++(QX x n).take (n-(j+1)))++[yG (.int .u8 ((x / 2^(8*j)%256:Nat):Int))]=List.map u8e (l++(QX x n).take (n-j)):=by
   rw [zDD (n:=n) (j:=j) (by omega),<-List.append_assoc,List.map_append (l₂:=[_])];rfl
  have e3:(l++(QX x n).take (n-(j+1))).length+1=(l++(QX x n).take (n-j)).length:=by
   rw [zDD (n:=n) (j:=j) (by omega)];simp;omega
  simp only [e1,e2,e3];exact next (ih (j,b10,c10) (by dsimp only;omega) (by dsimp only;omega))
 ·have hj':j=0:=by have:=of_decide_eq_false h;omega
  subst hj';refine zB ?_;refine fall ?_;have e1:(QX x n).take (n-0)=QX x n:=by rw [Nat.sub_zero];exact List.take_of_length_le (by simp)
  rw [e1];exact ends ⟨bs,cs,rfl⟩
def Yh (hi lo:Nat) (v6:Bool) (n:Nat):List Nat:=[if v6 then 1 else 0,n]++(Ze hi lo v6).take (ZG v6 n)
theorem Zi (wb:Nat) (T:TypeId) (l:List Nat) (base:Option Addr) (cap hi lo:Nat) (v6:Bool) (n:Nat) (h1:hi<18446744073709551616) (h2:lo<18446744073709551616) (hn:n<256) (hl:l.length<=1000000000) :
  Does PR E X 203 [.pointer (some ⟨wb,0,none⟩),.agg #[u64 hi,u64 lo,.bool v6,.int .i64 (n:Int)]] [box wb [.slice base l.length cap] T,osl base cap 5 1 (l.map u8e)]
  (fun v t=>∃ base' cap',t=[box wb [.slice base' (l++Yh (topN (min (width v6) 64) hi) (topN (width v6-64) lo) v6 n).length cap'] T,osl base' cap' 5 1 ((l++Yh (topN (min (width v6) 64) hi) (topN (width v6-64) lo) v6 n).map u8e)]):=by
 refine Does.of 39 inferInstance rfl (by decide) rfl ?_
 have hL:ZG v6 (n:Int).toNat<=width v6 / 8:=Qa;have hw:width v6<=128:=by cases v6 <;> decide
 refine zB ?_;refine zU fun b3=>?_;refine zB ?_;refine zH (fun h=>?_) (fun h=>?_)
 all_goals
  refine zB ?_;refine draw [0,0,2,6,14,0,0,64,192,480,1022,2047,4095,8191] [9,10,13] [4,7,8] [0,1,2,3,4,5,6,7,8,9,10,11,12,13] ?_;refine zC ?_;refine yF fun b4=>?_;refine zC ?_;refine xP fun b5 c5=>?_;refine zC ?_;refine draw [0,0,2,6,14,0,32,96,0,256,768,0,2048,8160,16352,32766,65535,131071,262143] [7,13,15,18] [4,6,10,12,14] [0,1,2,3,4,5,6,8,9,10,11,12,7,13,14,15,16,17,18] ?_;refine zC ?_;refine call (Xc hi lo v6 h1 h2) ?_;rintro _ _ ⟨b6,rfl,rfl⟩;refine zJ ?_;refine zC ?_;refine call (JE _ _ (by omega) (by omega)) ?_
  rintro _ _ ⟨rfl,rfl⟩;refine zJ ?_;refine zC ?_;simp only [Int.toNat_natCast,zHn,Nat.sub_zero] at hL ⊢;refine DA.intoC (Jq (some ⟨b6,0,none⟩) (cap:=width v6 / 8) (sz:=1) 0 (ZG v6 n) (by omega) (es':=((Ze (topN (min (width v6) 64) hi) (topN (width v6-64) lo) v6).take (ZG v6 n)).map u8e) (by rw [List.drop_zero,List.map_take])) ?_
  simp only [zHn,Nat.sub_zero];have hlen:(List.map u8e (List.take (ZG v6 n) (Ze (topN (min (width v6) 64) hi) (topN (width v6-64) lo) v6))).length=ZG v6 n:=by
   rw [List.length_map,List.length_take,ZQ];omega
  have hlen2:∀ x:Int,(List.map u8e l++[yG (.int .u8 x),yG (.int .u8 (n:Int))]).length=l.length+2:=fun x=>by simp
  refine zBV fun b7 c7=>?_;refine zC ?_;refine zB ?_;refine fall ?_;have e1:(l++Yh (topN (min (width v6) 64) hi) (topN (width v6-64) lo) v6 n).length=l.length+2+ZG v6 n:=by
   simp [Yh,ZQ];omega
  rw [e1,Yh];simp only [h,Bool.false_eq_true,if_true,if_false,List.map_append,List.append_assoc];exact ends ⟨b7,c7,rfl⟩
end Go.Proofs.YtjcbjclhagobiaaGreat
end
section
namespace Go.Proofs.YtjcbjclhagobiaaGreat
set_option maxHeartbeats 1600000
open Go Go.KL Go.KM
variable {E:Env} {X:Xs}
structure StepM.Fits (s:StepM):Prop where
 what:0<=s.what/\s.what<10
 hi:s.hi<18446744073709551616
 lo:s.lo<18446744073709551616
 pn:0<=s.pn/\s.pn<256
 hop:0<=s.hop/\s.hop<=65535
 n:0<=s.n/\s.n<256
 packet:s.packet.length<256
def StepM.pfx (s:StepM):List Nat:=Yh (topN (min (width s.v6) 64) s.hi) (topN (width s.v6-64) s.lo) s.v6 s.pn.toNat
def Zc (s:StepM):Nat->List Nat
 | 0=>s.packet.length::s.packet
 | 1=>s.pfx++QX s.hop.toNat 2
 | 2=>s.pfx
 | 5=>[s.n.toNat]
 | 6=>s.pfx
 | 7=>s.pfx++[s.n.toNat]
 | _=>[]
def Xz (s:StepM):List Nat:=s.what.toNat::Zc s s.what.toNat
theorem zHt {s:StepM}:s.pfx.length<=18:=by
 have hw:width s.v6<=128:=by cases s.v6 <;> decide
 unfold StepM.pfx Yh;simp [ZQ];omega
theorem zDo {s:StepM} (h:s.packet.length<256):(Xz s).length<=300:=by
 have:=@zHt s
 unfold Xz Zc;split <;> simp <;> omega
theorem zHJ (wb:Nat) (T:TypeId) (l:List Nat) (base:Option Addr) (cap:Nat) (s:zS) (hs:s.1.Fits) (hl:l.length<=900000000) :
  Does PR E X 127 [.pointer (some ⟨wb,0,none⟩),.agg (zS.cells s).toArray] [box wb [.slice base l.length cap] T,osl base cap 5 1 (l.map u8e),rsl s.2.1 s.2.2 1 (s.1.packet.map u8e)]
  (fun v t=>∃ base' cap',t=[box wb [.slice base' (l++Xz s.1).length cap'] T,osl base' cap' 5 1 ((l++Xz s.1).map u8e)]):=by
 obtain ⟨⟨what,hi,lo,v6,pn,hop,n,packet⟩,pb,pc⟩:=s;obtain ⟨hwhat,hhi,hlo,hpn,hhop,hn,hpk⟩:=hs;dsimp only at hwhat hhi hlo hpn hhop hn hpk;obtain ⟨w,rfl⟩:=Int.eq_ofNat_of_zero_le hwhat.1;obtain ⟨pn,rfl⟩:=Int.eq_ofNat_of_zero_le hpn.1;obtain ⟨hop,rfl⟩:=Int.eq_ofNat_of_zero_le hhop.1;obtain ⟨n,rfl⟩:=Int.eq_ofNat_of_zero_le hn.1;have hw:w<10:=by omega
 refine Does.of 69 inferInstance rfl (by decide) rfl ?_
 refine zB ?_;refine zU fun b3=>?_;refine zB ?_;refine draw [0,0,2,6,14,0,32,96,224,510,1023,2047,4095] [8,9,12] [4,6,7] [0,1,2,3,4,5,6,7,8,9,10,11,12] ?_;refine zC ?_;refine yF fun b4=>?_;refine zC ?_;refine xP fun b5 c5=>?_;refine zC ?_;have e5:List.map u8e l++[yG (.int .u8 (w:Int))]=(l++[w]).map u8e:=by simp [u8e,yG]
 have n5:l.length+1=(l++[w]).length:=by simp
 have l5:(l++[w]).length<=900000001:=by simp;omega
 rw [e5,n5];have eL:∀ m:List Nat,l++(w::m)=(l++[w])++m:=fun m=>by simp
 have eS:Xz ⟨w,hi,lo,v6,pn,hop,n,packet⟩=w::Zc ⟨w,hi,lo,v6,pn,hop,n,packet⟩ w:=rfl;rw [eS,eL];have hpf:(StepM.mk (w:Int) hi lo v6 pn hop n packet).pfx=Yh (topN (min (width v6) 64) hi) (topN (width v6-64) lo) v6 pn:=rfl;generalize hl1:l++[w]=l1 at l5;have hlp:=@zHt (StepM.mk (w:Int) hi lo v6 pn hop n packet);obtain rfl|rfl|rfl|rfl|rfl|rfl|rfl|rfl|rfl|rfl:w=0∨w=1∨w=2∨w=3∨w=4∨w=5∨w=6∨w=7∨w=8∨w=9:=by omega
 ·refine vT ?_;refine draw [0,0,2,6,14,0,32,96,224,480,1022,0,2048,8190,16383,32767,65535] [9,10,13,16] [4,6,8,12] [0,1,2,3,4,5,6,7,8,11,12,9,10,13,14,15,16] ?_;refine zC ?_;refine yF fun b6=>?_;refine zC ?_;refine xP fun b7 c7=>?_;refine zC ?_;refine zBV fun b8 c8=>?_;refine zC ?_;refine vT ?_;refine fall ?_;have e6:l1.map u8e++[yG (.int .u8 ((packet.length:Nat):Int))]++packet.map u8e=(l1++packet.length::packet).map u8e:=by simp [u8e,yG]
  have n6:l1.length+1+packet.length=(l1++packet.length::packet).length:=by simp;omega
  (try dsimp only);rw [e6,n6];exact ends ⟨b8,c8,rfl⟩
 ·refine vT ?_;rw [Zc,hpf];refine call (Zi wb T l1 b5 c5 hi lo v6 pn hhi hlo (by omega) (by omega)) ?_
  rintro _ _ ⟨b7,c7,rfl⟩;refine vT ?_;have hl7:(l1++Yh (topN (min (width v6) 64) hi) (topN (width v6-64) lo) v6 pn).length<=1000000000:=by
   rw [hpf] at hlp;simp at hlp ⊢;omega
  refine call (Vy wb T (l1++Yh (topN (min (width v6) 64) hi) (topN (width v6-64) lo) v6 pn) b7 c7 hop 2 (by omega) hl7) ?_
  rintro _ _ ⟨b8,c8,rfl⟩;refine vT ?_;refine fall ?_;rw [List.append_assoc];exact ends ⟨b8,c8,rfl⟩
 ·refine vT ?_;rw [Zc,hpf];refine call (Zi wb T l1 b5 c5 hi lo v6 pn hhi hlo (by omega) (by omega)) ?_
  rintro _ _ ⟨b7,c7,rfl⟩;refine vT ?_;refine fall ?_;exact ends ⟨b7,c7,rfl⟩
 ·refine vT ?_;refine fall ?_;simp only [Zc,List.append_nil];exact ends ⟨b5,c5,rfl⟩
 ·refine vT ?_;refine fall ?_;simp only [Zc,List.append_nil];exact ends ⟨b5,c5,rfl⟩
 ·refine vT ?_;refine draw [0,0,2,6,14,0,32,96,224,510,1023,2047,4095] [8,9,12] [4,6,7] [0,1,2,3,4,5,6,7,8,9,10,11,12] ?_;refine zC ?_;refine yF fun b6=>?_;refine zC ?_;refine xP fun b7 c7=>?_;refine zC ?_;refine vT ?_;refine fall ?_;have e6:l1.map u8e++[yG (.int .u8 ((n:Nat):Int))]=(l1++[n]).map u8e:=by simp [u8e,yG]
  have n6:l1.length+1=(l1++[n]).length:=by simp
  rw [e6,n6];exact ends ⟨b7,c7,rfl⟩
 ·refine vT ?_;rw [Zc,hpf];refine call (Zi wb T l1 b5 c5 hi lo v6 pn hhi hlo (by omega) (by omega)) ?_
  rintro _ _ ⟨b7,c7,rfl⟩;refine vT ?_;refine fall ?_;exact ends ⟨b7,c7,rfl⟩
 ·refine vT ?_;rw [Zc,hpf];refine call (Zi wb T l1 b5 c5 hi lo v6 pn hhi hlo (by omega) (by omega)) ?_
  rintro _ _ ⟨b7,c7,rfl⟩;refine vT ?_;have hl7:(l1++Yh (topN (min (width v6) 64) hi) (topN (width v6-64) lo) v6 pn).length<=1000000000:=by
   rw [hpf] at hlp;simp at hlp ⊢;omega
  generalize hl2:l1++Yh (topN (min (width v6) 64) hi) (topN (width v6-64) lo) v6 pn=l2 at hl7;rw [<-List.append_assoc,hl2];refine draw [0,0,2,6,14,0,32,96,224,510,1023,2047,4095] [8,9,12] [4,6,7] [0,1,2,3,4,5,6,7,8,9,10,11,12] ?_;refine zC ?_;refine yF fun b6=>?_;refine zC ?_;refine xP fun b8 c8=>?_;refine zC ?_;refine vT ?_;refine fall ?_;have e6:l2.map u8e++[yG (.int .u8 ((n:Nat):Int))]=(l2++[n]).map u8e:=by simp [u8e,yG]
  have n6:l2.length+1=(l2++[n]).length:=by simp
  (try dsimp only);rw [e6,n6];exact ends ⟨b8,c8,rfl⟩
 ·refine vT ?_;refine fall ?_;simp only [Zc,List.append_nil];exact ends ⟨b5,c5,rfl⟩
 ·refine vT ?_;refine fall ?_;simp only [Zc,List.append_nil];exact ends ⟨b5,c5,rfl⟩
end Go.Proofs.YtjcbjclhagobiaaGreat
end
section
namespace Go.Proofs.YtjcbjclhagobiaaGreat
set_option maxHeartbeats 1600000
open Go Go.KL Go.KM
variable {E:Env} {X:Xs}
def zGr (hi lo:Nat) (v6:Bool) (n:Int):Bool:=(decide (0<=n)&&decide (n<256))&&QB hi lo v6&&(decide (hi=topN (min (ZG v6 n.toNat*8) 64) hi)&&decide (lo=topN (ZG v6 n.toNat*8-64) lo))
theorem zId (hi lo:Nat) (v6:Bool) (n:Int) (h1:hi<18446744073709551616) (h2:lo<18446744073709551616):Does PR E X 273 [.agg #[u64 hi,u64 lo,.bool v6,.int .i64 n]] [] (fun v t=>v=.bool (zGr hi lo v6 n)/\t=[]):=by
 refine Does.of 26 inferInstance rfl (by decide) rfl ?_
 refine zB ?_;refine zU fun b1=>?_;refine zB ?_;refine call (zAJ _ _) ?_;rintro _ _ ⟨rfl,rfl⟩;refine zB ?_;refine orc (y:=!QB hi lo v6) (fun h gk=>?_) ?_
 ·refine zB ?_;refine call (Wq hi lo v6 h1 h2) ?_;rintro _ _ ⟨rfl,rfl⟩;exact YD
 refine zB ?_;refine zH (fun h=>?_) (fun h=>?_)
 ·refine zB ?_;refine ret ?_;refine ends ⟨?_,rfl⟩;rw [pack_one,zGr];congr 1;generalize (decide (hi=topN (min (ZG v6 n.toNat*8) 64) hi)&&decide (lo=topN (ZG v6 n.toNat*8-64) lo))=z;revert h;cases (decide (0<=n)&&decide (n<256)) <;> cases QB hi lo v6 <;> cases z <;> simp
 ·have hn:0<=n/\n<256/\QB hi lo v6=true:=by
   simp at h;exact ⟨by omega,by omega,h.2⟩
  refine zB ?_;refine draw [0,1,0,4,0,16,48,0,128,496,1008,2044,4095,8191] [9,11,13] [1,3,6,8] [0,1,2,3,4,5,6,7,8,9,10,11,12,13] ?_;refine zC ?_;refine call (JE v6 n (by omega) (by omega)) ?_
  rintro _ _ ⟨rfl,rfl⟩;refine zJ ?_;have hlg:ZG v6 n.toNat<=16:=by
   have:=@Qa v6 n.toNat
   have hw:width v6<=128:=by cases v6 <;> decide
   omega
  refine zC ?_;refine call (zBk hi lo v6 _ h1 h2) ?_;rintro _ _ ⟨rfl,rfl⟩;refine zJ ?_;have hc:yT ((ZG v6 n.toNat:Nat)*8:Int) v6=ZG v6 n.toNat*8:=by
   have:=@Qa v6 n.toNat
   unfold yT;omega
  refine zC ?_;refine zB ?_;refine ret ?_;refine ends ⟨?_,rfl⟩;simp [zGr,hn,hc,zAH]
end Go.Proofs.YtjcbjclhagobiaaGreat
end
section
namespace Go.Proofs.YtjcbjclhagobiaaGreat
set_option maxHeartbeats 1600000
open Go Go.KL Go.KM
variable {E:Env} {X:Xs}
def bareV (s:zS):zS:=
 if s.1.what=0 then (⟨s.1.what,0,0,false,0,0,0,s.1.packet⟩,s.2.1,s.2.2)
 else if s.1.what=1 then (⟨s.1.what,s.1.hi,s.1.lo,s.1.v6,s.1.pn,s.1.hop,0,[]⟩,none,0)
 else if s.1.what=2∨s.1.what=6 then (⟨s.1.what,s.1.hi,s.1.lo,s.1.v6,s.1.pn,0,0,[]⟩,none,0)
 else if s.1.what=5 then (⟨s.1.what,0,0,false,0,0,s.1.n,[]⟩,none,0)
 else if s.1.what=7 then (⟨s.1.what,s.1.hi,s.1.lo,s.1.v6,s.1.pn,0,s.1.n,[]⟩,none,0)
 else (⟨s.1.what,0,0,false,0,0,0,[]⟩,none,0)
theorem zIW (s:zS):Does PR E X 272 [.agg (zS.cells s).toArray] [] (fun v t=>v=.agg (zS.cells (bareV s)).toArray/\t=[]):=by
 refine Does.of 42 inferInstance rfl (by decide) rfl ?_
 obtain ⟨⟨what,hi,lo,v6,pn,hop,n,packet⟩,pb,pc⟩:=s;refine zB ?_;refine zU fun b1=>?_;refine zB ?_;refine alloc fun b2=>?_;refine zB ?_;refine alloc fun b3=>?_;refine zB ?_;have no:∀ k:Int,what≠k->decide (what=k)=false:=fun k h=>by simp [h]
 by_cases h0:what=0
 ·subst h0;refine vT ?_;refine ret ?_;exact ends ⟨rfl,rfl⟩
 have n0:=no _ h0;by_cases h1:what=1
 ·subst h1;refine vT ?_;refine draw [0,1,0,4,3,19,63,127] [5,7] [1,3] [0,1,2,3,4,5,6,7] ?_;refine zC ?_;refine vT ?_;refine ret ?_;exact ends ⟨rfl,rfl⟩
 have n1:=no _ h1;by_cases h2:what=2
 ·subst h2;refine vT ?_;refine ret ?_;exact ends ⟨rfl,rfl⟩
 have n2:=no _ h2;by_cases h6:what=6
 ·subst h6;refine vT ?_;refine ret ?_;exact ends ⟨rfl,rfl⟩
 have n6:=no _ h6;by_cases h5:what=5
 ·subst h5;refine vT ?_;refine ret ?_;exact ends ⟨rfl,rfl⟩
 have n5:=no _ h5;by_cases h7:what=7
 ·subst h7;refine vT ?_;refine draw [0,1,0,4,3,19,63,127] [5,7] [1,3] [0,1,2,3,4,5,6,7] ?_;refine zC ?_;refine vT ?_;refine ret ?_;exact ends ⟨rfl,rfl⟩
 have n7:=no _ h7;refine vT ?_;refine ret ?_;refine ends ⟨?_,rfl⟩;simp only [pack_one,bareV,h0,h1,h2,h6,h5,h7,if_false,or_self];rfl
def vB (a b:Int):Bool:=decide (0<=a)&&decide (a<b)
def zFm (s x:StepM):Bool:=!(vB s.what 10)||!(decide ((x.hi:Int)=s.hi)&&(decide ((x.lo:Int)=s.lo)&&((x.v6 == s.v6)&&(decide (x.pn=s.pn)&&true))))||!(decide (x.hop=s.hop))||!(decide (x.n=s.n))||!(decide ((x.packet.length:Int)=s.packet.length))
def zDm (s:StepM):Bool:=!(zFm s (bareV (s,none,0)).1)&&(decide ((s.packet.length:Int)<=255)&&vB s.hop 65536&&vB s.n 256&&zGr s.hi s.lo s.v6 s.pn)
theorem zJI (s:zS):(bareV s).1=(bareV (s.1,none,0)).1:=by
 unfold bareV;split <;> (try split) <;> (try split) <;> (try split) <;> (try split) <;> rfl
theorem xN (a b:Int):Does PR E X 202 [.int .i64 a,.int .i64 b] [] (fun v t=>v=.bool (vB a b)/\t=[]):=zAJ a b
theorem zG2 (s:zS) (h1:s.1.hi<18446744073709551616) (h2:s.1.lo<18446744073709551616):Does PR E X 201 [.agg (zS.cells s).toArray] [] (fun v t=>v=.bool (zDm s.1)/\t=[]):=by
 refine Does.of 59 inferInstance rfl (by decide) rfl ?_
 have hb:=zIW (E:=E) (X:=X) s;have hx:=zJI s;unfold zDm;rw [<-hx];generalize bareV s=x at hb;obtain ⟨⟨what,hi,lo,v6,pn,hop,n,packet⟩,pb,pc⟩:=s;obtain ⟨⟨what',hi',lo',v6',pn',hop',n',packet'⟩,pb',pc'⟩:=x;(try dsimp only at h1 h2);refine zB ?_;refine zU fun b1=>?_;refine zB ?_;refine call hb ?_;rintro _ _ ⟨rfl,rfl⟩;refine zB ?_;refine alloc fun b3=>?_;refine zB ?_;refine call (xN _ _) ?_;rintro _ _ ⟨rfl,rfl⟩;refine zB ?_;refine zH (fun h=>?_) (fun h=>?_)
 ·have h:zFm ⟨what,hi,lo,v6,pn,hop,n,packet⟩ ⟨what',hi',lo',v6',pn',hop',n',packet'⟩=true:=h;refine zB ?_;refine ret ?_;exact ends ⟨by rw [pack_one,h];rfl,rfl⟩
 ·have h:zFm ⟨what,hi,lo,v6,pn,hop,n,packet⟩ ⟨what',hi',lo',v6',pn',hop',n',packet'⟩=false:=h;rw [h];refine zB ?_;refine andc (y:=vB hop 65536) (fun h gk=>?_) ?_
  ·refine zB ?_;refine call (xN _ _) ?_;rintro _ _ ⟨rfl,rfl⟩;exact YD
  refine zB ?_;refine andc (y:=vB n 256) (fun h gk=>?_) ?_
  ·refine zB ?_;refine call (xN _ _) ?_;rintro _ _ ⟨rfl,rfl⟩;exact YD
  refine zB ?_;refine andc (y:=zGr hi lo v6 pn) (fun h gk=>?_) ?_
  ·refine zB ?_;refine call (zId _ _ _ _ h1 h2) ?_;rintro _ _ ⟨rfl,rfl⟩;exact YD
  refine zB ?_;refine ret ?_;exact ends ⟨by rw [pack_one,Bool.not_false,Bool.true_and],rfl⟩
def zOt (c:CfgM) (k:Nat):Bool:=vB c.cap 32&&vB c.policy 2&&vB c.bound 32&&vB c.n 256&&vB c.h 256&&vB c.fetch 9&&decide ((c.presets.length:Int)<18)&&decide ((k:Int)<=4096)
def WC (c:CfgM) (l:List StepM):Bool:=l.all zDm&&zOt c l.length
def StepM.Ok (s:StepM):Prop:=s.hi<18446744073709551616/\s.lo<18446744073709551616
theorem zI4 (c:CfgM) (pb:Option Addr) (pc:Nat) (vs:List zS) (hvs:∀ s∈vs,s.1.Ok) (hn:vs.length<=1000000000) (base:Option Addr) (cap:Nat):Does PR E X 125 [.agg (c.cells pb pc).toArray,.slice base vs.length cap] [rsl base cap 8 (vs.map zS.cells)] (fun v t=>v=.bool (WC c (vs.map (·.1)))/\t=[]):=by
 refine Does.of 56 inferInstance rfl (by decide) rfl ?_
 obtain ⟨ccap,policy,bound,cn,ch,fetch,presets⟩:=c;refine zB ?_;refine zU fun b2=>?_;refine zB ?_;refine loop (ι:=Nat) (fun i=>vs.length-i) (fun i=>i<=vs.length/\∀ j<i,∀ s,vs[j]?=some s->zDm s.1=true) (fun i=>[(1,.slice base vs.length cap),(2,.pointer (some ⟨b2,0,none⟩)),(7,.slice base vs.length cap),(8,.int .i64 (vs.length:Nat)),(9,.int .i64 (i:Nat))]) (fun i=>[rsl base cap 8 (vs.map zS.cells),box b2 [.int .i64 ccap,.int .i64 policy,.int .i64 bound,.int .i64 cn,.int .i64 ch,.int .i64 fetch,.slice pb presets.length pc] 26]) 0 (by simp) ?_
 rintro i ⟨hi,hf⟩ ih;(try dsimp only at hi ih ⊢);refine zB ?_;refine zH (fun h=>?_) (fun h=>?_)
 ·have hi':i<vs.length:=by have:=of_decide_eq_true h;omega
  obtain ⟨s,hs⟩:∃ s,vs[i]?=some s:=⟨vs[i],List.getElem?_eq_getElem hi'⟩;have hs1:(vs.map zS.cells)[((i:Nat):Int).toNat]?=some (zS.cells s):=by simp [hs]
  have hok:=hvs s (List.mem_of_getElem? hs);refine zB ?_;refine alloc fun b6=>?_;refine zB ?_;refine call (zG2 s hok.1 hok.2) ?_;rintro _ _ ⟨rfl,rfl⟩;refine zB ?_;refine zH (fun h2=>?_) (fun h2=>?_)
  ·refine zB ?_;refine ret ?_;refine ends ⟨?_,rfl⟩;have:WC ⟨ccap,policy,bound,cn,ch,fetch,presets⟩ (vs.map (·.1))=false:=by
    unfold WC;rw [Bool.and_eq_false_iff];left;rw [List.all_eq_false];exact ⟨s.1,List.mem_map_of_mem (List.mem_of_getElem? hs),by simpa using h2⟩
   rw [pack_one,this]
  ·refine zB ?_;refine next (ih (i+1) ⟨by omega,fun j hj s' hs'=>?_⟩ (by omega))
   rcases Nat.lt_or_ge j i with g|g
   ·exact hf j g s' hs'
   ·have:j=i:=by omega
    subst this;rw [hs] at hs';cases hs';simpa using h2
 ·have hi':i=vs.length:=by have:=of_decide_eq_false h;omega
  subst hi';have hall:(vs.map (·.1)).all zDm=true:=by
   rw [List.all_eq_true];intro x hx;obtain ⟨s,hs,rfl⟩:=List.mem_map.1 hx;obtain ⟨j,hj⟩:=List.getElem?_of_mem hs;exact hf j (List.getElem?_eq_some_iff.1 hj).1 s hj
  refine zB ?_;refine call (xN _ _) ?_;rintro _ _ ⟨rfl,rfl⟩;refine zB ?_;refine andc (y:=vB policy 2) (fun h gk=>?_) ?_
  ·refine zB ?_;refine call (xN _ _) ?_;rintro _ _ ⟨rfl,rfl⟩;exact YD
  refine zB ?_;refine andc (y:=vB bound 32) (fun h gk=>?_) ?_
  ·refine zB ?_;refine call (xN _ _) ?_;rintro _ _ ⟨rfl,rfl⟩;exact YD
  refine zB ?_;refine andc (y:=vB cn 256) (fun h gk=>?_) ?_
  ·refine zB ?_;refine call (xN _ _) ?_;rintro _ _ ⟨rfl,rfl⟩;exact YD
  refine zB ?_;refine andc (y:=vB ch 256) (fun h gk=>?_) ?_
  ·refine zB ?_;refine call (xN _ _) ?_;rintro _ _ ⟨rfl,rfl⟩;exact YD
  refine zB ?_;refine andc (y:=vB fetch 9) (fun h gk=>?_) ?_
  ·refine zB ?_;refine call (xN _ _) ?_;rintro _ _ ⟨rfl,rfl⟩;exact YD
  refine zB ?_;refine ret ?_;refine ends ⟨?_,rfl⟩;rw [pack_one,WC,hall,Bool.true_and,List.length_map];rfl
end Go.Proofs.YtjcbjclhagobiaaGreat
end
section
namespace Go.Proofs.YtjcbjclhagobiaaGreat
set_option maxHeartbeats 1600000
open Go Go.KL Go.KM
variable {E:Env} {X:Xs}
theorem ZL {a b:Int} (h:vB a b=true):0<=a/\a<b:=by simpa [vB] using h
theorem zG3 {s:StepM} (h:zDm s=true) (hok:s.Ok):s.Fits:=by
 unfold zDm at h;simp only [Bool.and_eq_true,Bool.not_eq_true',decide_eq_true_eq] at h;obtain ⟨h1,⟨⟨h2,h3⟩,h4⟩,h5⟩:=h;have hw:vB s.what 10=true:=by
  unfold zFm at h1;simp only [Bool.or_eq_false_iff,Bool.not_eq_false'] at h1;exact h1.1.1.1.1
 have hp:0<=s.pn/\s.pn<256:=by
  unfold zGr at h5;simp only [Bool.and_eq_true,decide_eq_true_eq] at h5;exact h5.1.1
 have k3:=ZL h3;have k4:=ZL h4;exact ⟨ZL hw,hok.1,hok.2,hp,⟨k3.1,by omega⟩,k4,by omega⟩
def zPN (c:CfgM):List Nat:=[c.cap.toNat,c.policy.toNat,c.bound.toNat,c.n.toNat,c.h.toNat,c.fetch.toNat,c.presets.length]
def wC (l:List Nat):List Nat:=l.flatMap fun x=>QX x 8
def yZ (l:List StepM):List Nat:=l.flatMap Xz
def Wy (c:CfgM) (l:List StepM):List Nat:=zPN c++wC c.presets++yZ l
def zCr (c:CfgM) (l:List StepM):List Nat:=if WC c l then Wy c l else []
theorem JH {l:List Nat}:(wC l).length=8*l.length:=by
 induction l with
 | nil=>rfl
 | cons a l ih=>simp only [wC,List.flatMap_cons,List.length_append,encN_len,List.length_cons] at ih ⊢;omega
theorem Vs:∀ {l:List StepM},(∀ s∈l,s.packet.length<256)->(yZ l).length<=300*l.length
 | [],_=>by simp [yZ]
 | s::l,h=>by
  have h1:=zDo (h s (by simp))
  have h2:=Vs (l:=l) (fun x hx=>h x (by simp [hx]))
  simp only [yZ,List.flatMap_cons,List.length_append,List.length_cons] at h2 ⊢;omega
theorem zCu {α β:Type} (f:α->List β) {l:List α} {i:Nat} {x:α} (h:l[i]?=some x):(l.take (i+1)).flatMap f=(l.take i).flatMap f++f x:=by
 rw [List.take_add_one,h];simp
def zOZ (x:Nat):List Value:=[.int .i64 (x:Int)]
theorem zD7 (c:CfgM) (pb:Option Addr) (pc:Nat) (vs:List zS) (hvs:∀ s∈vs,s.1.Ok) (hpr:∀ x∈c.presets,x<18446744073709551616) (hn:vs.length<=1000000) (base:Option Addr) (cap:Nat) :
  Does PR E X 55 [.agg (c.cells pb pc).toArray,.slice base vs.length cap] [rsl pb pc 1 (c.presets.map zDd),rsl base cap 8 (vs.map zS.cells),rall (vs.map zS.row)]
  (fun v t=>∃ b cc,v=.slice b (zCr c (vs.map (·.1))).length cc/\t=[osl b cc 5 1 ((zCr c (vs.map (·.1))).map u8e)]):=by
 refine Does.of 76 inferInstance rfl (by decide) rfl ?_
 refine zB ?_;refine zU fun b2=>?_;refine zB ?_;refine call (zI4 c pb pc vs hvs (by omega) base cap) ?_
 rintro _ _ ⟨rfl,rfl⟩;refine zB ?_;refine zH (fun h=>?_) (fun h=>?_)
 ·have h:WC c (vs.map (·.1))=false:=by simpa using h
  refine zB ?_;refine into (Into.nilO (T:=5) (sz:=1)) ?_;refine ret ?_;have e:zCr c (vs.map (·.1))=[]:=by rw [zCr,h];rfl
  rw [e];exact ends ⟨none,0,rfl,rfl⟩
 ·have h:WC c (vs.map (·.1))=true:=by simpa using h
  have e:zCr c (vs.map (·.1))=Wy c (vs.map (·.1)):=by rw [zCr,h];rfl
  rw [e];have hfit:∀ s∈vs,s.1.Fits:=fun s hs=>by
   have:=(Bool.and_eq_true_iff.1 h).1
   rw [List.all_eq_true] at this;exact zG3 (this s.1 (List.mem_map_of_mem hs)) (hvs s hs)
  have hcfg:zOt c (vs.map (·.1)).length=true:=(Bool.and_eq_true_iff.1 h).2;obtain ⟨ccap,policy,bound,cn,ch,fetch,presets⟩:=c;simp only [zOt,Bool.and_eq_true,decide_eq_true_eq,List.length_map] at hcfg;obtain ⟨⟨⟨⟨⟨⟨⟨k1,k2⟩,k3⟩,k4⟩,k5⟩,k6⟩,k7⟩,k8⟩:=hcfg;have k1:=ZL k1;have k2:=ZL k2;have k3:=ZL k3;have k4:=ZL k4;have k5:=ZL k5;have k6:=ZL k6;obtain ⟨ccap,rfl⟩:=Int.eq_ofNat_of_zero_le k1.1;obtain ⟨policy,rfl⟩:=Int.eq_ofNat_of_zero_le k2.1;obtain ⟨bound,rfl⟩:=Int.eq_ofNat_of_zero_le k3.1;obtain ⟨cn,rfl⟩:=Int.eq_ofNat_of_zero_le k4.1;obtain ⟨ch,rfl⟩:=Int.eq_ofNat_of_zero_le k5.1;obtain ⟨fetch,rfl⟩:=Int.eq_ofNat_of_zero_le k6.1;(try dsimp only at hpr);refine zB ?_;refine zU fun b5=>?_;refine zB ?_;refine buildSlice fun b6=>?_;refine zB ?_;obtain ⟨hdr,hhdr⟩:∃ hdr:List Nat,hdr=[ccap,policy,bound,cn,ch,fetch,presets.length]:=⟨_,rfl⟩;have hh7:hdr.length=7:=by rw [hhdr];rfl
  have hhlt:∀ x∈hdr,x<256:=by
   intro x hx;rw [hhdr] at hx;simp at hx;omega
  have ehd:([yG (.int .i64 (ccap:Int)),yG (.int .i64 (policy:Int)),yG (.int .i64 (bound:Int)),yG (.int .i64 (cn:Int)),yG (.int .i64 (ch:Int)),yG (.int .i64 (fetch:Int)),yG (.int .i64 (presets.length:Int))]:List (List Value))=hdr.map zOZ:=by rw [hhdr];rfl
  have ecf:zPN ⟨ccap,policy,bound,cn,ch,fetch,presets⟩=hdr:=by rw [hhdr];rfl
  have esc:Wy ⟨ccap,policy,bound,cn,ch,fetch,presets⟩ (vs.map (·.1))=hdr++wC presets++yZ (vs.map (·.1)):=by rw [Wy,ecf]
  rw [ehd,esc];clear esc ecf ehd e h;refine into (Into.nilO (T:=5) (sz:=1)) ?_;refine loop (ι:=Nat×Option Addr×Nat) (fun i=>7-i.1) (fun i=>i.1<=7) (fun i=>[(1,.slice base vs.length cap),(2,.pointer (some ⟨b2,0,none⟩)),(5,.pointer (some ⟨b5,0,none⟩)),(33,.slice (some ⟨b6,0,none⟩) 7 7),(34,.int .i64 ((7:Nat):Int)),(35,.int .i64 (i.1:Nat))])
   (fun i=>[box b5 [.slice i.2.1 i.1 i.2.2] 253,osl i.2.1 i.2.2 5 1 ((hdr.take i.1).map u8e),osl (some ⟨b6,0,none⟩) 7 3 1 (hdr.map zOZ),box b2 [.int .i64 (ccap:Int),.int .i64 (policy:Int),.int .i64 (bound:Int),.int .i64 (cn:Int),.int .i64 (ch:Int),.int .i64 (fetch:Int),.slice pb presets.length pc] 26,rsl pb pc 1 (presets.map zDd),rsl base cap 8 (vs.map zS.cells),rall (vs.map zS.row)]) (0,none,0) (by simp) ?_
  rintro ⟨j,b7,c7⟩ hj ih;(try dsimp only at hj ih ⊢);refine zB ?_;refine zH (fun h=>?_) (fun h=>?_)
  ·have hj':j<7:=by have:=of_decide_eq_true h;omega
   obtain ⟨x,hx⟩:∃ x,hdr[j]?=some x:=⟨hdr[j],List.getElem?_eq_getElem (by omega)⟩
   have hx1:(hdr.map zOZ)[((j:Nat):Int).toNat]?=some [.int .i64 (x:Int)]:=by simp [hx,zOZ]
   have hx256:=hhlt x (List.mem_of_getElem? hx);have hml:(hdr.map zOZ).length=7:=by simpa using hh7
   have hml2:((hdr.take j).map u8e).length=j:=by simp;omega
   refine zB ?_;refine buildSlice fun b8=>?_;refine zB ?_;refine xM fun b9 c9=>?_;refine zB ?_;have e1:(hdr.take j).map u8e++[yG (.int .u8 (x:Int))]=(hdr.take (j+1)).map u8e:=by
    rw [List.take_add_one,hx,List.map_append];rfl
   rw [e1];exact next (ih (j+1,b9,c9) (by dsimp only;omega) (by dsimp only;omega))
  ·have hj':j=7:=by have:=of_decide_eq_false h;omega
   subst hj';have et:hdr.take 7=hdr:=List.take_of_length_le (by omega)
   rw [et];refine zB ?_;have hpn:presets.length<18:=by omega
   have e7:Value.slice b7 7 c7=.slice b7 (hdr++wC (presets.take 0)).length c7:=by simp [hh7,wC]
   have e8:hdr.map u8e=(hdr++wC (presets.take 0)).map u8e:=by simp [wC]
   rw [e7,e8];refine loop (ι:=Nat×Option Addr×Nat) (fun i=>presets.length-i.1) (fun i=>i.1<=presets.length) (fun i=>[(1,.slice base vs.length cap),(5,.pointer (some ⟨b5,0,none⟩)),(52,.slice pb presets.length pc),(53,.int .i64 (presets.length:Nat)),(54,.int .i64 (i.1:Nat))])
    (fun i=>[box b5 [.slice i.2.1 (hdr++wC (presets.take i.1)).length i.2.2] 253,osl i.2.1 i.2.2 5 1 ((hdr++wC (presets.take i.1)).map u8e),rsl pb pc 1 (presets.map zDd),rsl base cap 8 (vs.map zS.cells),rall (vs.map zS.row)]) (0,b7,c7) (by simp) ?_
   rintro ⟨i,b8,c8⟩ hi ih2;(try dsimp only at hi ih2 ⊢);refine zB ?_;refine zH (fun h=>?_) (fun h=>?_)
   ·have hi':i<presets.length:=by have:=of_decide_eq_true h;omega
    obtain ⟨x,hx⟩:∃ x,presets[i]?=some x:=⟨presets[i],List.getElem?_eq_getElem hi'⟩;have hx1:(presets.map zDd)[((i:Nat):Int).toNat]?=some [u64 x]:=by simp [hx,zDd]
    have hll:(hdr++wC (presets.take i)).length<=1000000000:=by simp [JH];omega
    refine zB ?_;refine call (Vy b5 _ (hdr++wC (presets.take i)) b8 c8 x 8 (by omega) hll) ?_
    rintro _ _ ⟨b9,c9,rfl⟩;refine zB ?_;have e1:hdr++wC (presets.take i)++QX x 8=hdr++wC (presets.take (i+1)):=by
     rw [List.append_assoc,wC,wC,zCu _ hx]
    rw [e1];exact next (ih2 (i+1,b9,c9) (by dsimp only;omega) (by dsimp only;omega))
   ·have hi':i=presets.length:=by have:=of_decide_eq_false h;omega
    subst hi';rw [List.take_length];refine zB ?_;generalize hG:hdr++wC presets=G;have hGl:G.length<=200:=by rw [<-hG];simp [JH];omega
    have e9:Value.slice b8 G.length c8=.slice b8 (G++yZ ((vs.take 0).map (·.1))).length c8:=by simp [yZ]
    have e10:G.map u8e=(G++yZ ((vs.take 0).map (·.1))).map u8e:=by simp [yZ]
    rw [e9,e10];refine loop (ι:=Nat×Option Addr×Nat) (fun i=>vs.length-i.1) (fun i=>i.1<=vs.length) (fun i=>[(5,.pointer (some ⟨b5,0,none⟩)),(62,.slice base vs.length cap),(63,.int .i64 (vs.length:Nat)),(64,.int .i64 (i.1:Nat))])
     (fun i=>[box b5 [.slice i.2.1 (G++yZ ((vs.take i.1).map (·.1))).length i.2.2] 253,osl i.2.1 i.2.2 5 1 ((G++yZ ((vs.take i.1).map (·.1))).map u8e),rsl base cap 8 (vs.map zS.cells),rall (vs.map zS.row)]) (0,b8,c8) (by simp) ?_
    rintro ⟨i,b9,c9⟩ hi ih3;(try dsimp only at hi ih3 ⊢);refine zB ?_;refine zH (fun h=>?_) (fun h=>?_)
    ·have hi':i<vs.length:=by have:=of_decide_eq_true h;omega
     obtain ⟨s,hs⟩:∃ s,vs[i]?=some s:=⟨vs[i],List.getElem?_eq_getElem hi'⟩;have hs1:(vs.map zS.cells)[((i:Nat):Int).toNat]?=some (zS.cells s):=by simp [hs]
     have hsm:=List.mem_of_getElem? hs;have hss:=Vs (l:=(vs.take i).map (·.1)) (fun x hx=>by
      obtain ⟨y,hy,rfl⟩:=List.mem_map.1 hx;exact (hfit y (List.mem_of_mem_take hy)).packet)
     have hll:(G++yZ ((vs.take i).map (·.1))).length<=900000000:=by simp at hss ⊢;omega
     refine zB ?_;refine alloc fun b10=>?_;refine zB ?_;refine cinto (Into.rallGet (l:=vs.map zS.row) (b:=s.2.1) (c:=s.2.2) (m:=s.1.packet) (List.mem_map_of_mem (f:=zS.row) hsm) (by repeat (first|(with_reducible exact Sel.here)|(with_reducible apply Sel.there)))) ?_
     refine call (zHJ b5 _ (G++yZ ((vs.take i).map (·.1))) b9 c9 s (hfit s hsm) hll) ?_;rintro _ _ ⟨b11,c11,rfl⟩;refine zB ?_;have e1:G++yZ ((vs.take i).map (·.1))++Xz s.1=G++yZ ((vs.take (i+1)).map (·.1)):=by
      rw [List.append_assoc,yZ,yZ,List.take_add_one,hs,List.map_append,List.flatMap_append];simp
     rw [e1];exact next (ih3 (i+1,b11,c11) (by dsimp only;omega) (by dsimp only;omega))
    ·have hi':i=vs.length:=by have:=of_decide_eq_false h;omega
     subst hi';rw [List.take_length];refine zB ?_;refine ret ?_;exact ends ⟨b9,c9,rfl,rfl⟩
end Go.Proofs.YtjcbjclhagobiaaGreat
end
section
namespace Go.Proofs.YtjcbjclhagobiaaGreat
open Go Go.KL Go.KM
structure Ad where
 hi:Nat
 lo:Nat
 v6:Bool
 h1:hi<18446744073709551616
 h2:lo<18446744073709551616
deriving DecidableEq
abbrev Ad.v (a:Ad):Value:=.agg #[u64 a.hi,u64 a.lo,.bool a.v6]
theorem Ad.ext {a b:Ad} (h1:a.hi=b.hi) (h2:a.lo=b.lo) (h3:a.v6=b.v6):a=b:=by cases a;cases b;simp_all
def Ad.cut (a:Ad) (c:Nat):Ad:=⟨topN (min c 64) a.hi,topN (c-64) a.lo,a.v6,wZ a.h1,wZ a.h2⟩
def Ad.rd (a:Ad):Ad:=a.cut (width a.v6)
def Ad.sane (a:Ad):Bool:=QB a.hi a.lo a.v6
structure Pf where
 a:Ad
 n:Int
deriving DecidableEq
abbrev Pf.v (p:Pf):Value:=.agg #[u64 p.a.hi,u64 p.a.lo,.bool p.a.v6,.int .i64 p.n]
theorem Pf.ext {p q:Pf} (h1:p.a=q.a) (h2:p.n=q.n):p=q:=by cases p;cases q;simp_all
theorem zIk (n:Int) (q:Bool):yT n q<=width q:=by unfold yT;omega
theorem yD (q:Bool):width q<=128:=by cases q <;> decide
def ofP (a:Ad) (n:Int):Pf:=⟨a.cut (yT n a.v6),(yT n a.v6:Nat)⟩
def Pf.sane (p:Pf):Bool:=decide (p=ofP p.a p.n)
def Pf.has (p:Pf) (a:Ad):Bool:=p.sane&&decide (p=ofP a p.n)
def Pf.covers (p q:Pf):Bool:=decide (p.n<=q.n)&&(q.sane&&p.has q.a)
theorem eqP (p q:Pf):(decide ((p.a.hi:Int)=(q.a.hi:Int))&&(decide ((p.a.lo:Int)=(q.a.lo:Int))&&((p.a.v6 == q.a.v6)&&(decide (p.n=q.n)&&true))))=decide (p=q):=by
 have h:p=q↔p.a.hi=q.a.hi/\p.a.lo=q.a.lo/\p.a.v6=q.a.v6/\p.n=q.n:=
  ⟨fun e=>by subst e;exact ⟨rfl,rfl,rfl,rfl⟩,fun ⟨x,y,z,w⟩=>Pf.ext (Ad.ext x y z) w⟩
 rw [zAH,zAH];by_cases e:p=q
 ·subst e;simp
 ·rw [h] at e;simp [h];by_cases x:p.a.hi=q.a.hi <;> by_cases y:p.a.lo=q.a.lo <;> by_cases z:p.a.v6=q.a.v6 <;> by_cases w:p.n=q.n <;> simp_all
theorem xY {p:Pf} (h:p.sane=true):0<=p.n/\p.n<=(width p.a.v6:Int):=by
 unfold Pf.sane at h;have h:=of_decide_eq_true h;have e:p.n=(yT p.n p.a.v6:Nat):=congrArg Pf.n h;have:=zIk p.n p.a.v6
 omega
def Ad.zero:Ad:=⟨0,0,false,by decide,by decide⟩
def Pf.zero:Pf:=⟨Ad.zero,0⟩
def Pf.up (p:Pf):Pf×Bool:=if decide (p.n<=0)||!p.sane then (Pf.zero,false) else (ofP p.a (p.n-1),true)
def Ad.dig (a:Ad) (i:Nat):Bool:=if i<64 then a.hi.testBit (63-i) else a.lo.testBit (127-i)
def isD (a:Ad) (i:Int):Bool:=decide (0<=i)&&decide (i<(width a.v6:Int))
def Ad.bit (a:Ad) (i:Int):Nat:=if isD a i then (if a.dig i.toNat then 1 else 0) else 0
theorem zH2 {m:Nat}:WO .u64 (1:Int) (63-(m:Int)%64)=((2^(63-m%64):Nat):Int):=by
 unfold WO;rw [show min (63-(m:Int)%64).toNat IntKind.u64.bits=63-m%64 by show min _ 64=_;omega]
 have h1:(1:Int)*2^(63-m%64)=((2^(63-m%64):Nat):Int):=by simp
 rw [h1,zDH];exact (Nat.pow_lt_pow_right (a:=2) (by omega) (by omega):2^(63-m%64)<2^64)
def zMH (x k:Nat) (q:Bool):Nat:=if q then vE x (2^k) ||| 2^k else vE x (2^k)
theorem zIp {x k:Nat} {q:Bool} (hk:k<64):zMH x k q<18446744073709551616:=by
 unfold zMH;split
 ·exact Nat.or_lt_two_pow (n:=64) Zr (Nat.pow_lt_pow_right (by omega) hk)
 ·exact Zr
theorem zPV {x m:Nat} (hx:x<18446744073709551616):IntKind.i64.wrap (XX .u64 (Wa .u64 (x:Int) (63-(m:Int)%64)) 1)=((if x.testBit (63-m%64) then 1 else 0:Nat):Int):=by
 have h1:Wa .u64 (x:Int) (63-(m:Int)%64)=((x / 2^(63-m%64):Nat):Int):=by
  unfold Wa;rw [show min (63-(m:Int)%64).toNat IntKind.u64.bits=63-m%64 by show min _ 64=_;omega]
  rw [Int.fdiv_eq_ediv_of_nonneg _ (Int.le_of_lt (Int.pow_pos (by omega)))];simp
 have h2:x / 2^(63-m%64)<18446744073709551616:=Nat.lt_of_le_of_lt (Nat.div_le_self _ _) hx;rw [h1,show (1:Int)=((1:Nat):Int) from rfl,zFC h2];have h3:x / 2^(63-m%64)&&& 1%18446744073709551616=if x.testBit (63-m%64) then 1 else 0:=by
  show _&&& 1=_;rw [<-Nat.shiftRight_eq_div_pow,Nat.and_one_is_mod];have:=Nat.mod_two_eq_one_iff_testBit_zero (x:=x >>> (63-m%64))
  rw [Nat.testBit_shiftRight,Nat.add_zero] at this;by_cases e:x.testBit (63-m%64)
  ·simp only [e,if_true];exact this.2 e
  ·have:¬ (x >>> (63-m%64))%2=1:=fun y=>e (this.1 y)
   simp only [e];show _=0;omega
 rw [h3];exact zK (by split <;> omega)
def Ad.put (a:Ad) (i:Nat) (q:Bool):Ad:=if i<64 then ⟨zMH a.hi (63-i%64) q,a.lo,a.v6,zIp (by omega),a.h2⟩ else ⟨a.hi,zMH a.lo (63-i%64) q,a.v6,a.h1,zIp (by omega)⟩
def Ad.set (a:Ad) (i:Int) (v:Int):Ad:=if isD a i then a.rd.put i.toNat (decide (v%2=1)) else a.rd
def Pf.down (p:Pf) (v:Int):Pf×Bool:=if !p.sane||decide (p.n=(width p.a.v6:Int)) then (Pf.zero,false) else (⟨p.a.set p.n v,p.n+1⟩,true)
def Pf.beside (p:Pf):Pf×Bool:=if p.up.2 then p.up.1.down ((p.a.bit p.up.1.n:Int)+1) else (Pf.zero,false)
def blen (x:Nat):Nat:=if x=0 then 0 else Nat.log2 x+1
def lead (x:Nat):Nat:=64-blen x
def Ad.common (a b:Ad):Nat:=if a.v6=b.v6 then min (if lead (a.rd.hi ^^^ b.rd.hi)=64 then 64+lead (a.rd.lo ^^^ b.rd.lo) else lead (a.rd.hi ^^^ b.rd.hi)) (width a.v6) else 0
def Pf.apart (p q:Pf):Bool:=p.sane&&q.sane&&(!(p.a.v6 == q.a.v6)||decide ((p.a.common q.a:Int)<min p.n q.n))
end Go.Proofs.YtjcbjclhagobiaaGreat
end
section
namespace Go.Proofs.YtjcbjclhagobiaaGreat
open Go Go.KL Go.KM
variable {E:Env} {X:Xs}
set_option maxRecDepth 100000
theorem zJU (a:Ad) (i:Int):Does PR E X 308 [a.v,.int .i64 i] [] (fun v t=>v=.bool (decide (0<=i)&&decide (i<(width a.v6:Int)))/\t=[]):=by
 refine Does.of 14 inferInstance rfl (by decide) rfl ?_
 refine zB ?_;repeat ((first|(refine alloc fun _=>?_)|(refine zU fun _=>?_)|(refine yS fun _=>?_)|(refine YN fun _=>?_));(refine onA ?_))
 refine andc (y:=decide (i<(width a.v6:Int))) (fun h gk=>?_) ?_
 ·refine zB ?_;refine call (yO _) ?_;rintro _ _ ⟨rfl,rfl⟩;try refine zJ ?_
  exact YD
 refine zB ?_;refine ret ?_;exact ends ⟨rfl,rfl⟩
theorem vU (a:Ad) (n:Int):Does PR E X 104 [a.v,.int .i64 n] [] (fun v t=>v=(ofP a n).v/\t=[]):=Ww a.hi a.lo a.v6 n a.h1 a.h2
theorem yA (p:Pf):Does PR E X 103 [p.v] [] (fun v t=>v=.bool p.sane/\t=[]):=by
 refine Does.of 10 inferInstance rfl (by decide) rfl ?_
 refine zB ?_;repeat ((first|(refine alloc fun _=>?_)|(refine zU fun _=>?_)|(refine yS fun _=>?_)|(refine YN fun _=>?_));(refine onA ?_))
 refine draw [0,0,2,0,8,30,63,127] [5,7] [0,2,4] [0,1,2,3,4,5,6,7] ?_;refine zC ?_;refine call (vU p.a p.n) ?_;rintro _ _ ⟨rfl,rfl⟩;refine onA ?_;refine ret ?_;exact ends ⟨by unfold Pf.sane;rw [<-eqP];rfl,rfl⟩
theorem Ye (p:Pf) (a:Ad):Does PR E X 43 [p.v,a.v] [] (fun v t=>v=.bool (p.has a)/\t=[]):=by
 refine Does.of 15 inferInstance rfl (by decide) rfl ?_
 refine zB ?_;repeat ((first|(refine alloc fun _=>?_)|(refine zU fun _=>?_)|(refine yS fun _=>?_)|(refine YN fun _=>?_));(refine onA ?_))
 refine draw [0,1,3,7,7,7,39,119,255,511,1023] [1,7,10] [0,3,4,6] [0,1,2,3,4,5,6,7,8,9,10] ?_;refine zC ?_;refine call (yA p) ?_;rintro _ _ ⟨rfl,rfl⟩;try refine zJ ?_
 refine zC ?_;refine dandc (y:=decide (p=ofP a p.n)) (fun h gk=>?_) ?_
 ·refine zC ?_;refine call (vU a p.n) ?_;rintro _ _ ⟨rfl,rfl⟩;try refine zJ ?_
  rw [<-eqP] at gk;exact Wg
 refine ddA ?_;refine ret ?_;exact ends ⟨rfl,rfl⟩
theorem Jg (p q:Pf):Does PR E X 294 [p.v,q.v] [] (fun v t=>v=.bool (p.covers q)/\t=[]):=by
 refine Does.of 20 inferInstance rfl (by decide) rfl ?_
 refine zB ?_;repeat ((first|(refine alloc fun _=>?_)|(refine zU fun _=>?_)|(refine yS fun _=>?_)|(refine YN fun _=>?_));(refine onA ?_))
 refine andc (y:=q.sane) (fun h gk=>?_) ?_
 ·refine zB ?_;refine call (yA q) ?_;rintro _ _ ⟨rfl,rfl⟩;try refine zJ ?_
  exact YD
 refine zB ?_;refine andc (y:=p.has q.a) (fun h gk=>?_) ?_
 ·refine zB ?_;refine call (Ye p q.a) ?_;rintro _ _ ⟨rfl,rfl⟩;try refine zJ ?_
  exact YD
 refine zB ?_;refine ret ?_;exact ends ⟨by rw [pack_one];unfold Pf.covers;rw [Bool.and_assoc],rfl⟩
theorem zJt (p:Pf):Does PR E X 301 [p.v] [] (fun v t=>v=.tuple #[p.up.1.v,.bool p.up.2]/\t=[]):=by
 refine Does.of 19 inferInstance rfl (by decide) rfl ?_
 refine zB ?_;repeat ((first|(refine alloc fun _=>?_)|(refine zU fun _=>?_)|(refine yS fun _=>?_)|(refine YN fun _=>?_));(refine onA ?_))
 refine orc (y:=!p.sane) (fun h gk=>?_) ?_
 ·refine zB ?_;refine call (yA p) ?_;rintro _ _ ⟨rfl,rfl⟩;try refine zJ ?_
  exact YD
 refine zB ?_;refine zH (fun h=>?_) (fun h=>?_)
 ·refine zB ?_;refine ret ?_;exact ends ⟨by unfold Pf.up;rw [h];rfl,rfl⟩
 ·have h2:=h;simp only [Bool.or_eq_false_iff,decide_eq_false_iff_not,Bool.not_eq_false'] at h2;have hs:=xY h2.2;have hw:=yD p.a.v6;refine zB ?_;refine call (vU p.a _) ?_;rintro _ _ ⟨rfl,rfl⟩;refine onA ?_;refine ret ?_;exact ends ⟨by unfold Pf.up;rw [h];rfl,rfl⟩
theorem zA3 (a:Ad) (i:Int):Does PR E X 290 [a.v,.int .i64 i] [] (fun v t=>v=.int .i64 (a.bit i)/\t=[]):=by
 refine Does.of 23 inferInstance rfl (by decide) rfl ?_
 refine zB ?_;repeat ((first|(refine alloc fun _=>?_)|(refine zU fun _=>?_)|(refine yS fun _=>?_)|(refine YN fun _=>?_));(refine onA ?_))
 refine call (zJU a i) ?_;rintro _ _ ⟨rfl,rfl⟩;refine onA ?_;refine zH (fun h=>?_) (fun h=>?_)
 ·refine zB ?_;refine ret ?_;exact ends ⟨by
          have h:isD a i=false:=by unfold isD;revert h;generalize (decide (0<=i)&&decide (i<(width a.v6:Int)))=q;cases q <;> simp
          unfold Ad.bit;rw [h];rfl,rfl⟩
 ·have h:isD a i=true:=by unfold isD;revert h;generalize (decide (0<=i)&&decide (i<(width a.v6:Int)))=q;cases q <;> simp
  have hd:=h;simp only [isD,Bool.and_eq_true,decide_eq_true_eq] at hd;have hw:=yD a.v6;obtain ⟨m,rfl⟩:=Int.eq_ofNat_of_zero_le hd.1;have hw':(width a.v6:Int)<=128:=by omega
  generalize (width a.v6:Int)=w at hd hw';refine zB ?_;refine call (ZX a.hi a.lo a.v6 a.h1 a.h2) ?_;rintro _ _ ⟨rfl,rfl⟩;refine onA ?_;refine alloc fun b5=>?_;have hr:a.bit (m:Int)=if a.dig m then 1 else 0:=by unfold Ad.bit;rw [h];rfl
  have hmw:m<width a.v6:=by unfold isD at h;simp at h;exact h
  rcases Nat.lt_or_ge m 64 with hm|hm
  ·have hk:(m:Int) / 64=((0:Nat):Int):=by omega
   refine zB ?_;rw [zPV (wZ a.h1),wT,hr];refine ret ?_;refine ends ⟨?_,rfl⟩;have e1:64-min (width a.v6) 64<=63-m%64:=by omega
   have e2:m%64=m:=Nat.mod_eq_of_lt hm;simp only [pack_one,Ad.dig,hm,if_true,e1,decide_true,Bool.and_true];rw [e2]
  ·have hk:(m:Int) / 64=((1:Nat):Int):=by omega
   refine zB ?_;rw [zPV (wZ a.h2),wT,hr];refine ret ?_;refine ends ⟨?_,rfl⟩;have e1:64-(width a.v6-64)<=63-m%64:=by omega
   have e2:63-m%64=127-m:=by omega
   simp only [pack_one,Ad.dig,Nat.not_lt.2 hm,if_false,e1,decide_true,Bool.and_true];rw [e2]
theorem zLb (a:Ad) (i v:Int) (hv:v=0∨v=1∨v=2):Does PR E X 249 [a.v,.int .i64 i,.int .i64 v] [] (fun u t=>u=(a.set i v).v/\t=[]):=by
 refine Does.of 40 inferInstance rfl (by decide) rfl ?_
 refine zB ?_;repeat ((first|(refine alloc fun _=>?_)|(refine zU fun _=>?_)|(refine yS fun _=>?_)|(refine YN fun _=>?_)|((with_reducible refine zOk ?_);refine call (ZX a.hi a.lo a.v6 a.h1 a.h2) ?_;rintro _ _ ⟨rfl,rfl⟩)|((with_reducible refine zOk ?_);refine call (zJU a i) ?_;rintro _ _ ⟨rfl,rfl⟩));(refine onA ?_))
 have hb:decide (XX .i64 v 1=1)=decide (v%2=1):=by rcases hv with rfl|rfl|rfl <;> decide
 refine zH (fun h=>?_) (fun h=>?_)
 ·have h:isD a i=true:=h;have hd:=h;simp only [isD,Bool.and_eq_true,decide_eq_true_eq] at hd;have hw:=yD a.v6;obtain ⟨m,rfl⟩:=Int.eq_ofNat_of_zero_le hd.1;have hr:a.set (m:Int) v=a.rd.put m (decide (v%2=1)):=by unfold Ad.set;rw [h];rfl
  rcases Nat.lt_or_ge m 64 with hm|hm
  ·have hk:(m:Int) / 64=((0:Nat):Int):=by omega
   refine zB ?_;rw [zH2,Yn,hb];have hlt:2^(63-m%64)<18446744073709551616:=(Nat.pow_lt_pow_right (a:=2) (by omega) (by omega):2^(63-m%64)<2^64)
   have fin:∀ q,decide (v%2=1)=q->(a.set (m:Int) v).v=.agg #[u64 (zMH (topN (min (width a.v6) 64) a.hi) (63-m%64) q),u64 (topN (width a.v6-64) a.lo),.bool a.v6]:=fun q hq=>by
    rw [hr,hq];unfold Ad.put;rw [if_pos hm];rfl
   refine zH (fun hq=>?_) (fun hq=>?_)
   ·refine zB ?_;rw [zBG Zr hlt];refine call (YW _ _ _) ?_;rintro _ _ ⟨rfl,rfl⟩;refine onA ?_;refine ret ?_;exact ends ⟨by rw [fin true hq];rfl,rfl⟩
   ·refine zB ?_;refine call (YW _ _ _) ?_;rintro _ _ ⟨rfl,rfl⟩;refine onA ?_;refine ret ?_;exact ends ⟨by rw [fin false hq];rfl,rfl⟩
  ·have hk:(m:Int) / 64=((1:Nat):Int):=by omega
   refine zB ?_;rw [zH2,Yn,hb];have hlt:2^(63-m%64)<18446744073709551616:=(Nat.pow_lt_pow_right (a:=2) (by omega) (by omega):2^(63-m%64)<2^64)
   have fin:∀ q,decide (v%2=1)=q->(a.set (m:Int) v).v=.agg #[u64 (topN (min (width a.v6) 64) a.hi),u64 (zMH (topN (width a.v6-64) a.lo) (63-m%64) q),.bool a.v6]:=fun q hq=>by
    rw [hr,hq];unfold Ad.put;rw [if_neg (by omega)];rfl
   refine zH (fun hq=>?_) (fun hq=>?_)
   ·refine zB ?_;rw [zBG Zr hlt];refine call (YW _ _ _) ?_;rintro _ _ ⟨rfl,rfl⟩;refine onA ?_;refine ret ?_;exact ends ⟨by rw [fin true hq];rfl,rfl⟩
   ·refine zB ?_;refine call (YW _ _ _) ?_;rintro _ _ ⟨rfl,rfl⟩;refine onA ?_;refine ret ?_;exact ends ⟨by rw [fin false hq];rfl,rfl⟩
 ·have h:isD a i=false:=h;refine zB ?_;refine call (YW _ _ _) ?_;rintro _ _ ⟨rfl,rfl⟩;refine onA ?_;refine ret ?_;exact ends ⟨by unfold Ad.set;rw [h];rfl,rfl⟩
end Go.Proofs.YtjcbjclhagobiaaGreat
end
section
namespace Go.Proofs.YtjcbjclhagobiaaGreat
open Go Go.KL Go.KM
variable {E:Env} {X:Xs}
set_option maxRecDepth 100000
theorem Qj (p:Pf) (v:Int) (hv:v=0∨v=1∨v=2):Does PR E X 171 [p.v,.int .i64 v] [] (fun u t=>u=.tuple #[(p.down v).1.v,.bool (p.down v).2]/\t=[]):=by
 refine Does.of 29 inferInstance rfl (by decide) rfl ?_
 refine zB ?_;repeat ((first|(refine alloc fun _=>?_)|(refine zU fun _=>?_)|(refine yS fun _=>?_)|(refine YN fun _=>?_));(refine onA ?_))
 refine draw [0,1,3,7,15,31,15,79,207,463,1023,2047] [1,9] [0,5,8] [0,1,2,3,4,5,6,7,8,9,10,11] ?_;refine zC ?_;refine call (yA p) ?_;rintro _ _ ⟨rfl,rfl⟩;try refine zJ ?_
 refine zC ?_;refine dorc (y:=decide (p.n=(width p.a.v6:Int))) (fun h gk=>?_) ?_
 ·refine zC ?_;refine call (yO _) ?_;rintro _ _ ⟨rfl,rfl⟩;try refine zJ ?_
  exact Wg
 refine ddA ?_;refine zH (fun h=>?_) (fun h=>?_)
 ·refine zB ?_;refine ret ?_;exact ends ⟨by unfold Pf.down;rw [h];rfl,rfl⟩
 ·have h2:=h;simp only [Bool.or_eq_false_iff,decide_eq_false_iff_not,Bool.not_eq_false'] at h2;have hs:=xY h2.1;have hw:=yD p.a.v6;refine zB ?_;refine draw [0,1,0,4,0,31,0,64,192,511,1023,2047] [5,10,11] [1,3,7] [0,1,2,3,4,6,7,8,5,9,10,11] ?_;refine zC ?_;refine call (zLb p.a p.n v hv) ?_;rintro _ _ ⟨rfl,rfl⟩;refine onA ?_;refine ret ?_;exact ends ⟨by unfold Pf.down;rw [h];rfl,rfl⟩
theorem zEC (p:Pf):Does PR E X 300 [p.v] [] (fun u t=>u=.tuple #[p.beside.1.v,.bool p.beside.2]/\t=[]):=by
 refine Does.of 24 inferInstance rfl (by decide) rfl ?_
 refine zB ?_;repeat ((first|(refine alloc fun _=>?_)|(refine zU fun _=>?_)|(refine yS fun _=>?_)|(refine YN fun _=>?_)|((with_reducible refine zOk ?_);refine call (zJt p) ?_;rintro _ _ ⟨rfl,rfl⟩));(refine onA ?_))
 refine zH (fun h=>?_) (fun h=>?_)
 ·have h:p.up.2=false:=by simpa using h
  refine zB ?_;refine ret ?_;exact ends ⟨by unfold Pf.beside;rw [h];rfl,rfl⟩
 ·have h:p.up.2=true:=by simpa using h
  have hb:p.a.bit p.up.1.n=0∨p.a.bit p.up.1.n=1:=by unfold Ad.bit;split <;> (try split) <;> simp
  refine zB ?_;refine draw [0,0,2,0,8,30,62,127,255,255,1023,2047] [5,7,10,11] [0,2,4] [0,1,2,3,4,5,6,7,8,9,10,11] ?_;refine zC ?_;refine call (zA3 p.a p.up.1.n) ?_;rintro _ _ ⟨rfl,rfl⟩;refine onA ?_;refine call (Qj p.up.1 _ (by omega)) ?_
  rintro _ _ ⟨rfl,rfl⟩;refine onA ?_;refine ret ?_;exact ends ⟨by unfold Pf.beside;rw [h];rfl,rfl⟩
end Go.Proofs.YtjcbjclhagobiaaGreat
end
section
namespace Go.Proofs.YtjcbjclhagobiaaGreat
open Go Go.KL Go.KM
variable {E:Env} {X:Xs}
set_option maxRecDepth 100000
theorem vO {x k:Nat} (h:2^k<=x):blen x=k+blen (x / 2^k):=by
 have hx:x≠0:=by have:=Nat.two_pow_pos k;omega
 have hy:x / 2^k≠0:=by
  have:=Nat.div_pos h (Nat.two_pow_pos k);omega
 unfold blen;rw [if_neg hx,if_neg hy];have h1:=(Nat.log2_eq_iff hx (k:=k+Nat.log2 (x / 2^k))).2 ?_
 ·rw [h1];omega
 ·have h2:=Nat.log2_self_le hy;have h3:=Nat.lt_log2_self (n:=x / 2^k);rw [Nat.le_div_iff_mul_le (Nat.two_pow_pos k)] at h2;rw [Nat.div_lt_iff_lt_mul (Nat.two_pow_pos k)] at h3;refine ⟨?_,?_⟩
  ·rw [Nat.pow_add,Nat.mul_comm];exact h2
  ·rw [show k+(x / 2^k).log2+1=((x / 2^k).log2+1)+k by omega,Nat.pow_add];exact h3
theorem zBJ {x:Nat} {k:Nat} (hk:k<=64):Wa .u64 (x:Int) (k:Int)=((x / 2^k:Nat):Int):=by
 unfold Wa;rw [show min ((k:Int)).toNat IntKind.u64.bits=k by show min _ 64=_;omega]
 rw [Int.fdiv_eq_ediv_of_nonneg _ (Int.le_of_lt (Int.pow_pos (by omega)))];simp
theorem Zg {y:Nat} (hy:y<256):0<=IntKind.u8.wrap (y:Int):=by show 0<=(y:Int)%256;omega
abbrev zH7:ByteArray:=⟨(([0,1,2,2,3,3,3,3,4,4,4,4,4,4,4,4,5,5,5,5,5,5,5,5,5,5,5,5,5,5,5,5,6,6,6,6,6,6,6,6,6,6,6,6,6,6,6,6,6,6,6,6,6,6,6,6,6,6,6,6,6,6,6,6].append [7,7,7,7,7,7,7,7,7,7,7,7,7,7,7,7,7,7,7,7,7,7,7,7,7,7,7,7,7,7,7,7,7,7,7,7,7,7,7,7,7,7,7,7,7,7,7,7,7,7,7,7,7,7,7,7,7,7,7,7,7,7,7,7]).append ([8,8,8,8,8,8,8,8,8,8,8,8,8,8,8,8,8,8,8,8,8,8,8,8,8,8,8,8,8,8,8,8,8,8,8,8,8,8,8,8,8,8,8,8,8,8,8,8,8,8,8,8,8,8,8,8,8,8,8,8,8,8,8,8].append [8,8,8,8,8,8,8,8,8,8,8,8,8,8,8,8,8,8,8,8,8,8,8,8,8,8,8,8,8,8,8,8,8,8,8,8,8,8,8,8,8,8,8,8,8,8,8,8,8,8,8,8,8,8,8,8,8,8,8,8,8,8,8,8])).toArray⟩
theorem zAe:∀ y:Fin 256,zH7[y.val]?=some (UInt8.ofNat (blen y.val)):=by decide +kernel
theorem XQ {y:Nat} (hy:y<256):zH7[(IntKind.u8.wrap (y:Int)).toNat]?=some (UInt8.ofNat (blen y)):=by
 have e:(IntKind.u8.wrap (y:Int)).toNat=y:=by show ((y:Int)%256).toNat=y;omega
 rw [e];exact zAe ⟨y,hy⟩
theorem YQ {y:Nat} (hy:y<256):zH7[((y:Nat):Int).toNat]?=some (UInt8.ofNat (blen y)):=zAe ⟨y,hy⟩
theorem Yt:∀ y:Fin 256,(UInt8.ofNat (blen y.val)).toNat=blen y.val:=by decide +kernel
theorem Zj:∀ y:Fin 256,blen y.val<=8:=by decide +kernel
theorem zPJ {x:Nat}:Wa .u64 (x:Int) 32=((x / 2^32:Nat):Int):=zBJ (k:=32) (by omega)
theorem zM1 {x:Nat}:Wa .u64 (x:Int) 16=((x / 2^16:Nat):Int):=zBJ (k:=16) (by omega)
theorem zOd {x:Nat}:Wa .u64 (x:Int) 8=((x / 2^8:Nat):Int):=zBJ (k:=8) (by omega)
set_option maxHeartbeats 4000000 in
theorem zHW (x:Nat) (hx:x<18446744073709551616):Does PR E X 267 [u64 x] [] (fun u t=>u=.int .i64 (blen x)/\t=[]):=by
 refine Does.of 25 inferInstance rfl (by decide) rfl ?_
 refine zB ?_;refine zH (fun h32=>?_) (fun h32=>?_)
 ·have g32:2^32<=x:=by have:=of_decide_eq_true h32;omega
  have e32:=vO g32;have b32:x / 2^32<4294967296:=by omega
  refine zB ?_;rw [zPJ];generalize x / 2^32=y32 at e32 b32;refine zB ?_;refine zH (fun h16=>?_) (fun h16=>?_)
  ·have g16:2^16<=y32:=by have:=of_decide_eq_true h16;omega
   have e16:=vO g16;have b16:y32 / 2^16<65536:=by omega
   refine zB ?_;rw [zM1];generalize y32 / 2^16=y16 at e16 b16;refine zB ?_;refine zH (fun h8=>?_) (fun h8=>?_)
   ·have g8:2^8<=y16:=by have:=of_decide_eq_true h8;omega
    have e8:=vO g8;have b8:y16 / 2^8<256:=by omega
    refine zB ?_;rw [zOd];generalize y16 / 2^8=y8 at e8 b8;have hc:=XQ b8;have hw:=Zg b8;refine zB ?_;refine ret ?_;refine ends ⟨?_,rfl⟩;have hq:=Yt ⟨y8,b8⟩;have hl:=Zj ⟨y8,b8⟩;simp only at hq hl;simp only [pack_one,hq];rw [zK (a:=(blen y8:Int)) (by omega),zK (by omega)]
    congr 1;omega
   ·have b8:y16<256:=by have:=of_decide_eq_false h8;omega
    have hc:=YQ b8;have hw:=Zg b8;refine zB ?_;refine ret ?_;refine ends ⟨?_,rfl⟩;have hq:=Yt ⟨y16,b8⟩;have hl:=Zj ⟨y16,b8⟩;simp only at hq hl;simp only [pack_one,hq];rw [zK (a:=(blen y16:Int)) (by omega),zK (by omega)]
    congr 1;omega
  ·have b16:y32<65536:=by have:=of_decide_eq_false h16;omega
   refine zB ?_;refine zH (fun h8=>?_) (fun h8=>?_)
   ·have g8:2^8<=y32:=by have:=of_decide_eq_true h8;omega
    have e8:=vO g8;have b8:y32 / 2^8<256:=by omega
    refine zB ?_;rw [zOd];generalize y32 / 2^8=y8 at e8 b8;have hc:=XQ b8;have hw:=Zg b8;refine zB ?_;refine ret ?_;refine ends ⟨?_,rfl⟩;have hq:=Yt ⟨y8,b8⟩;have hl:=Zj ⟨y8,b8⟩;simp only at hq hl;simp only [pack_one,hq];rw [zK (a:=(blen y8:Int)) (by omega),zK (by omega)]
    congr 1;omega
   ·have b8:y32<256:=by have:=of_decide_eq_false h8;omega
    have hc:=YQ b8;have hw:=Zg b8;refine zB ?_;refine ret ?_;refine ends ⟨?_,rfl⟩;have hq:=Yt ⟨y32,b8⟩;have hl:=Zj ⟨y32,b8⟩;simp only at hq hl;simp only [pack_one,hq];rw [zK (a:=(blen y32:Int)) (by omega),zK (by omega)]
    congr 1;omega
 ·have b32:x<4294967296:=by have:=of_decide_eq_false h32;omega
  refine zB ?_;refine zH (fun h16=>?_) (fun h16=>?_)
  ·have g16:2^16<=x:=by have:=of_decide_eq_true h16;omega
   have e16:=vO g16;have b16:x / 2^16<65536:=by omega
   refine zB ?_;rw [zM1];generalize x / 2^16=y16 at e16 b16;refine zB ?_;refine zH (fun h8=>?_) (fun h8=>?_)
   ·have g8:2^8<=y16:=by have:=of_decide_eq_true h8;omega
    have e8:=vO g8;have b8:y16 / 2^8<256:=by omega
    refine zB ?_;rw [zOd];generalize y16 / 2^8=y8 at e8 b8;have hc:=XQ b8;have hw:=Zg b8;refine zB ?_;refine ret ?_;refine ends ⟨?_,rfl⟩;have hq:=Yt ⟨y8,b8⟩;have hl:=Zj ⟨y8,b8⟩;simp only at hq hl;simp only [pack_one,hq];rw [zK (a:=(blen y8:Int)) (by omega),zK (by omega)]
    congr 1;omega
   ·have b8:y16<256:=by have:=of_decide_eq_false h8;omega
    have hc:=YQ b8;have hw:=Zg b8;refine zB ?_;refine ret ?_;refine ends ⟨?_,rfl⟩;have hq:=Yt ⟨y16,b8⟩;have hl:=Zj ⟨y16,b8⟩;simp only at hq hl;simp only [pack_one,hq];rw [zK (a:=(blen y16:Int)) (by omega),zK (by omega)]
    congr 1;omega
  ·have b16:x<65536:=by have:=of_decide_eq_false h16;omega
   refine zB ?_;refine zH (fun h8=>?_) (fun h8=>?_)
   ·have g8:2^8<=x:=by have:=of_decide_eq_true h8;omega
    have e8:=vO g8;have b8:x / 2^8<256:=by omega
    refine zB ?_;rw [zOd];generalize x / 2^8=y8 at e8 b8;have hc:=XQ b8;have hw:=Zg b8;refine zB ?_;refine ret ?_;refine ends ⟨?_,rfl⟩;have hq:=Yt ⟨y8,b8⟩;have hl:=Zj ⟨y8,b8⟩;simp only at hq hl;simp only [pack_one,hq];rw [zK (a:=(blen y8:Int)) (by omega),zK (by omega)]
    congr 1;omega
   ·have b8:x<256:=by have:=of_decide_eq_false h8;omega
    have hc:=YQ b8;have hw:=Zg b8;refine zB ?_;refine ret ?_;refine ends ⟨?_,rfl⟩;have hq:=Yt ⟨x,b8⟩;have hl:=Zj ⟨x,b8⟩;simp only at hq hl;simp only [pack_one,hq];rw [zK (a:=(blen x:Int)) (by omega),zK (by omega)]
    congr 1;omega
theorem zCU (x:Nat) (hx:x<18446744073709551616):Does PR E X 194 [u64 x] [] (fun u t=>u=.int .i64 (lead x)/\t=[]):=by
 refine Does.of 6 inferInstance rfl (by decide) rfl ?_
 refine zB ?_;have hb:blen x<=64:=by
  unfold blen;split
  ·omega
  ·rename_i h
   have:=(Nat.log2_lt h (k:=64)).2 hx
   omega
 refine call (zHW x hx) ?_;rintro _ _ ⟨rfl,rfl⟩;refine onA ?_;refine ret ?_;exact ends ⟨by unfold lead;simp only [pack_one];congr 1;omega,rfl⟩
end Go.Proofs.YtjcbjclhagobiaaGreat
end
section
namespace Go.Proofs.YtjcbjclhagobiaaGreat
open Go Go.KL Go.KM
variable {E:Env} {X:Xs}
set_option maxRecDepth 100000
theorem zA7 {x y:Nat} (hx:x<18446744073709551616) (hy:y<18446744073709551616):x ^^^ y<18446744073709551616:=Nat.xor_lt_two_pow (n:=64) hx hy
theorem zIb {a b:Nat} (ha:a<18446744073709551616) (hb:b<18446744073709551616):zOh .u64 a b=((a ^^^ b:Nat):Int):=by
 unfold zOh;show IntKind.u64.wrap ((BitVec.ofInt 64 (a:Int) ^^^ BitVec.ofInt 64 (b:Int)).toNat:Int)=_;rw [YK,YK,zDH]
 ·simp [BitVec.toNat_xor,BitVec.toNat_ofNat,Nat.mod_eq_of_lt ha,Nat.mod_eq_of_lt hb]
 ·exact (BitVec.ofNat 64 a ^^^ BitVec.ofNat 64 b).isLt
theorem zD1 (a b:Ad):Does PR E X 112 [a.v,b.v] [] (fun u t=>u=.int .i64 (a.common b)/\t=[]):=by
 refine Does.of 38 inferInstance rfl (by decide) rfl ?_
 refine zB ?_;repeat ((first|(refine alloc fun _=>?_)|(refine zU fun _=>?_)|(refine yS fun _=>?_)|(refine YN fun _=>?_));(refine onA ?_))
 refine zH (fun h=>?_) (fun h=>?_)
 ·have h:¬ a.v6=b.v6:=by simpa using h
  refine zB ?_;refine ret ?_;exact ends ⟨by unfold Ad.common;rw [if_neg h];rfl,rfl⟩
 ·have h:a.v6=b.v6:=by simpa using h
  have l1:∀ x,lead x<=64:=fun x=>by unfold lead;omega
  have hw:=yD a.v6;refine zB ?_;refine draw [0,1,0,7,0,0,63,127] [1,3,4,5,6,7] [0,2] [0,2,1,3,4,5,6,7] ?_;refine zC ?_;refine call (ZX a.hi a.lo a.v6 a.h1 a.h2) ?_;rintro _ _ ⟨rfl,rfl⟩;refine onA ?_;refine call (ZX b.hi b.lo b.v6 b.h1 b.h2) ?_;rintro _ _ ⟨rfl,rfl⟩;refine onA ?_;refine yS fun b5=>?_;refine zC ?_;refine yS fun b6=>?_;refine ddA ?_;rw [zIb (wZ a.h1) (wZ b.h1)];refine call (zCU _ (zA7 (wZ a.h1) (wZ b.h1))) ?_;rintro _ _ ⟨rfl,rfl⟩;refine onA ?_;have hr:a.common b=min (if lead (a.rd.hi ^^^ b.rd.hi)=64 then 64+lead (a.rd.lo ^^^ b.rd.lo) else lead (a.rd.hi ^^^ b.rd.hi)) (width a.v6):=by unfold Ad.common;rw [if_pos h]
  have k1:=l1 (topN (min (width a.v6) 64) a.hi ^^^ topN (min (width b.v6) 64) b.hi);have k2:=l1 (topN (width a.v6-64) a.lo ^^^ topN (width b.v6-64) b.lo);refine zH (fun h=>?_) (fun h=>?_)
  ·have g:lead (topN (min (width a.v6) 64) a.hi ^^^ topN (min (width b.v6) 64) b.hi)=64:=by have:=of_decide_eq_true h;omega
   refine zB ?_;rw [zIb (wZ a.h2) (wZ b.h2)];refine call (zCU _ (zA7 (wZ a.h2) (wZ b.h2))) ?_;rintro _ _ ⟨rfl,rfl⟩;refine onA ?_;refine call (yO _) ?_;rintro _ _ ⟨rfl,rfl⟩;refine onA ?_;refine ret ?_;refine ends ⟨?_,rfl⟩;have g':lead (a.rd.hi ^^^ b.rd.hi)=64:=g;rw [hr,if_pos g',pack_one];show _=Value.int .i64 (((min (64+lead (topN (width a.v6-64) a.lo ^^^ topN (width b.v6-64) b.lo)) (width a.v6):Nat)):Int);congr 1;omega
  ·have g:¬ lead (topN (min (width a.v6) 64) a.hi ^^^ topN (min (width b.v6) 64) b.hi)=64:=by have:=of_decide_eq_false h;omega
   refine zB ?_;refine call (yO _) ?_;rintro _ _ ⟨rfl,rfl⟩;refine onA ?_;refine ret ?_;refine ends ⟨?_,rfl⟩;have g':¬ lead (a.rd.hi ^^^ b.rd.hi)=64:=g;rw [hr,if_neg g',pack_one];show _=Value.int .i64 (((min (lead (topN (min (width a.v6) 64) a.hi ^^^ topN (min (width b.v6) 64) b.hi)) (width a.v6):Nat)):Int);congr 1;omega
theorem zHg (p q:Pf):Does PR E X 47 [p.v,q.v] [] (fun u t=>u=.bool (p.apart q)/\t=[]):=by
 refine Does.of 33 inferInstance rfl (by decide) rfl ?_
 refine zB ?_;repeat ((first|(refine alloc fun _=>?_)|(refine zU fun _=>?_)|(refine yS fun _=>?_)|(refine YN fun _=>?_));(refine onA ?_))
 refine draw [0,1,3,7,15,31,63,127,255,511,127,1151,3199,8191,16383,32767,65535,32767,163839,524287,32767,1081343,32767,4227071,15761407,33554431,67108863,134217727,268435455] [1,4,19,28] [0,3,9,12,16,18,21,23] [0,1,2,3,4,5,6,7,8,9,10,11,12,13,14,15,16,17,18,20,21,22,23,24,19,25,26,27,28] ?_;refine zC ?_;refine call (yA p) ?_;rintro _ _ ⟨rfl,rfl⟩;try refine zJ ?_
 refine zC ?_;refine dandc (y:=q.sane) (fun h gk=>?_) ?_
 ·refine zC ?_;refine call (yA q) ?_;rintro _ _ ⟨rfl,rfl⟩;try refine zJ ?_
  exact Wg
 refine zC ?_;refine dandc (y:=!(p.a.v6 == q.a.v6)||decide ((p.a.common q.a:Int)<min p.n q.n)) (fun h gk=>?_) ?_
 ·refine zC ?_;refine dorc (y:=decide ((p.a.common q.a:Int)<min p.n q.n)) (fun h gk=>?_) ?_
  ·refine zC ?_;refine call (zD1 p.a q.a) ?_;rintro _ _ ⟨rfl,rfl⟩;try refine zJ ?_
   exact Wg
  exact Wg
 refine ddA ?_;refine ret ?_;exact ends ⟨rfl,rfl⟩
end Go.Proofs.YtjcbjclhagobiaaGreat
end
section
namespace Go.Proofs.YtjcbjclhagobiaaGreat
open Go Go.KL Go.KM
theorem _root_.Go.KL.Into.oslTake {s F:List HP} {base:Option Addr} {cap sz:Nat} {T:TypeId} {es:List (List Value)} (k:Nat) (hs:Sel s (osl base cap T sz es) F):Into s (osl base cap T sz (es.take k)::F):=⟨fun r f hp=>by
 obtain ⟨f1,f2,d,l1,l2,⟨h1,h2,h3,h4⟩,kk⟩:=hs.out hp;refine ⟨f1,f2,d,l1,l2,⟨h1.sub fun e he=>List.mem_of_mem_take he,by simp;omega,h3,fun a ha=>?_⟩,kk⟩
 obtain ⟨h5,c,h6,h7,h8⟩:=h4 a ha;refine ⟨h5,c,h6,h7,fun j v hj=>h8 j v ?_⟩;have e:es=es.take k++es.drop k:=(List.take_append_drop ..).symm;rw [e,List.flatten_append,List.getElem?_append_left]
 ·exact hj
 ·rw [List.getElem?_eq_some_iff] at hj;exact hj.1⟩
structure Nd where
 k0:Int
 k1:Int
 up:Int
 ends:Bool
 v:Int
deriving DecidableEq
abbrev Nd.c (x:Nd):List Value:=[.int .i64 x.k0,.int .i64 x.k1,.int .i64 x.up,.bool x.ends,.int .i64 x.v]
structure Tr where
 A:List Nd
 fr:List Int
 n:Int
abbrev zHl (n:Int):List Value:=[.int .i64 n]
abbrev pt (t:Nat):Value:=.pointer (some ⟨t,0,none⟩)
abbrev yM (t:Nat) (T:Tr) (q:Option Addr×Nat×Option Addr×Nat):List HP:=[box t [.slice q.1 T.A.length q.2.1,.slice q.2.2.1 T.fr.length q.2.2.2,.int .i64 T.n] 308,osl q.1 q.2.1 305 5 (T.A.map Nd.c),osl q.2.2.1 q.2.2.2 3 1 (T.fr.map zHl)]
abbrev yU (t:Nat) (T:Tr):HP:=HP.ex (yM t T)
def xJ (up:Int):Nd:=⟨-1,-1,up,false,0⟩
def Tr.new:Tr:=⟨[xJ (-1),xJ (-1)],[],0⟩
def Nd.kid (x:Nd) (q:Bool):Int:=if q then x.k1 else x.k0
def vS (v6:Bool):Nat:=if v6 then 1 else 0
def Tr.take (T:Tr) (up:Int):Tr×Nat:=match T.fr.getLast? with
 | some m=>(⟨T.A.set m.toNat (xJ up),T.fr.dropLast,T.n⟩,m.toNat)
 | none=>(⟨T.A++[xJ up],T.fr,T.n⟩,T.A.length)
def Tr.path (T:Tr):Nat->List Bool->Option (List Nat)
 | at_,[]=>if at_<T.A.length then some [at_] else none
 | at_,q::bs=>match T.A[at_]? with
  | none=>none
  | some x=>if x.kid q = -1 then some [at_] else if 0<=x.kid q then (T.path (x.kid q).toNat bs).map (at_::·) else none
def Ad.bits (a:Ad) (n:Nat):List Bool:=(List.range n).map a.dig
def atV (l:List Nat) (i:Nat):Int:=match l[i]? with
 | some m=>(m:Int)
 | none=>-1
def Tr.find (T:Tr) (p:Pf):Int:=if p.sane then (match T.path (vS p.a.v6) (p.a.bits p.n.toNat) with
 | some l=>atV l p.n.toNat
 | none=>-1) else -1
theorem zC8 {T:Tr} {at_:Nat} {bs:List Bool} {l:List Nat} (h:T.path at_ bs=some l):∃ m,l=at_::m:=by
 cases bs with
 | nil=>unfold Tr.path at h;split at h <;> cases h;exact ⟨_,rfl⟩
 | cons q bs=>
  unfold Tr.path at h;split at h
  ·cases h
  ·split at h
   ·cases h;exact ⟨_,rfl⟩
   ·split at h
    ·cases e:T.path (Nd.kid _ q).toNat bs with
     | none=>rw [e] at h;cases h
     | some m=>rw [e] at h;cases h;exact ⟨_,rfl⟩
    ·cases h
theorem Zt {T:Tr}:∀ {bs:List Bool} {at_:Nat} {l:List Nat},T.path at_ bs=some l->l.length<=bs.length+1/\∀ i m,l[i]?=some m->∃ x,T.A[m]?=some x/\
  ((bs[i]?=none/\l[i+1]?=none)∨∃ q,bs[i]?=some q/\((x.kid q = -1/\l[i+1]?=none)∨∃ m':Nat,x.kid q=(m':Int)/\l[i+1]?=some m'))
 | [],at_,l,h=>by
  unfold Tr.path at h;split at h
  ·rename_i hl
   cases h
   refine ⟨by simp,fun i m hi=>?_⟩
   cases i with
   | zero=>simp at hi;subst hi;exact ⟨T.A[at_],by simp,.inl ⟨rfl,rfl⟩⟩
   | succ i=>simp at hi
  ·cases h
 | q::bs,at_,l,h=>by
  unfold Tr.path at h;split at h
  ·cases h
  ·rename_i x hx
   split at h
   ·rename_i hk
    cases h
    refine ⟨by simp,fun i m hi=>?_⟩
    cases i with
    | zero=>simp at hi;subst hi;exact ⟨x,hx,.inr ⟨q,rfl,.inl ⟨hk,rfl⟩⟩⟩
    | succ i=>simp at hi
   ·split at h
    ·rename_i hk hk0
     cases e:T.path (x.kid q).toNat bs with
     | none=>rw [e] at h;cases h
     | some l'=>
      rw [e] at h;cases h;obtain ⟨m0,hm0⟩:=zC8 e;obtain ⟨k1,k2⟩:=Zt e;refine ⟨by simp;omega,fun i m hi=>?_⟩
      cases i with
      | zero=>
       simp at hi;subst hi;exact ⟨x,hx,.inr ⟨q,rfl,.inr ⟨(x.kid q).toNat,by omega,by simp [hm0]⟩⟩⟩
      | succ i=>
       obtain ⟨y,h1,h2⟩:=k2 i m (by simpa using hi)
       exact ⟨y,h1,by simpa using h2⟩
    ·cases h
theorem QN {a:Ad} {n i:Nat} (h:i<n):(a.bits n)[i]?=some (a.dig i):=by simp [Ad.bits,h]
theorem yE {a:Ad} {n:Nat}:(a.bits n).length=n:=by simp [Ad.bits]
end Go.Proofs.YtjcbjclhagobiaaGreat
end
section
namespace Go.Proofs.YtjcbjclhagobiaaGreat
open Go Go.KL Go.KM
variable {E:Env} {X:Xs}
set_option maxRecDepth 100000
theorem zDQ (q:Bool):Does PR E X 289 [.bool q] [] (fun v t=>v=.int .i64 (vS q)/\t=[]):=by
 refine Does.of 4 inferInstance rfl (by decide) rfl ?_
 refine zB ?_;refine zH (fun h=>?_) (fun h=>?_)
 ·refine zB ?_;refine ret ?_;exact ends ⟨by subst h;rfl,rfl⟩
 ·refine zB ?_;refine ret ?_;exact ends ⟨by subst h;rfl,rfl⟩
theorem VE (up:Int):Does PR E X 283 [.int .i64 up] [] (fun v t=>v=.agg (xJ up).c.toArray/\t=[]):=by
 refine Does.of 6 inferInstance rfl (by decide) rfl ?_
 refine zB ?_;repeat ((first|(refine alloc fun _=>?_)|(refine zU fun _=>?_)|(refine yS fun _=>?_)|(refine YN fun _=>?_));(refine onA ?_))
 refine ret ?_;exact ends ⟨rfl,rfl⟩
theorem zDG:Does PR E X 214 [] [] (fun v t=>∃ b,v=pt b/\t=[yU b Tr.new]):=by
 refine Does.of 6 inferInstance rfl (by decide) rfl ?_
 refine zB ?_;repeat ((first|(refine alloc fun _=>?_)|(refine zU fun _=>?_)|(refine yS fun _=>?_)|(refine YN fun _=>?_)|((with_reducible refine zOk ?_);refine call (VE _) ?_;rintro _ _ ⟨rfl,rfl⟩));(refine onA ?_))
 refine buildSlice fun b3=>?_;refine zB ?_;refine zU fun b5=>?_;refine zB ?_;refine into (Into.nilO (T:=3) (sz:=1)) ?_;refine zE (yM b5 Tr.new) (some ⟨b3,0,none⟩,2,none,0) ?_;refine ret ?_;exact ends ⟨b5,rfl,rfl⟩
theorem YJ (t:Nat) (T:Tr) (h:T.A≠[]):Does PR E X 195 [pt t] [yU t T] (fun v u=>v=.bool true/\u=[yU t T]):=by
 refine Does.of 13 inferInstance rfl (by decide) rfl ?_
 refine zW (yM t T) fun q=>?_;have hl:0<T.A.length:=List.length_pos_iff.2 h;refine zB ?_;refine zE (yM t T) q ?_;refine ret ?_;exact ends ⟨by simp [hl],rfl⟩
theorem zCC (t:Nat) (T:Tr) (up:Int) (hf:∀ m∈T.fr,0<=m/\m<(T.A.length:Int)) (hA:T.A.length<=100000000) (hF:T.fr.length<=100000000):Does PR E X 291 [pt t,.int .i64 up] [yU t T] (fun v u=>v=.int .i64 (T.take up).2/\u=[yU t (T.take up).1]):=by
 refine Does.of 58 inferInstance rfl (by decide) rfl ?_
 refine zW (yM t T) fun q=>?_;refine zMn q.2.2.1 fun hc=>?_;rw [List.length_map] at hc;refine zB ?_;refine zH (fun h=>?_) (fun h=>?_)
 ·have hn:0<T.fr.length:=by have:=of_decide_eq_true h;omega
  obtain ⟨m,hm⟩:∃ m,T.fr.getLast?=some m:=by
   cases e:T.fr.getLast? with
   | none=>rw [List.getLast?_eq_none_iff] at e;rw [e] at hn;simp at hn
   | some m=>exact ⟨m,rfl⟩
  have hi:T.fr[((T.fr.length:Int)-1).toNat]?=some m:=by
   rw [List.getLast?_eq_getElem?] at hm;rw [show ((T.fr.length:Int)-1).toNat=T.fr.length-1 by omega];exact hm
  have hb:=hf m (List.mem_of_getLast? hm);obtain ⟨x,hx⟩:∃ x,T.A[m.toNat]?=some x:=⟨T.A[m.toNat]'(by omega),by rw [List.getElem?_eq_getElem]⟩
  have ht:T.take up=(⟨T.A.set m.toNat (xJ up),T.fr.dropLast,T.n⟩,m.toNat):=by unfold Tr.take;rw [hm]
  rw [ht];refine zB ?_;rw [zHn];refine into (Into.oslTake (base:=q.2.2.1) (T.fr.length-1) (.there (.there .here))) ?_;refine draw [0,1,3,7,0,0,32,127,255] [6,8] [3,7] [0,1,2,3,4,5,6,7,8] ?_;refine zC ?_;refine call (VE up) ?_;rintro _ _ ⟨rfl,rfl⟩;refine onA ?_;have e1:(List.map Nd.c T.A).set m.toNat [.int .i64 (xJ up).k0,.int .i64 (xJ up).k1,.int .i64 (xJ up).up,.bool (xJ up).ends,.int .i64 (xJ up).v]=List.map Nd.c (T.A.set m.toNat (xJ up)):=by rw [List.map_set]
  have e2:List.take (T.fr.length-1) (List.map zHl T.fr)=List.map zHl T.fr.dropLast:=by rw [<-List.map_take,List.dropLast_eq_take]
  have e3:T.A.length=(T.A.set m.toNat (xJ up)).length:=by simp
  have e4:((T.fr.length:Int)-1).toNat-0=T.fr.dropLast.length:=by simp
  rw [e1,e2,e4,e3];refine zE (yM t ⟨T.A.set m.toNat (xJ up),T.fr.dropLast,T.n⟩) q ?_;refine ret ?_;exact ends ⟨by rw [pack_one];congr 1;omega,rfl⟩
 ·have hn:T.fr=[]:=by have:=of_decide_eq_false h;exact List.length_eq_zero_iff.1 (by omega)
  have ht:T.take up=(⟨T.A++[xJ up],T.fr,T.n⟩,T.A.length):=by unfold Tr.take;rw [hn];rfl
  rw [ht];refine zB ?_;refine draw [0,0,2,6,14,0,32,96,254,511,1023,2047] [6,7,8,11] [4] [0,1,2,3,4,5,6,7,8,9,10,11] ?_;refine zC ?_;refine call (VE up) ?_;rintro _ _ ⟨rfl,rfl⟩;refine onA ?_;refine yF fun b48=>?_;refine ddA ?_;refine xP fun b1 c1=>?_;refine ddA ?_;have e1:List.map Nd.c T.A++[yG (.agg (xJ up).c.toArray)]=List.map Nd.c (T.A++[xJ up]):=by rw [List.map_append];rfl
  have e3:T.A.length+1=(T.A++[xJ up]).length:=by simp
  rw [e1,e3];refine zE (yM t ⟨T.A++[xJ up],T.fr,T.n⟩) (b1,c1,q.2.2.1,q.2.2.2) ?_;refine ret ?_;exact ends ⟨by rw [pack_one];congr 1;simp,rfl⟩
theorem zCd (t:Nat) (T:Tr) (p:Pf) (fv:Value) (S:Nat->HP) (l:List Nat) (h0:0<=p.n) (h1:p.n<=(width p.a.v6:Int)) (hp:T.path (vS p.a.v6) (p.a.bits p.n.toNat)=some l)
  (hf:∀ (i m:Nat),l[i]?=some m->DoesV PR E X fv [.int .i64 (m:Int),.int .i64 (i:Int)] [yU t T,S i] (fun v u=>v=.bool true/\u=[yU t T,S (i+1)])) :
  Does PR E X 247 [pt t,p.v,fv] [yU t T,S 0] (fun v u=>v=.tuple #[]/\u=[yU t T,S l.length]):=by
 obtain ⟨k1,k2⟩:=Zt hp;rw [yE] at k1;have hw:=yD p.a.v6;obtain ⟨l0,hl0⟩:=zC8 hp;have ht:true=true:=rfl;refine Does.of 41 inferInstance rfl (by decide) rfl ?_
 refine zB ?_;refine zU fun b4=>?_;refine zB ?_;refine call (zDQ _) ?_;rintro _ _ ⟨rfl,rfl⟩;refine onA ?_;have hr:((vS p.a.v6:Nat):Int)=atV l 0:=by rw [hl0];rfl
 rw [hr];refine loop (ι:=Nat) (fun i=>l.length-i) (fun i=>i<=l.length) (fun i=>[(0,pt t),(2,fv),(4,.pointer (some ⟨b4,0,none⟩)),(6,.int .i64 (atV l i)),(7,.int .i64 (i:Int))]) (fun i=>[box b4 (yG p.v) 52,yU t T,S i]) 0 (by simp) ?_
 intro i hi ih;(try dsimp only at hi ih ⊢);cases hm:l[i]? with
 | none=>
  have ha:atV l i = -1:=by unfold atV;rw [hm]
  have hlen:i=l.length:=by rw [List.getElem?_eq_none_iff] at hm;omega
  rw [ha];have c1:(!decide ((-1:Int) = -1))=false:=rfl;refine zB ?_;refine no ?_;refine zB ?_;subst hlen;refine fall ?_;exact ends ⟨rfl,rfl⟩
 | some m=>
  have ha:atV l i=(m:Int):=by unfold atV;rw [hm]
  have hil:i<l.length:=(List.getElem?_eq_some_iff.1 hm).1;rw [ha];have c1:(!decide ((m:Int) = -1))=true:=by simp
  refine zB ?_;refine XD (hf i m hm) ?_;rintro _ _ ⟨rfl,rfl⟩;refine zB ?_;obtain ⟨x,hx,hk⟩:=k2 i m hm;refine zH (fun h=>?_) (fun h=>?_)
  ·have hin:(i:Int)<p.n:=of_decide_eq_true h;have hbi:=QN (a:=p.a) (n:=p.n.toNat) (i:=i) (by omega)
   rcases hk with ⟨hk,_⟩|⟨q,hq,hk⟩
   ·rw [hk] at hbi;cases hbi
   rw [hbi] at hq;cases hq;have hbit:p.a.bit (i:Int)=if p.a.dig i then 1 else 0:=by
    unfold Ad.bit;rw [show isD p.a (i:Int)=true by unfold isD;simp;omega,if_pos rfl,Int.toNat_natCast]
   have hnx:x.kid (p.a.dig i)=atV l (i+1):=by
    unfold atV;rcases hk with ⟨e1,e2⟩|⟨m',e1,e2⟩
    ·rw [e2];exact e1
    ·rw [e2];exact e1
   refine zB ?_;refine zW (yM t T) fun q=>?_;have hml:m<T.A.length:=(List.getElem?_eq_some_iff.1 hx).1;refine draw [0,1,3,7,0,0,32,0,224,31,543,2047,4095,8191] [8,13] [3,6,9,11,12] [0,1,2,3,4,5,6,7,9,10,8,11,12,13] ?_;refine zC ?_;refine call (zA3 p.a _) ?_;rintro _ _ ⟨rfl,rfl⟩;try refine zJ ?_
   cases hd:p.a.dig i with
   | false=>
    have hz:((p.a.bit (i:Int):Nat):Int)=((0:Nat):Int):=by rw [hbit,hd];rfl
    refine ddA ?_;have hnx':x.k0=atV l (i+1):=by rw [<-hnx,hd];rfl
    rw [hnx'];refine zE (yM t T) q ?_;exact next (ih (i+1) (by omega) (by omega))
   | true=>
    have hz:((p.a.bit (i:Int):Nat):Int)=((1:Nat):Int):=by rw [hbit,hd];rfl
    refine ddA ?_;have hnx':x.k1=atV l (i+1):=by rw [<-hnx,hd];rfl
    rw [hnx'];refine zE (yM t T) q ?_;exact next (ih (i+1) (by omega) (by omega))
  ·have hin:¬ (i:Int)<p.n:=of_decide_eq_false h;have hlen:i+1=l.length:=by
    have hb:(p.a.bits p.n.toNat)[i]?=none:=by rw [List.getElem?_eq_none_iff,yE];omega
    rcases hk with ⟨_,e⟩|⟨q,e,_⟩
    ·rw [List.getElem?_eq_none_iff] at e;omega
    ·rw [hb] at e;cases e
   rw [hlen];refine zB ?_;refine fall ?_;exact ends ⟨rfl,rfl⟩
abbrev zGe (b3 b5:Nat) (p:Pf) (out:Int) (_:Unit):List HP:=[box b3 (yG p.v) 52,box b5 (zHl out) 3]
abbrev zM0 (b3 b5:Nat) (p:Pf) (out:Int):HP:=HP.ex (zGe b3 b5 p out)
theorem zG9 (A:HP) (b3 b5:Nat) (p:Pf) (out m n:Int):Does PR E X 248 [.int .i64 m,.int .i64 n,.pointer (some ⟨b3,0,none⟩),.pointer (some ⟨b5,0,none⟩)] [A,zM0 b3 b5 p out] (fun v u=>v=.bool true/\u=[A,zM0 b3 b5 p (if n=p.n then m else out)]):=by
 refine Does.of 12 inferInstance rfl (by decide) rfl ?_
 refine zW (zGe b3 b5 p out) fun q=>?_;refine zB ?_;refine zH (fun h=>?_) (fun h=>?_)
 ·rw [if_pos (of_decide_eq_true h)];refine zB ?_;refine zE (zGe b3 b5 p m) () ?_;refine ret ?_;exact ends ⟨rfl,rfl⟩
 ·rw [if_neg (of_decide_eq_false h)];refine zB ?_;refine zE (zGe b3 b5 p out) () ?_;refine ret ?_;exact ends ⟨rfl,rfl⟩
theorem XG (t:Nat) (T:Tr) (p:Pf) (hA:T.A≠[]) (hp:p.sane=true->∃ l,T.path (vS p.a.v6) (p.a.bits p.n.toNat)=some l):Does PR E X 170 [pt t,p.v] [yU t T] (fun v u=>v=.int .i64 (T.find p)/\u=[yU t T]):=by
 have ht:true=true:=rfl;refine Does.of 17 inferInstance rfl (by decide) rfl ?_
 refine zB ?_;refine zU fun b3=>?_;refine zB ?_;refine alloc fun b5=>?_;refine zB ?_;refine call (YJ t T hA) ?_;rintro _ _ ⟨rfl,rfl⟩;refine onA ?_;refine call (yA p) ?_;rintro _ _ ⟨rfl,rfl⟩;refine onA ?_;refine zH (fun h=>?_) (fun h=>?_)
 ·obtain ⟨l,hl⟩:=hp h;have hs:=xY h;have hfd:T.find p=atV l p.n.toNat:=by unfold Tr.find;rw [if_pos h,hl]
  obtain ⟨k1,k2⟩:=Zt hl;rw [yE] at k1;have hS:∀ i:Nat,i<l.length->∀ m:Nat,l[i]?=some m->(if (i:Int)=p.n then (m:Int) else if (i:Int)=p.n+1 then atV l p.n.toNat else -1)=if ((i+1:Nat):Int)=p.n+1 then atV l p.n.toNat else -1:=by
   intro i hi m hm;by_cases e:(i:Int)=p.n
   ·rw [if_pos e,if_pos (by omega)]
    unfold atV;rw [show p.n.toNat=i by omega,hm]
   ·rw [if_neg e,if_neg (by omega),if_neg (by omega)]
  have hE:(if (l.length:Int)=p.n+1 then atV l p.n.toNat else -1)=atV l p.n.toNat:=by
   split
   ·rfl
   ·unfold atV;rw [List.getElem?_eq_none (by omega)]
  have e0:(-1:Int)=if ((0:Nat):Int)=p.n+1 then atV l p.n.toNat else -1:=by rw [if_neg (by omega)]
  refine zB ?_;rw [e0];refine VV (zGe b3 b5 p _) () ?_;refine call (zCd t T p _ (fun i=>zM0 b3 b5 p (if (i:Int)=p.n+1 then atV l p.n.toNat else -1)) l hs.1 hs.2 hl (fun i m hm=>?_)) ?_
  ·have:=zG9 (E:=E) (X:=X) (yU t T) b3 b5 p (if (i:Int)=p.n+1 then atV l p.n.toNat else -1) m i
   rw [hS i (List.getElem?_eq_some_iff.1 hm).1 m hm] at this;exact Does.clo this rfl
  rintro _ _ ⟨rfl,rfl⟩;rw [hE,hfd];refine YG (zGe b3 b5 p (atV l p.n.toNat)) fun _=>?_;refine zB ?_;refine ret ?_;exact ends ⟨rfl,rfl⟩
 ·have hfd:T.find p = -1:=by unfold Tr.find;rw [h];rfl
  rw [hfd];refine zB ?_;refine ret ?_;exact ends ⟨rfl,rfl⟩
end Go.Proofs.YtjcbjclhagobiaaGreat
end
section
namespace Go.Proofs.YtjcbjclhagobiaaGreat
open Go Go.KL Go.KM
def Nd.setKid (x:Nd) (q:Bool) (m:Int):Nd:=if q then { x with k1:=m } else { x with k0:=m }
def Tr.get (T:Tr) (p:Pf):Option Int:=if T.find p = -1 then none else match T.A[(T.find p).toNat]? with
 | some x=>if x.ends then some x.v else none
 | none=>none
def Tr.grow:Tr->Nat->List Bool->Option (Tr×Nat)
 | T,at_,[]=>some (T,at_)
 | T,at_,q::bs=>match T.A[at_]? with
  | none=>none
  | some x=>if x.kid q = -1 then (match (T.take at_).1.A[at_]? with
    | some y=>Tr.grow { (T.take at_).1 with A:=(T.take at_).1.A.set at_ (y.setKid q (T.take at_).2) } (T.take at_).2 bs
    | none=>none) else if 0<=x.kid q then Tr.grow T (x.kid q).toNat bs else none
def Tr.mark (T:Tr) (at_:Nat) (v:Int):Option Tr:=match T.A[at_]? with
 | some x=>some ⟨T.A.set at_ { x with ends:=true,v:=v },T.fr,if x.ends then T.n else T.n+1⟩
 | none=>none
def Tr.put (T:Tr) (p:Pf) (v:Int):Option Tr:=match T.grow (vS p.a.v6) (p.a.bits p.n.toNat) with
 | some (U,m)=>U.mark m v
 | none=>none
structure Tr.Ok (T:Tr) (k:Nat):Prop where
 fr:∀ m∈T.fr,0<=m/\m<(T.A.length:Int)
 A:T.A.length+k<=100000000
 F:T.fr.length<=100000000
theorem Tr.Ok.take {T:Tr} {k:Nat} (h:T.Ok (k+1)) (up:Int):(T.take up).1.Ok k:=by
 obtain ⟨h1,h2,h3⟩:=h;unfold Tr.take;split
 ·refine ⟨fun m hm=>?_,by simp;omega,by simp;omega⟩
  have:=h1 m (List.dropLast_subset _ hm)
  simpa using this
 ·refine ⟨fun m hm=>?_,by simp;omega,h3⟩
  have:=h1 m hm
  simp;omega
theorem Tr.Ok.set {T:Tr} {k:Nat} (h:T.Ok k) (i:Nat) (x:Nd):Tr.Ok { T with A:=T.A.set i x } k:=
 ⟨fun m hm=>by simpa using h.fr m hm,by simpa using h.A,h.F⟩
theorem Tr.Ok.less {T:Tr} {k j:Nat} (h:T.Ok k) (hj:j<=k):T.Ok j:=⟨h.fr,by have:=h.A;omega,h.F⟩
theorem zBa {T:Tr} {p:Pf} (h:T.find p≠-1):∃ m:Nat,T.find p=(m:Int)/\∃ x,T.A[m]?=some x:=by
 unfold Tr.find at h ⊢;split
 ·rename_i hs
  rw [if_pos hs] at h;cases e:T.path (vS p.a.v6) (p.a.bits p.n.toNat) with
  | none=>rw [e] at h;exact absurd rfl h
  | some l=>
   rw [e] at h;simp only at h ⊢;unfold atV at h ⊢;cases e2:l[p.n.toNat]? with
   | none=>rw [e2] at h;exact absurd rfl h
   | some m=>
    obtain ⟨x,hx,_⟩:=(Zt e).2 _ _ e2;exact ⟨m,rfl,x,hx⟩
 ·rename_i hs
  rw [if_neg hs] at h;exact absurd rfl h
end Go.Proofs.YtjcbjclhagobiaaGreat
end
