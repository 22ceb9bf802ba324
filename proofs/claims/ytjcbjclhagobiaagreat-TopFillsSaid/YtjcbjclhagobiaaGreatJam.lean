/- Texts joined by a program of ours: Fn Fo Fp Fq Fr Fs Ft Fu Fv Fw Fx Fy. -/
import Derived.Test.YtjcbjclhagobiaaGreatJae
import Derived.Test.YtjcbjclhagobiaaGreatJaf
import Derived.Test.YtjcbjclhagobiaaGreatJal
set_option linter.all false
section
namespace Go.Proofs.YtjcbjclhagobiaaGreat
set_option maxHeartbeats 1600000
open Go Go.KL Go.KM
variable {E:Env} {X:Xs}
set_option maxRecDepth 100000
theorem Jo {m:Prs} {a:Ad} {x:Pf×Int} (h:ZK m a=some x):x.1.sane=true:=by
 unfold ZK governed at h;cases hg:(m.above (widest m a 0)).getLast? with
 | none=>rw [hg] at h;cases h
 | some y=>rw [hg] at h;cases h;exact Yd
theorem zDM {m:Prs} {p:Pf} {n:Int}:∀ x∈Zn m p n,x.1.sane=true:=by
 have key:∀ (l:List Pf) (out:Prs),(∀ x∈out,x.1.sane=true)->∀ x∈l.foldl (wN m) out,x.1.sane=true:=by
  intro l;induction l with
  | nil=>intro out h;exact h
  | cons s l ih=>
   intro out h;refine ih _ fun x hx=>?_;unfold wN at hx;split at hx
   ·exact h x hx
   ·rename_i y hy
    split at hx
    ·exact h x hx
    ·rcases List.mem_append.1 hx with hx|hx
     ·exact h x hx
     ·simp at hx;subst hx;exact Jo hy
 exact key _ [] (by simp)
def Vc (h:HSt) (x:Pf×Int):HSt×Bool:=((Xu h x).1,!(Xu h x).2)
theorem zEH (b b3:Nat) (h:HSt) (hh:HOk h) (x:Pf×Int) (hx:x.1.sane=true):Does PR E X 162 [rV x,pt b3] [xZ b h,box b3 [pt b] 90] (fun v t=>v=.bool (Vc h x).2/\t=[xZ b (Vc h x).1,box b3 [pt b] 90]):=by
 refine Does.of 8 inferInstance rfl (by decide) rfl ?_
 refine zB ?_;refine zU fun b2=>?_;refine zB ?_;refine call (zGO b h hh x hx) ?_;rintro _ _ ⟨rfl,rfl⟩;refine zB ?_;refine ret ?_;exact ends ⟨rfl,rfl⟩
theorem zJ8 (b b3:Nat):DelOk E X (.func (.func 162) #[] #[pt b3]) (fun h=>all [xZ b h,box b3 [pt b] 90]) Vc HOk (fun x=>x.1.sane=true):=
 ⟨fun h x hh hx=>DoesV.all (Does.clo (vs:=[rV x]) (ca:=#[pt b3]) (zEH b b3 h hh x hx) rfl),fun h x hh _=>hh.soft x⟩
theorem HOk.run:∀ {l:Prs} {h:HSt},HOk h->HOk (YY Vc h l).1
 | [],_,hh=>hh
 | x::l,_,hh=>HOk.run (l:=l) (hh.soft x)
def Vo (h:HSt) (p:Pf) (n:Int):HSt×Prs:=YY Vc h (Zn h.m p n)
theorem zEy {m:Prs} {p:Pf} {n:Int}:(Zn m p n).length<=8:=by
 have h1:(Zn m p n).length<=([]:Prs).length+(sibs (sibN n) p).length:=Qm;have h2:=zFZ (k:=sibN n) (p:=p);have:sibN n<=8:=by unfold sibN;omega
 simp only [List.length_nil,Nat.zero_add] at h1;omega
theorem Vm (b:Nat) (h:HSt) (hh:HOk h) (p:Pf) (n:Int):Does PR E X 83 [pt b,p.v,.int .i64 n] [xZ b h] (fun v t=>∃ b1 c1,v=.slice b1 (Vo h p n).2.length c1/\t=[xZ b (Vo h p n).1,osl b1 c1 54 5 ((Vo h p n).2.map prC)]):=by
 have hlm:=hh.len;have hrm:=hh.rm;have hbl:=zEy (m:=h.m) (p:=p) (n:=n);refine Does.of 14 inferInstance rfl (by decide) rfl ?_
 refine zW (xH b h) fun q=>?_;refine zB ?_;refine zU fun b3=>?_;refine zB ?_;refine zU fun b4=>?_;refine zB ?_;refine draw [0,1,0,0,15,0,63,127] [1,4,6,7] [0,2] [0,2,3,5,1,4,6,7] ?_;refine zC ?_;refine call (wD b q h.Q.length h.bound h.S) ?_;rintro _ _ ⟨rfl,rfl⟩;try refine zJ ?_
 refine ddA ?_;refine call (zDI q.r h.rmost h.rhops h.m (by omega) p n) ?_
 rintro _ _ ⟨b1,c1,rfl,rfl⟩;try refine zJ ?_
 refine ddA ?_;refine VV (xH b h) q ?_;refine VV (fun _:Unit=>[xZ b h,box b3 [pt b] 90]) () ?_;refine call (JX _ (zJ8 b b3) b1 c1 (Zn h.m p n) (by omega) zDM h hh) ?_
 rintro _ _ ⟨rfl,rfl⟩;refine zJ ?_;refine ddA ?_;refine zW (fun _:Unit=>[xZ b (YY Vc h (Zn h.m p n)).1,box b3 [pt b] 90]) fun _=>?_;simp only [List.cons_append,List.nil_append];refine ret ?_;exact ends ⟨b1,c1,rfl,rfl⟩
structure FRep where
 r:PRep
 h:HSt
 l:Prs
def pfPick (h:HSt) (k n:Int):FRep:=if (hPick h k).done=false∨wP (hPick h k).h.m (hPick h k).x=false then ⟨hPick h k,(hPick h k).h,[]⟩ else ⟨hPick h k,(Vo (hPick h k).h (hPick h k).x.1 n).1,(Vo (hPick h k).h (hPick h k).x.1 n).2⟩
theorem zHU {h:HSt} (hh:HOk h) (n:Int):(hPick h n).x.1.sane=true:=by
 have h0:prZ.1.sane=true:=by rfl
 unfold hPick;split
 ·exact h0
 ·split
  ·exact h0
  ·rename_i e he
   split
   ·exact h0
   ·rename_i x hx
    show x.1.sane=true;unfold Yg at hx;split at hx
    ·exact Jo hx
    ·cases hx
     exact Zq (vR (hh.q.fits e (List.mem_of_getElem? he))).2.1
set_option maxHeartbeats 1000000 in
theorem zEJ (b:Nat) (h:HSt) (hh:HOk h) (k n:Int):Does PR E X 158 [pt b,.int .i64 k,.int .i64 n] [xZ b h] (fun v t=>∃ b1 c1 b2 c2 b3 c3,v=.tuple #[.agg (zO5 (pfPick h k n).r.done (pfPick h k n).r.x b1 (pfPick h k n).r.absorbed.length c1 b2 (pfPick h k n).r.out.length c2).toArray,.slice b3 (pfPick h k n).l.length c3]/\t=[xZ b (pfPick h k n).h,osl b1 c1 54 5 ((pfPick h k n).r.absorbed.map prC),osl b2 c2 54 5 ((pfPick h k n).r.out.map prC),osl b3 c3 54 5 ((pfPick h k n).l.map prC)]):=by
 have hp:=hh.pick k;have hps:=zHU hh k;have hlm:=hp.len;have hrm:=hp.rm;refine Does.of 31 inferInstance rfl (by decide) rfl ?_
 refine zB ?_;refine alloc fun b6=>?_;refine zB ?_;refine call (zGP b h hh k) ?_;unfold zAy;rintro _ _ ⟨b1,c1,b2,c2,rfl,rfl⟩;refine zB ?_;refine alloc fun b8=>?_;refine zB ?_;unfold pfPick;generalize hPick h k=r at hp hps hlm hrm ⊢;cases hd:r.done with
 | false=>
  have hnd:(!false)=true:=rfl;rw [if_pos (.inl rfl)];refine draw [0,1,3,7,15,31,15,79,255,511,1023] [5,8] [1,7] [0,1,2,3,4,6,7,5,8,9,10] ?_;refine zC ?_;refine yes ?_;refine zB ?_;refine into (Into.nilO (T:=54) (sz:=5)) ?_;refine ret ?_;exact ends ⟨b1,c1,b2,c2,none,0,by rw [hd];rfl,rfl⟩
 | true=>
  have hnd:(!true)=false:=rfl;refine zW (xH b r.h) fun q=>?_;refine draw [0,1,3,7,15,31,15,79,255,511,1023] [5,8] [1,7] [0,1,2,3,4,6,7,5,8,9,10] ?_;refine zC ?_;refine call (wD b q r.h.Q.length r.h.bound r.h.S) ?_;rintro _ _ ⟨rfl,rfl⟩;try refine zJ ?_
  refine ddA ?_;refine call (YH q.r r.h.rmost r.h.rhops r.h.m (by omega) r.x hps) ?_
  rintro _ _ ⟨rfl,rfl⟩;try refine zJ ?_
  refine ddA ?_;cases hg:wP r.h.m r.x with
  | false=>
   rw [if_pos (.inr rfl)];refine yes ?_;refine zB ?_;refine zE (xH b r.h) q ?_;refine into (Into.nilO (T:=54) (sz:=5)) ?_;refine ret ?_;exact ends ⟨b1,c1,b2,c2,none,0,by rw [hd];rfl,rfl⟩
  | true=>
   rw [if_neg (by simp)]
   refine no ?_;refine zE (xH b r.h) q ?_;refine zB ?_;refine draw [0,0,0,4,12,0,62,127,255] [6,7,8] [0,4] [0,1,2,3,4,5,6,7,8] ?_;refine zC ?_;refine call (Vm b r.h hp r.x.1 n) ?_;rintro _ _ ⟨b3,c3,rfl,rfl⟩;try refine zJ ?_
   refine ddA ?_;refine ret ?_;exact ends ⟨b1,c1,b2,c2,b3,c3,by rw [hd];rfl,rfl⟩
theorem HOk.pfPick {h:HSt} (hh:HOk h) (k n:Int):HOk (pfPick h k n).h:=by
 unfold Go.Proofs.YtjcbjclhagobiaaGreat.pfPick;split
 ·exact hh.pick k
 ·exact (hh.pick k).run
end Go.Proofs.YtjcbjclhagobiaaGreat
end
section
namespace Go.Proofs.YtjcbjclhagobiaaGreat
set_option maxHeartbeats 1600000
open Go Go.KL Go.KM
variable {E:Env} {X:Xs}
set_option maxRecDepth 100000
def wsum:List Nat->Nat
 | a::b::r=>a*256+b+wsum r
 | [a]=>a*256
 | []=>0
theorem JR:∀ {l:List Nat},(∀ x∈l,x<256)->wsum l<=l.length*65535
 | [],_=>by simp [wsum]
 | [a],h=>by have:=h a (by simp);simp [wsum];omega
 | a::b::r,h=>by
  have h1:=h a (by simp)
  have h2:=h b (by simp)
  have h3:=JR (l:=r) (fun x hx=>h x (by simp [hx]))
  simp only [wsum,List.length_cons];omega
def ZC (n:Nat):Nat:=if n=0 then 0 else (n-1)%65535+1
theorem zLs {n:Nat} (h:n<=65535):ZC n=n:=by unfold ZC;split <;> omega
theorem zGC {n:Nat} (h:65535<n):ZC (n%65536+n / 65536)=ZC n/\n%65536+n / 65536<n:=by
 unfold ZC;constructor
 ·rw [if_neg (by omega),if_neg (by omega)];omega
 ·omega
theorem Jn (n:Nat) (hn:n<18446744073709551616):Does PR E X 143 [u64 n] [] (fun v t=>v=.int .u16 (ZC n:Int)/\t=[]):=by
 refine Does.of 12 inferInstance rfl (by decide) rfl ?_
 refine zB ?_;refine loop (ι:=Nat) (fun k=>k) (fun k=>k<18446744073709551616/\ZC k=ZC n) (fun k=>[(0,u64 k)]) (fun _=>[]) n ⟨hn,rfl⟩ ?_;rintro k ⟨h1,h2⟩ ih;(try dsimp only at h1 h2 ih ⊢);rcases Nat.lt_or_ge 65535 k with hk|hk
 ·obtain ⟨e1,e2⟩:=zGC hk;refine zB ?_;refine yes ?_;refine zB ?_;have e3:IntKind.u64.wrap (XX .u64 (k:Int) 65535+Wa .u64 (k:Int) 16)=((k%65536+k / 65536:Nat):Int):=by
   have ha:XX .u64 (k:Int) 65535=((k%65536:Nat):Int):=by
    rw [show (65535:Int)=((65535:Nat):Int) from rfl,zFC h1];congr 1;exact Nat.and_two_pow_sub_one_eq_mod k 16
   rw [ha,zM1,<-Int.natCast_add];exact zDH (by omega)
  rw [e3];exact next (ih (k%65536+k / 65536) ⟨by omega,by rw [e1];exact h2⟩ e2)
 ·refine zB ?_;refine no ?_;refine zB ?_;have e:IntKind.u16.wrap (k:Int)=(ZC n:Int):=by rw [<-h2,zLs hk];exact Wn (by omega)
  rw [e];refine ret ?_;exact ends ⟨rfl,rfl⟩
theorem zGJ (base:Option Addr) (cap:Nat) (l:List Nat) (hl:∀ x∈l,x<256) (hll:l.length<=1000000) (each:Value) (A:Nat->HP) (h:∀ n w,n+w<1000000000000000->DoesV PR E X each [u64 w] [A n] (fun v t=>v=.tuple #[]/\t=[A (n+w)])):Does PR E X 141 [.slice base l.length cap,each] [rsl base cap 1 (l.map u8e),A 0] (fun v t=>v=.tuple #[]/\t=[A (wsum l)]):=by
 have hs:=JR hl;refine Does.of 31 inferInstance rfl (by decide) rfl ?_
 refine zB ?_;refine loop (ι:=Option Addr×Nat×List Nat×Nat) (fun z=>z.2.2.1.length) (fun z=>(∀ x∈z.2.2.1,x<256)/\z.2.2.2+wsum z.2.2.1=wsum l/\z.2.2.1.length<=l.length) (fun z=>[(0,.slice z.1 z.2.2.1.length z.2.1),(1,each)]) (fun z=>[rsl z.1 z.2.1 1 (z.2.2.1.map u8e),A z.2.2.2]) (base,cap,l,0) ⟨hl,by simp,Nat.le_refl _⟩ ?_
 clear hl;rintro ⟨base,cap,m,n⟩ ⟨h1,h2,h3⟩ ih;(try dsimp only at h1 h2 h3 ih ⊢);refine zDx base fun hcap=>?_;rw [List.length_map] at hcap;match m,h1,h2,h3,ih,hcap with
 | [],h1,h2,h3,ih,hcap=>
  have h0:([]:List Nat).length=0:=rfl;have h2:n=wsum l:=h2;subst h2;refine zB ?_;refine no ?_;refine zB ?_;refine no ?_;refine zB ?_;refine fall ?_;exact ends ⟨rfl,rfl⟩
 | [a],h1,h2,h3,ih,hcap=>
  have h0:([a]:List Nat).length=1:=rfl;have ha:=h1 a (by simp)
  have h2:n+a*256=wsum l:=h2;have e1:WO .u64 (a:Int) 8=((a*256:Nat):Int):=by
   unfold WO;show ((a:Int)*256)%18446744073709551616=_;omega
  have hx:([a]:List Nat)[(0:Int).toNat]?=some a:=rfl;refine zB ?_;refine no ?_;refine zB ?_;refine yes ?_;refine zB ?_;rw [e1];refine XD (h n (a*256) (by omega)) ?_
  rintro _ _ ⟨rfl,rfl⟩;rw [h2];refine zB ?_;refine fall ?_;exact ends ⟨rfl,rfl⟩
 | a::b::r,h1,h2,h3,ih,hcap=>
  have h0:(a::b::r).length=r.length+2:=rfl;have ha:=h1 a (by simp)
  have hb:=h1 b (by simp)
  have h2:n+(a*256+b+wsum r)=wsum l:=h2;have e1:WO .u64 (a:Int) 8=((a*256:Nat):Int):=by
   unfold WO;show ((a:Int)*256)%18446744073709551616=_;omega
  have e2:orI .u64 ((a*256:Nat):Int) ((b:Nat):Int)=((a*256+b:Nat):Int):=by
   rw [zBG (by omega) (by omega)]
   congr 1;rw [show a*256=a <<< 8 by rw [Nat.shiftLeft_eq],Nat.shiftLeft_add_eq_or_of_lt (by omega)]
  have hx:(a::b::r)[(0:Int).toNat]?=some a:=rfl;have hx1:(a::b::r)[(1:Int).toNat]?=some b:=rfl;refine zB ?_;refine yes ?_;refine zB ?_;refine draw [0,0,2,6,14,30,0,64,192,448,1022,2047] [11] [2,3,4,7,8,9] [0,1,2,3,4,5,6,7,8,9,10,11] ?_;refine zC ?_;rw [e1,e2];refine XD (h n (a*256+b) (by omega)) ?_
  rintro _ _ ⟨rfl,rfl⟩;try refine zJ ?_
  refine ddA ?_;refine into (Jq base (cap:=cap) (sz:=1) (es:=(a::b::r).map u8e) 2 r.length (es':=r.map u8e) (by omega) (by simp [List.take_of_length_le])) ?_
  have hr:=ih (slB base cap 2 1,cap-2,r,n+(a*256+b)) ⟨fun x hx=>h1 x (by simp [hx]),by show n+(a*256+b)+wsum r=wsum l;omega,by show r.length<=l.length;omega⟩ (by show r.length<(a::b::r).length;omega)
  (try dsimp only at hr);exact next hr
abbrev zOf (b n:Nat):HP:=box b [u64 n] 48
theorem zBz (b n w:Nat) (h:n+w<1000000000000000):Does PR E X 142 [u64 w,pt b] [zOf b n] (fun v t=>v=.tuple #[]/\t=[zOf b (n+w)]):=by
 refine Does.of 6 inferInstance rfl (by decide) rfl ?_
 refine zB ?_;have e:((n:Int)+(w:Int))=((n+w:Nat):Int):=by omega
 rw [e];refine fall ?_;exact ends ⟨rfl,rfl⟩
def xV (n:Nat):Nat:=65535-n
theorem VA {n:Nat} (h:n<=65535):IntKind.u16.wrap (((BitVec.ofInt IntKind.u16.bits (if IntKind.u16.signed=true then -1 else IntKind.u16.max) ^^^ BitVec.ofInt IntKind.u16.bits (n:Int)).toNat:Nat):Int)=((xV n:Nat):Int):=by
 show IntKind.u16.wrap (((BitVec.ofInt 16 65535 ^^^ BitVec.ofInt 16 (n:Int)).toNat:Nat):Int)=_;have e1:BitVec.ofInt 16 65535=BitVec.allOnes 16:=by decide
 have e2:BitVec.ofInt 16 (n:Int)=BitVec.ofNat 16 n:=by simp
 have e3:(BitVec.allOnes 16 ^^^ BitVec.ofNat 16 n) = ~~~ (BitVec.ofNat 16 n):=by
  rw [BitVec.not_def]
 rw [e1,e2,e3,BitVec.toNat_not,BitVec.toNat_ofNat,Nat.mod_eq_of_lt (by omega)]
 unfold xV;exact Wn (by omega)
theorem zBd {n:Nat}:ZC n<=65535:=by unfold ZC;split <;> omega
theorem zLk (base:Option Addr) (cap:Nat) (l:List Nat) (hl:∀ x∈l,x<256) (hll:l.length<=1000000):Does PR E X 71 [.slice base l.length cap] [rsl base cap 1 (l.map u8e)] (fun v t=>v=.int .u16 (xV (ZC (wsum l)):Int)/\t=[]):=by
 have hs:=JR hl;refine Does.of 10 inferInstance rfl (by decide) rfl ?_
 refine zB ?_;refine alloc fun b3=>?_;refine zB ?_;refine call (zGJ base cap l hl hll (.func (.func 142) #[] #[pt b3]) (fun n=>zOf b3 n) (fun n w h=>Does.clo (vs:=[u64 w]) (ca:=#[pt b3]) (zBz b3 n w h) rfl)) ?_;rintro _ _ ⟨rfl,rfl⟩;refine zB ?_;refine call (Jn (wsum l) (by omega)) ?_
 rintro _ _ ⟨rfl,rfl⟩;refine zB ?_;rw [VA zBd];refine ret ?_;exact ends ⟨rfl,rfl⟩
def XC (l:List Nat):Bool:=decide (xV (ZC (wsum l))=0)
theorem zHj (base:Option Addr) (cap:Nat) (l:List Nat) (hl:∀ x∈l,x<256) (hll:l.length<=1000000):Does PR E X 68 [.slice base l.length cap] [rsl base cap 1 (l.map u8e)] (fun v t=>v=.bool (XC l)/\t=[]):=by
 refine Does.of 6 inferInstance rfl (by decide) rfl ?_
 refine zB ?_;refine call (zLk base cap l hl hll) ?_;rintro _ _ ⟨rfl,rfl⟩;refine onA ?_;have e:decide (((xV (ZC (wsum l)):Nat):Int)=0)=XC l:=by
  unfold XC;by_cases h:xV (ZC (wsum l))=0
  ·rw [decide_eq_true h,decide_eq_true (by omega)]
  ·rw [decide_eq_false h,decide_eq_false (by omega)]
 rw [e];refine ret ?_;exact ends ⟨rfl,rfl⟩
def Wz (sum was is:Nat):Nat:=xV (ZC (xV sum+xV was+is))
theorem zGw (sum was is:Nat) (h1:sum<=65535) (h2:was<=65535) (h3:is<=65535):Does PR E X 281 [.int .u16 (sum:Int),.int .u16 (was:Int),.int .u16 (is:Int)] [] (fun v t=>v=.int .u16 (Wz sum was is:Int)/\t=[]):=by
 have n1:xV sum<=65535:=by unfold xV;omega
 have n2:xV was<=65535:=by unfold xV;omega
 refine Does.of 19 inferInstance rfl (by decide) rfl ?_
 refine zB ?_;rw [VA h1,VA h2];rw [YR (a:=(xV sum:Int)) (by omega),YR (a:=(xV was:Int)) (by omega),YR (a:=(xV sum:Int)+(xV was:Int)) (by omega),YR (a:=(xV sum:Int)+(xV was:Int)+(is:Int)) (by omega),show (xV sum:Int)+(xV was:Int)+(is:Int)=((xV sum+xV was+is:Nat):Int) by omega]
 refine call (Jn (xV sum+xV was+is) (by omega)) ?_
 rintro _ _ ⟨rfl,rfl⟩;refine zB ?_;rw [VA zBd];refine ret ?_;exact ends ⟨rfl,rfl⟩
end Go.Proofs.YtjcbjclhagobiaaGreat
end
section
namespace Go.Proofs.YtjcbjclhagobiaaGreat
set_option maxHeartbeats 1600000
open Go Go.KL Go.KM
variable {E:Env} {X:Xs}
set_option maxRecDepth 100000
theorem zHD (l:List Nat) (hl:∀ x∈l,x<256) (v6:Bool) (hlen:l.length=width v6 / 8) (base:Option Addr) (cap:Nat):Does PR E X 53 [.slice base (width v6 / 8) cap] [rsl base cap 1 (l.map u8e)]
  (fun v t=>v=.tuple #[.agg #[u64 (wrd l (min (width v6 / 8) 8)),u64 (wrd (l.drop 8) (width v6 / 8-8)),.bool v6],.int .i64 0]/\t=[]):=by
 refine Does.of 46 inferInstance rfl (by decide) rfl ?_
 refine zB ?_;refine alloc fun b2=>?_;refine zB ?_;have hw:width v6=128∨width v6=32:=by cases v6 <;> simp [width]
 have hv6:decide (((width v6 / 8:Nat):Int)=16)=v6:=by cases v6 <;> rfl
 refine no ?_ rfl (by cases v6 <;> rfl)
 refine zB ?_;refine alloc fun b5=>?_;refine zB ?_;refine loop (ι:=Nat) (fun i=>width v6 / 8-i) (fun i=>i<=width v6 / 8) (fun i=>[(2,.pointer (some ⟨b2,0,none⟩)),(4,.bool (decide (((width v6 / 8:Nat):Int)=16))),(5,.pointer (some ⟨b5,0,none⟩)),(20,.slice base (width v6 / 8) cap),(21,.int .i64 ((width v6 / 8:Nat):Int)),(22,.int .i64 (i:Int))]) (fun i=>[box b5 [u64 (wrd l (min i 8)),u64 (wrd (l.drop 8) (i-8))] 246,rsl base cap 1 (l.map u8e),box b2 [u64 0,u64 0,.bool false] 50]) 0 (by simp) ?_
 intro i hi ih;(try dsimp only at hi ih ⊢);refine zB ?_;refine zH (fun h=>?_) (fun h=>?_)
 ·have hi':i<width v6 / 8:=by have:=of_decide_eq_true h;omega
  have hx:=zDJ (l:=l) (i:=i) (by omega)
  have hb:=vF hl i;refine zB ?_;rcases Nat.lt_or_ge i 8 with h8|h8
  ·have hd:((i:Int)*8 / 64)=0:=by omega
   simp only [hd];refine zB ?_;have e1:WO .u64 (((l.drop i).headD 0:Nat):Int) (56-(i:Int)*8%64)=(((l.drop i).headD 0*2^(56-8*i):Nat):Int):=QK hb (by omega) (by omega)
   have e2:min i 8=i:=by omega
   have e3:i-8=(i+1)-8:=by omega
   have e4:min (i+1) 8=i+1:=by omega
   have h1:(l.drop i).headD 0*2^(56-8*i)<18446744073709551616:=by
    have:=xR hl (n:=i+1) (by omega)
    rw [wrd] at this;omega
   have e5:orI .u64 ((wrd l (min i 8):Nat):Int) (((l.drop i).headD 0*2^(56-8*i):Nat):Int)=(wrd l (min (i+1) 8):Nat):=by
    rw [e2,zBG (xR hl (by omega)) h1,zGB hl h8,e4]
   simp only [e1,e5,e3];exact next (ih (i+1) (by omega) (by omega))
  ·have hd:((i:Int)*8 / 64)=1:=by omega
   simp only [hd];refine zB ?_;have hl2:∀ x∈l.drop 8,x<256:=fun x hx=>hl x (List.mem_of_mem_drop hx);have e1:WO .u64 (((l.drop i).headD 0:Nat):Int) (56-(i:Int)*8%64)=(((l.drop i).headD 0*2^(56-8*(i-8)):Nat):Int):=QK hb (by omega) (by omega)
   have e2:min i 8=min (i+1) 8:=by omega
   have e4:i+1-8=(i-8)+1:=by omega
   have e6:(l.drop i)=(l.drop 8).drop (i-8):=by rw [List.drop_drop];congr 1;omega
   have h1:(l.drop i).headD 0*2^(56-8*(i-8))<18446744073709551616:=by
    have:=xR hl2 (n:=(i-8)+1) (by omega)
    rw [wrd,<-e6] at this;omega
   have e5:orI .u64 ((wrd (l.drop 8) (i-8):Nat):Int) (((l.drop i).headD 0*2^(56-8*(i-8)):Nat):Int)=(wrd (l.drop 8) (i+1-8):Nat):=by
    rw [zBG (xR hl2 (by omega)) h1,e4,<-zGB hl2 (by omega),<-e6]
   simp only [e1,e5,e2];exact next (ih (i+1) (by omega) (by omega))
 ·have hi':i=width v6 / 8:=by have:=of_decide_eq_false h;omega
  subst hi';refine zB ?_;refine call (YW _ _ _) ?_;rintro _ _ ⟨rfl,rfl⟩;refine zB ?_;refine ret ?_;exact ends ⟨by simp only [pack_two,hv6],rfl⟩
def zL5 (l:List Nat) (v6:Bool):Ad:=⟨wrd l (min (width v6 / 8) 8)%18446744073709551616,wrd (l.drop 8) (width v6 / 8-8)%18446744073709551616,v6,Nat.mod_lt _ (by decide),Nat.mod_lt _ (by decide)⟩
theorem Zx (l:List Nat) (hl:∀ x∈l,x<256) (v6:Bool) (hlen:l.length=width v6 / 8) (base:Option Addr) (cap:Nat):Does PR E X 53 [.slice base (width v6 / 8) cap] [rsl base cap 1 (l.map u8e)] (fun v t=>v=.tuple #[(zL5 l v6).v,.int .i64 0]/\t=[]):=by
 refine (zHD l hl v6 hlen base cap).post ?_;rintro v t ⟨rfl,rfl⟩;have h1:wrd l (min (width v6 / 8) 8)<18446744073709551616:=xR hl (Nat.min_le_right _ _);have h2:wrd (l.drop 8) (width v6 / 8-8)<18446744073709551616:=xR (fun x hx=>hl x (List.mem_of_mem_drop hx)) (by cases v6 <;> simp [width])
 unfold zL5;refine ⟨?_,rfl⟩;simp only [Nat.mod_eq_of_lt h1,Nat.mod_eq_of_lt h2]
def w16 (l:List Nat) (i:Nat):Nat:=l.getD i 0*256+l.getD (i+1) 0
theorem zMA {a b:Nat} (ha:a<256) (hb:b<256):orI .u16 (WO .u16 (IntKind.u16.wrap (a:Int)) 8) (IntKind.u16.wrap (b:Int))=((a*256+b:Nat):Int):=by
 rw [Wn (a:=(a:Int)) (by omega),Wn (a:=(b:Int)) (by omega)]
 have e1:WO .u16 (a:Int) 8=((a*256:Nat):Int):=by
  unfold WO;show ((a:Int)*256)%65536=_;omega
 rw [e1];unfold orI;show IntKind.u16.wrap (((BitVec.ofInt 16 ((a*256:Nat):Int) ||| BitVec.ofInt 16 (b:Int)).toNat:Nat):Int)=_;have e2:∀ x:Nat,BitVec.ofInt 16 (x:Int)=BitVec.ofNat 16 x:=fun x=>by simp
 rw [e2,e2,BitVec.toNat_or,BitVec.toNat_ofNat,BitVec.toNat_ofNat,Nat.mod_eq_of_lt (by omega),Nat.mod_eq_of_lt (by omega)]
 have e3:a*256 ||| b=a*256+b:=by rw [show a*256=a <<< 8 by rw [Nat.shiftLeft_eq],Nat.shiftLeft_add_eq_or_of_lt (by omega)]
 rw [e3];exact Wn (by omega)
theorem zJB (base:Option Addr) (cap:Nat) (l:List Nat) (hl:∀ x∈l,x<256) (h2:2<=l.length):Does PR E X 140 [.slice base l.length cap] [rsl base cap 1 (l.map u8e)] (fun v t=>v=.int .u16 (w16 l 0:Int)/\t=[]):=by
 match l,hl,h2 with
 | a::b::r,hl,_=>
  have ha:=hl a (by simp)
  have hb:=hl b (by simp)
  have h0:(a::b::r).length=r.length+2:=rfl;have hx:(a::b::r)[(0:Int).toNat]?=some a:=rfl;have hx1:(a::b::r)[(1:Int).toNat]?=some b:=rfl;refine Does.of 13 inferInstance rfl (by decide) rfl ?_
  refine zB ?_;refine draw [0,1,3,7,15,0,32,96,224,511,1023] [10] [1,2,3,6,7,8] [0,1,2,3,4,5,6,7,8,9,10] ?_;refine zC ?_;rw [zMA ha hb];refine ret ?_;exact ends ⟨rfl,rfl⟩
structure H4 where
 long:Nat
 total:Nat
 ttl:Nat
 proto:Nat
 src:Ad
 dst:Ad
abbrev h4V (h:H4):Value:=.agg #[.int .i64 (h.long:Int),.int .i64 (h.total:Int),.int .i64 (h.ttl:Int),.int .i64 (h.proto:Int),u64 h.src.hi,u64 h.src.lo,.bool h.src.v6,u64 h.dst.hi,u64 h.dst.lo,.bool h.dst.v6]
def zF (l:List Nat):H4:=⟨l.getD 0 0%16*4,w16 l 2,l.getD 8 0,l.getD 9 0,zL5 ((l.drop 12).take 4) false,zL5 ((l.drop 16).take 4) false⟩
theorem zO9:∀ a:Fin 256,XX .u8 ((a.val:Nat):Int) 15=((a.val%16:Nat):Int):=by decide
set_option maxHeartbeats 1000000 in
theorem zGu (base:Option Addr) (cap:Nat) (l:List Nat) (hl:∀ x∈l,x<256) (h20:20<=l.length) (hm:l.length<=1000000):Does PR E X 67 [.slice base l.length cap] [rsl base cap 1 (l.map u8e)] (fun v t=>v=h4V (zF l)/\t=[]):=by
 have g0:=hl (l.getD 0 0) (by rw [List.getD_eq_getElem?_getD,List.getElem?_eq_getElem (by omega)];exact List.getElem_mem _)
 have hx0:l[(0:Int).toNat]?=some (l.getD 0 0):=by rw [List.getD_eq_getElem?_getD];show l[0]?=_;rw [List.getElem?_eq_getElem (by omega)];rfl
 have hx8:l[(8:Int).toNat]?=some (l.getD 8 0):=by rw [List.getD_eq_getElem?_getD];show l[8]?=_;rw [List.getElem?_eq_getElem (by omega)];rfl
 have hx9:l[(9:Int).toNat]?=some (l.getD 9 0):=by rw [List.getD_eq_getElem?_getD];show l[9]?=_;rw [List.getElem?_eq_getElem (by omega)];rfl
 have g8:=hl _ (List.mem_of_getElem? hx8);have g9:=hl _ (List.mem_of_getElem? hx9);have ha:=zO9 ⟨l.getD 0 0,g0⟩;(try dsimp only at ha);have hw:w16 (l.drop 2) 0=w16 l 2:=by unfold w16;simp
 have hw1:w16 l 2<=65535:=by
  have hx2:l[2]?=some (l.getD 2 0):=by rw [List.getD_eq_getElem?_getD,List.getElem?_eq_getElem (by omega)];rfl
  have hx3:l[3]?=some (l.getD 3 0):=by rw [List.getD_eq_getElem?_getD,List.getElem?_eq_getElem (by omega)];rfl
  have:=hl _ (List.mem_of_getElem? hx2)
  have:=hl _ (List.mem_of_getElem? hx3)
  unfold w16;rw [show 2+1=3 from rfl];omega
 refine Does.of 38 inferInstance rfl (by decide) rfl ?_
 refine zDx base fun hcap=>?_;rw [List.length_map] at hcap;refine zB ?_;refine alloc fun b2=>?_;refine zB ?_;refine into (Jq base (cap:=cap) (sz:=1) (es:=l.map u8e) 2 (l.length-2) (es':=(l.drop 2).map u8e) (by omega) (by rw [<-List.map_drop,List.take_of_length_le (by simp)])) ?_
 refine into (Jq base (cap:=cap) (sz:=1) (es:=l.map u8e) 12 4 (es':=((l.drop 12).take 4).map u8e) (by omega) (by rw [<-List.map_drop,<-List.map_take])) ?_
 refine into (Jq base (cap:=cap) (sz:=1) (es:=l.map u8e) 16 4 (es':=((l.drop 16).take 4).map u8e) (by omega) (by rw [<-List.map_drop,<-List.map_take])) ?_
 refine draw [0,1,3,7,15,31,0,64,192,448,0,1024,3072,7168,0,16384,49152,114688,262143,0,1048575] [8,19,20] [1,2,4,7,9,11,12,13,15,16,17] [0,1,2,3,4,5,6,7,10,11,12,13,14,15,16,17,8,9,18,19,20] ?_;refine zC ?_;rw [ha];rw [show l.length-Int.toNat 2=(l.drop 2).length by rw [List.length_drop];rfl]
 refine call (zJB (slB base cap 2 1) (cap-2) (l.drop 2) (fun x hx=>hl x (List.mem_of_mem_drop hx)) (by rw [List.length_drop];omega)) ?_
 rintro _ _ ⟨rfl,rfl⟩;rw [hw];refine zJ ?_;refine ddA ?_;refine yS fun b3=>?_;refine ddA ?_;refine call (Zx ((l.drop 12).take 4) (fun x hx=>hl x (List.mem_of_mem_drop (List.mem_of_mem_take hx))) false (by rw [List.length_take,List.length_drop];simp [width];omega) (slB base cap 12 1) (cap-12)) ?_
 rintro _ _ ⟨rfl,rfl⟩;refine zB ?_;refine call (Zx ((l.drop 16).take 4) (fun x hx=>hl x (List.mem_of_mem_drop (List.mem_of_mem_take hx))) false (by rw [List.length_take,List.length_drop];simp [width];omega) (slB base cap 16 1) (cap-16)) ?_
 rintro _ _ ⟨rfl,rfl⟩;refine zB ?_;have e1:((l.getD 0 0%16:Nat):Int)*4=((l.getD 0 0%16*4:Nat):Int):=by omega
 rw [e1];refine ret ?_;exact ends ⟨rfl,rfl⟩
end Go.Proofs.YtjcbjclhagobiaaGreat
end
section
namespace Go.Proofs.YtjcbjclhagobiaaGreat
set_option maxHeartbeats 1600000
open Go Go.KL Go.KM
variable {E:Env} {X:Xs}
set_option maxRecDepth 100000
def Xd (s d:Nat):Bool:=decide (s=127)||(decide (224<=s)||decide (d=0))
theorem zBB (s d:Nat):Does PR E X 69 [.int .u8 (s:Int),.int .u8 (d:Int)] [] (fun v t=>v=.bool (Xd s d)/\t=[]):=by
 refine Does.of 15 inferInstance rfl (by decide) rfl ?_
 refine zB ?_;have e:((decide ((s:Int)=127)||decide (224<=(s:Int)))||decide ((d:Int)=0))=Xd s d:=by
  unfold Xd;rw [Bool.or_assoc];congr 1
  ·by_cases h:s=127 <;> simp [h] <;> omega
  ·congr 1
   ·by_cases h:224<=s <;> simp [h] <;> omega
   ·by_cases h:d=0 <;> simp [h]
 rw [e];refine ret ?_;exact ends ⟨rfl,rfl⟩
def h4z:H4:=⟨0,0,0,0,Ad.zero,Ad.zero⟩
def yK (l:List Nat):Int:=
 if l.length<20 then 1 else if l.getD 0 0 / 16≠4 then 2 else if (zF l).long<20∨l.length<(zF l).long then 3
 else if (zF l).total<(zF l).long∨l.length<(zF l).total then 4 else if XC (l.take (zF l).long)=false then 5 else if Xd (l.getD 12 0) (l.getD 16 0) then 6 else 0
def Vh (l:List Nat):H4:=if yK l=0 then zF l else h4z
theorem zO7:∀ a:Fin 256,Wa .u8 ((a.val:Nat):Int) 4=((a.val / 16:Nat):Int):=by decide
theorem xX {l:List Nat} (hl:∀ x∈l,x<256) {k:Nat} (h:k<l.length):l[k]?=some (l.getD k 0)/\l.getD k 0<256:=by
 have:l[k]?=some (l.getD k 0):=by rw [List.getD_eq_getElem?_getD,List.getElem?_eq_getElem h];rfl
 exact ⟨this,hl _ (List.mem_of_getElem? this)⟩
set_option maxHeartbeats 1000000 in
theorem Yb (base:Option Addr) (cap:Nat) (l:List Nat) (hl:∀ x∈l,x<256) (hm:l.length<=1000000):Does PR E X 23 [.slice base l.length cap] [rsl base cap 1 (l.map u8e)] (fun v t=>v=.tuple #[h4V (Vh l),.int .i64 (yK l)]/\t=[]):=by
 unfold Vh;by_cases h20:l.length<20
 ·have hw:yK l=1:=by unfold yK;rw [if_pos h20]
  rw [hw,if_neg (by decide)]
  refine Does.of 62 inferInstance rfl (by decide) rfl ?_
  refine zB ?_;refine alloc fun b2=>?_;refine zB ?_;refine yes ?_ rfl (decide_eq_true (by omega))
  refine zB ?_;refine ret ?_;exact ends ⟨rfl,rfl⟩
 have h20':20<=l.length:=by omega
 obtain ⟨hx0,g0⟩:=xX hl (k:=0) (by omega)
 obtain ⟨hx12,g12⟩:=xX hl (k:=12) (by omega)
 obtain ⟨hx16,g16⟩:=xX hl (k:=16) (by omega)
 have hs:=zO7 ⟨l.getD 0 0,g0⟩;(try dsimp only at hs);have hx0':l[(0:Int).toNat]?=some (l.getD 0 0):=hx0;have hx12':l[(12:Int).toNat]?=some (l.getD 12 0):=hx12;have hx16':l[(16:Int).toNat]?=some (l.getD 16 0):=hx16;have hlong:(zF l).long<=60:=by unfold zF;simp only;omega
 refine Does.of 62 inferInstance rfl (by decide) rfl ?_
 refine zDx base fun hcap=>?_;rw [List.length_map] at hcap;refine zB ?_;refine alloc fun b2=>?_;refine zB ?_;refine no ?_ rfl (decide_eq_false (by omega))
 refine zB ?_;refine call (zGu base cap l hl h20' hm) ?_;rintro _ _ ⟨rfl,rfl⟩;refine zB ?_;refine alloc fun b4=>?_;refine zB ?_;by_cases c1:l.getD 0 0 / 16=4
 ·have e1:(!decide (Wa .u8 ((l.getD 0 0:Nat):Int) 4=4))=false:=by rw [hs,c1];rfl
  refine no ?_;refine zB ?_;by_cases c2:(zF l).long<20∨l.length<(zF l).long
  ·have hw:yK l=3:=by unfold yK;rw [if_neg h20,if_neg (not_not_intro c1),if_pos c2]
   rw [hw,if_neg (by decide)]
   refine yes ?_ rfl (by
    rcases c2 with c|c
    ·rw [decide_eq_true (show ((zF l).long:Int)<20 by omega)];rfl
    ·rw [decide_eq_true (show (l.length:Int)<((zF l).long:Int) by omega),Bool.or_true])
   refine zB ?_;refine yes ?_;refine zB ?_;refine ret ?_;exact ends ⟨rfl,rfl⟩
  ·have d2:decide (((zF l).long:Int)<20)=false:=decide_eq_false (by omega)
   have d2':decide ((l.length:Int)<((zF l).long:Int))=false:=decide_eq_false (by omega)
   refine no ?_ rfl (by rw [d2,d2'];rfl)
   refine zB ?_;by_cases c3:(zF l).total<(zF l).long∨l.length<(zF l).total
   ·have hw:yK l=4:=by unfold yK;rw [if_neg h20,if_neg (not_not_intro c1),if_neg c2,if_pos c3]
    rw [hw,if_neg (by decide)]
    refine yes ?_ rfl (by
     rcases c3 with c|c
     ·rw [decide_eq_true (show ((zF l).total:Int)<((zF l).long:Int) by omega)];rfl
     ·rw [decide_eq_true (show (l.length:Int)<((zF l).total:Int) by omega),Bool.or_true])
    refine zB ?_;refine yes ?_;refine zB ?_;refine ret ?_;exact ends ⟨rfl,rfl⟩
   ·have d3:decide (((zF l).total:Int)<((zF l).long:Int))=false:=decide_eq_false (by omega)
    have d3':decide ((l.length:Int)<((zF l).total:Int))=false:=decide_eq_false (by omega)
    refine no ?_ rfl (by rw [d3,d3'];rfl)
    have hlt:(l.take (zF l).long).length=(zF l).long:=by rw [List.length_take];omega
    refine into (Jq base (cap:=cap) (sz:=1) (es:=l.map u8e) 0 (zF l).long (es':=(l.take (zF l).long).map u8e) (by omega) (by rw [List.drop_zero,<-List.map_take])) ?_
    refine zB ?_;rw [show (((zF l).long:Nat):Int).toNat-0=(l.take (zF l).long).length by omega]
    refine call (zHj (slB base cap 0 1) (cap-0) (l.take (zF l).long) (fun x hx=>hl x (List.mem_of_mem_take hx)) (by omega)) ?_
    rintro _ _ ⟨rfl,rfl⟩;refine zB ?_;cases c4:XC (l.take (zF l).long) with
    | false=>
     have hw:yK l=5:=by unfold yK;rw [if_neg h20,if_neg (not_not_intro c1),if_neg c2,if_neg c3,if_pos c4]
     rw [hw,if_neg (by decide)]
     refine yes ?_;refine zB ?_;refine yes ?_;refine zB ?_;refine ret ?_;exact ends ⟨rfl,rfl⟩
    | true=>
     refine no ?_;refine zB ?_;refine draw [0,1,3,0,8,24,63,127] [6,7] [1,2,4,5] [0,1,2,3,4,5,6,7] ?_;refine zC ?_;refine call (zBB (l.getD 12 0) (l.getD 16 0)) ?_;rintro _ _ ⟨rfl,rfl⟩;try refine zJ ?_
     refine ddA ?_;cases c5:Xd (l.getD 12 0) (l.getD 16 0) with
     | true=>
      have hw:yK l=6:=by unfold yK;rw [if_neg h20,if_neg (not_not_intro c1),if_neg c2,if_neg c3,if_neg (by rw [c4];simp),if_pos c5]
      rw [hw,if_neg (by decide)]
      refine yes ?_;refine zB ?_;refine yes ?_;refine zB ?_;refine ret ?_;exact ends ⟨rfl,rfl⟩
     | false=>
      have hw:yK l=0:=by unfold yK;rw [if_neg h20,if_neg (not_not_intro c1),if_neg c2,if_neg c3,if_neg (by rw [c4];simp),if_neg (by rw [c5];simp)]
      rw [hw,if_pos rfl];refine no ?_;refine zB ?_;refine no ?_;refine zB ?_;refine ret ?_;exact ends ⟨rfl,rfl⟩
 ·have hw:yK l=2:=by unfold yK;rw [if_neg h20,if_pos c1]
  rw [hw,if_neg (by decide)]
  have e1:(!decide (Wa .u8 ((l.getD 0 0:Nat):Int) 4=4))=true:=by rw [hs,decide_eq_false (by omega)];rfl
  refine yes ?_;refine zB ?_;refine yes ?_;refine zB ?_;refine ret ?_;exact ends ⟨rfl,rfl⟩
end Go.Proofs.YtjcbjclhagobiaaGreat
end
section
namespace Go.Proofs.YtjcbjclhagobiaaGreat
set_option maxHeartbeats 1600000
open Go Go.KL Go.KM
variable {E:Env} {X:Xs}
set_option maxRecDepth 100000
structure Cel (cs:List Value) (off:Nat) (o:List Nat):Prop where
 at_:∀ (j x:Nat),o[j]?=some x->cs[off+j]?=some (.int .u8 (x:Int))
 len:off+o.length<=cs.length
theorem Cel.lay1 {cs:List Value} {off:Nat} {o:List Nat} (h:Cel cs off o) {k y:Nat} (hk:k<o.length):Cel (lay cs (off+k) [.int .u8 (y:Int)]) off (o.set k y):=by
 have hl:=h.len;refine ⟨fun j x hj=>?_,by rw [zG,List.length_set];exact hl⟩
 have hb:off+k+[Value.int .u8 (y:Int)].length<=cs.length:=by simp;omega
 by_cases e:j=k
 ·subst e;rw [List.getElem?_set_self hk] at hj;cases hj
  rw [zFD hb (Nat.le_refl _) (by simp),Nat.sub_self];rfl
 ·rw [List.getElem?_set_ne (fun y=>e y.symm)] at hj;rw [Xr hb (by simp;omega)]
  exact h.at_ j x hj
theorem zAk {l:List Nat}:(l.map u8e).flatten=l.map fun (x:Nat)=>Value.int .u8 (x:Int):=by
 induction l with
 | nil=>rfl
 | cons a l ih=>simp only [List.map_cons,List.flatten_cons,ih];rfl
theorem Cel.of {c:List Value} {off cap:Nat} {l:List Nat} (h:∀ j v,(l.map u8e).flatten[j]?=some v->c[off+j]?=some v) (h2:(l.map u8e).length<=cap) (h3:off+cap*1<=c.length):Cel c off l:=by
 refine ⟨fun j x hj=>h j _ ?_,by rw [List.length_map] at h2;omega⟩
 rw [zAk,List.getElem?_map,hj];rfl
theorem Cel.back {c:List Value} {off:Nat} {l:List Nat} (h:Cel c off l):∀ j v,(l.map u8e).flatten[j]?=some v->c[off+j]?=some v:=by
 intro j v hj;rw [zAk,List.getElem?_map] at hj;cases hx:l[j]? with
 | none=>rw [hx] at hj;cases hj
 | some x=>rw [hx] at hj;cases hj;exact h.at_ j x hx
theorem JS (ba:Option Addr) (bb off n cap:Nat) (hba:ba=some ⟨bb,off,none⟩) (cs:List Value) (T:TypeId) (w:Nat) (hw:w<=65535) (h2:2<=n) (hl:off+2<=cs.length):Does PR E X 123 [.slice ba n cap,.int .u16 (w:Int)] [box bb cs T] (fun v t=>v=.tuple #[]/\t=[box bb (lay (lay cs off [.int .u8 ((w / 256:Nat):Int)]) (off+1) [.int .u8 ((w%256:Nat):Int)]) T]):=by
 subst hba;have e1:IntKind.u8.wrap (Wa .u16 (w:Int) 8)=((w / 256:Nat):Int):=by
  have:Wa .u16 (w:Int) 8=((w / 256:Nat):Int):=by
   unfold Wa;show Int.fdiv (w:Int) (2^8)=_;rw [Int.fdiv_eq_ediv_of_nonneg _ (by decide)];simp
  rw [this];exact zEz (by omega)
 have e2:IntKind.u8.wrap (w:Int)=((w%256:Nat):Int):=by show (w:Int)%256=_;omega
 refine Does.of 12 inferInstance rfl (by decide) rfl ?_
 refine zB ?_;refine buildSlice fun b5=>?_;refine zB ?_;refine zOK ?_ ?hr
 case hr=>simp;omega
 have e3:min 2 n=2:=by omega
 rw [e3];refine zB ?_;rw [e1,e2];refine fall ?_;exact ends ⟨rfl,rfl⟩
theorem VT (ba:Option Addr) (bb off n cap:Nat) (hba:ba=some ⟨bb,off,none⟩) (cs:List Value) (T:TypeId) (a b:Nat) (ha:a<256) (hb:b<256) (h1:cs[off]?=some (.int .u8 (a:Int))) (h2:cs[off+1]?=some (.int .u8 (b:Int))) (hn:2<=n):Does PR E X 140 [.slice ba n cap] [box bb cs T] (fun v t=>v=.int .u16 ((a*256+b:Nat):Int)/\t=[box bb cs T]):=by
 subst hba;have h1':cs[off+(0:Int).toNat*1]?=some (.int .u8 (a:Int)):=h1;have h2':cs[off+(1:Int).toNat*1]?=some (.int .u8 (b:Int)):=h2;refine Does.of 13 inferInstance rfl (by decide) rfl ?_
 refine zB ?_;refine draw [0,1,3,7,15,0,32,96,224,511,1023] [10] [1,2,3,6,7,8] [0,1,2,3,4,5,6,7,8,9,10] ?_;refine zC ?_;refine DA.cmr (by exact zO) rfl rfl rfl rfl (zR inferInstance inferInstance rfl rfl (by omega) (by omega)) ?_
 refine ddA ?_;refine DA.cmr (by exact zO) rfl rfl rfl rfl (zR inferInstance inferInstance rfl rfl (by omega) (by omega)) ?_
 refine ddA ?_;rw [zMA ha hb];refine ret ?_;exact ends ⟨rfl,rfl⟩
def zBI (l:List Nat):List Nat:=
 let o:=l.take (zF l).total
 let o1:=o.set 8 (o.getD 8 0-1)
 let s:=Wz (w16 o1 10) (w16 o 8) (w16 o1 8)
 (o1.set 10 (s / 256)).set 11 (s%256)
def zGS (l:List Nat):Bool:=decide (yK l=0)&&decide (2<=(zF l).ttl)
theorem zLL (l:List Nat):(zBI l).length=(l.take (zF l).total).length:=by simp [zBI]
theorem zDN {l:List Nat} (h:yK l=0):20<=l.length/\20<=(zF l).total/\(zF l).total<=l.length:=by
 unfold yK at h;split at h;· cases h
 split at h;· cases h
 split at h;· cases h
 split at h;· cases h
 omega
theorem zCQ (a b c:Nat):Wz a b c<=65535:=by unfold Wz xV;omega
theorem zFa {l:List Nat} (hl:∀ x∈l,x<256) {n k:Nat} (h:k<n) (hn:n<=l.length):(l.take n)[k]?=some (l.getD k 0)/\(l.take n).getD k 0=l.getD k 0/\l.getD k 0<256:=by
 obtain ⟨a,b⟩:=xX hl (k:=k) (by omega)
 have e:(l.take n)[k]?=some (l.getD k 0):=by rw [List.getElem?_take_of_lt h];exact a
 exact ⟨e,by rw [List.getD_eq_getElem?_getD,e];rfl,b⟩
set_option maxHeartbeats 1000000 in
theorem zKE (base:Option Addr) (cap:Nat) (l:List Nat) (hl:∀ x∈l,x<256) (hm:l.length<=1000000):Does PR E X 211 [.slice base l.length cap] [rsl base cap 1 (l.map u8e)] (fun v t=>if zGS l=true then ∃ base' cap',v=.tuple #[.slice base' (zBI l).length cap',.bool true]/\t=[rsl base' cap' 1 ((zBI l).map u8e)] else v=.tuple #[.slice none 0 0,.bool false]/\t=[]):=by
 refine Does.of 45 inferInstance rfl (by decide) rfl ?_
 refine zDx base fun hcap=>?_;rw [List.length_map] at hcap;refine zB ?_;refine call (Yb base cap l hl hm) ?_;rintro _ _ ⟨rfl,rfl⟩;refine zB ?_;refine alloc fun b4=>?_;refine zB ?_;cases hh:zGS l with
 | false=>
  have hg:(!decide (yK l=0)||decide (((Vh l).ttl:Int)<2))=true:=by
   by_cases c:yK l=0
   ·have e:Vh l=zF l:=by unfold Vh;rw [if_pos c]
    unfold zGS at hh;rw [decide_eq_true c,Bool.true_and] at hh;have:=of_decide_eq_false hh
    rw [e,decide_eq_true (show ((zF l).ttl:Int)<2 by omega),Bool.or_true]
   ·rw [decide_eq_false c,Bool.not_false,Bool.true_or]
  refine yes ?_ rfl hg;refine zB ?_;refine ret ?_;refine ends ?_;rw [if_neg (by simp)]
  exact ⟨rfl,rfl⟩
 | true=>
  unfold zGS at hh;rw [Bool.and_eq_true] at hh;obtain ⟨k1,k2⟩:=hh;have k1:=of_decide_eq_true k1;have k2:=of_decide_eq_true k2;obtain ⟨g1,g2,g3⟩:=zDN k1;have e:Vh l=zF l:=by unfold Vh;rw [if_pos k1]
  rw [e,k1];refine no ?_ rfl (by rw [decide_eq_false (show ¬ ((zF l).ttl:Int)<2 by omega)];rfl)
  have hto:(l.take (zF l).total).length=(zF l).total:=by rw [List.length_take];omega
  refine into (Jq base (cap:=cap) (sz:=1) (es:=l.map u8e) 0 (zF l).total (es':=(l.take (zF l).total).map u8e) (by omega) (by rw [List.drop_zero,<-List.map_take])) ?_
  refine zB ?_;refine call (ZP (l.take (zF l).total) (slB base cap 0 1) (cap-0) ((((zF l).total:Nat):Int).toNat-0) (by omega) (by omega)) ?_
  rintro _ _ ⟨base',cap',rfl,rfl⟩;generalize hO:l.take (zF l).total=o at hto ⊢;have hol:∀ x∈o,x<256:=fun x hx=>hl x (List.mem_of_mem_take (hO ▸ hx));refine zHN base' fun hcap'=>?_;rw [List.length_map] at hcap';refine Xb base' (cap:=cap') (by omega) fun bb off c hb q1 q2 q3 q4=>?_
  subst hb;obtain ⟨t0,t0',t0b⟩:=zFa hl (n:=(zF l).total) (k:=8) (by omega) g3
  have Q0:Cel c off o:=Cel.of q4 q2 q3;have o8:o[8]?=some (o.getD 8 0):=by rw [<-hO,t0'];exact t0
  have o8b:o.getD 8 0<256:=by rw [<-hO,t0'];exact t0b
  have o9:o[9]?=some (o.getD 9 0)/\o.getD 9 0<256:=xX hol (by omega)
  have o10:o[10]?=some (o.getD 10 0)/\o.getD 10 0<256:=xX hol (by omega)
  have o11:o[11]?=some (o.getD 11 0)/\o.getD 11 0<256:=xX hol (by omega)
  have o8t:2<=o.getD 8 0:=by rw [<-hO,t0'];exact k2
  refine zB ?_;have e8:slB (some ⟨bb,off,none⟩) cap' 8 1=some ⟨bb,off+8,none⟩:=by
   unfold slB;rw [if_neg (by omega)];simp only [Option.map_some];rw [Qw]
  have e10:slB (some ⟨bb,off,none⟩) cap' 10 1=some ⟨bb,off+10,none⟩:=by
   unfold slB;rw [if_neg (by omega)];simp only [Option.map_some];rw [Qw]
  obtain ⟨o9,o9b⟩:=o9;obtain ⟨o10,o10b⟩:=o10;obtain ⟨o11,o11b⟩:=o11;refine call (VT (slB (some ⟨bb,off,none⟩) cap' 8 1) bb (off+8) (o.length-8) (cap'-8) e8 c 5 (o.getD 8 0) (o.getD 9 0) o8b o9b (Q0.at_ 8 _ o8) (Q0.at_ 9 _ o9) (by omega)) ?_
  rintro _ _ ⟨rfl,rfl⟩;refine zB ?_;refine cmW (zR inferInstance inferInstance rfl rfl (by omega) (by omega)) ?_
  have x8:c[off+(8:Int).toNat*1]?=some (.int .u8 ((o.getD 8 0:Nat):Int)):=Q0.at_ 8 _ o8;refine zB ?_;refine cmW (zR inferInstance inferInstance rfl rfl (by omega) (by omega)) ?_
  refine zB ?_;rw [show IntKind.u8.wrap (((o.getD 8 0:Nat):Int)-1)=((o.getD 8 0-1:Nat):Int) by show _%256=_;omega]
  have Q1:=Q0.lay1 (k:=8) (y:=o.getD 8 0-1) (by omega)
  generalize hO1:o.set 8 (o.getD 8 0-1)=o1 at Q1;have h1l:o1.length=o.length:=by rw [<-hO1,List.length_set]
  have p8:o1[8]?=some (o.getD 8 0-1):=by rw [<-hO1,List.getElem?_set_self (by omega)]
  have p9:o1[9]?=some (o.getD 9 0):=by rw [<-hO1,List.getElem?_set_ne (by omega)];exact o9
  have p10:o1[10]?=some (o.getD 10 0):=by rw [<-hO1,List.getElem?_set_ne (by omega)];exact o10
  have p11:o1[11]?=some (o.getD 11 0):=by rw [<-hO1,List.getElem?_set_ne (by omega)];exact o11
  have y8:lay c (off+(8:Int).toNat*1) (yG (.int .u8 ((o.getD 8 0-1:Nat):Int)))=lay c (off+8) [Value.int .u8 ((o.getD 8 0-1:Nat):Int)]:=rfl;rw [y8];generalize hC1:lay c (off+8) [Value.int .u8 ((o.getD 8 0-1:Nat):Int)]=c1 at Q1 ⊢;have c1l:c1.length=c.length:=by rw [<-hC1,zG]
  refine draw [0,1,0,4,12,0,0,64,220,508,1023] [4,8,9,10] [1,3,7] [0,1,2,3,5,6,7,4,8,9,10] ?_;refine zC ?_;refine call (VT (slB (some ⟨bb,off,none⟩) cap' 10 1) bb (off+10) (o.length-10) (cap'-10) e10 c1 5 (o.getD 10 0) (o.getD 11 0) o10b o11b (Q1.at_ 10 _ p10) (Q1.at_ 11 _ p11) (by omega)) ?_
  rintro _ _ ⟨rfl,rfl⟩;try refine zJ ?_
  refine ddA ?_;refine call (VT (slB (some ⟨bb,off,none⟩) cap' 8 1) bb (off+8) (o.length-8) (cap'-8) e8 c1 5 (o.getD 8 0-1) (o.getD 9 0) (by omega) o9b (Q1.at_ 8 _ p8) (Q1.at_ 9 _ p9) (by omega)) ?_
  rintro _ _ ⟨rfl,rfl⟩;try refine zJ ?_
  refine ddA ?_;refine call (zGw (o.getD 10 0*256+o.getD 11 0) (o.getD 8 0*256+o.getD 9 0) ((o.getD 8 0-1)*256+o.getD 9 0) (by omega) (by omega) (by omega)) ?_
  rintro _ _ ⟨rfl,rfl⟩;try refine zJ ?_
  refine ddA ?_;generalize hS:Wz (o.getD 10 0*256+o.getD 11 0) (o.getD 8 0*256+o.getD 9 0) ((o.getD 8 0-1)*256+o.getD 9 0)=S;have hSl:S<=65535:=by rw [<-hS];exact zCQ _ _ _
  have c1l':=Q1.len;refine call (JS (slB (some ⟨bb,off,none⟩) cap' 10 1) bb (off+10) (o.length-10) (cap'-10) e10 c1 5 S hSl (by omega) (by omega)) ?_
  rintro _ _ ⟨rfl,rfl⟩;try refine zJ ?_
  refine ddA ?_;have Q2:=Q1.lay1 (k:=10) (y:=S / 256) (by omega)
  have Q3:=Q2.lay1 (k:=11) (y:=S%256) (by rw [List.length_set];omega)
  have hfin:(o1.set 10 (S / 256)).set 11 (S%256)=zBI l:=by
   unfold zBI;simp only [hO,hO1];have w1:w16 o1 10=o.getD 10 0*256+o.getD 11 0:=by unfold w16;simp only [List.getD_eq_getElem?_getD,p10,p11];rfl
   have w2:w16 o1 8=(o.getD 8 0-1)*256+o.getD 9 0:=by unfold w16;simp only [List.getD_eq_getElem?_getD,p8,p9];rfl
   have w3:w16 o 8=o.getD 8 0*256+o.getD 9 0:=rfl;rw [w1,w2,w3,hS]
  rw [hfin] at Q3;have hfl:(zBI l).length=o.length:=by rw [<-hfin,List.length_set,List.length_set,h1l]
  rw [<-hfl] at hcap' ⊢;have hB:Cel (lay (lay c1 (off+10) [.int .u8 ((S / 256:Nat):Int)]) (off+10+1) [.int .u8 ((S%256:Nat):Int)]) off (zBI l):=Q3;refine into (Into.box (es:=(zBI l).map u8e) (off:=off) (cap:=cap') (sz:=1) .here (zGo _) (by rw [List.length_map];exact hcap') (by rw [zG,zG,c1l];exact q3) hB.back) ?_
  refine xE (some ⟨bb,off,none⟩) ?_;refine ret ?_;exact ends ((if_pos trivial).mpr ⟨_,_,rfl,rfl⟩)
end Go.Proofs.YtjcbjclhagobiaaGreat
end
section
namespace Go.Proofs.YtjcbjclhagobiaaGreat
set_option maxHeartbeats 1600000
open Go Go.KL Go.KM
variable {E:Env} {X:Xs}
set_option maxRecDepth 100000
theorem zPh {a b:Nat} (ha:a<9223372036854775808) (hb:b<9223372036854775808):orI .i64 a b=((a ||| b:Nat):Int):=by
 unfold orI;show IntKind.i64.wrap ((BitVec.ofInt 64 (a:Int) ||| BitVec.ofInt 64 (b:Int)).toNat:Int)=_;rw [YK,YK];have h:(a ||| b)<9223372036854775808:=Nat.or_lt_two_pow (n:=63) ha hb;have e:(BitVec.ofNat 64 a ||| BitVec.ofNat 64 b).toNat=a ||| b:=by
  simp [BitVec.toNat_or,BitVec.toNat_ofNat,Nat.mod_eq_of_lt (show a<18446744073709551616 by omega),Nat.mod_eq_of_lt (show b<18446744073709551616 by omega)]
 rw [e];exact zK (by omega)
theorem zPD {a b:Nat} (ha:a<9223372036854775808) (hb:b<9223372036854775808):XX .i64 a b=((a&&& b:Nat):Int):=by
 unfold XX;show IntKind.i64.wrap ((BitVec.ofInt 64 (a:Int)&&& BitVec.ofInt 64 (b:Int)).toNat:Int)=_;rw [YK,YK];have h:(a&&& b)<9223372036854775808:=Nat.lt_of_le_of_lt Nat.and_le_left ha;have e:(BitVec.ofNat 64 a&&& BitVec.ofNat 64 b).toNat=a&&& b:=by
  simp [BitVec.toNat_and,BitVec.toNat_ofNat,Nat.mod_eq_of_lt (show a<18446744073709551616 by omega),Nat.mod_eq_of_lt (show b<18446744073709551616 by omega)]
 rw [e];exact zK (by omega)
def zC2 (l:List Nat):Nat:=l.foldl (fun n b=>n*256+b) 0
theorem zJu (l:List Nat) (b:Nat):zC2 (l++[b])=zC2 l*256+b:=by unfold zC2;rw [List.foldl_append];rfl
theorem zFY:∀ {l:List Nat} (n:Nat),(∀ x∈l,x<256)->l.foldl (fun n b=>n*256+b) n<(n+1)*256^l.length
 | [],n,_=>by simp
 | b::l,n,h=>by
  have h1:=zFY (l:=l) (n*256+b) fun x hx=>h x (by simp [hx])
  have h2:=h b (by simp)
  rw [List.foldl_cons,List.length_cons,Nat.pow_succ];refine Nat.lt_of_lt_of_le h1 ?_;rw [Nat.mul_comm (256^l.length) 256,<-Nat.mul_assoc];exact Nat.mul_le_mul_right _ (by omega)
theorem zI3 {l:List Nat} (h:∀ x∈l,x<256):zC2 l<256^l.length:=by
 have:=zFY 0 h
 rw [Nat.zero_add,Nat.one_mul] at this;exact this
theorem zKz {n b:Nat} (hn:n<1099511627776) (hb:b<256):orI .i64 (WO .i64 (n:Int) 8) (b:Int)=((n*256+b:Nat):Int):=by
 have e1:WO .i64 (n:Int) 8=((n*256:Nat):Int):=by
  unfold WO;show IntKind.i64.wrap ((n:Int)*256)=_;rw [zK (by omega)];omega
 rw [e1,zPh (by omega) (by omega)]
 congr 1;rw [show n*256=n <<< 8 by rw [Nat.shiftLeft_eq],Nat.shiftLeft_add_eq_or_of_lt (by omega)]
theorem zB6 (base:Option Addr) (n cap:Nat) (l:List Nat) (hn:l.length=n) (hl:∀ x∈l,x<256) (h4:l.length<=4):Does PR E X 384 [.slice base n cap] [rsl base cap 1 (l.map u8e)] (fun v t=>v=.int .i64 (zC2 l:Int)/\t=[]):=by
 subst hn;refine Does.of 19 inferInstance rfl (by decide) rfl ?_
 refine zB ?_;refine loop (ι:=Nat) (fun i=>l.length-i) (fun i=>i<=l.length) (fun i=>[(2,.int .i64 0),(3,.int .i64 (zC2 (l.take i):Int)),(6,.slice base l.length cap),(7,.int .i64 (l.length:Int)),(8,.int .i64 (i:Int))]) (fun _=>[rsl base cap 1 (l.map u8e)]) 0 (by simp) ?_
 intro i hi ih;(try dsimp only at hi ih ⊢);rcases Nat.lt_or_ge i l.length with h|h
 ·obtain ⟨hx,hb⟩:=xX hl h;have hx':l[(i:Int).toNat]?=some (l.getD i 0):=by rw [Int.toNat_natCast];exact hx
  have hk:=zI3 (l:=l.take i) (fun x hx=>hl x (List.mem_of_mem_take hx));have hk:zC2 (l.take i)<1099511627776:=Nat.lt_of_lt_of_le hk (by
   have:(l.take i).length<=5:=by rw [List.length_take];omega
   calc 256^(l.take i).length<=256^5:=Nat.pow_le_pow_right (by decide) this
    _=1099511627776:=by decide)
  have hs:zC2 (l.take (i+1))=zC2 (l.take i)*256+l.getD i 0:=by
   rw [List.take_add_one,hx];exact zJu _ _
  refine zB ?_;refine yes ?_ rfl (decide_eq_true (by omega))
  refine zB ?_;rw [zKz hk hb,<-hs];exact next (ih (i+1) (by omega) (by omega))
 ·have e:l.take i=l:=List.take_of_length_le h;rw [e];refine zB ?_;refine no ?_ rfl (decide_eq_false (by omega))
  refine zB ?_;refine ret ?_;exact ends ⟨rfl,rfl⟩
theorem Qn (n:Nat) (k:Nat) (hn:n<4294967296) (hk:k<=30):Does PR E X 385 [.int .i64 (n:Int),.int .i64 (k:Int)] [] (fun v t=>v=.int .i64 ((n%2^k:Nat):Int)/\t=[]):=by
 refine Does.of 11 inferInstance rfl (by decide) rfl ?_
 refine zB ?_;have h2:(2:Nat)^k<=2^30:=Nat.pow_le_pow_right (by decide) hk
 have h3:0<(2:Nat)^k:=Nat.two_pow_pos k;have e:XX .i64 (n:Int) (IntKind.i64.wrap (WO .i64 1 (k:Int)-1))=((n%2^k:Nat):Int):=by
  have e1:WO .i64 1 (k:Int)=((2^k:Nat):Int):=by
   unfold WO;rw [Int.toNat_natCast,Nat.min_eq_left (show k<=IntKind.i64.bits by show k<=64;omega),Int.one_mul]
   have:((2:Int)^k)=((2^k:Nat):Int):=by simp
   rw [this];exact zK (by omega)
  rw [e1,zK (by omega),show ((2^k:Nat):Int)-1=((2^k-1:Nat):Int) by omega,zPD (by omega) (by omega)]
  congr 1;exact Nat.and_two_pow_sub_one_eq_mod n k
 rw [e];refine ret ?_;exact ends ⟨rfl,rfl⟩
structure H6 where
 cls:Nat
 flow:Nat
 pay:Nat
 nxt:Nat
 ttl:Nat
 src:Ad
 dst:Ad
abbrev h6V (h:H6):Value:=.agg #[.int .i64 (h.cls:Int),.int .i64 (h.flow:Int),.int .i64 (h.pay:Int),.int .i64 (h.nxt:Int),.int .i64 (h.ttl:Int),u64 h.src.hi,u64 h.src.lo,.bool h.src.v6,u64 h.dst.hi,u64 h.dst.lo,.bool h.dst.v6]
def zX (l:List Nat):H6:=⟨zC2 (l.take 4) / 2^20%2^8,zC2 (l.take 4)%2^20,zC2 ((l.drop 4).take 2),l.getD 6 0,l.getD 7 0,zL5 ((l.drop 8).take 16) true,zL5 ((l.drop 24).take 16) true⟩
set_option maxHeartbeats 1000000 in
theorem zHb (base:Option Addr) (cap:Nat) (l:List Nat) (hl:∀ x∈l,x<256) (h40:40<=l.length) (hm:l.length<=1000000):Does PR E X 349 [.slice base l.length cap] [rsl base cap 1 (l.map u8e)] (fun v t=>v=h6V (zX l)/\t=[]):=by
 obtain ⟨x6,b6⟩:=xX hl (k:=6) (by omega)
 obtain ⟨x7,b7⟩:=xX hl (k:=7) (by omega)
 have x6':l[(6:Int).toNat]?=some (l.getD 6 0):=x6;have x7':l[(7:Int).toNat]?=some (l.getD 7 0):=x7;have t4:(l.take 4).length=4:=by rw [List.length_take];omega
 have t2:((l.drop 4).take 2).length=2:=by rw [List.length_take,List.length_drop];omega
 have hn:zC2 (l.take 4)<4294967296:=by
  have:=zI3 (l:=l.take 4) fun x hx=>hl x (List.mem_of_mem_take hx)
  rw [t4] at this;exact this
 refine Does.of 40 inferInstance rfl (by decide) rfl ?_
 refine zDx base fun hcap=>?_;rw [List.length_map] at hcap;refine into (Jq base (cap:=cap) (sz:=1) (es:=l.map u8e) 0 4 (es':=(l.take 4).map u8e) (by omega) (by rw [List.drop_zero,<-List.map_take])) ?_
 refine into (Jq base (cap:=cap) (sz:=1) (es:=l.map u8e) 4 2 (es':=((l.drop 4).take 2).map u8e) (by omega) (by rw [<-List.map_drop,<-List.map_take])) ?_
 refine into (Jq base (cap:=cap) (sz:=1) (es:=l.map u8e) 8 16 (es':=((l.drop 8).take 16).map u8e) (by omega) (by rw [<-List.map_drop,<-List.map_take])) ?_
 refine into (Jq base (cap:=cap) (sz:=1) (es:=l.map u8e) 24 16 (es':=((l.drop 24).take 16).map u8e) (by omega) (by rw [<-List.map_drop,<-List.map_take])) ?_
 refine zB ?_;refine alloc fun b2=>?_;refine zB ?_;refine call (zB6 (slB base cap 0 1) 4 (cap-0) (l.take 4) t4 (fun x hx=>hl x (List.mem_of_mem_take hx)) (by omega)) ?_
 rintro _ _ ⟨rfl,rfl⟩;refine zB ?_;have e20:Wa .i64 (zC2 (l.take 4):Int) 20=((zC2 (l.take 4) / 2^20:Nat):Int):=by
  unfold Wa;show Int.fdiv _ (2^20)=_;rw [Int.fdiv_eq_ediv_of_nonneg _ (by decide)];simp
 refine draw [0,1,3,0,15,0,32,127,0,256,768,1792,0,4096,12288,28672,65535,0,262143] [2,4,7,17,18] [6,9,10,11,13,14,15] [0,1,3,5,6,8,9,10,11,12,13,14,15,2,4,7,16,17,18] ?_;refine zC ?_;rw [e20];refine call (Qn (zC2 (l.take 4) / 2^20) 8 (by omega) (by decide)) ?_
 rintro _ _ ⟨rfl,rfl⟩;refine zJ ?_;refine ddA ?_;refine call (Qn (zC2 (l.take 4)) 20 hn (by decide)) ?_
 rintro _ _ ⟨rfl,rfl⟩;refine zJ ?_;refine ddA ?_;refine call (zB6 (slB base cap 4 1) 2 (cap-4) ((l.drop 4).take 2) t2 (fun x hx=>hl x (List.mem_of_mem_drop (List.mem_of_mem_take hx))) (by omega)) ?_
 rintro _ _ ⟨rfl,rfl⟩;refine zJ ?_;refine ddA ?_;refine yS fun b3=>?_;refine ddA ?_;refine call (Zx ((l.drop 8).take 16) (fun x hx=>hl x (List.mem_of_mem_drop (List.mem_of_mem_take hx))) true (by rw [List.length_take,List.length_drop];simp [width];omega) (slB base cap 8 1) (cap-8)) ?_
 rintro _ _ ⟨rfl,rfl⟩;refine zB ?_;refine call (Zx ((l.drop 24).take 16) (fun x hx=>hl x (List.mem_of_mem_drop (List.mem_of_mem_take hx))) true (by rw [List.length_take,List.length_drop];simp [width];omega) (slB base cap 24 1) (cap-24)) ?_
 rintro _ _ ⟨rfl,rfl⟩;refine zB ?_;refine ret ?_;exact ends ⟨rfl,rfl⟩
def zNE:Ad:=⟨18374686479671623680,0,true,by decide,by decide⟩
def zOR:Ad:=⟨0,1,true,by decide,by decide⟩
def zPW:Ad:=⟨0,0,true,by decide,by decide⟩
def QW (s d:Ad):Bool:=((ofP zNE 8).has s||decide (s=zOR))||decide (d=zPW)
theorem zPX (a b:Ad) (x y:Int) (z:Bool) (hx:x=(b.hi:Int)) (hy:y=(b.lo:Int)) (hz:z=b.v6):(decide ((a.hi:Int)=x)&&(decide ((a.lo:Int)=y)&&((a.v6 == z)&&true)))=decide (a=b):=by
 subst hx;subst hy;subst hz;have h:a=b↔a.hi=b.hi/\a.lo=b.lo/\a.v6=b.v6:=⟨fun e=>by subst e;exact ⟨rfl,rfl,rfl⟩,fun ⟨x,y,z⟩=>Ad.ext x y z⟩
 rw [zAH,zAH];by_cases e:a=b
 ·subst e;simp
 ·rw [h] at e;simp [h];by_cases x:a.hi=b.hi <;> by_cases y:a.lo=b.lo <;> by_cases z:a.v6=b.v6 <;> simp_all
theorem zBc (s d:Ad):Does PR E X 350 [s.v,d.v] [] (fun v t=>v=.bool (QW s d)/\t=[]):=by
 refine Does.of 23 inferInstance rfl (by decide) rfl ?_
 refine zB ?_;repeat ((first|(refine alloc fun _=>?_)|(refine zU fun _=>?_)|(refine yS fun _=>?_)|(refine YN fun _=>?_));(refine onA ?_))
 refine call (vU zNE 8) ?_;rintro _ _ ⟨rfl,rfl⟩;refine zB ?_;refine alloc fun b5=>?_;refine zB ?_;refine alloc fun b6=>?_;refine zB ?_;refine call (Ye (ofP zNE 8) s) ?_;rintro _ _ ⟨rfl,rfl⟩;refine zB ?_;rw [zPX s zOR 0 1 true rfl rfl rfl,zPX d zPW 0 0 true rfl rfl rfl];refine ret ?_;exact ends ⟨rfl,rfl⟩
end Go.Proofs.YtjcbjclhagobiaaGreat
end
section
namespace Go.Proofs.YtjcbjclhagobiaaGreat
set_option maxHeartbeats 1600000
open Go Go.KL Go.KM
variable {E:Env} {X:Xs}
set_option maxRecDepth 100000
def h6z:H6:=⟨0,0,0,0,0,Ad.zero,Ad.zero⟩
def xK (l:List Nat):Int:=
 if l.length<40 then 1 else if l.getD 0 0 / 16≠6 then 2 else if l.length<(zX l).pay+40 then 4
 else if QW (zX l).src (zX l).dst then 6 else 0
def VL (l:List Nat):H6:=if xK l=0 then zX l else h6z
set_option maxHeartbeats 1000000 in
theorem JT (base:Option Addr) (cap:Nat) (l:List Nat) (hl:∀ x∈l,x<256) (hm:l.length<=1000000):Does PR E X 282 [.slice base l.length cap] [rsl base cap 1 (l.map u8e)] (fun v t=>v=.tuple #[h6V (VL l),.int .i64 (xK l)]/\t=[]):=by
 unfold VL;by_cases h20:l.length<40
 ·have hw:xK l=1:=by unfold xK;rw [if_pos h20]
  rw [hw,if_neg (by decide)]
  refine Does.of 34 inferInstance rfl (by decide) rfl ?_
  refine zB ?_;refine alloc fun b2=>?_;refine zB ?_;refine yes ?_ rfl (decide_eq_true (by omega))
  refine zB ?_;refine ret ?_;exact ends ⟨rfl,rfl⟩
 have h20':40<=l.length:=by omega
 obtain ⟨hx0,g0⟩:=xX hl (k:=0) (by omega)
 have hs:=zO7 ⟨l.getD 0 0,g0⟩;(try dsimp only at hs);have hx0':l[(0:Int).toNat]?=some (l.getD 0 0):=hx0;refine Does.of 34 inferInstance rfl (by decide) rfl ?_
 refine zDx base fun hcap=>?_;rw [List.length_map] at hcap;refine zB ?_;refine alloc fun b2=>?_;refine zB ?_;refine no ?_ rfl (decide_eq_false (by omega))
 refine zB ?_;refine call (zHb base cap l hl h20' hm) ?_;rintro _ _ ⟨rfl,rfl⟩;refine zB ?_;refine alloc fun b4=>?_;refine zB ?_;by_cases c1:l.getD 0 0 / 16=6
 ·have e1:(!decide (Wa .u8 ((l.getD 0 0:Nat):Int) 4=6))=false:=by rw [hs,c1];rfl
  refine no ?_;refine zB ?_;by_cases c2:l.length<(zX l).pay+40
  ·have hw:xK l=4:=by unfold xK;rw [if_neg h20,if_neg (not_not_intro c1),if_pos c2]
   rw [hw,if_neg (by decide)]
   refine yes ?_ rfl (decide_eq_true (show (l.length:Int)-40<((zX l).pay:Int) by omega))
   refine zB ?_;refine ret ?_;exact ends ⟨rfl,rfl⟩
  ·refine no ?_ rfl (decide_eq_false (show ¬ ((l.length:Int)-40<((zX l).pay:Int)) by omega))
   refine zB ?_;refine call (zBc (zX l).src (zX l).dst) ?_;rintro _ _ ⟨rfl,rfl⟩;refine zB ?_;cases c5:QW (zX l).src (zX l).dst with
   | true=>
    have hw:xK l=6:=by unfold xK;rw [if_neg h20,if_neg (not_not_intro c1),if_neg c2,if_pos c5]
    rw [hw,if_neg (by decide)]
    refine yes ?_;refine zB ?_;refine ret ?_;exact ends ⟨rfl,rfl⟩
   | false=>
    have hw:xK l=0:=by unfold xK;rw [if_neg h20,if_neg (not_not_intro c1),if_neg c2,if_neg (by rw [c5];simp)]
    rw [hw,if_pos rfl];refine no ?_;refine zB ?_;refine ret ?_;exact ends ⟨rfl,rfl⟩
 ·have hw:xK l=2:=by unfold xK;rw [if_neg h20,if_pos c1]
  rw [hw,if_neg (by decide)]
  have e1:(!decide (Wa .u8 ((l.getD 0 0:Nat):Int) 4=6))=true:=by rw [hs,decide_eq_false (by omega)];rfl
  refine yes ?_;refine zB ?_;refine ret ?_;exact ends ⟨rfl,rfl⟩
def zFP (l:List Nat):List Nat:=
 let o:=l.take (40+(zX l).pay)
 o.set 7 (o.getD 7 0-1)
def zGc (l:List Nat):Bool:=decide (xK l=0)&&decide (2<=(zX l).ttl)
theorem Jl {l:List Nat} (h:xK l=0):40<=l.length/\(zX l).pay+40<=l.length:=by
 unfold xK at h;split at h;· cases h
 split at h;· cases h
 split at h;· cases h
 omega
set_option maxHeartbeats 1000000 in
theorem zKM (base:Option Addr) (cap:Nat) (l:List Nat) (hl:∀ x∈l,x<256) (hm:l.length<=1000000):Does PR E X 213 [.slice base l.length cap] [rsl base cap 1 (l.map u8e)] (fun v t=>if zGc l=true then ∃ base' cap',v=.tuple #[.slice base' (zFP l).length cap',.bool true]/\t=[rsl base' cap' 1 ((zFP l).map u8e)] else v=.tuple #[.slice none 0 0,.bool false]/\t=[]):=by
 refine Does.of 31 inferInstance rfl (by decide) rfl ?_
 refine zDx base fun hcap=>?_;rw [List.length_map] at hcap;refine zB ?_;refine call (JT base cap l hl hm) ?_;rintro _ _ ⟨rfl,rfl⟩;refine zB ?_;refine alloc fun b4=>?_;refine zB ?_;cases hh:zGc l with
 | false=>
  have hg:(!decide (xK l=0)||decide (((VL l).ttl:Int)<2))=true:=by
   by_cases c:xK l=0
   ·have e:VL l=zX l:=by unfold VL;rw [if_pos c]
    unfold zGc at hh;rw [decide_eq_true c,Bool.true_and] at hh;have:=of_decide_eq_false hh
    rw [e,decide_eq_true (show ((zX l).ttl:Int)<2 by omega),Bool.or_true]
   ·rw [decide_eq_false c,Bool.not_false,Bool.true_or]
  refine yes ?_ rfl hg;refine zB ?_;refine ret ?_;refine ends ?_;rw [if_neg (by simp)]
  exact ⟨rfl,rfl⟩
 | true=>
  unfold zGc at hh;rw [Bool.and_eq_true] at hh;obtain ⟨k1,k2⟩:=hh;have k1:=of_decide_eq_true k1;have k2:=of_decide_eq_true k2;obtain ⟨g1,g3⟩:=Jl k1;have e:VL l=zX l:=by unfold VL;rw [if_pos k1]
  rw [e,k1];refine no ?_ rfl (by rw [decide_eq_false (show ¬ ((zX l).ttl:Int)<2 by omega)];rfl)
  have hto:(l.take (40+(zX l).pay)).length=40+(zX l).pay:=by rw [List.length_take];omega
  refine into (Jq base (cap:=cap) (sz:=1) (es:=l.map u8e) 0 (40+(zX l).pay) (es':=(l.take (40+(zX l).pay)).map u8e) (by omega) (by rw [List.drop_zero,<-List.map_take])) ?_
  refine zB ?_;refine call (ZP (l.take (40+(zX l).pay)) (slB base cap 0 1) (cap-0) ((40+((zX l).pay:Int)).toNat-0) (by omega) (by omega)) ?_
  rintro _ _ ⟨base',cap',rfl,rfl⟩;have ht7:=zFa hl (n:=40+(zX l).pay) (k:=7) (by omega) (by omega)
  generalize hO:l.take (40+(zX l).pay)=o at hto ht7 ⊢;have hol:∀ x∈o,x<256:=fun x hx=>hl x (List.mem_of_mem_take (hO ▸ hx));refine zHN base' fun hcap'=>?_;rw [List.length_map] at hcap';refine Xb base' (cap:=cap') (by omega) fun bb off c hb q1 q2 q3 q4=>?_
  subst hb;have Q0:Cel c off o:=Cel.of q4 q2 q3;obtain ⟨o7,o7',o7b⟩:=ht7;rw [<-o7'] at o7 o7b;have o7t:2<=o.getD 7 0:=by rw [o7'];exact k2
  refine zB ?_;refine cmW (zR inferInstance inferInstance rfl rfl (by omega) (by omega)) ?_
  have x7:c[off+(7:Int).toNat*1]?=some (.int .u8 ((o.getD 7 0:Nat):Int)):=Q0.at_ 7 _ o7;refine zB ?_;refine cmW (zR inferInstance inferInstance rfl rfl (by omega) (by omega)) ?_
  refine zB ?_;rw [show IntKind.u8.wrap (((o.getD 7 0:Nat):Int)-1)=((o.getD 7 0-1:Nat):Int) by show _%256=_;omega]
  have Q1:=Q0.lay1 (k:=7) (y:=o.getD 7 0-1) (by omega)
  have hfin:o.set 7 (o.getD 7 0-1)=zFP l:=by unfold zFP;simp only [hO]
  rw [hfin] at Q1;have hfl:(zFP l).length=o.length:=by rw [<-hfin,List.length_set]
  rw [<-hfl] at hcap' ⊢;have y7:lay c (off+(7:Int).toNat*1) (yG (.int .u8 ((o.getD 7 0-1:Nat):Int)))=lay c (off+7) [Value.int .u8 ((o.getD 7 0-1:Nat):Int)]:=rfl;rw [y7];refine into (Into.box (es:=(zFP l).map u8e) (off:=off) (cap:=cap') (sz:=1) .here (zGo _) (by rw [List.length_map];exact hcap') (by rw [zG];exact q3) Q1.back) ?_
  refine xE (some ⟨bb,off,none⟩) ?_;refine ret ?_;exact ends ((if_pos trivial).mpr ⟨_,_,rfl,rfl⟩)
end Go.Proofs.YtjcbjclhagobiaaGreat
end
section
namespace Go.Proofs.YtjcbjclhagobiaaGreat
set_option maxHeartbeats 1600000
open Go Go.KL Go.KM
variable {E:Env} {X:Xs}
set_option maxRecDepth 100000
theorem zB3 {l:List Nat} (hl:∀ x∈l,x<256) (v6:Bool):(zL5 l v6).sane=true:=by
 cases v6 with
 | true=>
  show (decide (topN 64 _=_)&&decide (topN 64 _=_))=true;rw [zFi (by decide),zFi (by decide),decide_eq_true rfl,decide_eq_true rfl];rfl
 | false=>
  obtain ⟨q,h1,h2⟩:=zFU hl (n:=4) (by decide)
  have e1:wrd l 4%18446744073709551616=wrd l 4:=Nat.mod_eq_of_lt (xR hl (by decide))
  have e2:topN 32 (wrd l 4)=wrd l 4:=by
   rw [h1];unfold topN;omega
  have a1:topN 32 (wrd l 4%18446744073709551616)=wrd l 4%18446744073709551616:=by rw [e1];exact e2
  exact Bool.and_eq_true_iff.2 ⟨decide_eq_true a1,decide_eq_true (show topN 0 (0%18446744073709551616)=0%18446744073709551616 by rw [zH3 (by decide)])⟩
structure Pd where
 to:Ad
 long:Nat
 left:Nat
abbrev pdV (p:Pd):Value:=.agg #[u64 p.to.hi,u64 p.to.lo,.bool p.to.v6,.int .i64 (p.long:Int),.int .i64 (p.left:Int)]
def pd4 (h:H4):Pd:=⟨h.dst,h.total,h.ttl⟩
def pd6 (h:H6):Pd:=⟨h.dst,40+h.pay,h.ttl⟩
def pdz:Pd:=⟨Ad.zero,0,0⟩
theorem zBy (base:Option Addr) (cap:Nat) (l:List Nat) (hl:∀ x∈l,x<256) (hm:l.length<=1000000):Does PR E X 210 [.slice base l.length cap] [rsl base cap 1 (l.map u8e)] (fun v t=>v=.tuple #[pdV (pd4 (Vh l)),.int .i64 (yK l)]/\t=[]):=by
 refine Does.of 19 inferInstance rfl (by decide) rfl ?_
 refine zB ?_;refine alloc fun b2=>?_;refine zB ?_;refine call (Yb base cap l hl hm) ?_;rintro _ _ ⟨rfl,rfl⟩;refine zB ?_;refine alloc fun b4=>?_;refine zB ?_;refine ret ?_;exact ends ⟨rfl,rfl⟩
theorem zIs {l:List Nat} (hm:l.length<=1000000):(VL l).pay<=1000000:=by
 unfold VL;split
 ·rename_i h;have:=Jl h;omega
 ·exact Nat.zero_le _
theorem zCz (base:Option Addr) (cap:Nat) (l:List Nat) (hl:∀ x∈l,x<256) (hm:l.length<=1000000):Does PR E X 212 [.slice base l.length cap] [rsl base cap 1 (l.map u8e)] (fun v t=>v=.tuple #[pdV (pd6 (VL l)),.int .i64 (xK l)]/\t=[]):=by
 have hp:=zIs hm;refine Does.of 20 inferInstance rfl (by decide) rfl ?_
 refine zB ?_;refine alloc fun b2=>?_;refine zB ?_;refine call (JT base cap l hl hm) ?_;rintro _ _ ⟨rfl,rfl⟩;refine zB ?_;refine alloc fun b4=>?_;refine zB ?_;rw [show (40:Int)+((VL l).pay:Int)=((40+(VL l).pay:Nat):Int) by omega]
 refine ret ?_;exact ends ⟨rfl,rfl⟩
def zPi (k:Nat):List Value:=if k=4 then [.func (.func 210) #[] #[],.func (.func 211) #[] #[]] else if k=6 then [.func (.func 212) #[] #[],.func (.func 213) #[] #[]] else [Value.nilFunc,Value.nilFunc]
abbrev zPS (k:Nat):Value:=.agg (zPi k).toArray
def wA (l:List Nat):Nat:=if l.length=0 then 0 else if l.getD 0 0 / 16=4 then 4 else if l.getD 0 0 / 16=6 then 6 else 0
def ZW (l:List Nat):Int:=if l.length=0 then 1 else if wA l=0 then 2 else 0
def zV (l:List Nat):Int:=if wA l=4 then yK l else if wA l=6 then xK l else ZW l
def pdP (l:List Nat):Pd:=if zV l=0 then (if wA l=4 then pd4 (zF l) else pd6 (zX l)) else pdz
theorem zLA (base:Option Addr) (cap:Nat) (l:List Nat) (hl:∀ x∈l,x<256):Does PR E X 139 [.slice base l.length cap] [rsl base cap 1 (l.map u8e)] (fun v t=>v=.tuple #[zPS (wA l),.int .i64 (ZW l)]/\t=[]):=by
 refine Does.of 19 inferInstance rfl (by decide) rfl ?_
 refine zB ?_;refine alloc fun b2=>?_;refine zB ?_;by_cases h0:l.length=0
 ·refine yes ?_ rfl (decide_eq_true (by omega))
  refine zB ?_;have e:wA l=0:=by unfold wA;rw [if_pos h0]
  have e2:ZW l=1:=by unfold ZW;rw [if_pos h0]
  rw [e,e2];refine ret ?_;exact ends ⟨rfl,rfl⟩
 ·refine no ?_ rfl (decide_eq_false (by omega))
  obtain ⟨hx0,g0⟩:=xX hl (k:=0) (by omega)
  have hx0':l[(0:Int).toNat]?=some (l.getD 0 0):=hx0;have hs:=zO7 ⟨l.getD 0 0,g0⟩;(try dsimp only at hs);refine zB ?_;by_cases c4:l.getD 0 0 / 16=4
  ·have e:wA l=4:=by unfold wA;rw [if_neg h0,if_pos c4]
   have e2:ZW l=0:=by unfold ZW;rw [if_neg h0,if_neg (by omega)]
   rw [e,e2];refine yes ?_ rfl (by rw [hs,c4];rfl)
   refine zB ?_;refine ret ?_;exact ends ⟨rfl,rfl⟩
  ·refine no ?_ rfl (by rw [hs];exact decide_eq_false (by omega))
   refine zB ?_;by_cases c6:l.getD 0 0 / 16=6
   ·have e:wA l=6:=by unfold wA;rw [if_neg h0,if_neg c4,if_pos c6]
    have e2:ZW l=0:=by unfold ZW;rw [if_neg h0,if_neg (by omega)]
    rw [e,e2];refine yes ?_ rfl (by rw [hs,c6];rfl)
    refine zB ?_;refine ret ?_;exact ends ⟨rfl,rfl⟩
   ·have e:wA l=0:=by unfold wA;rw [if_neg h0,if_neg c4,if_neg c6]
    have e2:ZW l=2:=by unfold ZW;rw [if_neg h0,if_pos e]
    rw [e,e2];refine no ?_ rfl (by rw [hs];exact decide_eq_false (by omega))
    refine zB ?_;refine ret ?_;exact ends ⟨rfl,rfl⟩
theorem kindP_is (l:List Nat):(wA l=4/\ZW l=0)∨(wA l=6/\ZW l=0)∨(wA l=0/\ZW l≠0):=by
 unfold ZW wA;split
 ·exact .inr (.inr ⟨rfl,by decide⟩)
 ·split
  ·exact .inl ⟨rfl,by simp⟩
  ·split
   ·exact .inr (.inl ⟨rfl,by simp⟩)
   ·exact .inr (.inr ⟨rfl,by simp⟩)
theorem zAa (base:Option Addr) (cap:Nat) (l:List Nat) (hl:∀ x∈l,x<256) (hm:l.length<=1000000):Does PR E X 66 [.slice base l.length cap] [rsl base cap 1 (l.map u8e)] (fun v t=>v=.tuple #[zPS (wA l),pdV (pdP l),.int .i64 (zV l)]/\t=[]):=by
 refine Does.of 32 inferInstance rfl (by decide) rfl ?_
 refine zB ?_;refine alloc fun b2=>?_;refine zB ?_;refine alloc fun b3=>?_;refine zB ?_;refine call (zLA base cap l hl) ?_;rintro _ _ ⟨rfl,rfl⟩;refine zB ?_;rcases kindP_is l with ⟨k,w⟩|⟨k,w⟩|⟨k,w⟩
 ·have hp:zV l=yK l:=by unfold zV;rw [if_pos k]
  have hd:pdP l=if yK l=0 then pd4 (zF l) else pdz:=by unfold pdP;rw [hp,if_pos k]
  rw [k,w,hp,hd];refine alloc fun b5=>?_;refine zB ?_;refine no ?_ rfl rfl;refine zB ?_;refine call (zBy base cap l hl hm) ?_;rintro _ _ ⟨rfl,rfl⟩;refine zB ?_;refine alloc fun b7=>?_;refine zB ?_;unfold Vh;by_cases c:yK l=0
  ·rw [if_pos c,if_pos c,c];refine no ?_ rfl rfl;refine zB ?_;refine draw [0,0,1,7,15] [2,3,4] [0,1] [0,1,2,3,4] ?_;refine zC ?_;refine ret ?_;exact ends ⟨rfl,rfl⟩
  ·rw [if_neg c,if_neg c];refine yes ?_ rfl (by rw [decide_eq_false c];rfl)
   refine zB ?_;refine ret ?_;exact ends ⟨rfl,rfl⟩
 ·have hp:zV l=xK l:=by unfold zV;rw [if_neg (by omega),if_pos k]
  have hd:pdP l=if xK l=0 then pd6 (zX l) else pdz:=by unfold pdP;rw [hp,if_neg (show ¬ wA l=4 by omega)]
  rw [k,w,hp,hd];refine alloc fun b5=>?_;refine zB ?_;refine no ?_ rfl rfl;refine zB ?_;refine call (zCz base cap l hl hm) ?_;rintro _ _ ⟨rfl,rfl⟩;refine zB ?_;refine alloc fun b7=>?_;refine zB ?_;unfold VL;by_cases c:xK l=0
  ·rw [if_pos c,if_pos c,c];refine no ?_ rfl rfl;refine zB ?_;refine draw [0,0,1,7,15] [2,3,4] [0,1] [0,1,2,3,4] ?_;refine zC ?_;refine ret ?_;exact ends ⟨rfl,rfl⟩
  ·rw [if_neg c,if_neg c];refine yes ?_ rfl (by rw [decide_eq_false c];rfl)
   refine zB ?_;refine ret ?_;exact ends ⟨rfl,rfl⟩
 ·have hp:zV l=ZW l:=by unfold zV;rw [if_neg (by omega),if_neg (by omega)]
  have hd:pdP l=pdz:=by unfold pdP;rw [hp,if_neg w]
  rw [k,hp,hd];refine alloc fun b5=>?_;refine zB ?_;refine yes ?_ rfl (by rw [decide_eq_false w];rfl)
  refine zB ?_;refine ret ?_;exact ends ⟨rfl,rfl⟩
theorem kindP_is' (l:List Nat):wA l=4∨wA l=6∨wA l=0:=by rcases kindP_is l with ⟨k,_⟩|⟨k,_⟩|⟨k,_⟩ <;> simp [k]
theorem JL (base:Option Addr) (cap:Nat) (l:List Nat) (hl:∀ x∈l,x<256) (hm:l.length<=1000000):Does PR E X 22 [.slice base l.length cap] [rsl base cap 1 (l.map u8e)] (fun v t=>v=.tuple #[(pdP l).to.v,.int .i64 (zV l),.int .i64 ((pdP l).left:Int)]/\t=[]):=by
 refine Does.of 19 inferInstance rfl (by decide) rfl ?_
 refine zB ?_;refine alloc fun b2=>?_;refine zB ?_;refine call (zAa base cap l hl hm) ?_;rintro _ _ ⟨rfl,rfl⟩;rcases kindP_is' l with hk|hk|hk
 all_goals
  rw [hk];refine zB ?_;refine alloc fun b5=>?_;refine zB ?_;refine alloc fun b6=>?_;refine zB ?_;refine draw [0,1,0,0,8,3,39,127] [5,6,7] [1,4] [0,1,2,3,4,5,6,7] ?_;refine zC ?_;refine ret ?_;exact ends ⟨rfl,rfl⟩
end Go.Proofs.YtjcbjclhagobiaaGreat
end
section
namespace Go.Proofs.YtjcbjclhagobiaaGreat
set_option maxHeartbeats 1600000
open Go Go.KL Go.KM
variable {E:Env} {X:Xs}
set_option maxRecDepth 100000
structure Vd where
 kind:Int
 why:Int
 hop:Int
 cls:Int
 out:List Nat
abbrev vdV (v:Vd) (base:Option Addr) (cap:Nat):Value:=.agg #[.int .i64 v.kind,.int .i64 v.why,.int .i64 v.hop,.int .i64 v.cls,.slice base v.out.length cap]
def Wl (l:List Nat):List Nat:=if wA l=4 then zBI l else zFP l
def judgeP (h:HSt) (l:List Nat):HSt×Vd:=
 if zV l≠0 then (h,⟨0,zV l,0,0,[]⟩) else
 match (hLook h (pdP l).to).y with
 | none=>((hLook h (pdP l).to).h,⟨0,7,0,(hLook h (pdP l).to).c,[]⟩)
 | some x=>if x.2=0 then ((hLook h (pdP l).to).h,⟨2,0,0,(hLook h (pdP l).to).c,l.take (pdP l).long⟩)
  else if (pdP l).left<2 then ((hLook h (pdP l).to).h,⟨0,8,0,(hLook h (pdP l).to).c,[]⟩)
  else ((hLook h (pdP l).to).h,⟨1,0,x.2,(hLook h (pdP l).to).c,Wl l⟩)
theorem zN6 {l:List Nat} (hl:∀ x∈l,x<256) (h:zV l=0):(pdP l).to.sane=true/\20<=(pdP l).long/\(pdP l).long<=l.length/\((wA l=4/\(2<=(pdP l).left->zGS l=true))∨(wA l=6/\(2<=(pdP l).left->zGc l=true))):=by
 have hp:pdP l=if wA l=4 then pd4 (zF l) else pd6 (zX l):=by unfold pdP;rw [if_pos h]
 rcases kindP_is l with ⟨k,w⟩|⟨k,w⟩|⟨k,w⟩
 ·rw [hp,if_pos k];have w4:yK l=0:=by unfold zV at h;rw [if_pos k] at h;exact h
  obtain ⟨a,b,c⟩:=zDN w4;refine ⟨zB3 (fun x hx=>hl x (List.mem_of_mem_drop (List.mem_of_mem_take hx))) false,b,c,.inl ⟨k,fun g=>?_⟩⟩;unfold zGS;exact Bool.and_eq_true_iff.2 ⟨decide_eq_true w4,decide_eq_true g⟩
 ·rw [hp,if_neg (by omega)]
  have w6:xK l=0:=by unfold zV at h;rw [if_neg (by omega),if_pos k] at h;exact h
  obtain ⟨a,b⟩:=Jl w6;refine ⟨zB3 (fun x hx=>hl x (List.mem_of_mem_drop (List.mem_of_mem_take hx))) true,by show 20<=40+_;omega,by show 40+(zX l).pay<=_;omega,.inr ⟨k,fun g=>?_⟩⟩
  unfold zGc;exact Bool.and_eq_true_iff.2 ⟨decide_eq_true w6,decide_eq_true g⟩
 ·unfold zV at h;rw [if_neg (by omega),if_neg (by omega)] at h;exact absurd h w
set_option maxHeartbeats 2000000 in
theorem zHR (b:Nat) (h:HSt) (hh:HOk h) (base:Option Addr) (cap:Nat) (l:List Nat) (hl:∀ x∈l,x<256) (hm:l.length<=1000000):Does PR E X 221 [pt b,.slice base l.length cap] [xZ b h,rsl base cap 1 (l.map u8e)] (fun v t=>∃ ob oc,v=vdV (judgeP h l).2 ob oc/\t=[xZ b (judgeP h l).1,rsl ob oc 1 ((judgeP h l).2.out.map u8e)]):=by
 refine Does.of 65 inferInstance rfl (by decide) rfl ?_
 refine zDx base fun hcap=>?_;rw [List.length_map] at hcap;refine zB ?_;refine alloc fun b4=>?_;refine zB ?_;refine call (zAa base cap l hl hm) ?_;rintro _ _ ⟨rfl,rfl⟩;unfold judgeP;by_cases hw:zV l=0
 ·rw [if_neg (not_not_intro hw)];obtain ⟨o1,o2,o3,o4⟩:=zN6 hl hw;have hlong:((pdP l).long:Int).toNat=(pdP l).long:=rfl;rw [hw];rcases o4 with ⟨hk,o4⟩|⟨hk,o4⟩
  ·skip
   rw [hk];refine zB ?_;refine alloc fun b5=>?_;refine zB ?_;refine alloc fun b6=>?_;refine zB ?_;refine no ?_ rfl rfl;refine zB ?_;refine call (XV b h hh (pdP l).to o1) ?_;rintro _ _ ⟨rfl,rfl⟩;generalize hLook h (pdP l).to=r;obtain ⟨g,y,c⟩:=r;refine zB ?_;refine alloc fun b8=>?_;refine zB ?_;cases y with
   | none=>
    refine yes ?_ rfl rfl;refine zB ?_;refine into (Into.nilR (sz:=1)) ?_;refine ret ?_;exact ends ⟨none,0,rfl,rfl⟩
   | some x=>
    obtain ⟨xp,xh⟩:=x;refine no ?_ rfl rfl;refine zB ?_;by_cases hx:xh=0
    ·subst hx;rw [if_pos rfl];refine yes ?_ rfl rfl;refine into (Jq base (cap:=cap) (sz:=1) (es:=l.map u8e) 0 (pdP l).long (es':=(l.take (pdP l).long).map u8e) (by omega) (by rw [List.drop_zero,<-List.map_take])) ?_
     refine zB ?_;refine call (ZP (l.take (pdP l).long) (slB base cap 0 1) (cap-0) (((pdP l).long:Int).toNat-0) (by rw [List.length_take];omega) (by rw [List.length_take];omega)) ?_
     rintro _ _ ⟨base',cap',rfl,rfl⟩;refine WA base' ?_;refine zB ?_;refine ret ?_;exact ends ⟨base',cap',rfl,rfl⟩
    ·rw [if_neg hx];refine no ?_ rfl (decide_eq_false hx);refine zB ?_;by_cases h2:(pdP l).left<2
     ·rw [if_pos h2];refine yes ?_ rfl (decide_eq_true (by omega))
      refine zB ?_;refine into (Into.nilR (sz:=1)) ?_;refine ret ?_;exact ends ⟨none,0,rfl,rfl⟩
     ·rw [if_neg h2];refine no ?_ rfl (decide_eq_false (by omega))
      refine zB ?_;refine call (zKE base cap l hl hm) ?_;rintro v t hp;rw [if_pos (o4 (by omega))] at hp
      obtain ⟨ob,oc,rfl,rfl⟩:=hp;refine zB ?_;have ho:Wl l=zBI l:=by unfold Wl;rw [if_pos hk]
      rw [ho];refine ret ?_;exact ends ⟨ob,oc,rfl,rfl⟩
  ·skip
   rw [hk];refine zB ?_;refine alloc fun b5=>?_;refine zB ?_;refine alloc fun b6=>?_;refine zB ?_;refine no ?_ rfl rfl;refine zB ?_;refine call (XV b h hh (pdP l).to o1) ?_;rintro _ _ ⟨rfl,rfl⟩;generalize hLook h (pdP l).to=r;obtain ⟨g,y,c⟩:=r;refine zB ?_;refine alloc fun b8=>?_;refine zB ?_;cases y with
   | none=>
    refine yes ?_ rfl rfl;refine zB ?_;refine into (Into.nilR (sz:=1)) ?_;refine ret ?_;exact ends ⟨none,0,rfl,rfl⟩
   | some x=>
    obtain ⟨xp,xh⟩:=x;refine no ?_ rfl rfl;refine zB ?_;by_cases hx:xh=0
    ·subst hx;rw [if_pos rfl];refine yes ?_ rfl rfl;refine into (Jq base (cap:=cap) (sz:=1) (es:=l.map u8e) 0 (pdP l).long (es':=(l.take (pdP l).long).map u8e) (by omega) (by rw [List.drop_zero,<-List.map_take])) ?_
     refine zB ?_;refine call (ZP (l.take (pdP l).long) (slB base cap 0 1) (cap-0) (((pdP l).long:Int).toNat-0) (by rw [List.length_take];omega) (by rw [List.length_take];omega)) ?_
     rintro _ _ ⟨base',cap',rfl,rfl⟩;refine WA base' ?_;refine zB ?_;refine ret ?_;exact ends ⟨base',cap',rfl,rfl⟩
    ·rw [if_neg hx];refine no ?_ rfl (decide_eq_false hx);refine zB ?_;by_cases h2:(pdP l).left<2
     ·rw [if_pos h2];refine yes ?_ rfl (decide_eq_true (by omega))
      refine zB ?_;refine into (Into.nilR (sz:=1)) ?_;refine ret ?_;exact ends ⟨none,0,rfl,rfl⟩
     ·rw [if_neg h2];refine no ?_ rfl (decide_eq_false (by omega))
      refine zB ?_;refine call (zKM base cap l hl hm) ?_;rintro v t hp;rw [if_pos (o4 (by omega))] at hp
      obtain ⟨ob,oc,rfl,rfl⟩:=hp;refine zB ?_;have ho:Wl l=zFP l:=by unfold Wl;rw [if_neg (show ¬ wA l=4 by omega)]
      rw [ho];refine ret ?_;exact ends ⟨ob,oc,rfl,rfl⟩
 ·rw [if_pos hw];rcases kindP_is' l with hk|hk|hk
  all_goals
   rw [hk];refine zB ?_;refine alloc fun b5=>?_;refine zB ?_;refine alloc fun b6=>?_;refine zB ?_;refine yes ?_ rfl (by rw [decide_eq_false hw];rfl)
   refine zB ?_;refine into (Into.nilR (sz:=1)) ?_;refine ret ?_;exact ends ⟨none,0,rfl,rfl⟩
def vN (h:HSt) (l:List Nat):HSt×Vd:=
 ({ (judgeP h l).1 with S:=(judgeP h l).1.S.bump (if (judgeP h l).2.kind=0 then 16 else if (judgeP h l).2.kind=1 then 14 else 15) 1 },(judgeP h l).2)
theorem HOk.judge {h:HSt} (hh:HOk h) (l:List Nat):HOk (judgeP h l).1:=by
 unfold judgeP;split
 ·exact hh
 ·split
  ·exact hh.look _
  ·split
   ·exact hh.look _
   ·split
    ·exact hh.look _
    ·exact hh.look _
theorem zDv (h:HSt) (l:List Nat):(judgeP h l).2.kind=0∨(judgeP h l).2.kind=1∨(judgeP h l).2.kind=2:=by
 unfold judgeP;split
 ·exact .inl rfl
 ·split
  ·exact .inl rfl
  ·split
   ·exact .inr (.inr rfl)
   ·split
    ·exact .inl rfl
    ·exact .inr (.inl rfl)
theorem HOk.bumped {h:HSt} (hh:HOk h) (k n:Nat):HOk { h with S:=h.S.bump k n }:=⟨hh.srt,hh.len,hh.rm,hh.rh,hh.t,hh.q,hh.s.bump k n⟩
theorem HOk.decide {h:HSt} (hh:HOk h) (l:List Nat):HOk (vN h l).1:=(hh.judge l).bumped _ _
theorem WN (b:Nat) (h:HSt) (hh:HOk h) (k j:Nat) (hk:k<17) (hj:j<=1000000000):Does PR E X 99 [pt b,.int .i64 (k:Int),.int .i64 (j:Int)] [xZ b h] (fun v t=>v=.tuple #[]/\t=[xZ b { h with S:=h.S.bump k j }]):=by
 refine Does.of 18 inferInstance rfl (by decide) rfl ?_
 refine zW (xH b h) fun q=>?_;refine zB ?_;refine call (vA b q h.Q.length h.bound h.S) ?_;rintro _ _ ⟨rfl,rfl⟩;refine onA ?_;refine yes ?_;refine zB ?_;refine call (zCl h.S hh.s k j hk hj) ?_;rintro _ _ ⟨rfl,rfl⟩;refine zB ?_;refine zE (xH b { h with S:=h.S.bump k j }) q ?_
 refine fall ?_;exact ends ⟨rfl,rfl⟩
set_option maxHeartbeats 1000000 in
theorem zEA (b:Nat) (h:HSt) (hh:HOk h) (base:Option Addr) (cap:Nat) (l:List Nat) (hl:∀ x∈l,x<256) (hm:l.length<=1000000):Does PR E X 151 [pt b,.slice base l.length cap] [xZ b h,rsl base cap 1 (l.map u8e)] (fun v t=>∃ ob oc,v=vdV (vN h l).2 ob oc/\t=[xZ b (vN h l).1,rsl ob oc 1 ((vN h l).2.out.map u8e)]):=by
 have hg:=hh.judge l;have hk:=zDv h l;unfold vN;refine Does.of 17 inferInstance rfl (by decide) rfl ?_
 refine zB ?_;refine alloc fun b4=>?_;refine zB ?_;refine call (zHR b h hh base cap l hl hm) ?_;rintro _ _ ⟨ob,oc,rfl,rfl⟩;generalize judgeP h l=r at hg hk ⊢;obtain ⟨g,v⟩:=r;dsimp only at hg hk ⊢;obtain ⟨k,w,p,c,out⟩:=v;dsimp only at hk;refine zB ?_;refine alloc fun b5=>?_;refine zB ?_;refine buildSlice fun b6=>?_;rcases hk with hk|hk|hk
 ·subst hk;have hx:[yG (.int .i64 16),yG (.int .i64 14),yG (.int .i64 15)][(0:Int).toNat]?=some (yG (.int .i64 16)):=rfl;refine zB ?_;refine call (WN b g hg 16 1 (by omega) (by omega)) ?_
  rintro _ _ ⟨rfl,rfl⟩;refine zB ?_;refine ret ?_;exact ends ⟨ob,oc,rfl,rfl⟩
 ·subst hk;have hx:[yG (.int .i64 16),yG (.int .i64 14),yG (.int .i64 15)][(1:Int).toNat]?=some (yG (.int .i64 14)):=rfl;refine zB ?_;refine call (WN b g hg 14 1 (by omega) (by omega)) ?_
  rintro _ _ ⟨rfl,rfl⟩;refine zB ?_;refine ret ?_;exact ends ⟨ob,oc,rfl,rfl⟩
 ·subst hk;have hx:[yG (.int .i64 16),yG (.int .i64 14),yG (.int .i64 15)][(2:Int).toNat]?=some (yG (.int .i64 15)):=rfl;refine zB ?_;refine call (WN b g hg 15 1 (by omega) (by omega)) ?_
  rintro _ _ ⟨rfl,rfl⟩;refine zB ?_;refine ret ?_;exact ends ⟨ob,oc,rfl,rfl⟩
end Go.Proofs.YtjcbjclhagobiaaGreat
end
section
namespace Go.Proofs.YtjcbjclhagobiaaGreat
set_option maxHeartbeats 1600000
open Go Go.KL Go.KM
variable {E:Env} {X:Xs}
set_option maxRecDepth 100000
structure PtE where
 hop:Int
 pk:Nat
 by_:Nat
def ptC (p:PtE):List Value:=[.int .i64 p.hop,u64 p.pk,u64 p.by_]
theorem zLM (l:List PtE):ElOk 3 (l.map ptC):=⟨fun e he=>by
 obtain ⟨p,_,rfl⟩:=List.mem_map.1 he;rfl,fun e he=>by
 obtain ⟨p,_,rfl⟩:=List.mem_map.1 he;intro v hv;simp only [ptC,List.mem_cons,List.not_mem_nil,or_false] at hv;rcases hv with rfl|rfl|rfl <;> rfl⟩
def zMJ (h:Int):Bool:=decide (0<=h)&&decide (h<=65535)
theorem zBm (h:Int):Does PR E X 222 [.int .i64 h] [] (fun v t=>v=.bool (zMJ h)/\t=[]):=by
 refine Does.of 9 inferInstance rfl (by decide) rfl ?_
 refine zB ?_;refine ret ?_;exact ends ⟨rfl,rfl⟩
structure PoOk (P:List PtE):Prop where
 up:P.Pairwise fun x y=>x.hop<y.hop
 in_:∀ p∈P,0<=p.hop/\p.hop<=65535
 lt:∀ p∈P,p.pk<18446744073709551616/\p.by_<18446744073709551616
theorem PoOk.bound:∀ {P:List PtE} (n:Int),P.Pairwise (fun x y=>x.hop<y.hop)->(∀ p∈P,n<=p.hop/\p.hop<=65535)->n<=65536->(P.length:Int)<=65536-n
 | [],n,_,_,_=>by simp;omega
 | p::P,n,h1,h2,_=>by
  have hp:=h2 p (by simp)
  have:=PoOk.bound (P:=P) (p.hop+1) (List.pairwise_cons.1 h1).2 (fun q hq=>⟨by have:=(List.pairwise_cons.1 h1).1 q hq;omega,(h2 q (by simp [hq])).2⟩) (by omega)
  rw [List.length_cons];omega
theorem PoOk.len {P:List PtE} (h:PoOk P):P.length<=65536:=by
 have:=PoOk.bound 0 h.up h.in_ (by omega);omega
theorem zE1 (base:Option Addr) (cap:Nat) (P:List PtE) (h:PoOk P):Does PR E X 223 [.slice base P.length cap] [rsl base cap 3 (P.map ptC)] (fun v t=>v=.bool true/\t=[]):=by
 have hlen:=h.len;refine Does.of 25 inferInstance rfl (by decide) rfl ?_
 refine zB ?_;refine loop (ι:=Nat×Int) (fun z=>P.length-z.1) (fun z=>z.1<=P.length/\∀ p∈P.drop z.1,z.2<p.hop) (fun z=>[(2,.bool false),(3,.int .i64 z.2),(6,.slice base P.length cap),(7,.int .i64 (P.length:Int)),(8,.int .i64 (z.1:Int))]) (fun _=>[rsl base cap 3 (P.map ptC)]) (0,-1) ⟨by simp,fun p hp=>by have:=(h.in_ p (by simpa using hp)).1;show -1<_;omega⟩ ?_
 rintro ⟨i,last⟩ ⟨h1,h2⟩ ih;(try dsimp only at h1 h2 ih ⊢);rcases Nat.lt_or_ge i P.length with hi|hi
 ·obtain ⟨p,hp⟩:∃ p,P[i]?=some p:=⟨P[i],List.getElem?_eq_getElem hi⟩;have hd:P.drop i=p::P.drop (i+1):=by
   have:=List.drop_eq_getElem_cons hi
   rw [List.getElem?_eq_getElem hi] at hp;cases hp;exact this
  have hx:P[(i:Int).toNat]?=some p:=by rw [Int.toNat_natCast];exact hp
  have hpm:=List.mem_of_getElem? hp;have hin:=h.in_ p hpm;have hl:=h2 p (by rw [hd];simp)
  refine zB ?_;refine yes ?_ rfl (decide_eq_true (by omega))
  refine zB ?_;refine alloc fun b5=>?_;refine zB ?_;refine orc (y:=!zMJ p.hop) (fun h gk=>?_) ?_
  ·refine zB ?_;refine call (zBm p.hop) ?_;rintro _ _ ⟨rfl,rfl⟩;exact YD
  refine zB ?_;have hm:zMJ p.hop=true:=by unfold zMJ;rw [decide_eq_true hin.1,decide_eq_true hin.2];rfl
  refine no ?_ rfl (by rw [hm,decide_eq_false (by omega)];rfl)
  refine zB ?_;refine next (ih (i+1,p.hop) ⟨by show i+1<=_;omega,fun q hq=>?_⟩ (by show P.length-(i+1)<P.length-i;omega))
  have hu:=h.up.drop (i:=i);rw [hd] at hu;exact (List.pairwise_cons.1 hu).1 q hq
 ·refine zB ?_;refine no ?_ rfl (decide_eq_false (by omega))
  refine zB ?_;refine ret ?_;exact ends ⟨rfl,rfl⟩
theorem vV (a c:Nat) (ha:a<18446744073709551616) (hc:c<18446744073709551616):Does PR E X 228 [u64 a,u64 c] [] (fun v t=>v=u64 (wL a c)/\t=[]):=by
 refine Does.of 16 inferInstance rfl (by decide) rfl ?_
 refine zB ?_;refine zNP (zAS a c ha hc) ?_;rintro _ _ ⟨rfl,rfl⟩;refine zB ?_;unfold wL;by_cases h:a+c<18446744073709551616
 ·rw [show (a+c) / 18446744073709551616=0 by omega,show (a+c)%18446744073709551616=a+c by omega,show min (a+c) 18446744073709551615=a+c by omega]
  refine no ?_;refine zB ?_;refine ret ?_;exact ends ⟨rfl,rfl⟩
 ·rw [show (a+c) / 18446744073709551616=1 by omega,show min (a+c) 18446744073709551615=18446744073709551615 by omega]
  refine yes ?_;refine zB ?_;refine ret ?_;exact ends ⟨rfl,rfl⟩
theorem zA0 (x y:Int):Does PR E X 226 [.int .i64 x,.int .i64 y] [] (fun v t=>∃ c:Int,(c<0↔x<y)/\(c=0↔x=y)/\v=.int .i64 c/\t=[]):=by
 refine Does.of 20 inferInstance rfl (by decide) rfl ?_
 refine zB ?_;refine call (XU x) ?_;rintro _ _ ⟨rfl,rfl⟩;refine onA ?_;refine call (XU y) ?_;rintro _ _ ⟨rfl,rfl⟩;refine onA ?_;refine no ?_;refine zB ?_;refine no ?_;refine zB ?_;refine zH (fun h=>?_) (fun h=>?_)
 ·have h:=of_decide_eq_true h;refine zB ?_;refine ret ?_;exact ends ⟨-1,by omega,by omega,rfl,rfl⟩
 ·have h:=of_decide_eq_false h;refine zB ?_;refine zH (fun h2=>?_) (fun h2=>?_)
  ·have h2:=of_decide_eq_true h2;refine zB ?_;refine ret ?_;exact ends ⟨1,by omega,by omega,rfl,rfl⟩
  ·have h2:=of_decide_eq_false h2;refine zB ?_;refine ret ?_;exact ends ⟨0,by omega,by omega,rfl,rfl⟩
abbrev zPn (p:PtE):Value:=.agg (ptC p).toArray
theorem zCT (p:PtE) (y:Int):Does PR E X 225 [zPn p,.int .i64 y] [] (fun v t=>∃ c:Int,(c<0↔p.hop<y)/\(c=0↔p.hop=y)/\v=.int .i64 c/\t=[]):=by
 refine Does.of 9 inferInstance rfl (by decide) rfl ?_
 refine zB ?_;refine zU fun b2=>?_;refine zB ?_;refine call (zA0 p.hop y) ?_;rintro _ _ ⟨c,h1,h2,rfl,rfl⟩;refine zB ?_;refine ret ?_;exact ends ⟨c,h1,h2,rfl,rfl⟩
theorem Ys (base:Option Addr) (cap:Nat) (P:List PtE) (hl:P.length<=1000000):Does PR E X 85 [.slice base P.length cap] [rsl base cap 3 (P.map ptC)] (fun v t=>∃ base' cap',v=.slice base' P.length cap'/\t=[osl base' cap' 203 3 (P.map ptC)]):=by
 refine Does.of 8 inferInstance rfl (by decide) rfl ?_
 refine zDx base fun hcap=>?_;simp only [List.length_map] at hcap;refine zB ?_;refine zH (fun h=>?_) (fun h=>?_)
 ·refine W.pure (p:=P=[]) (fun r f hp=>?_) fun hn=>?_
  ·obtain ⟨_,_,_,_,_,⟨_,h2,h3,_⟩,_⟩:=hp;have hc:=h3 (by simpa using h)
   simp at h2;exact List.eq_nil_of_length_eq_zero (by omega)
  ·subst hn;refine zB ?_;refine into (Into.nilO (T:=203) (sz:=3)) ?_;refine ret ?_;exact ends ⟨none,0,rfl,rfl⟩
 ·refine zB ?_;refine buildSlice fun b5=>?_;refine zB ?_;refine zA8 fun b6 c6=>?_;refine zB ?_;refine ret ?_;exact ends ⟨b6,c6,by simp,rfl⟩
end Go.Proofs.YtjcbjclhagobiaaGreat
end
section
namespace Go.Proofs.YtjcbjclhagobiaaGreat
set_option maxHeartbeats 1600000
open Go Go.KL Go.KM
variable {E:Env} {X:Xs}
set_option maxRecDepth 100000
theorem zNc {P:List PtE} (h:P.Pairwise fun x y=>x.hop<y.hop) {i:Nat} {p:PtE} (hp:P[i]?=some p) {y:Int} (hy:p.hop<y):∀ q∈P.take (i+1),q.hop<y:=by
 intro q hq;obtain ⟨j,hj,rfl⟩:=List.mem_iff_getElem.1 hq;rw [List.length_take] at hj;rw [List.getElem_take];have hi:=(List.getElem?_eq_some_iff.1 hp);obtain ⟨hi,rfl⟩:=hi;rcases Nat.lt_or_ge j i with h1|h1
 ·have:=List.pairwise_iff_getElem.1 h j i (by omega) hi h1;omega
 ·have:j=i:=by omega
  subst this;exact hy
theorem zNK {P:List PtE} (h:P.Pairwise fun x y=>x.hop<y.hop) {i:Nat} {p:PtE} (hp:P[i]?=some p) {y:Int} (hy:y<=p.hop):∀ q∈P.drop i,y<=q.hop:=by
 intro q hq;obtain ⟨j,hj,rfl⟩:=List.mem_iff_getElem.1 hq;rw [List.length_drop] at hj;rw [List.getElem_drop];obtain ⟨hi,rfl⟩:=List.getElem?_eq_some_iff.1 hp;rcases Nat.eq_zero_or_pos j with h1|h1
 ·subst h1;exact hy
 ·have:=List.pairwise_iff_getElem.1 h i (i+j) hi (by omega) (by omega);omega
set_option maxHeartbeats 1000000 in
theorem Vt (base:Option Addr) (cap:Nat) (P:List PtE) (h:PoOk P) (y:Int):Does PR E X 224 [.slice base P.length cap,.int .i64 y,.func (.func 225) #[] #[]] [osl base cap 203 3 (P.map ptC)] (fun v t=>∃ k:Nat,k<=P.length/\(∀ q∈P.take k,q.hop<y)/\(∀ q∈P.drop k,y<=q.hop)/\v=.tuple #[.int .i64 (k:Int),.bool ((P[k]?.map fun p=>decide (p.hop=y)).getD false)]/\t=[osl base cap 203 3 (P.map ptC)]):=by
 have hlen:=h.len;refine Does.of 49 inferInstance rfl (by decide) rfl ?_
 refine zB ?_;refine loop (ι:=Nat×Nat) (fun z=>z.2-z.1) (fun z=>z.1<=z.2/\z.2<=P.length/\(∀ q∈P.take z.1,q.hop<y)/\(∀ q∈P.drop z.2,y<=q.hop)) (fun z=>[(0,.slice base P.length cap),(1,.int .i64 y),(2,.func (.func 225) #[] #[]),(6,.int .i64 0),(7,.bool false),(8,.int .i64 (P.length:Int)),(9,.int .i64 (z.1:Int)),(10,.int .i64 (z.2:Int))]) (fun _=>[osl base cap 203 3 (P.map ptC)]) (0,P.length) ⟨by simp,by simp,by simp,by simp⟩ ?_
 rintro ⟨i,j⟩ ⟨h1,h2,h3,h4⟩ ih;(try dsimp only at h1 h2 h3 h4 ih ⊢);rcases Nat.lt_or_ge i j with hi|hi
 ·refine zB ?_;refine yes ?_ rfl (decide_eq_true (by omega))
  have hm:=zBn (i:=i) (j:=j) (by omega)
  refine zB ?_;rw [hm];obtain ⟨mid,hmid⟩:∃ mid,mid=(i+j) / 2:=⟨_,rfl⟩;rw [<-hmid];obtain ⟨p,hp⟩:∃ p,P[mid]?=some p:=⟨P[mid]'(by omega),List.getElem?_eq_getElem (by omega)⟩
  have hx:P[(mid:Int).toNat]?=some p:=by rw [Int.toNat_natCast];exact hp
  refine zB ?_;refine call (zCT p y) ?_;rintro _ _ ⟨c,hc1,hc2,rfl,rfl⟩;refine zB ?_;by_cases hc:p.hop<y
  ·refine yes ?_ rfl (decide_eq_true (by omega))
   refine zB ?_;exact next (ih (mid+1,j) ⟨by show mid+1<=j;omega,h2,zNc h.up hp hc,h4⟩ (by show j-(mid+1)<j-i;omega))
  ·refine no ?_ rfl (decide_eq_false (by omega))
   refine zB ?_;exact next (ih (i,mid) ⟨by show i<=mid;omega,by show mid<=_;omega,h3,zNK h.up hp (by omega)⟩ (by show mid-i<j-i;omega))
 ·have:i=j:=by omega
  subst this;refine zB ?_;refine no ?_ rfl (decide_eq_false (by omega))
  refine zB ?_;rcases Nat.lt_or_ge i P.length with hl|hl
  ·obtain ⟨p,hp⟩:∃ p,P[i]?=some p:=⟨P[i],List.getElem?_eq_getElem hl⟩;have hx:P[(i:Int).toNat]?=some p:=by rw [Int.toNat_natCast];exact hp
   have ht:decide ((i:Int)<(P.length:Int))=true:=decide_eq_true (by omega)
   refine andc (hF:=fun hh _=>absurd (ht.symm.trans hh) (by decide)) (y:=decide (p.hop=y)) (fun _ gk=>?_) ?_
   ·refine zB ?_;refine call (zCT p y) ?_;rintro _ _ ⟨c,hc1,hc2,rfl,rfl⟩;have e:decide (c=0)=decide (p.hop=y):=by by_cases hc:c=0 <;> simp [hc,<-hc2]
    rw [<-e] at gk;exact YD
   refine zB ?_;refine ret ?_;exact ends ⟨i,h2,h3,h4,by rw [hp,ht];simp [pack],rfl⟩
  ·have ht:decide ((i:Int)<(P.length:Int))=false:=decide_eq_false (by omega)
   refine zB ?_;refine ret ?_;exact ends ⟨i,h2,h3,h4,by rw [List.getElem?_eq_none (by omega)];rfl,rfl⟩
end Go.Proofs.YtjcbjclhagobiaaGreat
end
section
namespace Go.Proofs.YtjcbjclhagobiaaGreat
set_option maxHeartbeats 1600000
open Go Go.KL Go.KM
variable {E:Env} {X:Xs}
set_option maxRecDepth 100000
theorem zJa (bb off n1 cap1 b2 off2 n2 cap2 nn:Nat) (c:List Value) (T1 T2:TypeId) (es:List (List Value)):DoesG PR E X 286 [.slice (some ⟨b2,off2,none⟩) n2 nn,.slice (some ⟨bb,off,none⟩) n1 cap1] [box bb c T1,osl (some ⟨b2,0,none⟩) cap2 T2 3 es] (fun v t=>v=.bool false/\t=[box bb c T1,osl (some ⟨b2,0,none⟩) cap2 T2 3 es]):=by
 refine DoesG.extern (fnc:=Go.Proofs.Tryz.f286) (by kernel_rfl) rfl (by kernel_rfl) (by kernel_rfl) (by kernel_rfl) (e:=Extern.SlicesOverlaps.overlaps #[67,67] #[4]) ?_
 exact T.overlaps (t:=67) inferInstance inferInstance
structure Seg (c:List Value) (o:Nat) (l:List Value):Prop where
 h:∀ j v,l[j]?=some v->c[o+j]?=some v
theorem Seg.here {c:List Value} {o:Nat} {l:List Value} (hb:o+l.length<=c.length):Seg (lay c o l) o l:=⟨fun j v hj=>by
 have hjl:=(List.getElem?_eq_some_iff.1 hj).1;rw [zFD hb (by omega) (by omega),show o+j-o=j by omega];exact hj⟩
theorem Seg.there {c:List Value} {o o':Nat} {l l':List Value} (h:Seg c o l) (hb:o'+l'.length<=c.length) (hd:o+l.length<=o'∨o'+l'.length<=o):Seg (lay c o' l') o l:=⟨fun j v hj=>by
 have hjl:=(List.getElem?_eq_some_iff.1 hj).1;rw [Xr hb (by omega)];exact h.h j v hj⟩
theorem Seg.app {c:List Value} {o o':Nat} {a b:List Value} (h:Seg c o a) (g:Seg c o' b) (e:o'=o+a.length):Seg c o (a++b):=⟨fun j v hj=>by
 rcases Nat.lt_or_ge j a.length with hl|hl
 ·rw [List.getElem?_append_left hl] at hj;exact h.h j v hj
 ·rw [List.getElem?_append_right hl] at hj;have:=g.h _ v hj
  rw [e,show o+a.length+(j-a.length)=o+j by omega] at this;exact this⟩
theorem Seg.left {c:List Value} {o:Nat} {a b:List Value} (h:Seg c o (a++b)):Seg c o a:=⟨fun j v hj=>h.h j v (by rw [List.getElem?_append_left (List.getElem?_eq_some_iff.1 hj).1];exact hj)⟩
theorem Seg.right {c:List Value} {o:Nat} {a b:List Value} (h:Seg c o (a++b)):Seg c (o+a.length) b:=⟨fun j v hj=>by
 have:=h.h (a.length+j) v (by rw [List.getElem?_append_right (by omega),Nat.add_sub_cancel_left];exact hj)
 rw [show o+a.length+j=o+(a.length+j) by omega];exact this⟩
theorem Seg.take {c:List Value} {o n:Nat} {l:List Value} (h:Seg c o l) (hn:l.length=n):(c.drop o).take n=l:=by
 subst hn;apply List.ext_getElem?;intro j;rcases Nat.lt_or_ge j l.length with hl|hl
 ·rw [List.getElem?_take_of_lt hl,List.getElem?_drop];obtain ⟨v,hv⟩:∃ v,l[j]?=some v:=⟨_,List.getElem?_eq_getElem hl⟩;rw [hv];exact h.h j v hv
 ·rw [List.getElem?_eq_none (by simp;omega),List.getElem?_eq_none hl]
theorem zAo (l:List PtE):(l.map ptC).flatten.length=l.length*3:=by rw [(zLM l).flat,List.length_map]
theorem zAY {bb off cap lo sz:Nat} (h:lo<cap):slB (some ⟨bb,off,none⟩) cap lo sz=some ⟨bb,off+lo*sz,none⟩:=by
 unfold slB;rw [if_neg (by omega)];simp only [Option.map_some];rw [Qw]
set_option maxHeartbeats 1000000 in
theorem Qt (base:Option Addr) (cap:Nat) (P:List PtE) (hl:P.length<=100000) (i:Nat) (hi:i<=P.length) (bv:Nat) (e:PtE):Does PR E X 227 [.slice base P.length cap,.int .i64 (i:Int),.slice (some ⟨bv,0,none⟩) 1 1] [osl base cap 203 3 (P.map ptC),osl (some ⟨bv,0,none⟩) 1 203 3 [ptC e]] (fun v t=>∃ b' c',v=.slice b' (P.length+1) c'/\t=[osl b' c' 203 3 ((P.take i++e::P.drop i).map ptC)]):=by
 refine Does.of 95 inferInstance rfl (by decide) rfl ?_
 refine zMn base fun hcap=>?_;simp only [List.length_map] at hcap;refine zB ?_;refine no ?_ rfl rfl;refine zB ?_;by_cases h1:i=P.length
 ·subst h1;refine yes ?_ rfl (decide_eq_true rfl);refine zB ?_;refine xM fun b' c'=>?_;refine zB ?_;refine ret ?_;rw [List.take_of_length_le (Nat.le_refl _),List.drop_of_length_le (Nat.le_refl _),List.map_append];exact ends ⟨b',c',rfl,rfl⟩
 ·refine no ?_ rfl (decide_eq_false (by omega))
  refine zB ?_;by_cases hc:cap<P.length+1
  ·have hce:cap=P.length:=by omega
   refine yes ?_ rfl (decide_eq_true (by omega))
   refine xE base ?_;refine xE (some ⟨bv,0,none⟩) ?_;refine into (Jq base (cap:=cap) (sz:=3) (es:=P.map ptC) i (P.length-i) (es':=(P.drop i).map ptC) (by omega) (by rw [<-List.map_drop,List.take_of_length_le (by simp)])) ?_
   refine zB ?_;have ei:((i:Nat):Int).toNat=i:=rfl;rw [zHn,Nat.sub_zero cap,ei,Nat.sub_zero i];refine zKg (N:=P.length) (m:=P.length+1-i) (es:=P.map ptC) (fun b' c'=>?_) ?_ ?_ ?_ ?_ ?_ ?_ ?_
   ·rw [show i+(P.length+1-i)=P.length+1 by omega]
    refine zHN b' fun hc'=>?_;rw [show ((P.map ptC).take i++List.replicate (P.length+1-i) [Value.int .i64 0,.int .u64 0,.int .u64 0]).length=P.length+1 by simp;omega] at hc'
    refine Xb b' (cap:=c') (by omega) fun bb off c hb q1 q2 q3 q4=>?_
    subst hb;rw [List.flatten_append] at q4;have s0:Seg c off ((P.take i).map ptC).flatten:=by have:=(Seg.mk q4).left;rw [<-List.map_take] at this;exact this
    refine zB ?_;rw [ei,zAY (show i<c' by omega)]
    refine zOG (es2:=[ptC e]) ?_ ?hr
    case hr=>rw [show min 1 (P.length+1-i)=1 by omega];omega
    have hf1:((P.take i).map ptC).flatten.length=i*3:=by rw [zAo,List.length_take];congr 1;omega
    have hf2:((P.drop i).map ptC).flatten.length=(P.length-i)*3:=by rw [zAo,List.length_drop]
    have hpe:(ptC e).length=3:=rfl;have e1:(List.take (min 1 (P.length+1-i)) [ptC e]).flatten=ptC e:=by rw [show min 1 (P.length+1-i)=1 by omega];simp
    rw [e1];have s1:=s0.there (l':=ptC e) (o':=off+i*3) (by omega) (.inl (by omega))
    have s1':Seg (lay c (off+i*3) (ptC e)) (off+i*3) (ptC e):=Seg.here (by omega)
    have hl1:(lay c (off+i*3) (ptC e)).length=c.length:=zG _ _ _;generalize lay c (off+i*3) (ptC e)=c1 at s1 s1' hl1 ⊢;refine zB ?_;have ei1:((i:Int)+((1:Nat):Int)).toNat=i+1:=by omega
    refine draw [0,0,0,6,15,0,0,96,255] [8] [4,7] [0,1,2,3,4,5,6,7,8] ?_;refine zC ?_;rw [ei,ei1,zAY (show i+1<c' by omega)]
    refine zJi (es2:=(P.drop i).map ptC) ?_ ?hr2 (hn2:=by rw [List.length_map,List.length_drop])
    case hr2=>rw [show min (P.length-i) (P.length+1-(i+1))=P.length-i by omega];omega
    refine ddA ?_;have e2:(List.take (min (P.length-i) (P.length+1-(i+1))) ((P.drop i).map ptC)).flatten=((P.drop i).map ptC).flatten:=by rw [List.take_of_length_le (by simp <;> omega)]
    rw [e2];have t1:=s1.there (l':=((P.drop i).map ptC).flatten) (o':=off+(i+1)*3) (by omega) (.inl (by omega))
    have t2:=s1'.there (l':=((P.drop i).map ptC).flatten) (o':=off+(i+1)*3) (by omega) (.inl (by omega))
    have t3:Seg (lay c1 (off+(i+1)*3) ((P.drop i).map ptC).flatten) (off+(i+1)*3) ((P.drop i).map ptC).flatten:=Seg.here (by omega)
    have hl2:(lay c1 (off+(i+1)*3) ((P.drop i).map ptC).flatten).length=c.length:=by rw [zG];exact hl1
    generalize lay c1 (off+(i+1)*3) ((P.drop i).map ptC).flatten=c2 at t1 t2 t3 hl2 ⊢;have tt:=t1.app (t2.app t3 (by omega)) (by omega)
    have hfl:((P.take i++e::P.drop i).map ptC).flatten=((P.take i).map ptC).flatten++(ptC e++((P.drop i).map ptC).flatten):=by simp
    refine into (Into.box (es:=(P.take i++e::P.drop i).map ptC) (off:=off) (cap:=c') (sz:=3) .here (zLM _) (by simp;omega) (by rw [hl2];exact q3) (by rw [hfl];exact tt.h)) ?_
    refine ret ?_;exact ends ⟨_,_,rfl,rfl⟩
   ·omega
   ·exact hi
   ·omega
   ·omega
   ·intro v hv;simp only [List.mem_cons,List.not_mem_nil,or_false] at hv;rcases hv with rfl|rfl|rfl <;> rfl
   ·decide
   ·omega
  ·refine no ?_ rfl (decide_eq_false (by omega))
   refine zDj base (cap:=cap) (by omega) fun bb off c hb q1 q2 q3 q4=>?_
   subst hb;refine zB ?_;have ei:((i:Nat):Int).toNat=i:=rfl;have ei1:((i:Int)+((1:Nat):Int)).toNat=i+1:=by omega
   have en1:((P.length:Int)+((1:Nat):Int)).toNat=P.length+1:=by omega
   rw [zHn,Nat.sub_zero cap,ei1,en1,Nat.sub_zero (P.length+1),zAY (show i+1<cap by omega)]
   refine zNP (zJa bb (off+(i+1)*3) (P.length+1-(i+1)) (cap-(i+1)) bv 0 1 1 1 c 203 203 [ptC e]) ?_;rintro _ _ ⟨rfl,rfl⟩;refine zB ?_;refine yes ?_ rfl rfl;have hqf:(P.map ptC).flatten=((P.take i).map ptC).flatten++((P.drop i).map ptC).flatten:=by rw [<-List.flatten_append,<-List.map_append,List.take_append_drop]
   rw [hqf] at q4;have s0:=(Seg.mk q4).left;have s1:=(Seg.mk q4).right;have hf1:((P.take i).map ptC).flatten.length=i*3:=by rw [zAo,List.length_take];congr 1;omega
   have hf2:((P.drop i).map ptC).flatten.length=(P.length-i)*3:=by rw [zAo,List.length_drop]
   have hpe:(ptC e).length=3:=rfl;rw [hf1] at s1;have hm:min (P.length-i) (P.length+1-(i+1))=P.length-i:=by omega
   refine zB ?_;refine draw [0,0,0,6,15,0,0,96,255] [8] [4,7] [0,1,2,3,4,5,6,7,8] ?_;refine zC ?_;rw [ei,ei1,zAY (show i+1<cap by omega),zAY (show i<cap by omega)]
   have e0:(c.drop (off+i*3)).take (min (P.length+1-i) (P.length+1-(i+1))*3)=((P.drop i).map ptC).flatten:=by
    rw [show min (P.length+1-i) (P.length+1-(i+1))=P.length-i by omega]
    exact s1.take hf2
   refine zN5 ?_ ?h1 ?h2 ?h3
   case h1=>omega
   case h2=>omega
   case h3=>
    rw [e0];exact (zLM _).flatOne
   rw [e0];refine ddA ?_;have t1:=s0.there (l':=((P.drop i).map ptC).flatten) (o':=off+(i+1)*3) (by omega) (.inl (by omega))
   have t3:Seg (lay c (off+(i+1)*3) ((P.drop i).map ptC).flatten) (off+(i+1)*3) ((P.drop i).map ptC).flatten:=Seg.here (by omega)
   have hl2:(lay c (off+(i+1)*3) ((P.drop i).map ptC).flatten).length=c.length:=zG _ _ _;generalize lay c (off+(i+1)*3) ((P.drop i).map ptC).flatten=c2 at t1 t3 hl2 ⊢;rw [ei,zAY (show i<cap by omega)]
   refine zOK (es2:=[ptC e]) ?_ ?hr
   case hr=>rw [show min 1 (P.length+1-i)=1 by omega];omega
   have e1:(List.take (min 1 (P.length+1-i)) [ptC e]).flatten=ptC e:=by rw [show min 1 (P.length+1-i)=1 by omega];simp
   rw [e1];refine zB ?_;have u1:=t1.there (l':=ptC e) (o':=off+i*3) (by omega) (.inl (by omega))
   have u3:=t3.there (l':=ptC e) (o':=off+i*3) (by omega) (.inr (by omega))
   have u2:Seg (lay c2 (off+i*3) (ptC e)) (off+i*3) (ptC e):=Seg.here (by omega)
   have hl3:(lay c2 (off+i*3) (ptC e)).length=c.length:=by rw [zG];exact hl2
   generalize lay c2 (off+i*3) (ptC e)=c3 at u1 u2 u3 hl3 ⊢;have tt:=u1.app (u2.app u3 (by omega)) (by omega)
   have hfl:((P.take i++e::P.drop i).map ptC).flatten=((P.take i).map ptC).flatten++(ptC e++((P.drop i).map ptC).flatten):=by simp
   refine into (Into.box (es:=(P.take i++e::P.drop i).map ptC) (off:=off) (cap:=cap) (sz:=3) .here (zLM _) (by simp;omega) (by rw [hl3];exact q3) (by rw [hfl];exact tt.h)) ?_
   refine ret ?_;exact ends ⟨_,_,rfl,rfl⟩
end Go.Proofs.YtjcbjclhagobiaaGreat
end
