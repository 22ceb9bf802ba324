/- Texts joined by a program of ours: Km Kn Ko Kp Kv Kw. -/
import Derived.Test.YtjcbjclhagobiaaGreatJab
import Derived.Laws.Strings
set_option linter.all false
section
namespace Go.KL
open Go
structure ElOk (sz:Nat) (es:List (List Value)):Prop where
 len:∀ e∈es,e.length=sz
 one:∀ e∈es,∀ v∈e,Jy v=true
theorem zBP {sz:Nat}:∀ {es:List (List Value)},(∀ e∈es,e.length=sz)->es.flatten.length=es.length*sz
 | [],_=>by simp
 | e::es,h=>by
  simp only [List.flatten_cons,List.length_append,List.length_cons];rw [h e (by simp),zBP (es:=es) (fun x hx=>h x (by simp [hx])),Nat.add_mul];omega
theorem ElOk.flat {sz:Nat} {es:List (List Value)} (h:ElOk sz es):es.flatten.length=es.length*sz:=zBP h.len
theorem zJY {sz o:Nat} {e:List Value} {v:Value} (h2:e[o]?=some v):∀ {es:List (List Value)} {i:Nat},(∀ e∈es,e.length=sz)->es[i]?=some e->es.flatten[i*sz+o]?=some v
 | [],_,_,h1=>by simp at h1
 | a::es,i,h,h1=>by
  have ha:a.length=sz:=h a (by simp)
  rw [List.flatten_cons];cases i with
  | zero=>
   simp at h1;subst h1;simp only [Nat.zero_mul,Nat.zero_add];rw [List.getElem?_append_left]
   ·exact h2
   ·rw [List.getElem?_eq_some_iff] at h2;exact h2.1
  | succ i=>
   have:=zJY h2 (es:=es) (i:=i) (fun x hx=>h x (by simp [hx])) (by simpa using h1)
   rw [List.getElem?_append_right (by rw [Nat.add_mul];omega),show (i+1)*sz+o-a.length=i*sz+o by rw [ha,Nat.add_mul];omega]
   exact this
theorem ElOk.at {sz:Nat} {es:List (List Value)} (h:ElOk sz es) {i o:Nat} {e:List Value} {v:Value} (h1:es[i]?=some e) (h2:e[o]?=some v):es.flatten[i*sz+o]?=some v:=zJY h2 h.len h1
theorem ElOk.sub {sz:Nat} {es es':List (List Value)} (h:ElOk sz es) (hs:∀ e∈es',e∈es):ElOk sz es':=⟨fun e he=>h.len e (hs e he),fun e he=>h.one e (hs e he)⟩
theorem ElOk.append {sz:Nat} {es es':List (List Value)} (h:ElOk sz es) (h':ElOk sz es'):ElOk sz (es++es'):=
 ⟨fun e he=>(List.mem_append.1 he).elim (h.len e) (h'.len e),fun e he=>(List.mem_append.1 he).elim (h.one e) (h'.one e)⟩
theorem ElOk.flatOne {sz:Nat} {es:List (List Value)} (h:ElOk sz es):∀ v∈es.flatten,Jy v=true:=by
 intro v hv;obtain ⟨e,he,hv⟩:=List.mem_flatten.1 hv;exact h.one e he v hv
def osl (base:Option Addr) (cap:Nat) (T:TypeId) (sz:Nat) (es:List (List Value)):HP:=
 ⟨fun _ f=>ElOk sz es/\es.length<=cap/\(base=none->cap=0)/\∀ a,base=some a->a.spot=none/\∃ c:List Value,f a.block=some (.cells c.toArray T (0,0))/\a.off+cap*sz<=c.length/\∀ j v,es.flatten[j]?=some v->c[a.off+j]?=some v,fun _ h=>h⟩
def rsl (base:Option Addr) (cap sz:Nat) (es:List (List Value)):HP:=
 ro (fun r=>ElOk sz es/\es.length<=cap/\(base=none->cap=0)/\∀ a,base=some a->∀ j v,es.flatten[j]?=some v->r.cell (a.add j)=some v) fun h ⟨g1,g2,g3,g4⟩=>⟨g1,g2,g3,fun a ha j v e=>h.cell (g4 a ha j v e)⟩
instance {base:Option Addr} {cap sz:Nat} {es:List (List Value)}:(rsl base cap sz es).Dup:=⟨fun h=>h⟩
def zA:Addr:=⟨0,0,none⟩
@[irreducible] def eltA (base:Option Addr) (i sz o:Nat):Addr:=(base.getD zA).add (i*sz+o)
theorem zEc (a:Addr) (i j:Nat):(a.add i).add j=a.add (i+j):=by
 unfold Addr.add;by_cases h:i=0 <;> by_cases k:j=0 <;> simp_all <;> omega
theorem zEM {a:Addr} (h:a.spot=none) (n:Nat):a.add n=⟨a.block,a.off+n,none⟩:=by
 obtain ⟨b,o,s⟩:=a;simp at h;subst h;exact Xl b o n
theorem Qh {base:Option Addr} {i sz o j:Nat}:(eltA base i sz o).add j=eltA base i sz (o+j):=by
 unfold eltA;rw [zEc,Nat.add_assoc]
theorem zBR {base:Option Addr} {cap:Nat} {T:TypeId} {sz:Nat} {es:List (List Value)} {r f:Hp} (h:(osl base cap T sz es).p r f) (hn:0<es.length):∃ a,base=some a/\a.spot=none:=by
 obtain ⟨_,h2,h3,h4⟩:=h;cases base with
 | none=>have:=h3 rfl;omega
 | some a=>exact ⟨a,rfl,(h4 a rfl).1⟩
theorem zFE {base:Option Addr} {cap:Nat} {sz:Nat} {es:List (List Value)} {r f:Hp} (h:(rsl base cap sz es).p r f) (hn:0<es.length):∃ a,base=some a:=by
 obtain ⟨_,h2,h3,h4⟩:=h;cases base with
 | none=>have:=h3 rfl;omega
 | some a=>exact ⟨a,rfl⟩
theorem zE0 {α:Type} {l:List α} {i:Nat} {x:α} (h:l[i]?=some x):0<l.length:=by
 cases l with
 | nil=>simp at h
 | cons=>simp
theorem zIH {base:Option Addr} {cap:Nat} {T:TypeId} {sz i o:Nat} {es:List (List Value)} {e:List Value} {v:Value} (h1:es[i]?=some e) (h2:e[o]?=some v):Has (osl base cap T sz es) (eltA base i sz o) v:=by
 intro r f h;left
 obtain ⟨a,rfl,hsp⟩:=zBR h (zE0 h1);obtain ⟨k1,k2,k3,k4⟩:=h;obtain ⟨_,c,hc,hl,hv⟩:=k4 a rfl;have:=hv _ _ (k1.at h1 h2)
 unfold eltA;simp only [Option.getD_some];rw [zEM hsp];simp [Hp.cell,hc,this]
theorem zHz {base:Option Addr} {cap:Nat} {sz i o:Nat} {es:List (List Value)} {e:List Value} {v:Value} (h1:es[i]?=some e) (h2:e[o]?=some v):Has (rsl base cap sz es) (eltA base i sz o) v:=by
 intro r f h;right
 obtain ⟨a,rfl⟩:=zFE h (zE0 h1);obtain ⟨k1,k2,k3,k4⟩:=h;unfold eltA;exact k4 a rfl _ _ (k1.at h1 h2)
section
variable {P:Program} {E:Env} {X:Xs} {b:Fx} {Post:Value->List HP->Prop} {k:List Item} {L:Tm} {s:List HP} {d:Nat} {dst:Option Nat} {ty:TypeId} {pos:String} {af:Array Edge} {gd:Option (Nat×Bool)}
theorem T.pre {α:Type} {m:Sem α} {A:List HP} {Q:α->List HP->Prop} {p:Prop} (h:∀ r f,sep A r f->p) (g:p->T P E m A Q):T P E m A Q:=by
 intro w r f F es hs hA;obtain ⟨f1,f2,d,l1,l2,h1,h2⟩:=zD.1 hA;exact g (h _ _ h1) w r f F es hs hA
theorem T.conv {α:Type} {m:Sem α} {A A0:List HP} {Q R:α->List HP->Prop} (h:T P E m A0 Q) (h0:∀ r f,sep A r f->sep A0 r f) (g:∀ a A',Q a A'->∃ A'',(∀ r f,sep A' r f->sep A'' r f)/\R a A''):T P E m A R:=by
 intro w r f F es hs hA;obtain ⟨f1,f2,d,l1,l2,h1,h2⟩:=zD.1 hA;obtain ⟨a,w1,es1,r1,f1',A1,e1,k1,q1,s1⟩:=h w r f F es hs (zD.2 ⟨f1,f2,d,l1,l2,h0 _ _ h1,h2⟩);obtain ⟨A'',i1,i2⟩:=g a A1 q1;obtain ⟨f1,f2,d,l1,l2,h1,h2⟩:=zD.1 s1;exact ⟨a,w1,es1,r1,f1',A'',e1,k1,i2,zD.2 ⟨f1,f2,d,l1,l2,i1 _ _ h1,h2⟩⟩
theorem Sel.pure {s F:List HP} {A:HP} {p:Prop} (hs:Sel s A F) (h:∀ r f,A.p r f->p):∀ r f,sep s r f->p:=fun r f hx=>by
 obtain ⟨f1,f2,d,l1,l2,a,_⟩:=hs.out hx;exact h _ _ a
theorem zI9 {t e:TypeId} {agg:Bool} {sz:Nat} {z:List Value} {x y:Operand} {base:Option Addr} {n cap:Nat} {kk:IntKind} {i:Int} (h:TyU P t (.slice e)) (he:TyN P e agg sz z) (hx:ev L x=some (.slice base n cap)) (hy:ev L y=some (.int kk i)) (hb:∀ r f,sep s r f->0<n->∃ a,base=some a) (h0:0<=i) (h1:i<n) :
  Lt P E L s ⟨dst,.indexAddr t x y,ty,pos,af,gd⟩ (.pointer (some (eltA base i.toNat sz 0))):=
 Lt.of rfl (fun e' he'=>by
  refine T.pre (fun r f hs=>hb r f hs (by omega)) ?_
  rintro ⟨a,rfl⟩;unfold execOp;simp only [he' _ _ hx,he' _ _ hy];refine T.calm ((Calm.indexSlice h he h0 h1).bind (Calm.pure _)) ⟨?_,rfl⟩;simp [eltA])
theorem zKw {t e T:TypeId} {agg:Bool} {sz:Nat} {z:List Value} {x y:Operand} {base:Option Addr} {n cap:Nat} {kk:IntKind} {i:Int} {es:List (List Value)} {F:List HP} (h:TyU P t (.slice e)) (he:TyN P e agg sz z) (hx:ev L x=some (.slice base n cap)) (hy:ev L y=some (.int kk i)) (hs:Sel s (osl base cap T sz es) F) (hn:es.length=n) (h0:0<=i) (h1:i<n) :
  Lt P E L s ⟨dst,.indexAddr t x y,ty,pos,af,gd⟩ (.pointer (some (eltA base i.toNat sz 0))):=
 zI9 h he hx hy (hs.pure fun r f hp hpos=>by obtain ⟨a,h1,_⟩:=zBR hp (by rw [hn];exact hpos);exact ⟨a,h1⟩) h0 h1
theorem zKy {t e:TypeId} {agg:Bool} {sz:Nat} {z:List Value} {x y:Operand} {base:Option Addr} {n cap:Nat} {kk:IntKind} {i:Int} {es:List (List Value)} {F:List HP} (h:TyU P t (.slice e)) (he:TyN P e agg sz z) (hx:ev L x=some (.slice base n cap)) (hy:ev L y=some (.int kk i)) (hs:Sel s (rsl base cap sz es) F) (hn:es.length=n) (h0:0<=i) (h1:i<n) :
  Lt P E L s ⟨dst,.indexAddr t x y,ty,pos,af,gd⟩ (.pointer (some (eltA base i.toNat sz 0))):=
 zI9 h he hx hy (hs.pure fun r f hp hpos=>zFE hp (by rw [hn];exact hpos)) h0 h1
theorem zCa {t:TypeId} {x:Operand} {i o:Nat} {ft:TypeId} {base:Option Addr} {j sz off:Nat} (h:TyF P t i o ft) (hx:ev L x=some (.pointer (some (eltA base j sz off)))):Cm P L ⟨dst,.fieldAddr t x i,ty,pos,af,gd⟩ (.pointer (some (eltA base j sz (off+o)))):=by
 rw [<-Qh];exact Xt h hx
theorem JV {t e:TypeId} {agg:Bool} {sz:Nat} {z:List Value} {x y:Operand} {base:Option Addr} {j sj off len:Nat} {kk:IntKind} {i:Int} (h:TyU P t (.array len e)) (he:TyN P e agg sz z) (hx:ev L x=some (.pointer (some (eltA base j sj off)))) (hy:ev L y=some (.int kk i)) (h0:0<=i) (h1:i<len):Cm P L ⟨dst,.indexAddr t x y,ty,pos,af,gd⟩ (.pointer (some (eltA base j sj (off+i.toNat*sz)))):=by
 rw [<-Qh];exact VF h he hx hy h0 h1
theorem zBC {t:TypeId} {z:List Value} {x:Operand} {a:Addr} {A:HP} {v:Value} {F:List HP} (h:TyN P t false 1 z) (hx:ev L x=some (.pointer (some a))) (hs:Sel s A F) (hv:Has A a v):Lt P E L s ⟨dst,.load t x,ty,pos,af,gd⟩ v:=
 Lt.of rfl (fun e' he=>by
  unfold execOp;simp only [he _ _ hx];refine T.bind (Q:=fun x B=>x=v/\B=s) (T.calmBind (Calm.pure _) (T.sel hs (T.loadVar1 h hv))) ?_;rintro x B ⟨hx',hB⟩;exact T.calm (Calm.pure _) ⟨by rw [hx'],hB⟩)
theorem zBf {t:TypeId} {sz:Nat} {z:List Value} {x:Operand} {a:Addr} {A:HP} {cs:List Value} {F:List HP} (h:TyN P t true sz z) (hx:ev L x=some (.pointer (some a))) (hs:Sel s A F) (hn:cs.length=sz) (hv:∀ j v,cs[j]?=some v->Has A (a.add j) v):Lt P E L s ⟨dst,.load t x,ty,pos,af,gd⟩ (.agg cs.toArray):=by
 refine Lt.of rfl (fun e' he=>?_);unfold execOp;simp only [he _ _ hx];refine T.bind (Q:=fun x B=>x=.agg cs.toArray/\B=s) (T.calmBind (Calm.pure _) (T.sel hs (T.loadVarN h hn hv))) ?_;rintro x B ⟨hx',hB⟩;exact T.calm (Calm.pure _) ⟨by rw [hx'],hB⟩
theorem zK5 {t T:TypeId} {z:List Value} {x:Operand} {base:Option Addr} {cap i sz o:Nat} {es:List (List Value)} {e:List Value} {v:Value} {F:List HP} (h:TyN P t false 1 z) (hx:ev L x=some (.pointer (some (eltA base i sz o)))) (hs:Sel s (osl base cap T sz es) F) (he:es[i]?=some e) (hv:e[o]?=some v):Lt P E L s ⟨dst,.load t x,ty,pos,af,gd⟩ v:=zBC h hx hs (zIH he hv)
theorem zK3 {t:TypeId} {z:List Value} {x:Operand} {base:Option Addr} {cap i sz o:Nat} {es:List (List Value)} {e:List Value} {v:Value} {F:List HP} (h:TyN P t false 1 z) (hx:ev L x=some (.pointer (some (eltA base i sz o)))) (hs:Sel s (rsl base cap sz es) F) (he:es[i]?=some e) (hv:e[o]?=some v):Lt P E L s ⟨dst,.load t x,ty,pos,af,gd⟩ v:=zBC h hx hs (zHz he hv)
theorem zLB {t T:TypeId} {z:List Value} {x:Operand} {base:Option Addr} {cap i sz o n:Nat} {es:List (List Value)} {e cs:List Value} {F:List HP} (h:TyN P t true n z) (hx:ev L x=some (.pointer (some (eltA base i sz o)))) (hs:Sel s (osl base cap T sz es) F) (he:es[i]?=some e) (hv:zLn e o n=some cs):Lt P E L s ⟨dst,.load t x,ty,pos,af,gd⟩ (.agg cs.toArray):=by
 obtain ⟨h1,h2⟩:=YC hv;exact zBf h hx hs h1 fun j v hj=>by rw [Qh];exact zIH he (h2 j v hj)
theorem zK7 {t:TypeId} {z:List Value} {x:Operand} {base:Option Addr} {cap i sz o n:Nat} {es:List (List Value)} {e cs:List Value} {F:List HP} (h:TyN P t true n z) (hx:ev L x=some (.pointer (some (eltA base i sz o)))) (hs:Sel s (rsl base cap sz es) F) (he:es[i]?=some e) (hv:zLn e o n=some cs):Lt P E L s ⟨dst,.load t x,ty,pos,af,gd⟩ (.agg cs.toArray):=by
 obtain ⟨h1,h2⟩:=YC hv;exact zBf h hx hs h1 fun j v hj=>by rw [Qh];exact zHz he (h2 j v hj)
theorem ZF:∀ (vs c:List Value) (off j:Nat),off+vs.length<=c.length->(lay c off vs)[j]?=if off<=j/\j<off+vs.length then vs[j-off]? else c[j]?
 | [],c,off,j,_=>by simp [lay];omega
 | v::vs,c,off,j,h=>by
  simp only [List.length_cons] at h;rw [lay,ZF vs (c.set off v) (off+1) j (by simp;omega)]
  by_cases h1:j=off
  ·subst h1;have:¬ (j+1<=j/\j<j+1+vs.length):=by omega
   simp only [this,if_false];have h2:j<=j/\j<j+(vs.length+1):=by omega
   simp only [List.length_cons,h2,if_true,Nat.sub_self];have:j<c.length:=by omega
   simp [this]
  ·by_cases h2:off+1<=j/\j<off+1+vs.length
   ·have h3:off<=j/\j<off+(vs.length+1):=by omega
    simp only [h2,h3,List.length_cons,if_true,and_self];rw [show j-off=(j-(off+1))+1 by omega];simp
   ·have h3:¬ (off<=j/\j<off+(vs.length+1)):=by omega
    simp only [h2,h3,List.length_cons,if_false];rw [List.getElem?_set];simp [Ne.symm h1]
theorem zFJ {sz:Nat}:∀ {es:List (List Value)} {i o:Nat} {e vs:List Value},ElOk sz es->es[i]?=some e->o+vs.length<=sz->(es.set i (lay e o vs)).flatten=lay es.flatten (i*sz+o) vs
 | [],_,_,_,_,_,h,_=>by simp at h
 | a::es,i,o,e,vs,hk,h,hl=>by
  have ha:a.length=sz:=hk.len a (by simp)
  have hk':ElOk sz es:=hk.sub fun e he=>by simp [he]
  have hf:=hk'.flat;apply List.ext_getElem?;intro j;cases i with
  | zero=>
   simp at h;subst h;rw [List.set_cons_zero,List.flatten_cons,List.flatten_cons,ZF _ _ _ _ (by simp;omega)]
   by_cases hj:j<sz
   ·rw [List.getElem?_append_left (by rw [zG];omega),ZF _ _ _ _ (by omega)]
    simp only [Nat.zero_mul,Nat.zero_add];split
    ·rfl
    ·rw [List.getElem?_append_left (by omega)]
   ·rw [List.getElem?_append_right (by rw [zG];omega),zG]
    have:¬ (0*sz+o<=j/\j<0*sz+o+vs.length):=by omega
    simp only [this,if_false];rw [List.getElem?_append_right (by omega)]
  | succ i=>
   have ih:=zFJ (i:=i) (o:=o) (e:=e) (vs:=vs) hk' (by simpa using h) hl
   rw [List.set_cons_succ,List.flatten_cons,List.flatten_cons,ih];have hil:i<es.length:=by
    have:es[i]?=some e:=by simpa using h
    rw [List.getElem?_eq_some_iff] at this;exact this.1
   have hb:i*sz+sz<=es.length*sz:=by
    have:=Nat.mul_le_mul_right sz (Nat.succ_le_of_lt hil)
    rw [Nat.succ_mul] at this;exact this
   rw [ZF _ _ _ _ (by simp [hf];rw [Nat.add_mul];omega)]
   by_cases hj:j<sz
   ·rw [List.getElem?_append_left (by omega)]
    have:¬ ((i+1)*sz+o<=j/\j<(i+1)*sz+o+vs.length):=by rw [Nat.add_mul];omega
    simp only [this,if_false];rw [List.getElem?_append_left (by omega)]
   ·rw [List.getElem?_append_right (by omega),ZF _ _ _ _ (by omega)]
    rw [List.getElem?_append_right (l₁:=a) (by omega),ha]
    by_cases c:i*sz+o<=j-sz/\j-sz<i*sz+o+vs.length
    ·have c':(i+1)*sz+o<=j/\j<(i+1)*sz+o+vs.length:=by rw [Nat.add_mul];omega
     simp only [c,c',and_self,if_true];congr 1;rw [Nat.add_mul];omega
    ·have c':¬ ((i+1)*sz+o<=j/\j<(i+1)*sz+o+vs.length):=by rw [Nat.add_mul];omega
     simp only [c,c',if_false]
end
end Go.KL
end
section
namespace Go.KL
open Go
theorem lay_mem {v:Value}:∀ {vs c:List Value} {off:Nat},v∈lay c off vs->v∈c∨v∈vs
 | [],c,off,h=>.inl h
 | a::vs,c,off,h=>by
  rw [lay] at h;rcases lay_mem h with h|h
  ·rcases List.mem_or_eq_of_mem_set h with h|h
   ·exact .inl h
   ·exact .inr (by simp [h])
  ·exact .inr (by simp [h])
theorem ElOk.set {sz:Nat} {es:List (List Value)} (h:ElOk sz es) {i:Nat} {e:List Value} (h1:e.length=sz) (h2:∀ v∈e,Jy v=true):ElOk sz (es.set i e):=
 ⟨fun x hx=>(List.mem_or_eq_of_mem_set hx).elim (h.len x) fun y=>by rw [y,h1],fun x hx=>(List.mem_or_eq_of_mem_set hx).elim (h.one x) fun y=>by rw [y];exact h2⟩
section
variable {P:Program} {E:Env} {X:Xs} {b:Fx} {Post:Value->List HP->Prop} {k:List Item} {L:Tm} {s:List HP} {d:Nat} {dst:Option Nat} {ty:TypeId} {pos:String} {af:Array Edge} {gd:Option (Nat×Bool)}
theorem zF4 {bb off cap sz:Nat} {T:TypeId} {es:List (List Value)} {c:List Value} (h1:ElOk sz es) (h2:es.length<=cap) (h3:off+cap*sz<=c.length) (h4:∀ j v,es.flatten[j]?=some v->c[off+j]?=some v) :
  ∀ r f,sep [box bb c T] r f->sep [osl (some ⟨bb,off,none⟩) cap T sz es] r f:=by
 rintro r f ⟨f1,f2,d,l1,l2,a,k⟩;exact ⟨f1,f2,d,l1,l2,⟨h1,h2,fun e=>(by cases e),fun a' e=>(by cases e;exact ⟨rfl,c,a,h3,h4⟩)⟩,k⟩
theorem T.openO {α:Type} {m:Sem α} {base:Option Addr} {cap sz:Nat} {T0:TypeId} {es:List (List Value)} {Q:α->List HP->Prop} (hne:0<cap)
  (h:∀ bb off c,base=some ⟨bb,off,none⟩->ElOk sz es->es.length<=cap->off+cap*sz<=c.length->(∀ j v,es.flatten[j]?=some v->c[off+j]?=some v)->T P E m [box bb c T0] Q):T P E m [osl base cap T0 sz es] Q:=by
 intro w r f F es' hs hA;obtain ⟨f1,f2,d,l1,l2,⟨k1,k2,k3,k4⟩,hF⟩:=Qz hA;cases base with
 | none=>have:=k3 rfl;omega
 | some a=>
  obtain ⟨k5,c,k6,k7,k8⟩:=k4 a rfl;obtain ⟨bb,off,sp⟩:=a;simp at k5;subst k5;exact h bb off c rfl k1 k2 k7 k8 w r f F es' hs ⟨f1,f2,d,l1,l2,k6,hF⟩
theorem T.storeO {t T0:TypeId} {agg:Bool} {z:List Value} {base:Option Addr} {cap sz i o:Nat} {es:List (List Value)} {e vs:List Value} {v:Value} (h:TyN P t agg vs.length z) (hv:v.cells=vs.toArray) (h1:∀ x∈vs,Jy x=true) (he:es[i]?=some e) (hn:o+vs.length<=sz) :
  T P E (Go.storeVar t (eltA base i sz o) v) [osl base cap T0 sz es] (fun _ B=>B=[osl base cap T0 sz (es.set i (lay e o vs))]):=by
 refine T.pre (p:=0<cap) (fun r f hp=>?_) fun hcap=>T.openO hcap fun bb off c hb k1 k2 k3 k4=>?_
 ·obtain ⟨_,_,_,_,_,⟨_,k2,_⟩,_⟩:=hp;have:=zE0 he;omega
 subst hb;have hil:i<es.length:=by rw [List.getElem?_eq_some_iff] at he;exact he.1
 have hb:i*sz+sz<=cap*sz:=by
  have:=Nat.mul_le_mul_right sz (show i+1<=cap by omega)
  rw [Nat.succ_mul] at this;exact this
 have ea:eltA (some ⟨bb,off,none⟩) i sz o=⟨bb,off+(i*sz+o),none⟩:=by
  unfold eltA;simp only [Option.getD_some];rw [Xl]
 rw [ea];refine T.conv (T.storeVar (T0:=T0) (c:=c) h hv h1 (by omega)) (fun _ _ x=>x) fun a A' e'=>?_
 subst e';have hel:e.length=sz:=k1.len e (List.mem_of_getElem? he);have hfl:=k1.flat;have hb2:i*sz+sz<=es.length*sz:=by
  have:=Nat.mul_le_mul_right sz (show i+1<=es.length by omega)
  rw [Nat.succ_mul] at this;exact this
 refine ⟨_,zF4 (k1.set (by rw [zG,hel]) fun v hv=>(lay_mem hv).elim (k1.one e (List.mem_of_getElem? he) v) (h1 v)) (by simpa using k2) (by rw [zG];exact k3) (fun j v hj=>?_),rfl⟩
 rw [zFJ k1 he hn,ZF _ _ _ _ (by omega)] at hj
 rw [ZF _ _ _ _ (by omega)]
 by_cases c1:i*sz+o<=j/\j<i*sz+o+vs.length
 ·simp only [c1,and_self,if_true] at hj;have:off+(i*sz+o)<=off+j/\off+j<off+(i*sz+o)+vs.length:=by omega
  simp only [this,and_self,if_true];rw [show off+j-(off+(i*sz+o))=j-(i*sz+o) by omega];exact hj
 ·simp only [c1,if_false] at hj;have:¬ (off+(i*sz+o)<=off+j/\off+j<off+(i*sz+o)+vs.length):=by omega
  simp only [this,if_false];exact k4 j v hj
theorem QT {t T0:TypeId} {agg:Bool} {n:Nat} {z:List Value} {x y:Operand} {base:Option Addr} {cap sz i o:Nat} {es:List (List Value)} {e:List Value} {v:Value} {F:List HP} (h:TyN P t agg n z) (hx:ev L x=some (.pointer (some (eltA base i sz o)))) (hy:ev L y=some v) (hs:Sel s (osl base cap T0 sz es) F) (he:es[i]?=some e) (hl:vQ (yG v) n=true) (h1:vH (yG v)=true) (hn:o+n<=sz) :
  Ex P E X b L s ⟨none,.store t x y,ty,pos,af,gd⟩ (fun _ s'=>s'=osl base cap T0 sz (es.set i (lay e o (yG v)))::F):=by
 have hl:=vI hl;subst hl;refine Ex.op rfl (.inr rfl) (fun e' he'=>?_);unfold execOp;simp only [he' _ _ hx,he' _ _ hy];refine T.bind (Q:=fun _ s'=>s'=osl base cap T0 sz (es.set i (lay e o (yG v)))::F) (T.calmBind (Calm.pure _) (T.sels (.cons hs .nil) (T.storeO h (YM v) (ZS h1) he hn) fun a A' e=>by rw [e];rfl)) ?_
 rintro x B hB;exact T.calm (Calm.pure _) ⟨undef,.inr ⟨rfl,rfl⟩,hB⟩
structure Src (A:HP) (base:Option Addr) (n sz:Nat) (es:List (List Value)):Prop where
 ok:∀ r f,A.p r f->ElOk sz es
 len:es.length=n
 nil:∀ r f,A.p r f->base=none->es=[]
 has:∀ a,base=some a->∀ j v,es.flatten[j]?=some v->Has A (a.add j) v
theorem zEX {α:Type} {es:List α} {cap:Nat} (h:es.length<=cap) (h2:cap=0):es=[]:=by
 cases es with
 | nil=>rfl
 | cons=>simp at h;omega
theorem Src.rsl {base:Option Addr} {cap n sz:Nat} {es:List (List Value)} (h:es.length=n):Src (rsl base cap sz es) base n sz es:=
 ⟨fun r f k=>k.1,h,fun r f k e=>zEX k.2.1 (k.2.2.1 e),fun a e j v hj r f k=>.inr (k.2.2.2 a e j v hj)⟩
theorem Src.osl {base:Option Addr} {cap n sz:Nat} {T:TypeId} {es:List (List Value)} (h:es.length=n):Src (osl base cap T sz es) base n sz es:=
 ⟨fun r f k=>k.1,h,fun r f k e=>zEX k.2.1 (k.2.2.1 e),fun a e j v hj r f k=>.inl (by
   obtain ⟨h1,c,h2,h3,h4⟩:=k.2.2.2 a e;rw [zEM h1];simp [Hp.cell,h2,h4 j v hj])⟩
theorem T.firstCells {A:HP} {F:List HP} {base:Option Addr} {n cap sz:Nat} {es:List (List Value)} (hs:Sel s A F) (h:Src A base n sz es) :
  T P E (Builtin.firstCells sz n (.slice base n cap)) s (fun x B=>x=es.flatten.toArray/\B=s):=by
 refine T.pre (p:=ElOk sz es/\(base=none->es=[])) (hs.pure fun r f k=>⟨h.ok r f k,h.nil r f k⟩) ?_;rintro ⟨k1,k2⟩;cases base with
 | none=>rw [k2 rfl];exact T.calm (Calm.pure _) ⟨rfl,rfl⟩
 | some a=>
  unfold Builtin.firstCells;refine T.sel hs (T.cons (T.loadCells (A:=A) (a:=a) (n:=n*sz) (cs:=es.flatten) (by rw [k1.flat,h.len]) (h.has a rfl)) fun x B h=>h)
theorem Xp {zero:Array Value} {n:Nat}:(Builtin.zeroCells zero n).size=n*zero.size:=by simp [Builtin.zeroCells]
theorem Yw {need cap:Nat} (h:cap<need):Builtin.nextslicecap need cap<=2*need+512:=by
 unfold Builtin.nextslicecap;split
 ·omega
 ·split
  ·omega
  ·have key:∀ rounds c,c<=2*need+512->(Builtin.growBy need rounds c)<=2*need+512:=by
    intro rounds;induction rounds with
    | zero=>intro c hc;exact hc
    | succ r ih=>
     intro c hc;unfold Builtin.growBy;split
     ·exact hc
     ·exact ih _ (by omega)
   exact key 4 cap (by omega)
theorem T.chooseQ {q:Question} (hq:q.forced=false):T P E (Go.choose q) [] (fun x B=>(∃ t,x=q.cut t)/\B=[]):=by
 intro w r f F es hs hA;refine ⟨q.cut (w.tape w.drawn q),{ w with drawn:=w.drawn+1 },#[],r,f,[],?_,?_,⟨⟨_,rfl⟩,rfl⟩,hA⟩
 ·show Sem.runT P (.choose q .pure) w es=_;rw [Sem.runT,if_neg (by simp [hq])];simp [Sem.runT,-Sem.runT_eq]
 ·exact ⟨⟨hs.os,hs.out,hs.tape,hs.ro,hs.own,hs.gh,hs.tok,hs.apart⟩,Hp.le_refl _,Nat.le_refl _,fun _ _ _=>rfl,fun _ x y=>absurd y x,fun _ x y=>absurd y x,fun e he=>by simp at he,fun e he=>by simp at he,fun _ h=>h⟩
theorem T.askRoom {n:Nat}:T P E (Go.askRoom n) s (fun _ B=>B=s):=by
 unfold Go.askRoom;split
 ·exact T.ext (T.mark (.inr rfl)) fun a A h=>by rw [h];rfl
 ·exact T.calm (Calm.pure _) rfl
theorem T.append {t1 t2 elem ty':TypeId} {d2:TypeDesc} {agg:Bool} {sz bytes n n2 cap cap2:Nat} {z:List Value} {base base2:Option Addr} {es es2:List (List Value)} {A2:HP}
  (h1:TyU P t1 (.slice elem)) (h2:TyU P t2 d2) (hd:∀ k,d2≠.int k) (he:TyN P elem agg sz z) (hby:TyB P elem bytes) (hn:es.length=n) (hsrc:Src A2 base2 n2 sz es2) (hroom:(2*(n+n2)+512)*bytes<=2^48) (hzl:z.length=sz) (hz:0<bytes) :
  T P E (Builtin.append_ #[t1,t2] ty' #[.slice base n cap,.slice base2 n2 cap2]) [osl base cap elem sz es,A2] (fun v B=>∃ base' cap',v=.slice base' (n+n2) cap'/\B=[osl base' cap' elem sz (es++es2),A2]):=by
 obtain ⟨ti,hti,hbytes⟩:=hby.h;obtain ⟨zv,hzv,hzc⟩:=Calm.zeroValue he;refine T.pre (p:=ElOk sz es/\es.length<=cap/\ElOk sz es2) (fun r f hp=>?_) ?_
 ·obtain ⟨f1,f2,d,l1,l2,a,g1,g2,d',m1,m2,a2,_⟩:=hp;exact ⟨a.1,a.2.1,hsrc.ok _ _ a2⟩
 rintro ⟨ok1,hcap,ok2⟩;unfold Builtin.append_;simp only [List.getElem?_toArray,List.getElem?_cons_zero,List.getElem?_cons_succ];refine T.calmBind (Calm.underlying h1.h) ?_;simp only;refine T.calmBind (Calm.sizeOf' he) ?_;refine T.calmBind (Calm.underlying h2.h) ?_;refine T.calmBind (a:=false) (by cases d2 <;> first|exact Calm.pure _|exact absurd rfl (hd _)) ?_
 simp only [Bool.false_eq_true,if_false];refine T.calmBind (a:=n2) (Calm.pure _) ?_;simp only [Bool.not_false,if_true];split
 ·rename_i hfit
  refine T.bind (T.firstCells (.there .here) hsrc) ?_;rintro _ _ ⟨rfl,rfl⟩;have hfl:=ok1.flat;have hfl2:=ok2.flat;have hlen:(es++es2).length<=cap:=by simp [hn,hsrc.len];exact hfit
  cases base with
  | none=>
   refine T.pre (p:=cap=0) (fun r f hp=>?_) fun hc0=>?_
   ·obtain ⟨f1,f2,d,l1,l2,a,_⟩:=hp;exact a.2.2.1 rfl
   ·have h0:es2=[]:=by
     have:=hsrc.len
     cases es2 with
     | nil=>rfl
     | cons=>simp at this;omega
    subst h0;exact T.calm (Calm.pure _) ⟨none,cap,rfl,by simp⟩
  | some a=>
   simp only;by_cases h0:es2=[]
   ·subst h0;refine T.calmBind (a:=()) (Calm.pure _) (T.calm (Calm.pure _) ⟨some a,cap,rfl,by simp⟩)
   ·have hpos:0<n2:=by
     have:=hsrc.len
     cases es2 with
     | nil=>exact absurd rfl h0
     | cons=>simp at this;omega
    refine T.bind (Q:=fun _ B=>B=[osl (some a) cap elem sz (es++es2),A2]) ?_ fun _ B hB=>T.calm (Calm.pure _) ⟨some a,cap,rfl,hB⟩;refine T.sels (A:=[osl (some a) cap elem sz es]) (F:=[A2]) (.cons .here .nil) (T.openO (Q:=fun _ B=>B=[osl (some a) cap elem sz (es++es2)]) (by omega) fun bb off c hb k1 k2 k3 k4=>?_) fun _ _ e=>by rw [e];rfl
    cases hb
    rw [Xl];have hb1:n*sz+n2*sz<=cap*sz:=by rw [<-Nat.add_mul];exact Nat.mul_le_mul_right sz hfit
    have hl2:es2.flatten.length=n2*sz:=by rw [hfl2,hsrc.len]
    have hl1:es.flatten.length=n*sz:=by rw [hfl,hn]
    refine T.conv (T.storeCells (b:=bb) (t:=elem) (off:=off+n*sz) es2.flatten 0 c ok2.flatOne (by omega)) (fun _ _ x=>x) fun _ A' e'=>?_
    subst e';refine ⟨_,zF4 (ok1.append ok2) hlen (by rw [zG];exact k3) (fun j v hj=>?_),rfl⟩
    rw [List.flatten_append] at hj;rw [ZF _ _ _ _ (by omega)]
    by_cases hjn:j<n*sz
    ·rw [List.getElem?_append_left (by omega)] at hj
     have:¬ (off+n*sz+0<=off+j/\off+j<off+n*sz+0+es2.flatten.length):=by omega
     simp only [this,if_false];exact k4 j v hj
    ·rw [List.getElem?_append_right (by omega),hl1] at hj
     have hlt:j-n*sz<es2.flatten.length:=by rw [List.getElem?_eq_some_iff] at hj;exact hj.1
     have:off+n*sz+0<=off+j/\off+j<off+n*sz+0+es2.flatten.length:=by omega
     simp only [this,and_self,if_true];rw [show off+j-(off+n*sz+0)=j-n*sz by omega];exact hj
 ·rename_i hfit
  have hb0:ti.bytes≠0:=by omega
  refine T.calmBind (Calm.typeInfo hti) ?_;rw [if_neg (by simp [hb0])]
  refine T.calmBind (Calm.typeInfo hti) ?_;rw [if_neg (by
   have h1:=Yw (need:=n+n2) (cap:=cap) (by omega)
   have h2:=Nat.mul_le_mul_right ti.bytes h1;rw [hbytes] at h2 ⊢;omega)]
  refine T.bind (Q:=fun x B=>(∃ t,x=(Question.appendCap (n+n2) cap elem).cut t)/\B=[osl base cap elem sz es,A2]) (T.ext (T.chooseQ rfl) fun a A h=>by rw [h.2];exact ⟨h.1,rfl⟩) ?_
  rintro newCap _ ⟨⟨t,rfl⟩,rfl⟩;have hnc:n+n2<=(Question.appendCap (n+n2) cap elem).cut t:=by simp [Question.cut]
  generalize (Question.appendCap (n+n2) cap elem).cut t=nc at hnc;refine T.calmBind (Calm.typeInfo hti) ?_;refine T.bind T.askRoom ?_;rintro _ _ rfl;refine T.bind (T.firstCells .here (Src.osl hn)) ?_;rintro _ _ ⟨rfl,rfl⟩;refine T.bind (T.firstCells (.there .here) hsrc) ?_;rintro _ _ ⟨rfl,rfl⟩;refine T.calmBind hzv ?_;have hfl:=ok1.flat;have hfl2:=ok2.flat;have hl2:es2.flatten.length=n2*sz:=by rw [hfl2,hsrc.len]
  have hl1:es.flatten.length=n*sz:=by rw [hfl,hn]
  have hz:(Builtin.zeroCells zv.cells (nc-(n+n2))).toList.length=(nc-(n+n2))*sz:=by
   have:=Xp (zero:=zv.cells) (n:=nc-(n+n2))
   rw [hzc] at this ⊢;simpa [hzl] using this
  generalize Builtin.zeroCells zv.cells (nc-(n+n2))=zc at hz;have ec:es.flatten.toArray++es2.flatten.toArray++zc=(es.flatten++es2.flatten++zc.toList).toArray:=by simp
  rw [ec];refine T.bind (Q:=fun a B=>∃ bb,a=⟨bb,0,none⟩/\B=[osl (some ⟨bb,0,none⟩) nc elem sz (es++es2),A2]) (T.sels (A:=[osl base cap elem sz es]) (F:=[A2]) (Q:=fun a B=>∃ bb,a=⟨bb,0,none⟩/\B=[osl (some ⟨bb,0,none⟩) nc elem sz (es++es2)]) (.cons .here .nil) (T.conv (A0:=[]) (T.newRow (t:=elem) (es.flatten++es2.flatten++zc.toList)) (fun _ _ _=>trivial) (fun a A' h=>?_)) (fun a A' ⟨bb,h1,h2⟩=>⟨bb,h1,by rw [h2];rfl⟩)) ?_
  ·obtain ⟨bb,ha,hA⟩:=h;subst hA;refine ⟨[osl (some ⟨bb,0,none⟩) nc elem sz (es++es2)],zF4 (ok1.append ok2) (by simp [hn,hsrc.len];exact hnc) ?_ (fun j v hj=>?_),bb,ha,rfl⟩
   ·simp only [List.length_append,hl1,hl2,hz];rw [Nat.sub_mul,Nat.add_mul];have:=Nat.mul_le_mul_right sz hnc
    rw [Nat.add_mul] at this;omega
   ·rw [List.flatten_append] at hj;rw [Nat.zero_add,List.getElem?_append_left]
    ·exact hj
    ·rw [List.getElem?_eq_some_iff] at hj;exact hj.1
  ·rintro _ _ ⟨bb,rfl,rfl⟩;exact T.calm (Calm.pure _) ⟨_,_,rfl,rfl⟩
end
end Go.KL
end
section
namespace Go.KL
open Go
theorem zOa {c vs:List Value} {off:Nat} (h:off+vs.length<=c.length):lay c off vs=c.take off++vs++c.drop (off+vs.length):=by
 apply List.ext_getElem?;intro j;rw [ZF _ _ _ _ h];by_cases h1:j<off
 ·have:¬ (off<=j/\j<off+vs.length):=by omega
  simp only [this,if_false];rw [List.append_assoc,List.getElem?_append_left (by simp;omega),List.getElem?_take];simp [h1]
 ·by_cases h2:j<off+vs.length
  ·have:off<=j/\j<off+vs.length:=by omega
   simp only [this,and_self,if_true];rw [List.append_assoc,List.getElem?_append_right (by simp;omega),List.getElem?_append_left (by simp;omega)]
   congr 1;simp;omega
  ·have:¬ (off<=j/\j<off+vs.length):=by omega
   simp only [this,if_false];rw [List.getElem?_append_right (by simp;omega),List.getElem?_drop]
   congr 1;simp;omega
def zHT:List Value->Nat->List Value->Option (List Value)
 | c,_,[]=>some c
 | _::c,0,v::vs=>match zHT c 0 vs with
  | some r=>some (v::r)
  | none=>none
 | x::c,n+1,v::vs=>match zHT c n (v::vs) with
  | some r=>some (x::r)
  | none=>none
 | [],_,_::_=>none
theorem zAl {x:Value}:∀ {vs c:List Value} {n:Nat},lay (x::c) (n+1) vs=x::lay c n vs
 | [],_,_=>rfl
 | v::vs,c,n=>by simp only [lay,List.set_cons_succ];exact zAl
theorem layO_eq:∀ {vs c c':List Value} {n:Nat},zHT c n vs=some c'->c'=lay c n vs/\n+vs.length<=c.length∨vs=[]/\c'=c
 | [],c,c',n,h=>by simp [zHT] at h;exact .inr ⟨rfl,h.symm⟩
 | v::vs,[],c',n,h=>by cases n <;> simp [zHT] at h
 | v::vs,x::c,c',0,h=>by
  left
  simp only [zHT] at h;split at h
  ·rename_i r hr
   cases h
   simp only [lay,List.set_cons_zero,zAl];rcases layO_eq hr with ⟨h1,h2⟩|⟨h1,h2⟩
   ·exact ⟨by rw [h1],by simp;omega⟩
   ·subst h1;subst h2;exact ⟨rfl,by simp⟩
  ·cases h
 | v::vs,x::c,c',n+1,h=>by
  left
  simp only [zHT] at h;split at h
  ·rename_i r hr
   cases h
   rw [zAl];rcases layO_eq hr with ⟨h1,h2⟩|⟨h1,h2⟩
   ·exact ⟨by rw [h1],by simp at h2 ⊢;omega⟩
   ·cases h1
  ·cases h
def zNC (sz:Nat):Nat->List (Nat×Value)->Option (List (List Value))
 | _,[]=>some []
 | i,(j,v)::ps=>match Nat.beq i j&&vQ (yG v) sz&&vH (yG v),zNC sz (i+1) ps with
  | true,some es=>some (yG v::es)
  | _,_=>none
theorem zBv {sz:Nat}:∀ {ps:List (Nat×Value)} {i:Nat} {es:List (List Value)} {c:List Value},zNC sz i ps=some es->c.length=(i+es.length)*sz->ElOk sz es/\Jx (fun i=>some (i*sz,sz)) c ps=some (c.take (i*sz)++es.flatten)
 | [],i,es,c,h,hc=>by
  cases h
  refine ⟨⟨fun e he=>(by cases he),fun e he=>(by cases he)⟩,?_⟩
  simp only [List.length_nil,Nat.add_zero] at hc;simp [Jx,<-hc]
 | (j,v)::ps,i,es,c,h,hc=>by
  unfold zNC at h;split at h
  ·rename_i es' h1 h2
   cases h
   simp only [Bool.and_eq_true] at h1;obtain ⟨⟨e1,e2⟩,e3⟩:=h1;have e1:=Nat.eq_of_beq_eq_true e1;subst e1;have hl:=vI e2;simp only [List.length_cons] at hc;have hb:i*sz+sz<=c.length:=by rw [hc,Nat.add_mul,Nat.add_mul];omega
   obtain ⟨k1,k2⟩:=zBv (sz:=sz) (c:=lay c (i*sz) (yG v)) h2 (by rw [zG,hc];congr 1;omega)
   refine ⟨⟨fun e he=>?_,fun e he=>?_⟩,?_⟩
   ·rcases List.mem_cons.1 he with rfl|he
    ·exact hl
    ·exact k1.len e he
   ·rcases List.mem_cons.1 he with rfl|he
    ·exact ZS e3
    ·exact k1.one e he
   ·unfold Jx;simp only [e2,Bool.true_and,Nat.ble_eq,hb,if_true];rw [k2,zOa (by omega),List.flatten_cons]
    congr 1;have t1:(i+1)*sz=i*sz+sz:=by rw [Nat.add_mul];omega
    rw [t1,List.take_append_of_le_length (by simp;omega),List.take_of_length_le (by simp;omega),List.append_assoc]
  ·cases h
theorem JW {z:List Value} {n j:Nat} (hj:j<n*z.length):(List.replicate n z).flatten[j]?=z[j%z.length]?:=by
 induction n generalizing j with
 | zero=>simp at hj
 | succ n ih=>
  rw [List.replicate_succ,List.flatten_cons];by_cases h:j<z.length
  ·rw [List.getElem?_append_left h,Nat.mod_eq_of_lt h]
  ·rw [List.getElem?_append_right (by omega),ih (by rw [Nat.add_mul] at hj;omega)]
   rw [show j%z.length=(j-z.length)%z.length from Nat.mod_eq_sub_mod (by omega)]
section
variable {P:Program} {E:Env} {X:Xs} {b:Fx} {Post:Value->List HP->Prop} {k:List Item} {L:Tm} {s:List HP} {d:Nat} {dst:Option Nat} {ty:TypeId} {pos:String} {af:Array Edge} {gd:Option (Nat×Bool)}
theorem Ex.builtin {bi:Builtin} {args:Array Operand} {ats:Array TypeId} {vs:List Value} {Q:Value->List HP->Prop} (ha:evs L args.toList=some vs) (h:∀ t cs,T P E (Go.builtin bi ats t cs vs.toArray) s (fun nx s'=>∃ v,nx=.value v/\Q v s')) :
  Ex P E X b L s ⟨dst,.call ⟨.builtin bi,args,ats⟩,ty,pos,af,gd⟩ Q:=
 Ex.op rfl (.inr rfl) (fun e' he=>by
  unfold execOp;simp only;unfold resolve;simp only;refine T.calmBind (Calm.pure _) ?_;simp only [invoke];have:args.map e'=vs.toArray:=by
   apply Array.ext';simpa using Yx he ha
  rw [this];exact T.cons (h _ _) fun nx s' ⟨v,h1,h2⟩=>⟨v,.inl h1,h2⟩)
theorem QO {x y:Operand} {t1 t2 elem:TypeId} {d2:TypeDesc} {agg:Bool} {sz bytes n n2 cap cap2:Nat} {z:List Value} {base base2:Option Addr} {es es2:List (List Value)} {A2:HP} {F1 F:List HP}
  (h1:TyU P t1 (.slice elem)) (h2:TyU P t2 d2) (he:TyN P elem agg sz z) (hby:TyB P elem bytes) (hx:ev L x=some (.slice base n cap)) (hy:ev L y=some (.slice base2 n2 cap2)) (hs:Sel s (osl base cap elem sz es) F1) (hs2:Sel F1 A2 F) (hsrc:Src A2 base2 n2 sz es2)
  (hn:es.length=n) (hd:∀ k,d2≠.int k) (hzl:vQ z sz=true) (hz:0<bytes) (hroom:(2*(n+n2)+512)*bytes<=281474976710656) :
  Ex P E X b L s ⟨dst,.call ⟨.builtin .append,#[x,y],#[t1,t2]⟩,ty,pos,af,gd⟩ (fun v s'=>∃ base' cap',v=.slice base' (n+n2) cap'/\s'=osl base' cap' elem sz (es++es2)::A2::F):=by
 refine Ex.builtin (vs:=[.slice base n cap,.slice base2 n2 cap2]) (by show evs L [x,y]=_;simp [evs,hx,hy]) fun t cs=>?_
 unfold Go.builtin;simp only;refine T.bind (Q:=fun v s'=>∃ base' cap',v=.slice base' (n+n2) cap'/\s'=osl base' cap' elem sz (es++es2)::A2::F) (T.sels (.cons hs (.cons hs2 .nil)) (T.append h1 h2 hd he hby hn hsrc hroom (vI hzl) hz) fun a A' ⟨bb,cc,e1,e2⟩=>⟨bb,cc,e1,by rw [e2];rfl⟩) ?_
 rintro v s' hq;exact T.calm (Calm.pure _) ⟨v,rfl,hq⟩
theorem T.newO {e:TypeId} {c:List Value} {sz cap:Nat} {es:List (List Value)} (h1:ElOk sz es) (h2:es.length<=cap) (h3:cap*sz<=c.length) (h4:∀ (j:Nat) (v:Value),es.flatten[j]?=some v->c[j]?=some v) :
  T P E (Go.newRow e c.toArray) s (fun a B=>∃ bb,a=⟨bb,0,none⟩/\B=osl (some ⟨bb,0,none⟩) cap e sz es::s):=
 T.ext (Q:=fun a B=>∃ bb,a=⟨bb,0,none⟩/\B=[osl (some ⟨bb,0,none⟩) cap e sz es]) (T.conv (A0:=[]) (T.newRow (t:=e) c) (fun _ _ _=>trivial) (fun a A' ⟨bb,e1,e2⟩=>by
  subst e2;exact ⟨_,zF4 h1 h2 (by omega) (fun j v hj=>by rw [Nat.zero_add];exact h4 j v hj),bb,e1,rfl⟩)) fun a A ⟨bb,e1,e2⟩=>⟨bb,e1,by rw [e2];rfl⟩
theorem Yr {z:Array Value} {n j:Nat} (hj:j<n) (hz:0<z.size):((Array.range n).map (z[· % z.size]!))[j]?=z[j%z.size]?:=by
 simp [hj,Nat.mod_lt _ hz]
theorem XE {t e:TypeId} {agg:Bool} {sz len:Nat} {z:List Value} {parts:Array (Nat×Operand)} {ps:List (Nat×Value)} {es:List (List Value)} (h:TyU P t (.slice e)) (he:TyN P e agg sz z) (hp:evp L parts.toList=some ps) (hes:zNC sz 0 ps=some es) (hlen:es.length=len) (hsm:len*sz<=16777216) :
  Ex P E X b L s ⟨some d,.buildSlice t len parts,ty,pos,af,gd⟩ (fun v s'=>∃ bb,v=.slice (some ⟨bb,0,none⟩) len len/\s'=osl (some ⟨bb,0,none⟩) len e sz es::s):=by
 refine Ex.op rfl (.inr rfl) (fun e' he'=>?_);unfold execOp;simp only;have hm:(parts.map fun (i,x)=>(i,e' x))=ps.toArray:=by
  apply Array.ext';simpa using zAu he' hp
 rw [hm];unfold Instr.buildSlice;obtain ⟨zv,hzv,hzc⟩:=Calm.zeroValue he;refine T.bind (Q:=fun v s'=>∃ bb,v=.slice (some ⟨bb,0,none⟩) len len/\s'=osl (some ⟨bb,0,none⟩) len e sz es::s) ?_ fun v s' hq=>T.calm (Calm.pure _) ⟨v,.inl rfl,hq⟩;refine T.calmBind (Calm.underlying h.h) ?_;simp only;refine T.calmBind (Calm.sizeOf' he) ?_;rw [if_neg (by omega)]
 have key:∀ zr:Array Value,T P E (match Instr.fill (fun i=>some (i*sz,sz)) ((Array.range (len*sz)).map (zr[· % zr.size]!)) ps.toArray.toList with
   | some cells=>do pure (.slice (some (<-newRow e cells)) len len)
   | _=>stuck "buildSlice: a part of the wrong size" : Sem Value) s (fun v s'=>∃ bb,v=.slice (some ⟨bb,0,none⟩) len len/\s'=osl (some ⟨bb,0,none⟩) len e sz es::s):=by
  intro zr;obtain ⟨k1,k2⟩:=zBv (c:=((Array.range (len*sz)).map (zr[· % zr.size]!)).toList) hes (by simp [hlen])
  have k3:=zBO k2;have e0:((Array.range (len*sz)).map (zr[· % zr.size]!)).toList.toArray=(Array.range (len*sz)).map (zr[· % zr.size]!):=Array.toArray_toList;rw [e0] at k3;simp only [k3];simp only [Nat.zero_mul,List.take_zero,List.nil_append];refine T.bind (T.newO (cap:=len) k1 (by omega) (by rw [k1.flat,hlen];omega) (fun j v hj=>hj)) ?_
  rintro _ _ ⟨bb,rfl,rfl⟩;exact T.calm (Calm.pure _) ⟨bb,rfl,rfl⟩
 split
 ·exact T.calmBind (Calm.pure _) (key _)
 ·exact T.calmBind hzv (T.calmBind (Calm.pure _) (key _))
theorem WI {t e:TypeId} {agg:Bool} {sz bytes:Nat} {z:List Value} {x y:Operand} {kk k2:IntKind} {n c:Int} (h:TyU P t (.slice e)) (he:TyN P e agg sz z) (hb:TyB P e bytes) (hx:ev L x=some (.int kk n)) (hy:ev L y=some (.int k2 c)) (hzl:vQ z sz=true) (hz1:vH z=true) (h0:0<=n) (h1:n<=c) (hc:c<=9223372036854775807) (hsm:bytes*c<=281474976710656) :
  Ex P E X b L s ⟨some d,.makeSlice t x y,ty,pos,af,gd⟩ (fun v s'=>∃ bb,v=.slice (some ⟨bb,0,none⟩) n.toNat c.toNat/\s'=osl (some ⟨bb,0,none⟩) c.toNat e sz (List.replicate n.toNat z)::s):=by
 have hzl:=vI hzl;refine Ex.op rfl (.inr rfl) (fun e' he'=>?_);unfold execOp;simp only [he' _ _ hx,he' _ _ hy];refine T.bind (Q:=fun v s'=>∃ bb,v=.slice (some ⟨bb,0,none⟩) n.toNat c.toNat/\s'=osl (some ⟨bb,0,none⟩) c.toNat e sz (List.replicate n.toNat z)::s) ?_ fun v s' hq=>T.calm (Calm.pure _) ⟨v,.inl rfl,hq⟩;unfold Instr.makeSlice;obtain ⟨zv,hzv,hzc⟩:=Calm.zeroValue he;obtain ⟨ti,hti,hby⟩:=hb.h;refine T.calmBind (Calm.underlying h.h) ?_;simp only;refine T.calmBind (a:=n) ((Calm.pure _).bind (Calm.pure _)) ?_;refine T.calmBind (a:=c) ((Calm.pure _).bind (Calm.pure _)) ?_;refine T.calmBind (Calm.typeInfo hti) ?_;have hwn:IntKind.i64.wrap n=n:=zK (by omega)
 have hwc:IntKind.i64.wrap c=c:=zK (by omega)
 simp only [hwn,hwc,hby];rw [if_neg (by simp;omega)]
 refine T.bind T.askRoom ?_;rintro _ B hB;rw [hB];refine T.calmBind (Calm.sizeOf' he) ?_;have fin:∀ zr:Array Value,(c.toNat*sz≠0->zr=z.toArray)->T P E (do
   let a <-newRow e ((Array.range (c.toNat*sz)).map (zr[· % zr.size]!))
   pure (.slice (some a) n.toNat c.toNat):Sem Value) s (fun v s'=>∃ bb,v=.slice (some ⟨bb,0,none⟩) n.toNat c.toNat/\s'=osl (some ⟨bb,0,none⟩) c.toNat e sz (List.replicate n.toNat z)::s):=by
  intro zr hzr;have e0:(Array.range (c.toNat*sz)).map (zr[· % zr.size]!)=(((Array.range (c.toNat*sz)).map (zr[· % zr.size]!)).toList).toArray:=Array.toArray_toList.symm;rw [e0];refine T.bind (T.newO (cap:=c.toNat) (sz:=sz) (es:=List.replicate n.toNat z) ⟨fun x hx=>by rw [List.eq_of_mem_replicate hx,hzl],fun x hx=>by rw [List.eq_of_mem_replicate hx];exact ZS hz1⟩ (by simp;omega) (by simp) (fun j v hj=>?_)) ?_
  ·have hjl:j<n.toNat*z.length:=by
    have:=(List.getElem?_eq_some_iff.1 hj).1
    have hf:=zBP (sz:=sz) (es:=List.replicate n.toNat z) (fun x hx=>by rw [List.eq_of_mem_replicate hx,hzl])
    rw [hf] at this;simpa [hzl] using this
   rw [JW hjl] at hj;have hjc:j<c.toNat*sz:=by
    have:=Nat.mul_le_mul_right sz (show n.toNat<=c.toNat by omega)
    rw [hzl] at hjl;omega
   have hzp:0<sz:=by
    rcases Nat.eq_zero_or_pos sz with h|h
    ·rw [h] at hjc;omega
    ·exact h
   have:=hzr (by omega)
   subst this;rw [Array.getElem?_toList,Yr hjc (by simp;omega)]
   simpa using hj
  ·rintro _ _ ⟨bb,rfl,rfl⟩;exact T.calm (Calm.pure _) ⟨bb,rfl,rfl⟩
 split
 ·rename_i hz0
  exact T.calmBind (Calm.pure _) (fin _ (fun h=>absurd hz0 h))
 ·exact T.calmBind hzv (T.calmBind (Calm.pure _) (fin _ (fun _=>hzc)))
def slB (base:Option Addr) (cap lo sz:Nat):Option Addr:=if cap=lo then base else base.map (·.add (lo*sz))
theorem Calm.slice {t e:TypeId} {agg:Bool} {sz:Nat} {z:List Value} {base:Option Addr} {n cap lo hi:Nat} {l h:Option Value} (ht:TyU P t (.slice e)) (he:TyN P e agg sz z)
  (hl:(l=none/\lo=0)∨∃ kk,l=some (.int kk lo)) (hh:(h=none/\hi=n)∨∃ kk,h=some (.int kk hi)) (h1:lo<=hi) (h2:hi<=cap):Calm P (Instr.sliceAt t (.slice base n cap) l h none) (.slice (slB base cap lo sz) (hi-lo) (cap-lo)):=by
 unfold Instr.sliceAt;refine (Calm.underlying ht.h).bind ?_;simp only;unfold Instr.slice;refine (Calm.underlying ht.h).bind ?_;simp only;refine Calm.bind (a:=(lo,hi,cap)) ?_ ?_
 ·unfold Instr.sliceBounds;refine (Calm.pure _).bind ?_;have sb:∀ (kk:IntKind) (i y:Nat) (code:BoundsCode),i<=y->Calm P (Instr.sliceBound (.int kk i) y code) i:=fun kk i y code hy=>by
   unfold Instr.sliceBound;refine Calm.bind (a:=(kk,(i:Int))) (Calm.pure _) ?_;simp only;rw [if_pos ⟨by omega,by omega⟩]
   exact Calm.pure _
  rcases hl with ⟨rfl,rfl⟩|⟨k1,rfl⟩ <;> rcases hh with ⟨rfl,rfl⟩|⟨k2,rfl⟩
  ·exact (Calm.pure _).bind ((Calm.pure _).bind (Calm.pure _))
  ·exact (sb _ _ _ _ h2).bind ((Calm.pure _).bind (Calm.pure _))
  ·exact (Calm.pure _).bind ((sb _ _ _ _ h1).bind (Calm.pure _))
  ·exact (sb _ _ _ _ h2).bind ((sb _ _ _ _ h1).bind (Calm.pure _))
 ·simp only;exact (Calm.sizeOf' he).bind (Calm.pure _)
theorem zJM {t e:TypeId} {agg:Bool} {sz n cap:Nat} {z:List Value} {x lo:Operand} {base:Option Addr} {kk:IntKind} {i:Int} (h:TyU P t (.slice e)) (he:TyN P e agg sz z) (hx:ev L x=some (.slice base n cap)) (hy:ev L lo=some (.int kk i)) (h0:0<=i) (h1:i<=n) (h2:n<=cap) :
  Cm P L ⟨dst,.slice t x (some lo) none none,ty,pos,af,gd⟩ (.slice (slB base cap i.toNat sz) (n-i.toNat) (cap-i.toNat)):=
 Cm.of rfl (fun e' he'=>by
  unfold execOp;simp only [he' _ _ hx,Option.map_some,he' _ _ hy,Option.map_none];exact (Calm.slice h he (.inr ⟨kk,by rw [Int.toNat_of_nonneg h0]⟩) (.inl ⟨rfl,rfl⟩) (by omega) h2).bind (Calm.pure _))
theorem zKS {t e:TypeId} {agg:Bool} {sz n cap:Nat} {z:List Value} {x hi:Operand} {base:Option Addr} {kk:IntKind} {i:Int} (h:TyU P t (.slice e)) (he:TyN P e agg sz z) (hx:ev L x=some (.slice base n cap)) (hy:ev L hi=some (.int kk i)) (h0:0<=i) (h1:i<=cap) :
  Cm P L ⟨dst,.slice t x none (some hi) none,ty,pos,af,gd⟩ (.slice (slB base cap 0 sz) (i.toNat-0) (cap-0)):=
 Cm.of rfl (fun e' he'=>by
  unfold execOp;simp only [he' _ _ hx,Option.map_some,he' _ _ hy,Option.map_none];exact (Calm.slice h he (.inl ⟨rfl,rfl⟩) (.inr ⟨kk,by rw [Int.toNat_of_nonneg h0]⟩) (by omega) (by omega)).bind (Calm.pure _))
theorem zJD {t e:TypeId} {agg:Bool} {sz n cap:Nat} {z:List Value} {x lo hi:Operand} {base:Option Addr} {kk k2:IntKind} {i j:Int} (h:TyU P t (.slice e)) (he:TyN P e agg sz z) (hx:ev L x=some (.slice base n cap)) (hy:ev L lo=some (.int kk i)) (hy2:ev L hi=some (.int k2 j)) (h0:0<=i) (h1:i<=j) (h2:j<=cap) :
  Cm P L ⟨dst,.slice t x (some lo) (some hi) none,ty,pos,af,gd⟩ (.slice (slB base cap i.toNat sz) (j.toNat-i.toNat) (cap-i.toNat)):=
 Cm.of rfl (fun e' he'=>by
  unfold execOp;simp only [he' _ _ hx,Option.map_some,he' _ _ hy,he' _ _ hy2,Option.map_none];exact (Calm.slice h he (.inr ⟨kk,by rw [Int.toNat_of_nonneg h0]⟩) (.inr ⟨k2,by rw [Int.toNat_of_nonneg (by omega)]⟩) (by omega) (by omega)).bind (Calm.pure _))
theorem zHn {base:Option Addr} {cap sz:Nat}:slB base cap 0 sz=base:=by
 unfold slB;split
 ·rfl
 ·cases base <;> simp [Addr.add]
theorem zB8 {sz:Nat}:∀ {es:List (List Value)} {i:Nat},(∀ e∈es,e.length=sz)->es.flatten.drop (i*sz)=(es.drop i).flatten
 | [],i,_=>by simp
 | e::es,0,_=>by simp
 | e::es,i+1,h=>by
  have he:=h e (by simp)
  rw [List.drop_succ_cons,List.flatten_cons,<-zB8 (i:=i) (fun x hx=>h x (by simp [hx])),show (i+1)*sz=e.length+i*sz by rw [Nat.add_mul,he];omega,<-List.drop_drop,List.drop_left]
theorem zFT {sz lo m j:Nat} {es:List (List Value)} {v:Value} (h:∀ e∈es,e.length=sz) (hj:((es.drop lo).take m).flatten[j]?=some v):es.flatten[lo*sz+j]?=some v:=by
 have h1:(es.drop lo).flatten[j]?=some v:=by
  have:(es.drop lo)=(es.drop lo).take m++(es.drop lo).drop m:=(List.take_append_drop ..).symm
  rw [this,List.flatten_append,List.getElem?_append_left]
  ·exact hj
  ·rw [List.getElem?_eq_some_iff] at hj;exact hj.1
 rw [<-zB8 h,List.getElem?_drop] at h1;exact h1
theorem zM8 {base:Option Addr} {cap sz lo m:Nat} {es:List (List Value)} {r f:Hp} (h:(rsl base cap sz es).p r f) (hl:lo<=cap) (hm:lo+m<=es.length∨True):(rsl (slB base cap lo sz) (cap-lo) sz ((es.drop lo).take m)).p r f:=by
 obtain ⟨h1,h2,h3,h4⟩:=h;refine ⟨h1.sub fun e he=>List.mem_of_mem_drop (List.mem_of_mem_take he),by simp;omega,fun hb=>?_,fun a ha j v hj=>?_⟩
 ·unfold slB at hb;split at hb
  ·omega
  ·cases base with
   | none=>have:=h3 rfl;omega
   | some a=>cases hb
 ·have hj0:=hj;have h5:cap=lo->es.drop lo=[]:=fun _=>by rw [List.drop_eq_nil_iff];omega
  have hj:=zFT h1.len hj;unfold slB at ha;split at ha
  ·rename_i hc
   exfalso
   have:=(List.getElem?_eq_some_iff.1 hj0).1
   rw [h5 hc] at this;simp at this
  ·cases base with
   | none=>cases ha
   | some a'=>
    simp at ha;subst ha;rw [zEc];exact h4 a' rfl _ _ hj
theorem Into.rsl {base:Option Addr} {cap sz:Nat} {es:List (List Value)} {F:List HP} (lo m:Nat) (hs:Sel s (rsl base cap sz es) F) (hl:lo<=cap):Into s (KL.rsl (slB base cap lo sz) (cap-lo) sz ((es.drop lo).take m)::s):=
 ⟨fun r f hp=>by
  obtain ⟨f1,f2,d,l1,l2,a,_⟩:=hs.out hp;exact wB (A:=KL.rsl (slB base cap lo sz) (cap-lo) sz ((es.drop lo).take m)) (fun h=>h) (f':=f1) (zM8 a hl (.inr trivial)) hp⟩
theorem Into.nilO {T:TypeId} {sz:Nat}:Into s (osl none 0 T sz []::s):=
 ⟨fun r f hp=>⟨Hp.emp,f,Hp.emp_disj _,Hp.emp_le _,Hp.le_refl _,⟨⟨fun e he=>(by cases he),fun e he=>(by cases he)⟩,by simp,fun _=>rfl,fun a h=>(by cases h)⟩,hp⟩⟩
theorem Into.nilR {sz:Nat}:Into s (KL.rsl none 0 sz []::s):=
 ⟨fun r f hp=>⟨Hp.emp,f,Hp.emp_disj _,Hp.emp_le _,Hp.le_refl _,⟨⟨fun e he=>(by cases he),fun e he=>(by cases he)⟩,by simp,fun _=>rfl,fun a h=>(by cases h)⟩,hp⟩⟩
theorem Into.app {s t:List HP} (h:Into s t) {F:List HP}:Into (s++F) (t++F):=⟨fun r f hp=>by
 obtain ⟨f1,f2,d,l1,l2,h1,h2⟩:=zD.1 hp;exact zD.2 ⟨f1,f2,d,l1,l2,h.h _ _ h1,h2⟩⟩
theorem Ghost.osl {base:Option Addr} {cap sz:Nat} {T:TypeId} {es:List (List Value)} {F:List HP} (hs:Sel s (KL.osl base cap T sz es) F):Ghost s (KL.rsl base cap sz es::F):=by
 intro r f hd hp;obtain ⟨f1,f2,d,l1,l2,⟨h1,h2,h3,h4⟩,k⟩:=hs.out hp;cases base with
 | none=>
  refine ⟨r,f,Hp.le_refl _,Hp.le_refl _,hd,fun n x y=>absurd y x,fun n o x y=>(by rw [y] at x;cases x),?_⟩
  exact ⟨Hp.emp,f2,Hp.emp_disj _,Hp.emp_le _,l2,⟨h1,h2,h3,fun a ha=>(by cases ha)⟩,k⟩
 | some a=>
  obtain ⟨h5,c,h6,h7,h8⟩:=h4 a rfl;have dd:(Hp.one a.block (.cells c.toArray T (0,0))).disj f2:=d.mono (Hp.one_le h6) (Hp.le_refl _);have hro:r.disj (Hp.one a.block (.cells c.toArray T (0,0))):=hd.mono (Hp.le_refl _) (Hp.one_le (l1.h _ _ h6));refine ⟨r.union (Hp.one a.block (.cells c.toArray T (0,0))),f2,Hp.le_union_left _ _,l2,Hp.union_disj (hd.mono (Hp.le_refl _) l2) dd,fun n x y=>?_,fun n o x y=>?_,?_⟩
  ·unfold Hp.union at x ⊢;rw [y] at x ⊢;simp only [Option.none_or] at x ⊢;cases e:Hp.one a.block (.cells c.toArray T (0,0)) n with
   | none=>exact absurd e x
   | some o=>
    obtain ⟨rfl,rfl⟩:=Hp.one_some e;exact l1.h _ _ h6
  ·unfold Hp.union at x;rw [y] at x;simp only [Option.none_or] at x;obtain ⟨rfl,rfl⟩:=Hp.one_some x;rfl
  ·refine ⟨Hp.emp,f2,Hp.emp_disj _,Hp.emp_le _,Hp.le_refl _,⟨h1,h2,h3,fun a' ha j v hj=>?_⟩,wF (Hp.le_union_left _ _) (Hp.le_refl _) k⟩;cases ha
   have hr:=(Hp.le_union_right hro).h a.block _ (Hp.one_same _ _);rw [zEM h5];simp [Hp.cell,hr,h8 j v hj]
end
end Go.KL
end
section
namespace Go.KL
open Go
section
variable {P:Program} {E:Env} {X:Xs} {b:Fx} {Post:Value->List HP->Prop} {k:List Item} {L:Tm} {s:List HP} {d:Nat} {dst:Option Nat} {ty:TypeId} {pos:String} {af:Array Edge} {gd:Option (Nat×Bool)}
theorem zLd {t0:TypeId} {t:TypeId} {cs:Array Bool} {x:ByteArray} (h:TyU P t0 .string):Calm P (Go.builtin .len #[t0] t cs [.string x].toArray) (.value (.int .i64 x.size)):=by
 unfold Go.builtin;simp only;refine Calm.bind (a:=.int .i64 x.size) ?_ (Calm.pure _);unfold Builtin.len_;simp only [List.getElem?_toArray,List.getElem?_cons_zero];refine (Calm.underlying h.h).bind ?_;exact Calm.pure _
theorem zGK {t:TypeId} {x y:Operand} {bs:ByteArray} {kk:IntKind} {i:Int} {c:UInt8} (h:TyU P t .string) (hx:ev L x=some (.string bs)) (hy:ev L y=some (.int kk i)) (h0:0<=i) (hc:bs[i.toNat]?=some c):Cm P L ⟨dst,.index t x y,ty,pos,af,gd⟩ (.int .u8 c.toNat):=
 Cm.of rfl (fun e' he=>by
  unfold execOp;simp only [he _ _ hx,he _ _ hy];refine Calm.bind (a:=.int .u8 c.toNat) ?_ (Calm.pure _);unfold Instr.index;refine (Calm.pure _).bind ?_;refine (Calm.underlying h.h).bind ?_;simp only [if_pos h0,hc];exact Calm.pure _)
theorem zNV {t1 t2:TypeId} {x y:Operand} {a c:ByteArray} (hx:ev L x=some (.string a)) (hy:ev L y=some (.string c)):Cm P L ⟨dst,.binOp .eql t1 x y t2,ty,pos,af,gd⟩ (.bool (a.toList == c.toList)):=
 Cm.of rfl (fun e' he=>by
  unfold execOp;simp only [he _ _ hx,he _ _ hy];refine Calm.bind (a:=.bool (a.toList == c.toList)) ?_ (Calm.pure _);refine Calm.bind (a:=()) (by unfold eqGuard;exact Calm.pure _) ?_
  unfold Go.binOp;exact Calm.pure _)
theorem zNQ {t1 t2:TypeId} {x y:Operand} {a c:ByteArray} (hx:ev L x=some (.string a)) (hy:ev L y=some (.string c)):Cm P L ⟨dst,.binOp .neq t1 x y t2,ty,pos,af,gd⟩ (.bool (!(a.toList == c.toList))):=
 Cm.of rfl (fun e' he=>by
  unfold execOp;simp only [he _ _ hx,he _ _ hy];refine Calm.bind (a:=.bool (!(a.toList == c.toList))) ?_ (Calm.pure _);refine Calm.bind (a:=()) (by unfold eqGuard;exact Calm.pure _) ?_
  unfold Go.binOp;exact Calm.pure _)
theorem VM {t:TypeId} {x:Operand} {lo hi:Option Operand} {bs:ByteArray} {l h:Nat} (ht:TyU P t .string) (hx:ev L x=some (.string bs))
  (hl:(lo=none/\l=0)∨∃ o kk,lo=some o/\ev L o=some (.int kk l)) (hh:(hi=none/\h=bs.size)∨∃ o kk,hi=some o/\ev L o=some (.int kk h)) (h1:l<=h) (h2:h<=bs.size) :
  Cm P L ⟨dst,.slice t x lo hi none,ty,pos,af,gd⟩ (.string (bs.extract l h)):=
 Cm.of rfl (fun e' he=>by
  unfold execOp;simp only [he _ _ hx,Option.map_none];refine Calm.bind (a:=.string (bs.extract l h)) ?_ (Calm.pure _);unfold Instr.sliceAt;refine (Calm.underlying ht.h).bind ?_;simp only;unfold Instr.slice;refine (Calm.underlying ht.h).bind ?_;simp only [Option.isSome_none,Bool.false_eq_true,if_false];refine Calm.bind (a:=(l,h,bs.size)) ?_ (Calm.pure _);unfold Instr.sliceBounds;refine (Calm.pure _).bind ?_;have sb:∀ (kk:IntKind) (i y:Nat) (code:BoundsCode),i<=y->Calm P (Instr.sliceBound (.int kk i) y code) i:=fun kk i y code hy=>by
   unfold Instr.sliceBound;refine Calm.bind (a:=(kk,(i:Int))) (Calm.pure _) ?_;simp only;rw [if_pos ⟨by omega,by omega⟩]
   exact Calm.pure _
  rcases hl with ⟨rfl,rfl⟩|⟨o1,k1,rfl,e1⟩ <;> rcases hh with ⟨rfl,rfl⟩|⟨o2,k2,rfl,e2⟩ <;> simp only [Option.map_some,Option.map_none]
  ·exact (Calm.pure _).bind ((Calm.pure _).bind (Calm.pure _))
  ·rw [he _ _ e2];exact (sb _ _ _ _ h2).bind ((Calm.pure _).bind (Calm.pure _))
  ·rw [he _ _ e1];exact (Calm.pure _).bind ((sb _ _ _ _ h1).bind (Calm.pure _))
  ·rw [he _ _ e1,he _ _ e2];exact (sb _ _ _ _ h2).bind ((sb _ _ _ _ h1).bind (Calm.pure _)))
theorem zNj {t:TypeId} {x lo hi:Operand} {bs:ByteArray} {kk k2:IntKind} {i j:Int} (h:TyU P t .string) (hx:ev L x=some (.string bs)) (hy:ev L lo=some (.int kk i)) (hy2:ev L hi=some (.int k2 j)) (h0:0<=i) (h1:i<=j) (h2:j<=bs.size) :
  Cm P L ⟨dst,.slice t x (some lo) (some hi) none,ty,pos,af,gd⟩ (.string (bs.extract i.toNat j.toNat)):=
 VM h hx (.inr ⟨lo,kk,rfl,by rw [hy,Int.toNat_of_nonneg h0]⟩) (.inr ⟨hi,k2,rfl,by rw [hy2,Int.toNat_of_nonneg (by omega)]⟩) (by omega) (by omega)
theorem zMh {t:TypeId} {x lo:Operand} {bs:ByteArray} {kk:IntKind} {i:Int} (h:TyU P t .string) (hx:ev L x=some (.string bs)) (hy:ev L lo=some (.int kk i)) (h0:0<=i) (h1:i<=bs.size) :
  Cm P L ⟨dst,.slice t x (some lo) none none,ty,pos,af,gd⟩ (.string (bs.extract i.toNat bs.size)):=
 VM h hx (.inr ⟨lo,kk,rfl,by rw [hy,Int.toNat_of_nonneg h0]⟩) (.inl ⟨rfl,rfl⟩) (by omega) (Nat.le_refl _)
theorem zNg {t:TypeId} {x hi:Operand} {bs:ByteArray} {kk:IntKind} {j:Int} (h:TyU P t .string) (hx:ev L x=some (.string bs)) (hy:ev L hi=some (.int kk j)) (h0:0<=j) (h1:j<=bs.size) :
  Cm P L ⟨dst,.slice t x none (some hi) none,ty,pos,af,gd⟩ (.string (bs.extract 0 j.toNat)):=
 VM h hx (.inl ⟨rfl,rfl⟩) (.inr ⟨hi,kk,rfl,by rw [hy,Int.toNat_of_nonneg h0]⟩) (Nat.zero_le _) (by omega)
def u8e (x:Nat):List Value:=[.int .u8 (x:Int)]
def zBE (l:List Nat):ByteArray:=⟨(l.map UInt8.ofNat).toArray⟩
theorem zGo (l:List Nat):ElOk 1 (l.map u8e):=⟨fun e he=>by
  obtain ⟨x,_,rfl⟩:=List.mem_map.1 he;rfl,fun e he v hv=>by
  obtain ⟨x,_,rfl⟩:=List.mem_map.1 he;simp [u8e] at hv;subst hv;rfl⟩
theorem T.bytesToString {A:HP} {F:List HP} {base:Option Addr} {n cap:Nat} {l:List Nat} (hs:Sel s A F) (h:Src A base n 1 (l.map u8e)) :
  T P E (Conv.bytesToString (.slice base n cap)) s (fun v B=>v=.string (zBE l)/\B=s):=by
 refine T.pre (p:=base=none->(l.map u8e)=[]) (hs.pure fun r f k=>h.nil r f k) fun k2=>?_;unfold Conv.bytesToString;cases base with
 | none=>
  have:=k2 rfl
  simp at this;subst this;exact T.calm (Calm.pure _) ⟨rfl,rfl⟩
 | some a=>
  simp only;refine T.bind (Q:=fun x B=>x=((l.map u8e).flatten).toArray/\B=s) (T.sel hs (T.loadCells (A:=A) (a:=a) (n:=n) (cs:=(l.map u8e).flatten) (by rw [(zGo l).flat,<-h.len];omega) (h.has a rfl))) ?_
  rintro _ B ⟨rfl,rfl⟩;have key:∀ (l:List Nat) (s0:ByteArray),Calm P (forIn (l.map u8e).flatten.toArray s0 fun c s=>(match c with
    | .int .u8 n=>Pure.pure (ForInStep.yield (s.push (UInt8.ofNat n.toNat)))
    | _=>do
     stuck "bytesToString: byte expected"
     Pure.pure (ForInStep.yield s):Sem (ForInStep ByteArray))) ⟨s0.data++(l.map UInt8.ofNat).toArray⟩:=by
   intro l;induction l with
   | nil=>intro s0;rw [List.forIn_toArray];simp only [List.map_nil,List.flatten_nil,List.forIn_nil];exact (by simpa using Calm.pure s0)
   | cons x l ih=>
    intro s0;rw [List.forIn_toArray];simp only [List.map_cons,List.flatten_cons,u8e,List.cons_append,List.nil_append,List.forIn_cons];refine (Calm.pure _).bind ?_;simp only;have:=ih (s0.push (UInt8.ofNat x))
    rw [List.forIn_toArray] at this;have e:(⟨(s0.push (UInt8.ofNat x)).data++(l.map UInt8.ofNat).toArray⟩:ByteArray)=⟨s0.data++(UInt8.ofNat x::l.map UInt8.ofNat).toArray⟩:=by
     congr 1;apply Array.ext';simp [ByteArray.push]
    rw [e] at this;exact this
  refine T.calmBind (key l ByteArray.empty) (T.calm (Calm.pure _) ⟨?_,rfl⟩);congr 1;unfold zBE;congr 1;simp
theorem zKa {t1 t2 e:TypeId} {x:Operand} {A:HP} {F:List HP} {base:Option Addr} {n cap:Nat} {l:List Nat} (h1:TyU P t1 (.slice e)) (h2:TyU P t2 .string) (h3:TyU P e (.int .u8)) (hx:ev L x=some (.slice base n cap)) (hs:Sel s A F) (h:Src A base n 1 (l.map u8e)):Lt P E L s ⟨dst,.convert t1 t2 x,ty,pos,af,gd⟩ (.string (zBE l)):=
 Lt.of rfl (fun e' he=>by
  unfold execOp;simp only [he _ _ hx];refine T.bind (Q:=fun v B=>v=.string (zBE l)/\B=s) ?_ fun v B ⟨e1,e2⟩=>T.calm (Calm.pure _) ⟨by rw [e1],e2⟩
  unfold convert;refine T.calmBind (Calm.underlying h1.h) (T.calmBind (Calm.underlying h2.h) ?_);simp only;refine T.calmBind (Calm.underlying h3.h) ?_;exact T.bytesToString hs h)
theorem zLO {t1 t2 e:TypeId} {x:Operand} {F:List HP} {base:Option Addr} {n cap:Nat} {l:List Nat} (h1:TyU P t1 (.slice e)) (h2:TyU P t2 .string) (h3:TyU P e (.int .u8)) (hx:ev L x=some (.slice base n cap)) (hs:Sel s (rsl base cap 1 (l.map u8e)) F) (hn:l.length=n):Lt P E L s ⟨dst,.convert t1 t2 x,ty,pos,af,gd⟩ (.string (zBE l)):=zKa h1 h2 h3 hx hs (Src.rsl (by simpa using hn))
theorem zLl {t1 t2 e T:TypeId} {x:Operand} {F:List HP} {base:Option Addr} {n cap:Nat} {l:List Nat} (h1:TyU P t1 (.slice e)) (h2:TyU P t2 .string) (h3:TyU P e (.int .u8)) (hx:ev L x=some (.slice base n cap)) (hs:Sel s (osl base cap T 1 (l.map u8e)) F) (hn:l.length=n):Lt P E L s ⟨dst,.convert t1 t2 x,ty,pos,af,gd⟩ (.string (zBE l)):=zKa h1 h2 h3 hx hs (Src.osl (by simpa using hn))
def rbox (bb:Nat) (c:List Value):HP:=ro (fun r=>∀ i v,c[i]?=some v->r.cell ⟨bb,i,none⟩=some v) fun h g i v e=>h.cell (g i v e)
instance {bb:Nat} {c:List Value}:(rbox bb c).Dup:=⟨fun h=>h⟩
theorem zF1 {bb off:Nat} {c:List Value} {v:Value} (h:c[off]?=some v):Has (rbox bb c) ⟨bb,off,none⟩ v:=fun r f k=>.inr (k off v h)
theorem zFt {t:TypeId} {z:List Value} {x:Operand} {bb off:Nat} {c:List Value} {v:Value} {F:List HP} (h:TyN P t false 1 z) (hx:ev L x=some (.pointer (some ⟨bb,off,none⟩))) (hs:Sel s (rbox bb c) F) (hv:c[off]?=some v):Lt P E L s ⟨dst,.load t x,ty,pos,af,gd⟩ v:=zBC h hx hs (zF1 hv)
theorem zKo {t:TypeId} {sz:Nat} {z:List Value} {x:Operand} {bb off:Nat} {c cs:List Value} {F:List HP} (h:TyN P t true sz z) (hx:ev L x=some (.pointer (some ⟨bb,off,none⟩))) (hs:Sel s (rbox bb c) F) (hv:zLn c off sz=some cs):Lt P E L s ⟨dst,.load t x,ty,pos,af,gd⟩ (.agg cs.toArray):=by
 obtain ⟨h1,h2⟩:=YC hv;refine zBf h hx hs h1 fun j v hj=>?_;rw [Xl];exact zF1 (h2 j v hj)
inductive Sh
 | int|bool|str
def eqC:List Sh->List Value->List Value->Option Bool
 | [],[],[]=>some true
 | .int::sh,.int k a::xs,.int k' c::ys=>if k=k' then match eqC sh xs ys with
   | some r=>some (decide (a=c)&&r)
   | none=>none
  else none
 | .bool::sh,.bool a::xs,.bool c::ys=>match eqC sh xs ys with
   | some r=>some ((a == c)&&r)
   | none=>none
 | .str::sh,.string a::xs,.string c::ys=>match eqC sh xs ys with
   | some r=>some ((a == c)&&r)
   | none=>none
 | _,_,_=>none
def flds (P:Program) (g:TypeId->Option (List Sh)):List Field->Nat->Option (List Sh)
 | [],_=>some []
 | f::fs,off=>if (f.name != "_")&&Nat.beq f.offset off then match g f.type,P.info? f.type with
   | some sh,some i=>if Nat.beq i.size sh.length then match flds P g fs (off+sh.length) with
    | some r=>some (sh++r)
    | none=>none else none
   | _,_=>none
  else none
def Xy (P:Program):Nat->TypeId->Option (List Sh)
 | 0,_=>none
 | n+1,t=>match P.underlying t with
  | some (.int _)=>some [.int]
  | some .bool=>some [.bool]
  | some .string=>some [.str]
  | some (.struct fs)=>if P.stoodInHeld t then none else flds P (Xy P n) fs.toList 0
  | _=>none
theorem zEh:∀ {sh:List Sh} {xs ys:List Value} {v:Bool},eqC sh xs ys=some v->xs.length=sh.length/\ys.length=sh.length
 | [],[],[],_,_=>⟨rfl,rfl⟩
 | [],_::_,_,_,h=>by simp [eqC] at h
 | [],[],_::_,_,h=>by simp [eqC] at h
 | c::sh,[],_,_,h=>by simp [eqC] at h
 | c::sh,x::xs,[],_,h=>by cases c <;> cases x <;> simp [eqC] at h
 | c::sh,x::xs,y::ys,v,h=>by
  have:∃ r,eqC sh xs ys=some r:=by
   cases hr:eqC sh xs ys with
   | some r=>exact ⟨r,rfl⟩
   | none=>cases c <;> cases x <;> cases y <;> simp [eqC,hr] at h
  obtain ⟨r,hr⟩:=this;have:=zEh hr
  simp [this]
theorem zJs:∀ {s1 s2:List Sh} {xs ys:List Value} {v:Bool},eqC (s1++s2) xs ys=some v->∃ v1 v2,eqC s1 (xs.take s1.length) (ys.take s1.length)=some v1/\eqC s2 (xs.drop s1.length) (ys.drop s1.length)=some v2/\v=(v1&&v2)
 | [],s2,xs,ys,v,h=>⟨true,v,by simp [eqC],by simpa using h,by simp⟩
 | c::s1,s2,[],_,_,h=>by simp [eqC] at h
 | c::s1,s2,x::xs,[],_,h=>by cases c <;> cases x <;> simp [eqC] at h
 | c::s1,s2,x::xs,y::ys,v,h=>by
  rw [List.cons_append] at h;have:∃ r q,eqC (s1++s2) xs ys=some r/\v=(q&&r)/\∀ (a b:List Value) u,eqC s1 a b=some u->eqC (c::s1) (x::a) (y::b)=some (q&&u):=by
   cases hr:eqC (s1++s2) xs ys with
   | none=>cases c <;> cases x <;> cases y <;> simp [eqC,hr] at h
   | some r=>
    cases c <;> cases x <;> cases y <;> simp [eqC,hr] at h
    ·rename_i k a k' c
     obtain ⟨rfl,rfl⟩:=h;exact ⟨r,decide (a=c),rfl,rfl,fun a b u hu=>by simp [eqC,hu]⟩
    ·subst h;exact ⟨r,_,rfl,rfl,fun a b u hu=>by simp [eqC,hu]⟩
    ·subst h;exact ⟨r,_,rfl,rfl,fun a b u hu=>by simp [eqC,hu]⟩
  obtain ⟨r,q,h1,rfl,h2⟩:=this;obtain ⟨v1,v2,k1,k2,rfl⟩:=zJs h1;exact ⟨q&&v1,v2,by simpa using h2 _ _ _ k1,by simpa using k2,by rw [Bool.and_assoc]⟩
theorem zEB (hg:True):∀ (n:Nat) (t:TypeId) (sh:List Sh) (i:TypeInfo),Xy P n t=some sh->P.info? t=some i->i.size=sh.length->
  (∀ (dp:Nat),n<=dp->∀ (xs ys:Array Value) (off:Nat) (v:Bool),eqC sh ((xs.toList.drop off).take sh.length) ((ys.toList.drop off).take sh.length)=some v->∃ vx vy,Calm P (Go.part t xs off) vx/\Calm P (Go.part t ys off) vy/\Calm P (Op.equalIn dp t vx vy) v)/\
  (∀ (dp:Nat),n<=dp->∀ (xs ys:Array Value) (v:Bool) (fs:Array Field),P.underlying t=some (.struct fs)->eqC sh xs.toList ys.toList=some v->Calm P (Op.equalIn dp t (.agg xs) (.agg ys)) v):=by
 intro n;induction n with
 | zero=>intro t sh i h;simp [Xy] at h
 | succ n ih=>
  intro t sh i h hi hsz;have second:∀ (dp:Nat),n+1<=dp->∀ (xs ys:Array Value) (v:Bool) (fs:Array Field),P.underlying t=some (.struct fs)->eqC sh xs.toList ys.toList=some v->Calm P (Op.equalIn dp t (.agg xs) (.agg ys)) v:=by
   intro dp hdp xs ys v fs hu hv;obtain ⟨dp,rfl⟩:∃ m,dp=m+1:=⟨dp-1,by omega⟩
   unfold Xy at h;rw [hu] at h;simp only at h;split at h
   ·cases h
   ·rename_i hst
    unfold Op.equalIn;refine (Calm.underlying hu).bind ?_;simp only;refine Calm.program.bind ?_;simp only [hst,Bool.false_eq_true,if_false];rw [<-Array.forIn_toList];have loop:∀ (fl:List Field) (off:Nat) (r:List Sh) (v:Bool),flds P (Xy P n) fl off=some r->eqC r (xs.toList.drop off) (ys.toList.drop off)=some v->
      Calm P (forIn fl (none,()) (fun (f:Field) (_:Option Bool×Unit)=>(if f.name≠ "_" then do
       let a <-Go.part f.type xs f.offset
       let c <-Go.part f.type ys f.offset
       let q <-Op.equalIn dp f.type a c
       if (!q)=true then Pure.pure (ForInStep.done (some false,())) else Pure.pure (ForInStep.yield (none,()))
      else Pure.pure (ForInStep.yield (none,())):Sem (ForInStep (Option Bool×Unit))))) (if v then (none,()) else (some false,())):=by
     intro fl;induction fl with
     | nil=>
      intro off r v hr hv;simp [flds] at hr;subst hr;have:v=true:=by
       cases hx:xs.toList.drop off <;> cases hy:ys.toList.drop off <;> simp [eqC,hx,hy] at hv
       exact hv
      subst this;simp only [List.forIn_nil,if_true];exact Calm.pure _
     | cons f fl ihf=>
      intro off r v hr hv;unfold flds at hr;split at hr
      ·rename_i hc
       simp only [Bool.and_eq_true,bne_iff_ne] at hc;have hoff:=Nat.eq_of_beq_eq_true hc.2;split at hr
       ·rename_i sh' i' e1 e2
        split at hr
        ·rename_i hb
         have hb:=Nat.eq_of_beq_eq_true hb;split at hr
         ·rename_i r' e3
          cases hr
          obtain ⟨v1,v2,k1,k2,rfl⟩:=zJs hv;obtain ⟨vx,vy,p1,p2,p3⟩:=(ih f.type sh' i' e1 e2 hb).1 dp (by omega) xs ys off v1 k1
          rw [List.forIn_cons];simp only [hc.1,ne_eq,not_false_eq_true,if_true,hoff];rw [List.drop_drop,List.drop_drop] at k2;have k3:=ihf _ _ _ e3 k2;refine Calm.bind (a:=if v1 then ForInStep.yield (none,()) else ForInStep.done (some false,())) (p1.bind (p2.bind (p3.bind ?_))) ?_
          ·cases v1 <;> exact Calm.pure _
          ·cases v1
           ·exact Calm.pure _
           ·simpa using k3
         ·cases hr
        ·cases hr
       ·cases hr
      ·cases hr
    refine Calm.bind (loop fs.toList 0 sh v h (by simpa using hv)) ?_
    cases v <;> exact Calm.pure _
  refine ⟨fun dp hdp xs ys off v hv=>?_,second⟩;have hlx:=(zEh hv).1;have hly:=(zEh hv).2;have scalar:∀ (d:TypeDesc) (c:Sh),P.underlying t=some d->(match d with | .struct _ | .array _ _=>true|_=>false)=false->sh=[c]->∃ x y,xs[off]?=some x/\ys[off]?=some y/\eqC [c] [x] [y]=some v/\Calm P (Go.part t xs off) x/\Calm P (Go.part t ys off) y:=by
   intro d c hu hd hsh;subst hsh;obtain ⟨x,hx⟩:=List.length_eq_one_iff.1 hlx;obtain ⟨y,hy⟩:=List.length_eq_one_iff.1 hly;rw [hx,hy] at hv;have gx:xs[off]?=some x:=by
    have:((xs.toList.drop off).take [c].length)[0]?=some x:=by rw [hx];rfl
    rw [List.getElem?_take] at this;simpa using this
   have gy:ys[off]?=some y:=by
    have:((ys.toList.drop off).take [c].length)[0]?=some y:=by rw [hy];rfl
    rw [List.getElem?_take] at this;simpa using this
   have hagg:Calm P (Go.isAgg t) false:=by
    refine (Calm.underlying hu).bind ?_;cases d <;> simp at hd <;> exact Calm.pure _
   refine ⟨x,y,gx,gy,hv,?_,?_⟩
   ·unfold Go.part;refine hagg.bind ?_;simp only [Bool.false_eq_true,if_false,gx];exact Calm.pure _
   ·unfold Go.part;refine hagg.bind ?_;simp only [Bool.false_eq_true,if_false,gy];exact Calm.pure _
  have h0:=h;unfold Xy at h;obtain ⟨dp,rfl⟩:∃ m,dp=m+1:=⟨dp-1,by omega⟩
  split at h
  ·rename_i k hu
   cases h
   obtain ⟨x,y,_,_,h3,h4,h5⟩:=scalar _ .int hu rfl rfl;refine ⟨x,y,h4,h5,?_⟩;cases x <;> cases y <;> simp [eqC] at h3
   obtain ⟨rfl,rfl⟩:=h3;unfold Op.equalIn;refine (Calm.underlying hu).bind ?_;simp only [if_true];exact Calm.pure _
  ·rename_i hu
   cases h
   obtain ⟨x,y,_,_,h3,h4,h5⟩:=scalar _ .bool hu rfl rfl;refine ⟨x,y,h4,h5,?_⟩;cases x <;> cases y <;> simp [eqC] at h3
   subst h3;unfold Op.equalIn;refine (Calm.underlying hu).bind ?_;exact Calm.pure _
  ·rename_i hu
   cases h
   obtain ⟨x,y,_,_,h3,h4,h5⟩:=scalar _ .str hu rfl rfl;refine ⟨x,y,h4,h5,?_⟩;cases x <;> cases y <;> simp [eqC] at h3
   subst h3;unfold Op.equalIn;refine (Calm.underlying hu).bind ?_;exact Calm.pure _
  ·rename_i fs hu
   have hagg:Calm P (Go.isAgg t) true:=(Calm.underlying hu).bind (Calm.pure _);have hsz':Calm P (Go.sizeOf t) sh.length:=by rw [<-hsz];exact Calm.sizeOf hi
   have hp:∀ zs:Array Value,Calm P (Go.part t zs off) (.agg (zs.extract off (off+sh.length))):=fun zs=>by
    unfold Go.part;refine hagg.bind ?_;simp only [if_true];exact hsz'.bind (Calm.pure _)
   refine ⟨_,_,hp xs,hp ys,second (dp+1) hdp _ _ v fs hu ?_⟩;simp only [Array.toList_extract,List.extract_eq_take_drop];rw [show off+sh.length-off=sh.length by omega];exact hv
  ·cases h
class TyEq (P:Program) (t:TypeId) (sh:outParam (List Sh)):Prop where
 h:∃ i fs,Xy P 8 t=some sh/\P.info? t=some i/\i.size=sh.length/\P.underlying t=some (.struct fs)/\P.eqGuardType P.depth t=false
theorem Calm.aggEq {t:TypeId} {sh:List Sh} {xs ys:Array Value} {v:Bool} (h:TyEq P t sh) (hv:eqC sh xs.toList ys.toList=some v):Calm P (Op.equal t (.agg xs) (.agg ys)) v:=by
 obtain ⟨i,fs,h1,h2,h3,h4,_⟩:=h.h;exact (zEB trivial 8 t sh i h1 h2 h3).2 10000 (by omega) xs ys v fs h4 hv
theorem Calm.aggGuard {t:TypeId} {sh:List Sh} {op:BinOp} {x y:Operand} {xs ys:Array Value} (h:TyEq P t sh):Calm P (Go.eqGuard op t x y (.agg xs) (.agg ys)) ():=by
 obtain ⟨i,fs,h1,h2,h3,h4,h5⟩:=h.h;have main:Calm P (do
   let p <-Go.program
   let q <-Go.program
   if (!p.eqGuardType q.depth t)=true then Pure.pure ()
    else do
     let r <-Op.eqGuardIn Op.maxDepth t (Value.agg xs) (Value.agg ys)
     if r=true then
       unsupported (Unsupported.noEntry "binop/eql: two nil values of an interface type with methods, in a part of a struct or an array")
      else Pure.pure ():Sem Unit) ():=by
  refine Calm.program.bind (Calm.program.bind ?_);simp only [h5,Bool.not_false,if_true];exact Calm.pure _
 unfold Go.eqGuard;cases op
 case eql=>exact main
 case neq=>exact main
 all_goals exact Calm.pure _
theorem zNe {t1 t2:TypeId} {x y:Operand} {xs ys:Array Value} {sh:List Sh} {v:Bool} (h:TyEq P t1 sh) (hx:ev L x=some (.agg xs)) (hy:ev L y=some (.agg ys)) (hv:eqC sh xs.toList ys.toList=some v):Cm P L ⟨dst,.binOp .eql t1 x y t2,ty,pos,af,gd⟩ (.bool v):=
 Cm.of rfl (fun e' he=>by
  unfold execOp;simp only [he _ _ hx,he _ _ hy];refine Calm.bind (a:=.bool v) ?_ (Calm.pure _);refine Calm.bind (a:=()) (Calm.aggGuard h) ?_;unfold Go.binOp;exact (Calm.aggEq h hv).bind (Calm.pure _))
theorem zMR {t1 t2:TypeId} {x y:Operand} {xs ys:Array Value} {sh:List Sh} {v:Bool} (h:TyEq P t1 sh) (hx:ev L x=some (.agg xs)) (hy:ev L y=some (.agg ys)) (hv:eqC sh xs.toList ys.toList=some v):Cm P L ⟨dst,.binOp .neq t1 x y t2,ty,pos,af,gd⟩ (.bool (!v)):=
 Cm.of rfl (fun e' he=>by
  unfold execOp;simp only [he _ _ hx,he _ _ hy];refine Calm.bind (a:=.bool (!v)) ?_ (Calm.pure _);refine Calm.bind (a:=()) (Calm.aggGuard h) ?_;unfold Go.binOp;exact (Calm.aggEq h hv).bind (Calm.pure _))
theorem zHQ {t1 t2 e:TypeId} {x y:Operand} {base:Option Addr} {n cap n2 cap2:Nat} (h:TyU P t1 (.slice e)) (hx:ev L x=some (.slice base n cap)) (hy:ev L y=some (.slice none n2 cap2)):Cm P L ⟨dst,.binOp .eql t1 x y t2,ty,pos,af,gd⟩ (.bool base.isNone):=
 Cm.of rfl (fun e' he=>by
  unfold execOp;simp only [he _ _ hx,he _ _ hy];refine Calm.bind (a:=.bool base.isNone) ?_ (Calm.pure _);refine Calm.bind (a:=()) (by unfold eqGuard;exact Calm.pure _) ?_
  unfold Go.binOp Op.equal Op.maxDepth Op.equalIn;refine Calm.bind (a:=base.isNone) ((Calm.underlying h.h).bind ?_) (Calm.pure _);cases base <;> exact Calm.pure _)
theorem zDn {t1 t2 e:TypeId} {x y:Operand} {base:Option Addr} {n cap n2 cap2:Nat} (h:TyU P t1 (.slice e)) (hx:ev L x=some (.slice base n cap)) (hy:ev L y=some (.slice none n2 cap2)):Cm P L ⟨dst,.binOp .neq t1 x y t2,ty,pos,af,gd⟩ (.bool (!base.isNone)):=
 Cm.of rfl (fun e' he=>by
  unfold execOp;simp only [he _ _ hx,he _ _ hy];refine Calm.bind (a:=.bool (!base.isNone)) ?_ (Calm.pure _);refine Calm.bind (a:=()) (by unfold eqGuard;exact Calm.pure _) ?_
  unfold Go.binOp Op.equal Op.maxDepth Op.equalIn;refine Calm.bind (a:=base.isNone) ((Calm.underlying h.h).bind ?_) (Calm.pure _);cases base <;> exact Calm.pure _)
theorem zKu {t1 t2 e:TypeId} {x y:Operand} {a:Option Addr} (h:TyU P t1 (.pointer e)) (hx:ev L x=some (.pointer a)) (hy:ev L y=some (.pointer none)):Cm P L ⟨dst,.binOp .eql t1 x y t2,ty,pos,af,gd⟩ (.bool a.isNone):=
 Cm.of rfl (fun e' he=>by
  unfold execOp;simp only [he _ _ hx,he _ _ hy];refine Calm.bind (a:=.bool a.isNone) ?_ (Calm.pure _);refine Calm.bind (a:=()) (by unfold eqGuard;exact Calm.pure _) ?_
  unfold Go.binOp Op.equal Op.maxDepth Op.equalIn;refine Calm.bind (a:=a.isNone) ((Calm.underlying h.h).bind ?_) (Calm.pure _);cases a <;> exact Calm.pure _)
theorem zJq {t1 t2 e:TypeId} {x y:Operand} {a:Option Addr} (h:TyU P t1 (.pointer e)) (hx:ev L x=some (.pointer a)) (hy:ev L y=some (.pointer none)):Cm P L ⟨dst,.binOp .neq t1 x y t2,ty,pos,af,gd⟩ (.bool (!a.isNone)):=
 Cm.of rfl (fun e' he=>by
  unfold execOp;simp only [he _ _ hx,he _ _ hy];refine Calm.bind (a:=.bool (!a.isNone)) ?_ (Calm.pure _);refine Calm.bind (a:=()) (by unfold eqGuard;exact Calm.pure _) ?_
  unfold Go.binOp Op.equal Op.maxDepth Op.equalIn;refine Calm.bind (a:=a.isNone) ((Calm.underlying h.h).bind ?_) (Calm.pure _);cases a <;> exact Calm.pure _)
end
class Mixed (P:Program):Prop where
 h:P.follows .mixedOrders=true
end Go.KL
end
section
namespace Go.KL
open Go
class TyEqA (P:Program) (t:TypeId) (len:outParam Nat) (k:outParam IntKind):Prop where
 h:∃ e z,P.underlying t=some (.array len e)/\P.underlying e=some (.int k)/\TyN P e false 1 z/\P.eqGuardType P.depth t=false
theorem Calm.arrEq {P:Program} {t:TypeId} {len:Nat} {k:IntKind} {xs ys:Array Value} {as bs:List Int} (h:TyEqA P t len k) (hx:xs.toList=as.map (.int k)) (hy:ys.toList=bs.map (.int k)) (la:as.length=len) (lb:bs.length=len):Calm P (Op.equal t (.agg xs) (.agg ys)) (decide (as=bs)):=by
 obtain ⟨e,z,h1,h2,h3,_⟩:=h.h;unfold Op.equal Op.maxDepth Op.equalIn;refine (Calm.underlying h1).bind ?_;simp only;refine (Calm.sizeOf' h3).bind ?_;simp only [Nat.mul_one];rw [Std.Legacy.Range.forIn_eq_forIn_range'];have loop:∀ (n i:Nat) (as bs:List Int),xs.toList.drop i=as.map (.int k)->ys.toList.drop i=bs.map (.int k)->as.length=n->bs.length=n->
   Calm P (forIn (List.range' i n 1) (none,()) (fun (i:Nat) (_:Option Bool×Unit)=>(do
    let a <-Go.part e xs i
    let c <-Go.part e ys i
    let q <-Op.equalIn 9999 e a c
    if (!q)=true then Pure.pure (ForInStep.done (some false,())) else Pure.pure (ForInStep.yield (none,())):Sem (ForInStep (Option Bool×Unit))))) (if decide (as=bs) then (none,()) else (some false,())):=by
  intro n;induction n with
  | zero=>
   intro i as bs _ _ ha hb;have ha:=List.length_eq_zero_iff.1 ha;have hb:=List.length_eq_zero_iff.1 hb;subst ha;subst hb;exact Calm.pure _
  | succ n ih=>
   intro i as bs hx hy ha hb;cases as with
   | nil=>simp at ha
   | cons a as=>
    cases bs with
    | nil=>simp at hb
    | cons c bs=>
     have hx0:xs[i]?=some (.int k a):=by
      have:=congrArg (·[0]?) hx
      simpa using this
     have hy0:ys[i]?=some (.int k c):=by
      have:=congrArg (·[0]?) hy
      simpa using this
     have hx1:xs.toList.drop (i+1)=as.map (.int k):=by
      rw [<-List.drop_drop,hx];rfl
     have hy1:ys.toList.drop (i+1)=bs.map (.int k):=by
      rw [<-List.drop_drop,hy];rfl
     have k3:=ih (i+1) as bs hx1 hy1 (by simpa using ha) (by simpa using hb)
     have hq:Calm P (Op.equalIn 9999 e (.int k a) (.int k c)) (a == c):=by
      unfold Op.equalIn;refine (Calm.underlying h2).bind ?_;simp only [if_true];exact Calm.pure _
     rw [List.range'_succ,List.forIn_cons];refine Calm.bind (a:=if a == c then ForInStep.yield (none,()) else ForInStep.done (some false,())) ((Calm.part1 h3 hx0).bind ((Calm.part1 h3 hy0).bind (hq.bind ?_))) ?_
     ·cases (a == c) <;> exact Calm.pure _
     ·by_cases hac:a=c
      ·subst hac;simp only [beq_self_eq_true,if_true];have:decide (a::as=a::bs)=decide (as=bs):=by simp
       rw [this];exact k3
      ·have h1:(a == c)=false:=by simpa using hac
       have h2:decide (a::as=c::bs)=false:=by simp [hac]
       rw [h1,h2];exact Calm.pure _
 have hl:=loop len 0 as bs hx hy la lb;have e1:[:len].start=0:=rfl;have e2:[:len].size=len:=by simp [Std.Legacy.Range.size]
 have e3:[:len].step=1:=rfl;rw [e1,e2,e3];refine hl.bind ?_;cases decide (as=bs) <;> exact Calm.pure _
theorem Calm.arrGuard {P:Program} {t:TypeId} {len:Nat} {k:IntKind} {op:BinOp} {x y:Operand} {xs ys:Array Value} (h:TyEqA P t len k):Calm P (Go.eqGuard op t x y (.agg xs) (.agg ys)) ():=by
 obtain ⟨_,_,_,_,_,h5⟩:=h.h;have main:Calm P (do
   let p <-Go.program
   let q <-Go.program
   if (!p.eqGuardType q.depth t)=true then Pure.pure ()
    else do
     let r <-Op.eqGuardIn Op.maxDepth t (Value.agg xs) (Value.agg ys)
     if r=true then
       unsupported (Unsupported.noEntry "binop/eql: two nil values of an interface type with methods, in a part of a struct or an array")
      else Pure.pure ():Sem Unit) ():=by
  refine Calm.program.bind (Calm.program.bind ?_);simp only [h5,Bool.not_false,if_true];exact Calm.pure _
 unfold Go.eqGuard;cases op
 case eql=>exact main
 case neq=>exact main
 all_goals exact Calm.pure _
def Vn (k:IntKind):List Value->Option (List Int)
 | []=>some []
 | .int k' a::vs=>if k=k' then match Vn k vs with
   | some r=>some (a::r)
   | none=>none
  else none
 | _=>none
theorem XK {k:IntKind}:∀ {vs:List Value} {as:List Int},Vn k vs=some as->vs=as.map (.int k)
 | [],as,h=>by cases h;rfl
 | x::vs,as,h=>by
  cases x <;> simp only [Vn,reduceCtorEq] at h
  rename_i k' a
  split at h
  ·rename_i e;subst e
   cases e2:Vn k vs with
   | none=>rw [e2] at h;cases h
   | some r=>rw [e2] at h;cases h;rw [XK e2];rfl
  ·cases h
section
variable {P:Program} {E:Env} {X:Xs} {b:Fx} {Post:Value->List HP->Prop} {k:List Item} {L:Tm} {s:List HP} {l rest:List Oper} {M eff rdx:List Nat} {σ:List (Nat×Oper)} {pd:List (Nat×Oper×Value)} {j:Nat} {dst:Option Nat} {ty:TypeId} {pos:String} {af:Array Edge} {gd:Option (Nat×Bool)}
structure DoesV (P:Program) (E:Env) (X:Xs) (fv:Value) (vs:List Value) (pre:List HP) (Post:Value->List HP->Prop):Prop where
 h:∀ {b:Fx} {L:Tm} {s F:List HP} {o:Oper} {fo:Operand} {args:Array Operand} {ats:Array TypeId},o.op=.call ⟨.value fo,args,ats⟩->ev L fo=some fv->evs L args.toList=some vs->
  (∀ r f,sep s r f->sep (pre++F) r f)->Ex P E X b L s o (fun v s'=>∃ t,Post v t/\s'=t++F)
theorem Does.v {g:FuncId} {fi ca:Array Value} {vs pre:List _} {Post:Value->List HP->Prop} (h:Does P E X g (fi.toList++vs++ca.toList) pre Post):DoesV P E X (.func (.func g) fi ca) vs pre Post:=
 ⟨fun ho hf ha hs=>Ex.call ho hf ha rfl h hs⟩
theorem Does.clo {g:FuncId} {ca:Array Value} {vs as:List Value} {pre:List HP} {Post:Value->List HP->Prop} (h:Does P E X g as pre Post) (e:as=vs++ca.toList):DoesV P E X (.func (.func g) #[] ca) vs pre Post:=by
 subst e;exact Does.v (fi:=#[]) h
def Clv (P:Program) (E:Env) (X:Xs) (fv:Value) (vs:List Value) (s:List HP) (J:Value->List HP->Prop):Prop:=∃ pre F Post',DoesV P E X fv vs pre Post'/\(∀ r f,sep s r f->sep (pre++F) r f)/\∀ v t,Post' v t->J v (t++F)
theorem WL.clv {d:Option Nat} {fo:Operand} {args:Array Operand} {ats:Array TypeId} {fv:Value} {vs:List Value}
  (hw:Want L l ⟨d,.call ⟨.value fo,args,ats⟩,ty,pos,af,gd⟩ true) (hf:ev L fo=some fv) (ha:evs L args.toList=some vs) (hd:ltd d b.n=true)
  (h:Clv P E X fv vs s (fun v s'=>WL P E X b Post l rest k (setd d v L) s')) :
  WL P E X b Post l (⟨d,.call ⟨.value fo,args,ats⟩,ty,pos,af,gd⟩::rest) k L s:=by
 obtain ⟨pre,F,Post',h1,h2,h3⟩:=h;exact WL.ex hw hd (h1.h rfl hf ha h2) fun v s' ⟨t,e1,e2⟩=>by rw [e2];exact h3 v t e1
theorem DA.clv {d:Option Nat} {fo:Operand} {args:Array Operand} {ats:Array TypeId} {fv:Value} {vs:List Value}
  (hw:Want L l ⟨d,.call ⟨.value fo,args,ats⟩,ty,pos,af,gd⟩ true) (hf:ev L fo=some fv) (ha:evs L args.toList=some vs) (hd:ltd d b.n=true) (hj:eff.contains j=true)
  (h:Clv P E X fv vs s (fun v s'=>PdOk P E M j (setd d v L) s' pd/\DA P E X b Post l M eff rdx σ pd k (setd d v L) s')) :
  DA P E X b Post l M eff rdx ((j,⟨d,.call ⟨.value fo,args,ats⟩,ty,pos,af,gd⟩)::σ) pd k L s:=by
 obtain ⟨pre,F,Post',h1,h2,h3⟩:=h;exact DA.exP hw hd hj rfl (h1.h rfl hf ha h2) fun v s' ⟨t,e1,e2⟩=>by rw [e2];exact h3 v t e1
theorem DA.exSkip1 {d:Nat} {op:Op} (hw:Want L l ⟨some d,op,ty,pos,af,gd⟩ false) (hd:Nat.blt d b.n=true) (he:eff.contains j=true) (hpd:PdOk P E M j ((d,undef)::L) s pd) (g:DA P E X b Post l M eff rdx σ pd k ((d,undef)::L) s):DA P E X b Post l M eff rdx ((j,⟨some d,op,ty,pos,af,gd⟩)::σ) pd k L s:=
 DA.exSkip (o:=⟨some d,op,ty,pos,af,gd⟩) hw hd he hpd g
theorem ZB {σo:List (Nat×Oper)} (g:DA P E X b Post l M eff rdx σo pd k L s):DA P E X b Post l M eff rdx σo pd k L s:=g
theorem zEv {t e:TypeId} {agg:Bool} {sz:Nat} {z:List Value} {x y:Operand} {bb off len n:Nat} {kk:IntKind} {i:Int} (h:TyU P t (.array len e)) (he:TyN P e agg sz z) (hx:ev L x=some (.pointer (some ⟨bb,off,none⟩))) (hy:ev L y=some (.int kk i)) (hk:i=(n:Int)) (h1:Nat.blt n len=true):Cm P L ⟨dst,.indexAddr t x y,ty,pos,af,gd⟩ (.pointer (some ⟨bb,off+n*sz,none⟩)):=by
 subst hk;exact Ji h he hx hy (by omega) (by have:=Yk h1;omega)
theorem zOk {g:FuncId} {as:List Value} {J:Value->List HP->Prop} (h:Cl P E X g as s J):Cl P E X g as s J:=h
def HP.ex {α:Type} (A:α->List HP):HP:=⟨fun r f=>∃ a,sep (A a) r f,fun hr ⟨a,h⟩=>⟨a,wF hr (Hp.le_refl _) h⟩⟩
theorem zCo {α:Type} {A:α->List HP} {F F0:List HP} {r f:Hp} (hs:Sel s (HP.ex A) F) (h:sep (s++F0) r f):∃ a,sep ((A a++F)++F0) r f:=by
 obtain ⟨f1,f2,d,l1,l2,h1,h2⟩:=zD.1 h;obtain ⟨f3,f4,d',m1,m2,⟨a,ha⟩,k⟩:=hs.out h1;exact ⟨a,zD.2 ⟨f1,f2,d,l1,l2,zD.2 ⟨f3,f4,d',m1,m2,ha,k⟩,h2⟩⟩
theorem zW {α:Type} (A:α->List HP) {F:List HP} {t:List Item} (g:∀ a,W P E X b Post t L (A a++F)) (hs:Sel s (HP.ex A) F:=by (try simp only [List.cons_append,List.nil_append,List.append_nil]);(repeat (first|(with_reducible exact Sel.here)|(with_reducible apply Sel.there)))):W P E X b Post t L s:=by
 intro K cs F0 hr tmps r f hok h;obtain ⟨a,ha⟩:=zCo hs h;exact g a K cs F0 hr tmps r f hok ha
theorem Into.pack {α:Type} {A:α->List HP} (a:α) {F:List HP} (h:Sels s (A a) F):Into s (HP.ex A::F):=⟨fun r f hs=>by
 obtain ⟨f1,f2,d,l1,l2,h1,h2⟩:=zD.1 (h.out hs);exact ⟨f1,f2,d,l1,l2,⟨a,h1⟩,h2⟩⟩
theorem zE {α:Type} (A:α->List HP) (a:α) {F:List HP} {t:List Item} (g:W P E X b Post t L (HP.ex A::F)) (hsel:Sels s (A a) F:=by (try simp only [List.cons_append,List.nil_append]);repeat (first|(with_reducible exact Sels.nil)|((with_reducible apply Sels.dupI);(case h=>(first|(with_reducible exact Sel.here)|((repeat (first|(with_reducible exact Sel.here)|(with_reducible apply Sel.there)));done)|(repeat (first|(exact Sel.here)|(apply Sel.there))))))|((with_reducible apply Sels.cons);(case h=>(first|(with_reducible exact Sel.here)|((repeat (first|(with_reducible exact Sel.here)|(with_reducible apply Sel.there)));done)|(repeat (first|(exact Sel.here)|(apply Sel.there)))))))):W P E X b Post t L s:=W.weaken (fun _ _ h=>h) (Into.pack a hsel).h g
theorem VV {α:Type} (A:α->List HP) (a:α) {F:List HP} {fn:FuncId} {as:List Value} {J:Value->List HP->Prop} (g:Cl P E X fn as (HP.ex A::F) J) (hsel:Sels s (A a) F:=by (try simp only [List.cons_append,List.nil_append]);repeat (first|(with_reducible exact Sels.nil)|((with_reducible apply Sels.dupI);(case h=>(first|(with_reducible exact Sel.here)|((repeat (first|(with_reducible exact Sel.here)|(with_reducible apply Sel.there)));done)|(repeat (first|(exact Sel.here)|(apply Sel.there))))))|((with_reducible apply Sels.cons);(case h=>(first|(with_reducible exact Sel.here)|((repeat (first|(with_reducible exact Sel.here)|(with_reducible apply Sel.there)));done)|(repeat (first|(exact Sel.here)|(apply Sel.there)))))))):Cl P E X fn as s J:=by
 obtain ⟨pre,F',Post',h1,h2,h3⟩:=g;exact ⟨pre,F',Post',h1,fun r f hs=>h2 r f ((Into.pack a hsel).h r f hs),h3⟩
theorem YG {α:Type} (A:α->List HP) {F:List HP} (g:∀ a,WL P E X b Post l rest k L (A a++F)) (hs:Sel s (HP.ex A) F:=by (try simp only [List.cons_append,List.nil_append,List.append_nil]);(repeat (first|(with_reducible exact Sel.here)|(with_reducible apply Sel.there)))):WL P E X b Post l rest k L s:=fun n hn=>zW A (fun a=>g a n hn) hs
theorem zDP {t e:TypeId} {agg:Bool} {sz:Nat} {z:List Value} {x y:Operand} {base:Option Addr} {j sj off len n:Nat} {kk:IntKind} {i:Int} (h:TyU P t (.array len e)) (he:TyN P e agg sz z) (hx:ev L x=some (.pointer (some (eltA base j sj off)))) (hy:ev L y=some (.int kk i)) (hk:i=(n:Int)) (h1:Nat.blt n len=true):Cm P L ⟨dst,.indexAddr t x y,ty,pos,af,gd⟩ (.pointer (some (eltA base j sj (off+n*sz)))):=by
 subst hk;exact JV h he hx hy (by omega) (by have:=Yk h1;omega)
theorem zNL {t1 t2:TypeId} {x y:Operand} {xs ys:Array Value} {len:Nat} {kk:IntKind} {as bs:List Int} (h:TyEqA P t1 len kk) (hx:ev L x=some (.agg xs)) (hy:ev L y=some (.agg ys)) (ha:Vn kk xs.toList=some as) (hb:Vn kk ys.toList=some bs) (la:as.length=len) (lb:bs.length=len):Cm P L ⟨dst,.binOp .eql t1 x y t2,ty,pos,af,gd⟩ (.bool (decide (as=bs))):=
 Cm.of rfl (fun e' he=>by
  unfold execOp;simp only [he _ _ hx,he _ _ hy];refine Calm.bind (a:=.bool (decide (as=bs))) ?_ (Calm.pure _);refine Calm.bind (a:=()) (Calm.arrGuard h) ?_;unfold Go.binOp;exact (Calm.arrEq h (XK ha) (XK hb) la lb).bind (Calm.pure _))
theorem zMN {t1 t2:TypeId} {x y:Operand} {xs ys:Array Value} {len:Nat} {kk:IntKind} {as bs:List Int} (h:TyEqA P t1 len kk) (hx:ev L x=some (.agg xs)) (hy:ev L y=some (.agg ys)) (ha:Vn kk xs.toList=some as) (hb:Vn kk ys.toList=some bs) (la:as.length=len) (lb:bs.length=len):Cm P L ⟨dst,.binOp .neq t1 x y t2,ty,pos,af,gd⟩ (.bool (!decide (as=bs))):=
 Cm.of rfl (fun e' he=>by
  unfold execOp;simp only [he _ _ hx,he _ _ hy];refine Calm.bind (a:=.bool (!decide (as=bs))) ?_ (Calm.pure _);refine Calm.bind (a:=()) (Calm.arrGuard h) ?_;unfold Go.binOp;exact (Calm.arrEq h (XK ha) (XK hb) la lb).bind (Calm.pure _))
theorem XD {fv:Value} {vs:List Value} {pre F:List HP} {Post':Value->List HP->Prop} {J:Value->List HP->Prop} (hsp:DoesV P E X fv vs pre Post') (gk:∀ v t,Post' v t->J v (t++F))
  (hsel:Sels s pre F:=by (try simp only [List.cons_append,List.nil_append]);repeat (first|(with_reducible exact Sels.nil)|((with_reducible apply Sels.dupI);(case h=>(first|(with_reducible exact Sel.here)|((repeat (first|(with_reducible exact Sel.here)|(with_reducible apply Sel.there)));done)|(repeat (first|(exact Sel.here)|(apply Sel.there))))))|((with_reducible apply Sels.cons);(case h=>(first|(with_reducible exact Sel.here)|((repeat (first|(with_reducible exact Sel.here)|(with_reducible apply Sel.there)));done)|(repeat (first|(exact Sel.here)|(apply Sel.there)))))))):Clv P E X fv vs s J:=⟨pre,F,Post',hsp,fun _ _ h=>hsel.out h,gk⟩
theorem zGd {g:FuncId} {fi ca:Array Operand} {vs us:List Value} (h1:evs L fi.toList=some vs) (h2:evs L ca.toList=some us):Cm P L ⟨dst,.makeFunc (.func g) fi ca,ty,pos,af,gd⟩ (.func (.func g) vs.toArray us.toArray):=
 Cm.of rfl (fun e' he'=>by
  unfold execOp;simp only;have e1:fi.map e'=vs.toArray:=by
   apply Array.ext';simpa using Yx he' h1
  have e2:ca.map e'=us.toArray:=by
   apply Array.ext';simpa using Yx he' h2
  rw [e1,e2];exact (Calm.pure _).bind (Calm.pure _))
end
end Go.KL
end
section
namespace Go.KL
open Go
class TyZ (P:Program) (t:TypeId) (v:outParam Value):Prop where
 h:(P.info? t).bind (·.zero)=some v
theorem Calm.zeroV {P:Program} {t:TypeId} {v:Value} (h:TyZ P t v):Calm P (Go.zeroValue t) v:=by
 cases hi:P.info? t with
 | none=>have:=h.h;rw [hi] at this;cases this
 | some i=>
  have hz:i.zero=some v:=by have:=h.h;rw [hi] at this;exact this
  refine (Calm.typeInfo hi).bind ?_;rw [hz];exact Calm.pure _
abbrev Ent:=Int×Int×Nat
def xO (u:Ent):MapEntry:={ key:=.int .i64 u.1,val:=.int .i64 u.2.1,born:=u.2.2 }
def imap (b:Nat) (U:List Ent) (ck:Nat):HP:=blk b (.map (U.map xO).toArray ck)
def lk:List Ent->Int->Int
 | [],_=>0
 | u::U,k=>if u.1=k then u.2.1 else lk U k
def upM:List Ent->Int->Int->Nat->List Ent
 | [],k,v,ck=>[(k,v,ck)]
 | u::U,k,v,ck=>if u.1=k then (k,v,u.2.2)::U else u::upM U k v ck
def zMf:List Ent->Int->Bool
 | [],_=>false
 | u::U,k=>decide (u.1=k)||zMf U k
def zE8:List Ent->Int->List Ent
 | [],_=>[]
 | u::U,k=>if u.1=k then U else u::zE8 U k
def zBg:List Ent->Int->Nat->Option (Nat×Value)
 | [],_,_=>none
 | u::U,k,i=>if u.1=k then some (i,.int .i64 u.2.1) else zBg U k (i+1)
theorem Jb {d:IntKind} {k:Int}:∀ (U:List Ent) (i:Nat),Instr.findNow (.int d) (.int .i64 k) (U.map xO) i=some (zBg U k i)
 | [],i=>rfl
 | u::U,i=>by
  show (match Instr.sameNow (.int d) (.int .i64 k) (.int .i64 u.1) with|some true=>_|some false=>_|none=>_)=_;have:Instr.sameNow (.int d) (.int .i64 k) (.int .i64 u.1)=some (k == u.1):=rfl
  rw [this];unfold zBg;by_cases e:u.1=k
  ·subst e;simp [xO]
  ·have:(k == u.1)=false:=by simpa using fun h=>e h.symm
   rw [this,if_neg e];exact Jb U (i+1)
theorem zL0 {k:Int}:∀ (U:List Ent) (i:Nat),(zBg U k i).map (·.2)=if zMf U k then some (.int .i64 (lk U k)) else none
 | [],i=>rfl
 | u::U,i=>by
  unfold zBg zMf lk;by_cases e:u.1=k
  ·simp [e]
  ·simp only [e,if_false,decide_false,Bool.false_or];exact zL0 U (i+1)
theorem zKN {k:Int}:∀ {U:List Ent},zMf U k=false->lk U k=0
 | [],_=>rfl
 | u::U,h=>by
  unfold zMf at h;unfold lk;rw [Bool.or_eq_false_iff] at h;rw [if_neg (by simpa using h.1)]
  exact zKN h.2
section
variable {P:Program} {E:Env} {X:Xs} {b:Fx} {L:Tm} {s:List HP} {ty:TypeId} {pos:String} {af:Array Edge} {gd:Option (Nat×Bool)} {dst:Option Nat}
theorem Calm.checkKey {e:Bool} {n:Nat} {t:TypeId} {d:IntKind} {k:Int} (h:TyU P t (.int d)):Calm P (Instr.checkKey e (n+1) t (.int .i64 k)) ():=by
 unfold Instr.checkKey;exact (Calm.underlying h.h).bind (Calm.pure _)
theorem Calm.findKey {t:TypeId} {d:IntKind} {k:Int} (h:TyU P t (.int d)) (U:List Ent):Calm P (Instr.findKey t (.int .i64 k) (U.map xO)) (zBg U k 0):=by
 unfold Instr.findKey;refine (Calm.underlying h.h).bind ?_;rw [Jb];exact Calm.pure _
theorem zBq {t:TypeId}:Ex P E X b L s ⟨dst,.makeMap t none,ty,pos,af,gd⟩ (fun v s'=>∃ bb,v=.map (some bb)/\s'=imap bb [] 0::s):=by
 refine Ex.op rfl (.inr rfl) (fun e' he=>?_);unfold execOp;simp only [Option.map_none];refine T.bind (Q:=fun x s'=>∃ bb,x=.map (some bb)/\s'=imap bb [] 0::s) ?_ ?_
 ·unfold Instr.makeMap;refine T.bind (Q:=fun x s'=>s'=imap x [] 0::s) (T.ext (T.new _ rfl) fun a A h=>by rw [h];rfl) ?_
  rintro bb s' rfl;exact T.calm (Calm.pure _) ⟨bb,rfl,rfl⟩
 ·rintro x B ⟨bb,e1,e2⟩;exact T.calm (Calm.pure _) ⟨_,.inl rfl,bb,e1,e2⟩
theorem zLF {t kt et:TypeId} {d:IntKind} {x y:Operand} {bb ck:Nat} {U:List Ent} {k:Int} {F:List HP} (h:TyU P t (.map kt et)) (hk:TyU P kt (.int d)) (he:TyZ P et (.int .i64 0)) (hx:ev L x=some (.map (some bb))) (hy:ev L y=some (.int .i64 k)) (hs:Sel s (imap bb U ck) F) :
  Lt P E L s ⟨dst,.lookup t x y false,ty,pos,af,gd⟩ (.int .i64 (lk U k)):=
 Lt.of rfl (fun e' hev=>by
  unfold execOp;simp only [hev _ _ hx,hev _ _ hy];refine T.bind (Q:=fun v B=>v=.int .i64 (lk U k)/\B=s) ?_ ?_
  ·unfold Instr.lookup;refine T.calmBind (Calm.underlying h.h) ?_;simp only;refine T.bind (Q:=fun v B=>v=.map (U.map xO).toArray ck/\B=s) (T.sel hs (T.getObj rfl rfl rfl)) ?_
   ·rintro o B ⟨h1,h2⟩;subst h1;subst h2;simp only;refine T.calmBind (Calm.pure _) (T.calmBind (Calm.checkKey hk) (T.calmBind (Calm.findKey hk U) ?_));have hf:=zL0 (k:=k) U 0;cases e:zBg U k 0 with
    | some r=>
     rw [e] at hf;cases hh:zMf U k with
     | false=>rw [hh] at hf;cases hf
     | true=>
      rw [hh] at hf;simp only [Option.map_some,if_true,Option.some.injEq] at hf;obtain ⟨i,w⟩:=r;simp only at hf;subst hf;exact T.calm ((Calm.pure _).bind (Calm.pure _)) ⟨rfl,rfl⟩
    | none=>
     rw [e] at hf;cases hh:zMf U k with
     | true=>rw [hh] at hf;cases hf
     | false=>
      rw [zKN hh];exact T.calmBind (Calm.zeroV he) (T.calmBind (Calm.pure _) (T.calm (Calm.pure _) ⟨rfl,rfl⟩))
  ·rintro v B ⟨h1,h2⟩;exact T.calm (Calm.pure _) ⟨by rw [h1],h2⟩)
theorem zLH {t kt et:TypeId} {x:Operand} {bb ck:Nat} {U:List Ent} {F:List HP} (h:TyU P t (.map kt et)) (hx:ev L x=some (.map (some bb))) (hs:Sel s (imap bb U ck) F) :
  Lt P E L s ⟨dst,.call ⟨.builtin .len,#[x],#[t]⟩,ty,pos,af,gd⟩ (.int .i64 U.length):=
 Lt.of rfl (fun e' he=>by
  unfold execOp;simp only;unfold resolve;simp only;refine T.calmBind (Calm.pure _) ?_;simp only [invoke];have hm : #[x].map e' = #[.map (some bb)]:=by simp [he _ _ hx]
  rw [hm];unfold Go.builtin;simp only;refine T.bind (Q:=fun v B=>v=.int .i64 U.length/\B=s) ?_ ?_
  ·unfold Builtin.len_;simp only [List.getElem?_toArray,List.getElem?_cons_zero];refine T.calmBind (Calm.underlying h.h) ?_;simp only;refine T.bind (Q:=fun v B=>v=.map (U.map xO).toArray ck/\B=s) (T.sel hs (T.getObj rfl rfl rfl)) ?_;rintro o _ ⟨rfl,rfl⟩;exact T.calm (Calm.pure _) ⟨by simp [goInt],rfl⟩
  ·rintro v B ⟨h1,h2⟩;exact T.calm (Calm.pure _) ⟨by rw [h1],h2⟩)
theorem zAh {k v:Int} {ck:Nat}:∀ (U:List Ent) (i j:Nat) (w:Value),zBg U k i=some (j,w)->∃ n,j=i+n/\(U.map xO).modify n (fun e=>{ e with key:=.int .i64 k,val:=.int .i64 v })=(upM U k v ck).map xO/\((U.map xO)[n]?).map (·.key)=some (.int .i64 k)
 | [],i,j,w,h=>by cases h
 | u::U,i,j,w,h=>by
  unfold zBg at h;unfold upM;by_cases e:u.1=k
  ·rw [if_pos e] at h ⊢;cases h
   exact ⟨0,rfl,by simp [xO],by simp [xO,e]⟩
  ·rw [if_neg e] at h ⊢;obtain ⟨n,h1,h2,h3⟩:=zAh (v:=v) (ck:=ck) U (i+1) j w h;exact ⟨n+1,by omega,by simp [h2],by simpa using h3⟩
theorem zFH {k v:Int} {ck:Nat}:∀ (U:List Ent) (i:Nat),zBg U k i=none->upM U k v ck=U++[(k,v,ck)]
 | [],i,h=>rfl
 | u::U,i,h=>by
  unfold zBg at h;unfold upM;by_cases e:u.1=k
  ·rw [if_pos e] at h;cases h
  ·rw [if_neg e] at h ⊢;rw [zFH U (i+1) h];rfl
theorem zAM {k:Int}:∀ (U:List Ent) (i j:Nat) (w:Value),zBg U k i=some (j,w)->∃ n,j=i+n/\n<U.length/\(U.map xO).eraseIdx n=(zE8 U k).map xO
 | [],i,j,w,h=>by cases h
 | u::U,i,j,w,h=>by
  unfold zBg at h;unfold zE8;by_cases e:u.1=k
  ·rw [if_pos e] at h ⊢;cases h
   exact ⟨0,rfl,by simp,by simp⟩
  ·rw [if_neg e] at h ⊢;obtain ⟨n,h1,h2,h3⟩:=zAM U (i+1) j w h;exact ⟨n+1,by omega,by simpa using h2,by simp [h3]⟩
theorem zB4 {k:Int}:∀ (U:List Ent) (i:Nat),zBg U k i=none->zE8 U k=U
 | [],i,h=>rfl
 | u::U,i,h=>by
  unfold zBg at h;unfold zE8;by_cases e:u.1=k
  ·rw [if_pos e] at h;cases h
  ·rw [if_neg e] at h ⊢;rw [zB4 U (i+1) h]
def upC (U:List Ent) (k:Int) (ck:Nat):Nat:=match zBg U k 0 with
 | some _=>ck
 | none=>ck+1
theorem zFn {t kt et:TypeId} {d:IntKind} {x y z:Operand} {bb ck:Nat} {U:List Ent} {k v:Int} {F:List HP} (h:TyU P t (.map kt et)) (hk:TyU P kt (.int d)) (hx:ev L x=some (.map (some bb))) (hy:ev L y=some (.int .i64 k)) (hz:ev L z=some (.int .i64 v)) (hs:Sel s (imap bb U ck) F) :
  Ex P E X b L s ⟨dst,.mapUpdate t x y z,ty,pos,af,gd⟩ (fun _ s'=>s'=imap bb (upM U k v ck) (upC U k ck)::F):=by
 refine Ex.op rfl (.inr rfl) (fun e' he=>?_);unfold execOp;simp only [he _ _ hx,he _ _ hy,he _ _ hz];refine T.bind (Q:=fun _ s'=>s'=imap bb (upM U k v ck) (upC U k ck)::F) ?_ ?_
 ·unfold Instr.mapUpdate;refine T.calmBind (Calm.underlying h.h) ?_;simp only;refine T.bind (Q:=fun o B=>o=.map (U.map xO).toArray ck/\B=imap bb U ck::F) ?_ ?_
  ·exact T.sels (.cons hs .nil) (T.getObj rfl rfl rfl) fun o A ⟨h1,h2⟩=>⟨h1,by rw [h2];rfl⟩
  ·rintro o _ ⟨rfl,rfl⟩;refine T.calmBind (Calm.checkKey hk) (T.calmBind (Calm.findKey hk U) ?_);have set:∀ (o':Obj),gobj o'=false->o'.isChan=false->T P E (Go.setObj bb o') (imap bb U ck::F) (fun _ B=>B=blk bb o'::F):=fun o' h1 h2=>
    T.sels (.cons .here .nil) (T.setObj rfl h2 rfl h1) fun a A h=>by rw [h];rfl
   cases e:zBg U k 0 with
   | none=>
    refine T.cons (set _ rfl rfl) fun _ A hA=>?_;rw [hA];unfold imap upC;rw [e,zFH U 0 e];simp [xO]
   | some r=>
    obtain ⟨j,w⟩:=r;obtain ⟨n,h1,h2,h3⟩:=zAh (v:=v) (ck:=ck) U 0 j w e;rw [Nat.zero_add] at h1;subst h1;simp only;have hkey:(((U.map xO).toArray[j]?).map (·.key)).getD (.int .i64 k)=.int .i64 k:=by
     have:((U.map xO).toArray[j]?)=(U.map xO)[j]?:=by simp
     rw [this,h3];rfl
    rw [hkey];have hst:Calm P (Instr.keyThatStays (.int .i64 k) (.int .i64 k)) (.int .i64 k):=by
     unfold Instr.keyThatStays;have:Instr.sameBits 10000 (.int .i64 k) (.int .i64 k)=true:=by simp [Instr.sameBits]
     rw [if_pos this];exact Calm.pure _
    refine T.calmBind hst (T.cons (set _ rfl rfl) fun _ A hA=>?_);rw [hA];unfold imap upC;rw [e,<-h2];simp
 ·rintro _ s' rfl;exact T.calm (Calm.pure _) ⟨undef,.inr ⟨rfl,rfl⟩,rfl⟩
theorem zFS {t kt et t2:TypeId} {d:IntKind} {x y:Operand} {bb ck:Nat} {U:List Ent} {k:Int} {F:List HP} (h:TyU P t (.map kt et)) (hk:TyU P kt (.int d)) (hx:ev L x=some (.map (some bb))) (hy:ev L y=some (.int .i64 k)) (hs:Sel s (imap bb U ck) F) :
  Ex P E X b L s ⟨dst,.call ⟨.builtin .delete,#[x,y],#[t,t2]⟩,ty,pos,af,gd⟩ (fun v s'=>v=.tuple #[]/\s'=imap bb (zE8 U k) ck::F):=by
 refine Ex.builtin (vs:=[.map (some bb),.int .i64 k]) (by show evs L [x,y]=_;simp [evs,hx,hy]) fun t0 cs=>?_
 unfold Go.builtin;simp only;refine T.bind (Q:=fun v s'=>v=.tuple #[]/\s'=imap bb (zE8 U k) ck::F) ?_ ?_
 ·unfold Builtin.delete_;simp only [List.getElem?_toArray,List.getElem?_cons_zero,List.getElem?_cons_succ];refine T.calmBind (Calm.underlying h.h) ?_;simp only;refine T.bind (Q:=fun o B=>o=.map (U.map xO).toArray ck/\B=imap bb U ck::F) ?_ ?_
  ·exact T.sels (.cons hs .nil) (T.getObj rfl rfl rfl) fun o A ⟨h1,h2⟩=>⟨h1,by rw [h2];rfl⟩
  ·rintro o _ ⟨rfl,rfl⟩;refine T.calmBind (Calm.checkKey hk) (T.calmBind (Calm.findKey hk U) ?_);have set:∀ (o':Obj),gobj o'=false->o'.isChan=false->T P E (Go.setObj bb o') (imap bb U ck::F) (fun _ B=>B=blk bb o'::F):=fun o' h1 h2=>
    T.sels (.cons .here .nil) (T.setObj rfl h2 rfl h1) fun a A h=>by rw [h];rfl
   cases e:zBg U k 0 with
   | none=>
    refine T.bind (set _ rfl rfl) fun _ A hA=>T.calm (Calm.pure _) ⟨rfl,?_⟩;rw [hA,zB4 U 0 e];rfl
   | some r=>
    obtain ⟨j,w⟩:=r;obtain ⟨n,h1,h2,h3⟩:=zAM U 0 j w e;rw [Nat.zero_add] at h1;subst h1;refine T.bind (set _ rfl rfl) fun _ A hA=>T.calm (Calm.pure _) ⟨rfl,?_⟩;rw [hA];unfold imap;rw [<-h3];simp [Array.eraseIdxIfInBounds,h2]
 ·rintro v s' ⟨h1,h2⟩;exact T.calm (Calm.pure _) ⟨v,rfl,h1,h2⟩
end
end Go.KL
end
