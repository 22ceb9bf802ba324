/- Texts joined by a program of ours: Ki Kj Kk Kl. -/
import Derived.Test.YtjcbjclhagobiaaGreatJaa
set_option linter.all false
section
namespace Go.KL
open Go
section
variable {P:Program} {E:Env} {X:Xs} {b:Fx} {Post:Value->List HP->Prop} {k:List Item} {L:Tm} {s:List HP} {l rest:List Oper} {d:Nat} {dst:Option Nat} {ty:TypeId} {pos:String} {af:Array Edge} {gd:Option (Nat×Bool)}
theorem W.pure {t:List Item} {p:Prop} (h:∀ r f,sep s r f->p) (g:p->W P E X b Post t L s):W P E X b Post t L s:=by
 intro K cs F hr tmps r f hok hs;obtain ⟨f1,f2,d,l1,l2,h1,h2⟩:=zD.1 hs;exact g (h _ _ h1) K cs F hr tmps r f hok hs
theorem WL.pure {p:Prop} (h:∀ r f,sep s r f->p) (g:p->WL P E X b Post l rest k L s):WL P E X b Post l rest k L s:=
 fun n e=>W.pure h fun x=>g x n e
theorem zJd {K:Goroutine->Hp->Hp->Prop} {g:Goroutine} {r f:Hp} (hs:g.status=.running) (h:r.disj f->Safe P E X K g r f):Safe P E X K g r f:=by
 by_cases x:r.disj f
 ·exact h x
 ·exact .step (fun w=>(g,w,#[],r,f)) hs (fun w y=>absurd y.apart x) (fun w y=>absurd y.apart x)
def Ghost (s s':List HP):Prop:=∀ r f,r.disj f->sep s r f->∃ r' f',r.le r'/\Hp.le f' f/\r'.disj f'/\(∀ n,r' n≠none->r n=none->f n=r' n)/\(∀ n o,r' n=some o->r n=none->gobj o=false)/\sep s' r' f'
theorem W.ghost {t:List Item} {s':List HP} (h:Ghost s s') (g:W P E X b Post t L s'):W P E X b Post t L s:=by
 intro K cs F hr tmps r f hok hs;refine zJd rfl fun hdis=>?_;obtain ⟨f1,f2,d,l1,l2,h1,h2⟩:=zD.1 hs;obtain ⟨r',f1',hr',hf',hd',hn',hg',h1'⟩:=h r f1 (hdis.mono (Hp.le_refl _) l1) h1;have hd2:r'.disj f2:=⟨fun n=>by
  cases hc:r' n with
  | none=>exact .inl rfl
  | some o=>
   right
   cases hx:r n with
   | some x=>
    rcases hdis.h n with y|y
    ·rw [hx] at y;cases y
    ·exact l2.none y
   | none=>
    have:=hn' n (by rw [hc];simp) hx
    rcases d.h n with y|y
    ·rw [y,hc] at this;cases this
    ·exact y⟩
 have dd:f1'.disj f2:=d.mono hf' (Hp.le_refl _);refine .ghost (r':=r') (f':=f1'.union f2) hr' (Hp.union_le (hf'.trans l1) l2) (Hp.disj_union hd' hd2) (fun n h1 h2=>?_) hg' (g K cs F hr tmps r' _ hok ?_)
 ·have:=hn' n h1 h2
  cases hc:r' n with
  | none=>exact absurd hc h1
  | some o=>rw [hc] at this;exact l1.h _ _ this
 ·exact zD.2 ⟨f1',f2,dd,Hp.le_union_left _ _,Hp.le_union_right dd,h1',wF hr' (Hp.le_refl _) h2⟩
theorem WL.ghost {s':List HP} (h:Ghost s s') (g:WL P E X b Post l rest k L s'):WL P E X b Post l rest k L s:=fun n e=>W.ghost h (g n e)
theorem zNF {t T0:TypeId} {z:List Value} {x:Operand} {bb off:Nat} {c:List Value} {v:Value} {F:List HP} (h:TyN P t false 1 z) (hx:ev L x=some (.pointer (some ⟨bb,off,none⟩))) (hs:Sel s (box bb c T0) F) (hv:c[off]?=some v):Lt P E L s ⟨dst,.load t x,ty,pos,af,gd⟩ v:=
 Lt.of rfl (fun e' he=>by
  unfold execOp;simp only [he _ _ hx];refine T.bind (Q:=fun x B=>x=v/\B=s) (T.calmBind (Calm.pure _) (T.sel hs (T.loadVar1 h (VG hv)))) ?_;rintro x B ⟨hx',hB⟩;exact T.calm (Calm.pure _) ⟨by rw [hx'],hB⟩)
theorem zMV {t T0:TypeId} {sz:Nat} {z:List Value} {x:Operand} {bb off:Nat} {c cs:List Value} {F:List HP} (h:TyN P t true sz z) (hx:ev L x=some (.pointer (some ⟨bb,off,none⟩))) (hs:Sel s (box bb c T0) F) (hv:zLn c off sz=some cs):Lt P E L s ⟨dst,.load t x,ty,pos,af,gd⟩ (.agg cs.toArray):=by
 obtain ⟨h1,h2⟩:=YC hv;refine Lt.of rfl (fun e' he=>?_);unfold execOp;simp only [he _ _ hx];refine T.bind (Q:=fun x B=>x=.agg cs.toArray/\B=s) (T.calmBind (Calm.pure _) (T.sel hs (T.loadVarN h h1 (fun j v hj=>?_)))) ?_
 ·have e:(⟨bb,off,none⟩:Addr).add j=⟨bb,off+j,none⟩:=by unfold Addr.add;split <;> simp_all
  rw [e];exact VG (h2 j v hj)
 ·rintro x B ⟨hx',hB⟩;exact T.calm (Calm.pure _) ⟨by rw [hx'],hB⟩
theorem T.loadVarB {t T0:TypeId} {sz:Nat} {z:List Value} {bb off:Nat} {c cs:List Value} (h:TyN P t true sz z) (hv:zLn c off sz=some cs):T P E (Go.loadVar t ⟨bb,off,none⟩) [box bb c T0] (fun x B=>x=.agg cs.toArray/\B=[box bb c T0]):=by
 obtain ⟨h1,h2⟩:=YC hv;refine T.loadVarN h h1 (fun j v hj=>?_);have e:(⟨bb,off,none⟩:Addr).add j=⟨bb,off+j,none⟩:=by unfold Addr.add;split <;> simp_all
 rw [e];exact VG (h2 j v hj)
theorem T.ext {α:Type} {m:Sem α} {s:List HP} {Q:α->List HP->Prop} {R:α->List HP->Prop} (h:T P E m [] Q) (hr:∀ a A,Q a A->R a (A++s)):T P E m s R:=T.sels .nil h hr
theorem zAn {t T0:TypeId} {agg:Bool} {sz:Nat} {z:List Value} {x y:Operand} {bb off:Nat} {c:List Value} {v:Value} {F:List HP} (h:TyN P t agg sz z) (hx:ev L x=some (.pointer (some ⟨bb,off,none⟩))) (hy:ev L y=some v) (hs:Sel s (box bb c T0) F) (hl:vQ (yG v) sz=true) (h1:vH (yG v)=true) (hn:off+sz<=c.length) :
  Ex P E X b L s ⟨none,.store t x y,ty,pos,af,gd⟩ (fun _ s'=>s'=box bb (lay c off (yG v)) T0::F):=by
 have hl:=vI hl;subst hl;refine Ex.op rfl (.inr rfl) (fun e' he=>?_);unfold execOp;simp only [he _ _ hx,he _ _ hy];refine T.bind (Q:=fun _ s'=>s'=box bb (lay c off (yG v)) T0::F) (T.calmBind (Calm.pure _) (T.sels (.cons hs .nil) (T.storeVar h (YM v) (ZS h1) hn) fun a A' e=>by rw [e];rfl)) ?_
 rintro x B hB;exact T.calm (Calm.pure _) ⟨undef,.inr ⟨rfl,rfl⟩,hB⟩
theorem zJK {t:TypeId} {agg:Bool} {sz:Nat} {z:List Value} (h:TyN P t agg sz z):Ex P E X b L s ⟨some d,.alloc t,ty,pos,af,gd⟩ (fun v s'=>∃ bb,v=.pointer (some ⟨bb,0,none⟩)/\s'=box bb z t::s):=by
 refine Ex.op rfl (.inr rfl) (fun e' he=>?_);unfold execOp;simp only;refine T.bind (Q:=fun x s'=>∃ bb,x=.pointer (some ⟨bb,0,none⟩)/\s'=box bb z t::s) (T.ext (T.alloc h) fun a A ⟨bb,e1,e2⟩=>⟨bb,e1,by rw [e2];rfl⟩) ?_
 rintro x B ⟨bb,e1,e2⟩;exact T.calm (Calm.pure _) ⟨_,.inl rfl,bb,e1,e2⟩
theorem zNv {t:TypeId} {x:Operand} {v:Value} (hx:ev L x=some v):Ex P E X b L s ⟨some d,.box t x,ty,pos,af,gd⟩ (fun v' s'=>∃ bb,v'=.pointer (some ⟨bb,0,none⟩)/\s'=box bb (yG v) t::s):=by
 refine Ex.op rfl (.inr rfl) (fun e' he=>?_);unfold execOp;simp only [he _ _ hx];refine T.bind (Q:=fun x s'=>∃ bb,x=.pointer (some ⟨bb,0,none⟩)/\s'=box bb (yG v) t::s) (T.ext (T.boxOp (YM v)) fun a A ⟨bb,e1,e2⟩=>⟨bb,e1,by rw [e2];rfl⟩) ?_
 rintro x B ⟨bb,e1,e2⟩;exact T.calm (Calm.pure _) ⟨_,.inl rfl,bb,e1,e2⟩
theorem Xl (bb off i:Nat):(⟨bb,off,none⟩:Addr).add i=⟨bb,off+i,none⟩:=by unfold Addr.add;split <;> simp_all
theorem zCR {t:TypeId} {x:Operand} {i o:Nat} {ft:TypeId} {bb off:Nat} (h:TyF P t i o ft) (hx:ev L x=some (.pointer (some ⟨bb,off,none⟩))):Cm P L ⟨dst,.fieldAddr t x i,ty,pos,af,gd⟩ (.pointer (some ⟨bb,off+o,none⟩)):=by
 rw [<-Xl];exact Xt h hx
theorem Ji {t e:TypeId} {agg:Bool} {sz:Nat} {z:List Value} {x y:Operand} {bb off len:Nat} {kk:IntKind} {i:Int} (h:TyU P t (.array len e)) (he:TyN P e agg sz z) (hx:ev L x=some (.pointer (some ⟨bb,off,none⟩))) (hy:ev L y=some (.int kk i)) (h0:0<=i) (h1:i<len):Cm P L ⟨dst,.indexAddr t x y,ty,pos,af,gd⟩ (.pointer (some ⟨bb,off+i.toNat*sz,none⟩)):=by
 rw [<-Xl];exact VF h he hx hy h0 h1
theorem zR {t e:TypeId} {agg:Bool} {sz:Nat} {z:List Value} {x y:Operand} {bb off len cap:Nat} {kk:IntKind} {i:Int} (h:TyU P t (.slice e)) (he:TyN P e agg sz z) (hx:ev L x=some (.slice (some ⟨bb,off,none⟩) len cap)) (hy:ev L y=some (.int kk i)) (h0:0<=i) (h1:i<len):Cm P L ⟨dst,.indexAddr t x y,ty,pos,af,gd⟩ (.pointer (some ⟨bb,off+i.toNat*sz,none⟩)):=by
 rw [<-Xl];exact zCS h he hx hy h0 h1
theorem Calm.builtin {e':Operand->Value} {o:Oper} {bi:Builtin} {args:Array Operand} {ats:Array TypeId} {v:Value} (ho:o.op=.call ⟨.builtin bi,args,ats⟩) (h:∀ cs,Calm P (Go.builtin bi ats o.type cs (args.map e')) (.value v)):Calm P (execOp e' o) (.value v):=by
 unfold execOp;rw [ho];simp only;unfold resolve;simp only;refine (Calm.pure _).bind ?_;simp only [invoke];exact h _
theorem zJz {bi:Builtin} {args:Array Operand} {ats:Array TypeId} {vs:List Value} {v:Value} (ha:evs L args.toList=some vs) (h:∀ t cs,Calm P (Go.builtin bi ats t cs vs.toArray) (.value v)):Cm P L ⟨dst,.call ⟨.builtin bi,args,ats⟩,ty,pos,af,gd⟩ v:=
 Cm.of rfl (fun e' he=>Calm.builtin rfl fun cs=>by
  have:args.map e'=vs.toArray:=by
   apply Array.ext';simpa using Yx he ha
  rw [this];exact h _ cs)
theorem zPE {ats:Array TypeId} {t:TypeId} {cs:Array Bool} {kk:IntKind} {x y:Int}:Calm P (Go.builtin .min ats t cs [.int kk x,.int kk y].toArray) (.value (.int kk (min x y))):=by
 unfold Go.builtin Builtin.min_;refine Calm.bind (a:=.int kk (min x y)) ?_ (Calm.pure _);have:min x y=if y<x then y else x:=by rw [Int.min_def];split <;> split <;> omega
 rw [this];exact Calm.pure _
theorem zOn {ats:Array TypeId} {t:TypeId} {cs:Array Bool} {kk:IntKind} {x y:Int}:Calm P (Go.builtin .max ats t cs [.int kk x,.int kk y].toArray) (.value (.int kk (max x y))):=by
 unfold Go.builtin Builtin.max_;refine Calm.bind (a:=.int kk (max x y)) ?_ (Calm.pure _);have:max x y=if y > x then y else x:=by rw [Int.max_def];split <;> split <;> omega
 rw [this];exact Calm.pure _
theorem zN2 {ats:Array TypeId} {t:TypeId} {cs:Array Bool} {kk:IntKind} {x y z:Int}:Calm P (Go.builtin .min ats t cs [.int kk x,.int kk y,.int kk z].toArray) (.value (.int kk (min (min x y) z))):=by
 unfold Go.builtin Builtin.min_;refine Calm.bind (a:=.int kk (min (min x y) z)) ?_ (Calm.pure _);have:∀ x y:Int,min x y=if y<x then y else x:=fun x y=>by rw [Int.min_def];split <;> split <;> omega
 simp only [this];exact Calm.pure _
theorem zOy {t0 e:TypeId} {t:TypeId} {cs:Array Bool} {base:Option Addr} {len cap:Nat} (h:TyU P t0 (.slice e)):Calm P (Go.builtin .len #[t0] t cs [.slice base len cap].toArray) (.value (.int .i64 len)):=by
 unfold Go.builtin;simp only;refine Calm.bind (a:=.int .i64 len) ?_ (Calm.pure _);unfold Builtin.len_;simp only [List.getElem?_toArray,List.getElem?_cons_zero];refine (Calm.underlying h.h).bind ?_;exact Calm.pure _
theorem zOu {t0 e:TypeId} {t:TypeId} {cs:Array Bool} {base:Option Addr} {len cap:Nat} (h:TyU P t0 (.slice e)):Calm P (Go.builtin .cap #[t0] t cs [.slice base len cap].toArray) (.value (.int .i64 cap)):=by
 unfold Go.builtin;simp only;refine Calm.bind (a:=.int .i64 cap) ?_ (Calm.pure _);unfold Builtin.cap_;simp only [List.getElem?_toArray,List.getElem?_cons_zero];refine (Calm.underlying h.h).bind ?_;exact Calm.pure _
def Jx (place:Nat->Option (Nat×Nat)):List Value->List (Nat×Value)->Option (List Value)
 | c,[]=>some c
 | c,(i,v)::ps=>match place i with
  | none=>none
  | some (off,sz)=>if vQ (yG v) sz&&Nat.ble (off+sz) c.length then Jx place (lay c off (yG v)) ps else none
theorem zFO:∀ (vs:List Value) (j:Nat) (c:Array Value) (off:Nat),(vs.zipIdx j).foldl (fun cs (x:Value×Nat)=>cs.setIfInBounds (off+x.2) x.1) c=(lay c.toList (off+j) vs).toArray
 | [],_,c,_=>by simp [lay]
 | v::vs,j,c,off=>by
  rw [List.zipIdx_cons,List.foldl_cons,zFO vs (j+1),lay];simp [Nat.add_assoc]
theorem zBO {place:Nat->Option (Nat×Nat)}:∀ {ps:List (Nat×Value)} {c cs:List Value},Jx place c ps=some cs->Instr.fill place c.toArray ps=some cs.toArray
 | [],_,_,h=>by cases h;rfl
 | (i,v)::ps,c,cs,h=>by
  unfold Jx at h;unfold Instr.fill;cases hp:place i with
  | none=>rw [hp] at h;cases h
  | some p=>
   obtain ⟨off,sz⟩:=p;rw [hp] at h;simp only at h ⊢;split at h
   ·rename_i hc
    simp only [Bool.and_eq_true,Nat.ble_eq] at hc;have e1:=vI hc.1;have e2:v.cells.size=sz:=by rw [YM];simpa using e1
    have e3:¬ (v.cells.size≠sz||decide (off+v.cells.size > c.toArray.size))=true:=by
     simp [e2];omega
    rw [if_neg (by simpa using e3)]
    have:=zBO h
    rw [<-this];congr 1;have lf:=zFO (yG v) 0 c.toArray off;rw [YM];have hz:(yG v).toArray.zipIdx.toList=(yG v).zipIdx:=by simp [List.mapIdx_eq_zipIdx_map]
    rw [<-Array.foldl_toList,hz];simpa using lf
   ·cases h
class TyP (P:Program) (t:TypeId) (pl:outParam (List (Nat×Nat))):Prop where
 h:∃ fs,P.underlying t=some (.struct fs)/\(fs.toList.map fun f=>(f.offset,P.cellsOf f.type))=pl/\fs.toList.all (fun f=>(P.info? f.type).isSome)=true
theorem TyP.of {P:Program} {t:TypeId} {pl:List (Nat×Nat)} (h:(match P.underlying t with|some (.struct fs)=>some ((fs.toList.map fun f=>(f.offset,P.cellsOf f.type)),fs.toList.all (fun f=>(P.info? f.type).isSome))|_=>none)=some (pl,true)):TyP P t pl:=by
 split at h
 ·rename_i fs hu
  simp only [Option.some.injEq,Prod.mk.injEq] at h;exact ⟨fs,hu,h.1,h.2⟩
 ·cases h
def zNr:List (Nat×Nat)->Nat->Option (Nat×Nat)
 | [],_=>none
 | p::_,0=>some p
 | _::ps,n+1=>zNr ps n
theorem zHu:∀ (l:List (Nat×Nat)) (i:Nat),zNr l i=l[i]?
 | [],_=>rfl
 | _::_,0=>rfl
 | _::l,n+1=>by rw [zNr,zHu l n];rfl
theorem Calm.mapPl:∀ (fs:List Field),fs.all (fun f=>(P.info? f.type).isSome)=true->Calm P (fs.mapM fun f=>do Pure.pure (f.offset,<-Go.sizeOf f.type)) (fs.map fun f=>(f.offset,P.cellsOf f.type))
 | [],_=>Calm.pure _
 | f::fs,h=>by
  simp only [List.all_cons,Bool.and_eq_true] at h;obtain ⟨i,hi⟩:=Option.isSome_iff_exists.1 h.1;rw [List.mapM_cons];refine Calm.bind (a:=(f.offset,P.cellsOf f.type)) ?_ ((Calm.mapPl fs h.2).bind (Calm.pure _));refine (Calm.sizeOf hi).bind ?_;have:P.cellsOf f.type=i.size:=by simp [Program.cellsOf,hi]
  rw [this];exact Calm.pure _
theorem Calm.build {t:TypeId} {agg:Bool} {sz:Nat} {z:List Value} {pl:List (Nat×Nat)} {ps:List (Nat×Value)} {cs:List Value} (h:TyN P t agg sz z) (hp:TyP P t pl) (hf:Jx (zNr pl) z ps=some cs):Calm P (Instr.build t ps.toArray) (.agg cs.toArray):=by
 obtain ⟨v,hv,hz⟩:=Calm.zeroValue h;obtain ⟨fs,h1,h2,h3⟩:=hp.h;unfold Instr.build;refine hv.bind ?_;refine (Calm.underlying h1).bind ?_;simp only [hz];refine Calm.bind (a:=pl.toArray) ?_ ?_
 ·rw [Array.mapM_eq_mapM_toList,map_eq_pure_bind];have:=Calm.mapPl (P:=P) fs.toList h3
  rw [h2] at this;exact this.bind (Calm.pure _)
 ·have e:(fun x=>pl.toArray[x]?)=zNr pl:=by funext i;rw [zHu];simp
  simp only [e,zBO hf];exact Calm.pure _
def evp (L:Tm):List (Nat×Operand)->Option (List (Nat×Value))
 | []=>some []
 | (i,x)::xs=>match ev L x,evp L xs with
  | some v,some vs=>some ((i,v)::vs)
  | _,_=>none
theorem zAu {e':Operand->Value} (h:∀ x v,ev L x=some v->e' x=v):∀ {xs:List (Nat×Operand)} {vs:List (Nat×Value)},evp L xs=some vs->xs.map (fun (i,x)=>(i,e' x))=vs
 | [],_,e=>by cases e;rfl
 | (i,x)::xs,_,e=>by
  unfold evp at e;split at e
  ·rename_i v vs h1 h2;cases e;rw [List.map_cons,zAu h h2];show (i,e' x)::_=_;rw [h x v h1]
  ·cases e
theorem zMd {t:TypeId} {agg:Bool} {sz:Nat} {z:List Value} {pl:List (Nat×Nat)} {parts:Array (Nat×Operand)} {ps:List (Nat×Value)} {cs:List Value} (h:TyN P t agg sz z) (hp:TyP P t pl) (he:evp L parts.toList=some ps) (hf:Jx (zNr pl) z ps=some cs)  : Cm P L ⟨dst,.build t parts,ty,pos,af,gd⟩ (.agg cs.toArray):=
 Cm.of rfl (fun e' he'=>by
  unfold execOp;simp only;have:(parts.map fun (i,x)=>(i,e' x))=ps.toArray:=by
   apply Array.ext';simpa using zAu he' he
  rw [this];exact (Calm.build h hp hf).bind (Calm.pure _))
theorem Calm.buildArr {t e:TypeId} {agg agg2:Bool} {sz sz2 len:Nat} {z z2:List Value} {ps:List (Nat×Value)} {cs:List Value} (h:TyN P t agg sz z) (hu:TyU P t (.array len e)) (h2:TyN P e agg2 sz2 z2) (hf:Jx (fun i=>some (i*sz2,sz2)) z ps=some cs):Calm P (Instr.build t ps.toArray) (.agg cs.toArray):=by
 obtain ⟨v,hv,hz⟩:=Calm.zeroValue h;unfold Instr.build;refine hv.bind ?_;refine (Calm.underlying hu.h).bind ?_;simp only [hz];refine (Calm.sizeOf' h2).bind ?_;simp only [zBO hf];exact Calm.pure _
theorem zHe {t e:TypeId} {agg agg2:Bool} {sz sz2 len:Nat} {z z2:List Value} {parts:Array (Nat×Operand)} {ps:List (Nat×Value)} {cs:List Value} (h:TyN P t agg sz z) (hu:TyU P t (.array len e)) (h2:TyN P e agg2 sz2 z2) (he:evp L parts.toList=some ps) (hf:Jx (fun i=>some (i*sz2,sz2)) z ps=some cs)  : Cm P L ⟨dst,.build t parts,ty,pos,af,gd⟩ (.agg cs.toArray):=
 Cm.of rfl (fun e' he'=>by
  unfold execOp;simp only;have:(parts.map fun (i,x)=>(i,e' x))=ps.toArray:=by
   apply Array.ext';simpa using zAu he' he
  rw [this];exact (Calm.buildArr h hu h2 hf).bind (Calm.pure _))
end
end Go.KL
end
section
namespace Go.KL
open Go
theorem zMv {P:Program} {t1:TypeId} {a c:Int} (h : -9223372036854775808<=a+c/\a+c<=9223372036854775807):Calm P (Go.binOp .add t1 (.int .i64 a) (.int .i64 c)) (.int .i64 (a+c)):=by
 have:=zMX (P:=P) t1 .i64 a c
 rwa [zK h] at this
theorem zMo {P:Program} {t1:TypeId} {a c:Int} (h : -9223372036854775808<=a-c/\a-c<=9223372036854775807):Calm P (Go.binOp .sub t1 (.int .i64 a) (.int .i64 c)) (.int .i64 (a-c)):=by
 have:=zOb (P:=P) t1 .i64 a c
 rwa [zK h] at this
theorem zMz {P:Program} {t1:TypeId} {a c:Int} (h : -9223372036854775808<=a*c/\a*c<=9223372036854775807):Calm P (Go.binOp .mul t1 (.int .i64 a) (.int .i64 c)) (.int .i64 (a*c)):=by
 have:=zNs (P:=P) t1 .i64 a c
 rwa [zK h] at this
theorem zLN {P:Program} {t1:TypeId} {a c:Int} (h:0<=a+c/\a+c<=18446744073709551615):Calm P (Go.binOp .add t1 (.int .u64 a) (.int .u64 c)) (.int .u64 (a+c)):=by
 have:=zMX (P:=P) t1 .u64 a c
 rwa [YR h] at this
theorem zNJ {P:Program} {t1:TypeId} {a c:Int} (h:0<=a/\0<c/\a<=9223372036854775807):Calm P (Go.binOp .quo t1 (.int .i64 a) (.int .i64 c)) (.int .i64 (a / c)):=
 zL4 t1 .i64 h.1 h.2.1 (by simpa [IntKind.max,IntKind.signed,IntKind.bits] using h.2.2)
theorem zOE {P:Program} {t1:TypeId} {kk:IntKind} {a c:Int} (h:0<=a/\0<c):Calm P (Go.binOp .rem t1 (.int kk a) (.int kk c)) (.int kk (a%c)):=zOA t1 kk h.1 h.2
def WO (kk:IntKind) (a y:Int):Int:=kk.wrap (a*2^(min y.toNat kk.bits))
def Wa (kk:IntKind) (a y:Int):Int:=a.fdiv (2^(min y.toNat kk.bits))
theorem zN8 {P:Program} {t1:TypeId} {kk yk:IntKind} {a y:Int} (h:0<=y):Calm P (Go.binOp .shl t1 (.int kk a) (.int yk y)) (.int kk (WO kk a y)):=zPH t1 kk yk a h
theorem zOO {P:Program} {t1:TypeId} {kk yk:IntKind} {a y:Int} (h:0<=y):Calm P (Go.binOp .shr t1 (.int kk a) (.int yk y)) (.int kk (Wa kk a y)):=zPF t1 kk yk a h
def XX (kk:IntKind) (x y:Int):Int:=kk.wrap (BitVec.ofInt kk.bits x&&& BitVec.ofInt kk.bits y).toNat
def orI (kk:IntKind) (x y:Int):Int:=kk.wrap (BitVec.ofInt kk.bits x ||| BitVec.ofInt kk.bits y).toNat
def zOh (kk:IntKind) (x y:Int):Int:=kk.wrap (BitVec.ofInt kk.bits x ^^^ BitVec.ofInt kk.bits y).toNat
def zEW (kk:IntKind) (x y:Int):Int:=kk.wrap (BitVec.ofInt kk.bits x&&& ~~~BitVec.ofInt kk.bits y).toNat
theorem zPA {P:Program} {t1:TypeId} {kk:IntKind} {a c:Int}:Calm P (Go.binOp .and t1 (.int kk a) (.int kk c)) (.int kk (XX kk a c)):=zKq t1 kk rfl
theorem zPl {P:Program} {t1:TypeId} {kk:IntKind} {a c:Int}:Calm P (Go.binOp .or t1 (.int kk a) (.int kk c)) (.int kk (orI kk a c)):=zKq t1 kk rfl
theorem zOq {P:Program} {t1:TypeId} {kk:IntKind} {a c:Int}:Calm P (Go.binOp .xor t1 (.int kk a) (.int kk c)) (.int kk (zOh kk a c)):=zKq t1 kk rfl
theorem zLo {P:Program} {t1:TypeId} {kk:IntKind} {a c:Int}:Calm P (Go.binOp .andNot t1 (.int kk a) (.int kk c)) (.int kk (zEW kk a c)):=zKq t1 kk rfl
section
variable {P:Program} {L:Tm} {dst:Option Nat} {ty:TypeId} {pos:String} {af:Array Edge} {gd:Option (Nat×Bool)}
theorem zLU {t1 t2:TypeId} {x:Operand} {kk:IntKind} {a:Int} {d1:TypeDesc} (h1:TyU P t1 d1) (h2:TyU P t2 (.int .i64)) (hx:ev L x=some (.int kk a)) (hr : -9223372036854775808<=a/\a<=9223372036854775807):Cm P L ⟨dst,.convert t1 t2 x,ty,pos,af,gd⟩ (.int .i64 a):=by
 have:=zFf (P:=P) (dst:=dst) (ty:=ty) (pos:=pos) (af:=af) (gd:=gd) h1 h2 hx
 rwa [zK hr] at this
theorem zIo {t1 t2:TypeId} {x:Operand} {kk:IntKind} {a:Int} {d1:TypeDesc} (h1:TyU P t1 d1) (h2:TyU P t2 (.int .u64)) (hx:ev L x=some (.int kk a)) (hr:0<=a/\a<=18446744073709551615):Cm P L ⟨dst,.convert t1 t2 x,ty,pos,af,gd⟩ (.int .u64 a):=by
 have:=zFf (P:=P) (dst:=dst) (ty:=ty) (pos:=pos) (af:=af) (gd:=gd) h1 h2 hx
 rwa [YR hr] at this
theorem zKv {t1 t2:TypeId} {x:Operand} {kk:IntKind} {a:Int} {d1:TypeDesc} (h1:TyU P t1 d1) (h2:TyU P t2 (.int .u8)) (hx:ev L x=some (.int kk a)) (hr:0<=a/\a<=255):Cm P L ⟨dst,.convert t1 t2 x,ty,pos,af,gd⟩ (.int .u8 a):=by
 have:=zFf (P:=P) (dst:=dst) (ty:=ty) (pos:=pos) (af:=af) (gd:=gd) h1 h2 hx
 rwa [zEz hr] at this
theorem zM7 {c x y:Operand} {q:Bool} {v:Value} (hc:ev L c=some (.bool q)) (h:q=true) (hx:ev L x=some v):Cm P L ⟨dst,.pick c x y,ty,pos,af,gd⟩ v:=
 Cm.of rfl (fun e' he=>by
  subst h;unfold execOp;simp only [he _ _ hx,he _ _ hc,asBool];exact (Calm.pure _).bind (Calm.pure _))
theorem zNi {c x y:Operand} {q:Bool} {v:Value} (hc:ev L c=some (.bool q)) (h:q=false) (hy:ev L y=some v):Cm P L ⟨dst,.pick c x y,ty,pos,af,gd⟩ v:=
 Cm.of rfl (fun e' he=>by
  subst h;unfold execOp;simp only [he _ _ hy,he _ _ hc,asBool];exact (Calm.pure _).bind (Calm.pure _))
theorem zLp {t1 t2:TypeId} {x y:Operand} {p q:Bool} (h:TyU P t1 .bool) (hx:ev L x=some (.bool p)) (hy:ev L y=some (.bool q)):Cm P L ⟨dst,.binOp .eql t1 x y t2,ty,pos,af,gd⟩ (.bool (p == q)):=
 Cm.of rfl (fun e' he=>by
  unfold execOp;simp only [he _ _ hx,he _ _ hy];refine Calm.bind (a:=.bool (p == q)) ?_ (Calm.pure _);refine Calm.bind (a:=()) (by unfold eqGuard;exact Calm.pure _) ?_
  unfold Go.binOp Op.equal Op.maxDepth Op.equalIn;refine Calm.bind (a:=p == q) ((Calm.underlying h.h).bind (Calm.pure _)) (Calm.pure _))
theorem zLT {t1 t2:TypeId} {x y:Operand} {p q:Bool} (h:TyU P t1 .bool) (hx:ev L x=some (.bool p)) (hy:ev L y=some (.bool q)):Cm P L ⟨dst,.binOp .neq t1 x y t2,ty,pos,af,gd⟩ (.bool (!(p == q))):=
 Cm.of rfl (fun e' he=>by
  unfold execOp;simp only [he _ _ hx,he _ _ hy];refine Calm.bind (a:=.bool (!(p == q))) ?_ (Calm.pure _);refine Calm.bind (a:=()) (by unfold eqGuard;exact Calm.pure _) ?_
  unfold Go.binOp Op.equal Op.maxDepth Op.equalIn;refine Calm.bind (a:=p == q) ((Calm.underlying h.h).bind (Calm.pure _)) (Calm.pure _))
end
section
variable {P:Program} {E:Env} {X:Xs} {b:Fx} {Post:Value->List HP->Prop} {k:List Item} {L:Tm} {s:List HP} {l rest:List Oper} {d:Option Nat} {ty:TypeId} {pos:String} {af:Array Edge}
structure DoesG (P:Program) (E:Env) (X:Xs) (g:FuncId) (as:List Value) (pre:List HP) (Post:Value->List HP->Prop):Prop where
 h:∀ {b:Fx} {L:Tm} {s F:List HP} {o:Oper} {fo:Operand} {args:Array Operand} {ats:Array TypeId} {fi ca:Array Value} {vs:List Value},o.op=.call ⟨.value fo,args,ats⟩->ev L fo=some (.func (.func g) fi ca)->evs L args.toList=some vs->fi.toList++vs++ca.toList=as->
  (∀ r f,sep s r f->sep (pre++F) r f)->Ex P E X b L s o (fun v s'=>∃ t,Post v t/\s'=t++F)
theorem Does.g {g:FuncId} {as:List Value} {pre:List HP} {Post':Value->List HP->Prop} (h:Does P E X g as pre Post'):DoesG P E X g as pre Post':=⟨fun ho hf ha has hs=>Ex.call ho hf ha has h hs⟩
def Cl (P:Program) (E:Env) (X:Xs) (g:FuncId) (as:List Value) (s:List HP) (J:Value->List HP->Prop):Prop:=∃ pre F Post',DoesG P E X g as pre Post'/\(∀ r f,sep s r f->sep (pre++F) r f)/\∀ v t,Post' v t->J v (t++F)
theorem WL.cl {gd:Option (Nat×Bool)} {fo:Operand} {args:Array Operand} {ats:Array TypeId} {g:FuncId} {fi ca:Array Value} {vs as:List Value}
  (hw:Want L l ⟨d,.call ⟨.value fo,args,ats⟩,ty,pos,af,gd⟩ true) (hf:ev L fo=some (.func (.func g) fi ca)) (ha:evs L args.toList=some vs) (has:fi.toList++vs++ca.toList=as) (hd:ltd d b.n=true)
  (h:Cl P E X g as s (fun v s'=>WL P E X b Post l rest k (setd d v L) s')) :
  WL P E X b Post l (⟨d,.call ⟨.value fo,args,ats⟩,ty,pos,af,gd⟩::rest) k L s:=by
 obtain ⟨pre,F,Post',h1,h2,h3⟩:=h;exact WL.ex hw hd (h1.h rfl hf ha has h2) fun v s' ⟨t,e1,e2⟩=>by rw [e2];exact h3 v t e1
theorem call {g:FuncId} {as:List Value} {pre F:List HP} {Post':Value->List HP->Prop} {J:Value->List HP->Prop} (hsp:Does P E X g as pre Post') (gk:∀ v t,Post' v t->J v (t++F))
  (hsel:Sels s pre F:=by (try simp only [List.cons_append,List.nil_append]);repeat (first|(with_reducible exact Sels.nil)|((with_reducible apply Sels.dupI);(case h=>(first|(with_reducible exact Sel.here)|((repeat (first|(with_reducible exact Sel.here)|(with_reducible apply Sel.there)));done)|(repeat (first|(exact Sel.here)|(apply Sel.there))))))|((with_reducible apply Sels.cons);(case h=>(first|(with_reducible exact Sel.here)|((repeat (first|(with_reducible exact Sel.here)|(with_reducible apply Sel.there)));done)|(repeat (first|(exact Sel.here)|(apply Sel.there)))))))):Cl P E X g as s J:=⟨pre,F,Post',hsp.g,fun _ _ h=>hsel.out h,gk⟩
theorem zNP {g:FuncId} {as:List Value} {pre F:List HP} {Post':Value->List HP->Prop} {J:Value->List HP->Prop} (hsp:DoesG P E X g as pre Post') (gk:∀ v t,Post' v t->J v (t++F))
  (hsel:Sels s pre F:=by (try simp only [List.cons_append,List.nil_append]);repeat (first|(with_reducible exact Sels.nil)|((with_reducible apply Sels.dupI);(case h=>(first|(with_reducible exact Sel.here)|((repeat (first|(with_reducible exact Sel.here)|(with_reducible apply Sel.there)));done)|(repeat (first|(exact Sel.here)|(apply Sel.there))))))|((with_reducible apply Sels.cons);(case h=>(first|(with_reducible exact Sel.here)|((repeat (first|(with_reducible exact Sel.here)|(with_reducible apply Sel.there)));done)|(repeat (first|(exact Sel.here)|(apply Sel.there)))))))):Cl P E X g as s J:=⟨pre,F,Post',hsp,fun _ _ h=>hsel.out h,gk⟩
theorem zH {c:Operand} {x y:Code} {v:Bool} (g1:v=true->W P E X b Post (.code x::k) L s) (g2:v=false->W P E X b Post (.code y::k) L s) (hc:ev L c=some (.bool v):=by rfl):W P E X b Post (.code (.cond c x y)::k) L s:=W.cond hc g1 g2
@[simp] theorem pack_one {v:Value}:pack [v]=v:=rfl
@[simp] theorem pack_two {v w:Value}:pack [v,w]=.tuple #[v,w]:=rfl
theorem yes {c:Operand} {x y:Code} {v:Bool} (g:W P E X b Post (.code x::k) L s) (hc:ev L c=some (.bool v):=by rfl) (hv:v=true:=by (first|exact rfl|assumption|(simp;done)|(simp;omega))):W P E X b Post (.code (.cond c x y)::k) L s:=W.cond hc (fun _=>g) fun h=>absurd hv (by simp [h])
theorem no {c:Operand} {x y:Code} {v:Bool} (g:W P E X b Post (.code y::k) L s) (hc:ev L c=some (.bool v):=by rfl) (hv:v=false:=by (first|exact rfl|assumption|(simp;done)|(simp;omega))):W P E X b Post (.code (.cond c x y)::k) L s:=W.cond hc (fun h=>absurd hv (by simp [h])) fun _=>g
def Ends (s:List HP) (Post:Value->List HP->Prop) (v:Value):Prop:=∃ t F,Sels s t F/\Post v t
theorem ends {v:Value} {t F:List HP} (hp:Post v t) (hsel:Sels s t F:=by (try simp only [List.cons_append,List.nil_append]);repeat (first|(with_reducible exact Sels.nil)|((with_reducible apply Sels.dupI);(case h=>(first|(with_reducible exact Sel.here)|((repeat (first|(with_reducible exact Sel.here)|(with_reducible apply Sel.there)));done)|(repeat (first|(exact Sel.here)|(apply Sel.there))))))|((with_reducible apply Sels.cons);(case h=>(first|(with_reducible exact Sel.here)|((repeat (first|(with_reducible exact Sel.here)|(with_reducible apply Sel.there)));done)|(repeat (first|(exact Sel.here)|(apply Sel.there)))))))):Ends s Post v:=⟨t,F,hsel,hp⟩
theorem Res.cell1 {t ty T0 bb off:Nat} {z c:List Value} {F:List HP} {v:Value} {rs:List ResultVar} {vs:List Value} [h:TyN P ty false 1 z] (hl:look L t=some (.pointer (some ⟨bb,off,none⟩))) (hs:Sel s (box bb c T0) F) (hv:c[off]?=some v) (k:Res P E L s rs vs):Res P E L s (.cell t ty::rs) (v::vs):=
 .cell hl (T.sel hs (T.loadVar1 h (VG hv))) k
theorem Res.cellN {t ty T0 bb off sz:Nat} {z c cs:List Value} {F:List HP} {rs:List ResultVar} {vs:List Value} [h:TyN P ty true sz z] (hl:look L t=some (.pointer (some ⟨bb,off,none⟩))) (hs:Sel s (box bb c T0) F) (hv:zLn c off sz=some cs) (k:Res P E L s rs vs):Res P E L s (.cell t ty::rs) (.agg cs.toArray::vs):=
 .cell hl (T.sel hs (T.loadVarB h hv)) k
theorem ret {rs:List ResultVar} {vs:List Value} [h:TyRes P b.fn rs] (g:Ends s Post (pack vs)) (hro:b.roundOf=none:=by rfl)
  (hres:Res P E L s rs vs:=by repeat (first|exact Res.nil|apply Res.tmp rfl|apply Res.cellN rfl (by repeat (first|(with_reducible exact Sel.here)|(with_reducible apply Sel.there))) rfl|apply Res.cell1 rfl (by repeat (first|(with_reducible exact Sel.here)|(with_reducible apply Sel.there))) rfl)) :
  W P E X b Post (.code .ret::k) L s:=by
 obtain ⟨t,F,hsel,hp⟩:=g;obtain ⟨fnc,h1,h2⟩:=h.h;subst h2;exact W.ret ⟨h1⟩ hro hres (fun r f hs=>by
  obtain ⟨f1,f2,d,l1,l2,h1,h2⟩:=zD.1 (hsel.out hs);exact wF (Hp.le_refl _) l1 h1) hp
theorem fall {rs:List ResultVar} {vs:List Value} [h:TyRes P b.fn rs] (g:Ends s Post (pack vs)) (hro:b.roundOf=none:=by rfl)
  (hres:Res P E L s rs vs:=by repeat (first|exact Res.nil|apply Res.tmp rfl|apply Res.cellN rfl (by repeat (first|(with_reducible exact Sel.here)|(with_reducible apply Sel.there))) rfl|apply Res.cell1 rfl (by repeat (first|(with_reducible exact Sel.here)|(with_reducible apply Sel.there))) rfl)) :
  W P E X b Post [] L s:=by
 obtain ⟨t,F,hsel,hp⟩:=g;obtain ⟨fnc,h1,h2⟩:=h.h;subst h2;exact W.fall ⟨h1⟩ hro hres (fun r f hs=>by
  obtain ⟨f1,f2,d,l1,l2,h1,h2⟩:=zD.1 (hsel.out hs);exact wF (Hp.le_refl _) l1 h1) hp
end
end Go.KL
end
section
namespace Go.KL
open Go
inductive SubA:Tm->Tm->Prop
 | nil {L:Tm}:SubA [] L
 | cons {t:Nat} {v:Value} {Lj L:Tm} (h:look L t=some v) (g:SubA Lj L):SubA ((t,v)::Lj) L
theorem SubA.h {Lj L:Tm} (h:SubA Lj L):∀ t v,look Lj t=some v->look L t=some v:=by
 induction h with
 | nil=>intro t v e;cases e
 | @cons d v Lj L h g ih=>
  intro t u e;rw [xG] at e;by_cases c:d=t
  ·subst c;simp only [if_true] at e;cases e;exact h
  ·simp only [c,if_false] at e;exact ih t u e
theorem SubA.eq {t:Nat} {v v':Value} {Lj L:Tm} (h:look L t=some v') (e:v'=v) (g:SubA Lj L):SubA ((t,v)::Lj) L:=.cons (e ▸ h) g
structure Into (s t:List HP):Prop where
 h:∀ r f,sep s r f->sep t r f
theorem Into.of {s t F:List HP} (h:Sels s t F):Into s t:=⟨fun r f hs=>by
 obtain ⟨f1,f2,d,l1,l2,h1,h2⟩:=zD.1 (h.out hs);exact wF (Hp.le_refl _) l1 h1⟩
theorem Into.refl {s:List HP}:Into s s:=⟨fun _ _ h=>h⟩
section
variable {P:Program} {E:Env} {X:Xs} {b:Fx} {Post:Value->List HP->Prop} {k:List Item} {L:Tm} {s:List HP}
theorem Wc {body:Code} (g:W P E X b Post (.code body::.inLoop body::k) L s):W P E X b Post (.code (.loop body)::k) L s:=W.ctl (fun _ _ _ _=>rfl) g
theorem again {body:Code} (g:W P E X b Post (.code body::.inLoop body::k) L s):W P E X b Post (.inLoop body::k) L s:=W.ctl (fun _ _ _ _=>rfl) g
theorem loop {ι:Type} (m:ι->Nat) (C:ι->Prop) (Lf:ι->Tm) (sf:ι->List HP) {body:Code} (i0:ι) (hC:C i0)
  (g:∀ i,C i->(∀ j,C j->m j<m i->W P E X b Post (.inLoop body::k) (Lf j) (sf j))->W P E X b Post (.code body::.inLoop body::k) (Lf i) (sf i))
  (hL:SubA (Lf i0) L:=by ((try dsimp only);repeat (first|(with_reducible exact SubA.nil)|((with_reducible apply SubA.cons);(case h=>exact rfl)))))
  (hs:Into s (sf i0):=by (first|with_reducible exact Into.refl|((try dsimp only);(try simp only [List.cons_append,List.nil_append]);(with_reducible apply Into.of);repeat (first|(with_reducible exact Sels.nil)|((with_reducible apply Sels.dupI);(case h=>(first|(with_reducible exact Sel.here)|((repeat (first|(with_reducible exact Sel.here)|(with_reducible apply Sel.there)));done)|(repeat (first|(exact Sel.here)|(apply Sel.there))))))|((with_reducible apply Sels.cons);(case h=>(first|(with_reducible exact Sel.here)|((repeat (first|(with_reducible exact Sel.here)|(with_reducible apply Sel.there)));done)|(repeat (first|(exact Sel.here)|(apply Sel.there)))))))))) :
  W P E X b Post (.code (.loop body)::k) L s:=W.loop m C Lf sf i0 hC hL.h hs.h g
theorem next {Lj:Tm} {sj:List HP} {t:List Item} (g:W P E X b Post t Lj sj)
  (hL:SubA Lj L:=by ((try dsimp only);repeat (first|(with_reducible exact SubA.nil)|((with_reducible apply SubA.cons);(case h=>exact rfl))|((with_reducible apply SubA.eq);(case h=>exact rfl);(case e=>first|(congr 1;omega)|(simp;omega))))))
  (hs:Into s sj:=by (first|with_reducible exact Into.refl|((try dsimp only);(try simp only [List.cons_append,List.nil_append]);(with_reducible apply Into.of);repeat (first|(with_reducible exact Sels.nil)|((with_reducible apply Sels.dupI);(case h=>(first|(with_reducible exact Sel.here)|((repeat (first|(with_reducible exact Sel.here)|(with_reducible apply Sel.there)));done)|(repeat (first|(exact Sel.here)|(apply Sel.there))))))|((with_reducible apply Sels.cons);(case h=>(first|(with_reducible exact Sel.here)|((repeat (first|(with_reducible exact Sel.here)|(with_reducible apply Sel.there)));done)|(repeat (first|(exact Sel.here)|(apply Sel.there)))))))))) :
  W P E X b Post t L s:=W.weaken hL.h hs.h g
end
end Go.KL
end
section
namespace Go.KL
open Go
def XB (o:Oper):List Nat:=(o.after.toList.filter (Region.binds .any ·)).map (·.on)
theorem YX {o:Oper} {x:Nat}:x∈XB o↔∃ e∈o.after,Region.binds .any e=true/\e.on=x:=by
 unfold XB;simp only [List.mem_map,List.mem_filter,Array.mem_toList_iff];constructor
 ·rintro ⟨e,⟨h1,h2⟩,h3⟩;exact ⟨e,h1,h2,h3⟩
 ·rintro ⟨e,h1,h2,h3⟩;exact ⟨e,⟨h1,h2⟩,h3⟩
def bit (M:List Nat) (j i:Nat):Bool:=(M.getD j 0).testBit i
def zCe (M:List Nat):List Nat->Nat
 | []=>0
 | e::es=>2^e ||| M.getD e 0 ||| zCe M es
theorem Ql {M:List Nat} {i:Nat}:∀ {es:List Nat},(zCe M es).testBit i=true->∃ e∈es,i=e∨bit M e i=true
 | [],h=>by simp [zCe] at h
 | e::es,h=>by
  simp only [zCe,Nat.testBit_or,Bool.or_eq_true,Nat.testBit_two_pow,decide_eq_true_eq] at h;rcases h with (h|h)|h
  ·exact ⟨e,by simp,.inl h.symm⟩
  ·exact ⟨e,by simp,.inr h⟩
  ·obtain ⟨x,h1,h2⟩:=Ql h;exact ⟨x,by simp [h1],h2⟩
theorem JK {M:List Nat} {i:Nat}:∀ {es:List Nat},i∈es->(zCe M es).testBit i=true
 | e::es,h=>by
  simp only [zCe,Nat.testBit_or,Bool.or_eq_true,Nat.testBit_two_pow,decide_eq_true_eq];rcases List.mem_cons.1 h with rfl|h
  ·exact .inl (.inl rfl)
  ·exact .inr (JK h)
def zIf (M:List Nat):Nat->List Oper->Bool
 | _,[]=>true
 | j,o::l=>(XB o).all (fun e=>Nat.blt e j)&&Nat.beq (M.getD j 0) (zCe M (XB o))&&zIf M (j+1) l
theorem Va {M:List Nat}:∀ {l:List Oper} {n:Nat},zIf M n l=true->∀ j o,l[j]?=some o->(∀ e∈XB o,e<n+j)/\M.getD (n+j) 0=zCe M (XB o)
 | [],_,_,j,o,h=>by simp at h
 | a::l,n,hb,j,o,h=>by
  simp only [zIf,Bool.and_eq_true,List.all_eq_true] at hb;cases j with
  | zero=>
   simp at h;subst h;exact ⟨fun e he=>Yk (hb.1.1 e he),Nat.eq_of_beq_eq_true hb.1.2⟩
  | succ j=>
   have:=Va hb.2 j o (by simpa using h)
   rwa [show n+1+j=n+(j+1) by omega] at this
def temps (o:Oper):List Nat:=o.op.operands.toList.filterMap fun | .tmp t=>some t|_=>none
theorem XF {o:Oper} {t:Nat}:t∈temps o↔Operand.tmp t∈o.op.operands:=by
 unfold temps;rw [List.mem_filterMap];constructor
 ·rintro ⟨x,h1,h2⟩;cases x <;> simp only [Option.some.injEq,reduceCtorEq] at h2
  subst h2;simpa using h1
 ·intro h;exact ⟨.tmp t,by simpa using h,rfl⟩
def vZ (o:Oper):Bool:=match o.op with
 | .alloc _=>o.dst.isSome&&o.guard.isNone
 | _=>false
def lz (eff:List Nat) (i:Nat) (o:Oper):Bool:=!eff.contains i||vZ o
theorem QC {eff:List Nat} {i:Nat} {o:Oper} (h:eff.contains i=false):lz eff i o=true:=by simp only [lz,h];rfl
theorem Jj {eff:List Nat} {i:Nat} {o:Oper} (h:vZ o=true):lz eff i o=true:=by simp only [lz,h];simp
inductive LateAll (P:Program) (n:Nat):List Oper->Prop
 | nil:LateAll P n []
 | late {d:Nat} {t:TypeId} {ty:TypeId} {pos:String} {af:Array Edge} {agg:Bool} {sz:Nat} {z:List Value} {l:List Oper} (h:TyN P t agg sz z) (hd:Nat.blt d n=true) (g:LateAll P n l):LateAll P n (⟨some d,.alloc t,ty,pos,af,none⟩::l)
 | other {o:Oper} {l:List Oper} (h:vZ o=false) (g:LateAll P n l):LateAll P n (o::l)
theorem LateAll.h {P:Program} {n:Nat} {l:List Oper} (h:LateAll P n l):∀ (m:Nat) (o:Oper),l[m]?=some o->vZ o=true->∃ d t ty pos af agg sz z,o=⟨some d,.alloc t,ty,pos,af,none⟩/\d<n/\TyN P t agg sz z:=by
 induction h with
 | nil=>intro m o h;simp at h
 | late h hd g ih=>
  intro m o hm hl;cases m with
  | zero=>simp at hm;subst hm;exact ⟨_,_,_,_,_,_,_,_,rfl,Yk hd,h⟩
  | succ m=>exact ih m o (by simpa using hm) hl
 | other h g ih=>
  intro m o hm hl;cases m with
  | zero=>simp at hm;subst hm;rw [h] at hl;cases hl
  | succ m=>exact ih m o (by simpa using hm) hl
def Xj (l:List Oper) (m:Nat):Bool:=match l[m]? with
 | some o=>vZ o
 | none=>false
structure Row where
 ix:Nat
 dst:Option Nat
 rd:List Nat
 m:Nat
 lt:Bool
def Vp (l:List Oper) (M eff:List Nat):Nat->List Oper->List Row
 | _,[]=>[]
 | n,o::r=>⟨n,o.dst,temps o++yR l o,M.getD n 0,lz eff n o⟩::Vp l M eff (n+1) r
theorem Xq {l:List Oper} {M eff:List Nat}:∀ {r:List Oper} {n j:Nat} {o:Oper},r[j]?=some o->(Vp l M eff n r)[j]?=some ⟨n+j,o.dst,temps o++yR l o,M.getD (n+j) 0,lz eff (n+j) o⟩
 | [],_,_,_,h=>by simp at h
 | a::r,n,0,o,h=>by simp at h;subst h;simp [Vp]
 | a::r,n,j+1,o,h=>by
  have:=Xq (l:=l) (M:=M) (eff:=eff) (n:=n+1) (j:=j) (o:=o) (by simpa using h)
  simp only [Vp,List.getElem?_cons_succ];rw [this,show n+1+j=n+(j+1) by omega]
def zMg (d:Option Nat) (l:List Nat):Bool:=match d with
 | none=>true
 | some d=>!l.contains d
def unlike (d e:Option Nat):Bool:=match d,e with
 | some d,some e=>!Nat.beq d e
 | _,_=>true
def zAB (a b:Row):Bool:=
 (b.m.testBit a.ix||(zMg a.dst b.rd&&zMg b.dst a.rd))&&(!(a.lt||b.lt)||unlike a.dst b.dst)&&(!b.lt||zMg b.dst a.rd)
def zB9:List Row->Bool
 | []=>true
 | (a:Row)::l=>(!Row.lt a||zMg a.dst a.rd)&&l.all (zAB a)&&zB9 l
theorem Xv:∀ {l:List Row},zB9 l=true->(∀ (i:Nat) (a:Row),l[i]?=some a->(!a.lt||zMg a.dst a.rd)=true)/\∀ (i j:Nat) (a b:Row),i<j->l[i]?=some a->l[j]?=some b->zAB a b=true
 | [],_=>⟨fun i a h=>by simp at h,fun i j a b _ h=>by simp at h⟩
 | x::l,h=>by
  simp only [zB9,Bool.and_eq_true,List.all_eq_true] at h;obtain ⟨⟨h0,h1⟩,h2⟩:=h;obtain ⟨k1,k2⟩:=Xv h2;refine ⟨fun i a e=>?_,fun i j a b hij e e'=>?_⟩
  ·cases i with
   | zero=>simp at e;subst e;exact h0
   | succ i=>exact k1 i a (by simpa using e)
  ·cases j with
   | zero=>omega
   | succ j=>
    cases i with
    | zero=>simp at e;subst e;exact h1 b (List.mem_of_getElem? (by simpa using e'))
    | succ i=>exact k2 i j a b (by omega) (by simpa using e) (by simpa using e')
def zKZ (M eff:List Nat) (l:List Oper):Nat->List Nat->Bool
 | done,[]=>Nat.beq done (2^l.length-1)
 | done,j::σ=>Nat.beq (M.getD j 0&&& done) (M.getD j 0)&&!done.testBit j&&Nat.blt j l.length&&
   (!eff.contains j||σ.all (fun m=>bit M m j||(eff.contains m&&Xj l m)))&&zKZ M eff l (done ||| 2^j) σ
def zLP (l:List Oper) (M eff rdx σ:List Nat):Bool:=zIf M 0 l&&zB9 (Vp l M eff 0 l)&&zKZ M eff l 0 σ
def xB (l:List Oper):List Nat->Option (List (Nat×Oper))
 | []=>some []
 | j::σ=>match l[j]?,xB l σ with
  | some o,some r=>some ((j,o)::r)
  | _,_=>none
structure Plan (l:List Oper) (M eff:List Nat):Prop where
 edge:∀ j o,l[j]?=some o->∀ e∈o.after,Region.binds .any e=true->e.on<j/\bit M j e.on=true
 mask:∀ j o i,l[j]?=some o->bit M j i=true->∃ e∈o.after,Region.binds .any e=true/\(i=e.on∨bit M e.on i=true)
 own:∀ i o,l[i]?=some o->lz eff i o=true->∀ d,o.dst=some d->d∉temps o++yR l o
 reads:∀ i j oi oj d,i≠j->l[i]?=some oi->l[j]?=some oj->oi.dst=some d->d∈temps oj++yR l oj->(i<j/\bit M j i=true)∨(j<i/\bit M i j=true/\lz eff i oi=false)
 one:∀ i j oi oj d,i≠j->l[i]?=some oi->l[j]?=some oj->lz eff i oi=true->oi.dst=some d->oj.dst≠some d
theorem vW {d:Nat} {l:List Nat} (h:zMg (some d) l=true):d∉l:=by
 intro k;simp [zMg] at h;exact h k
theorem Plan.of {l:List Oper} {M eff rdx σ:List Nat} (h:zLP l M eff rdx σ=true):Plan l M eff/\zKZ M eff l 0 σ=true:=by
 simp only [zLP,Bool.and_eq_true] at h;obtain ⟨⟨h1,h2⟩,h3⟩:=h;refine ⟨?_,h3⟩;have hm:=Va h1;obtain ⟨p1,p2⟩:=Xv h2;have row:∀ j o,l[j]?=some o->(Vp l M eff 0 l)[j]?=some (⟨j,o.dst,temps o++yR l o,M.getD j 0,lz eff j o⟩:Row):=fun j o ho=>by
  have:=Xq (l:=l) (M:=M) (eff:=eff) (n:=0) ho
  simpa only [Nat.zero_add] using this
 refine ⟨fun j o ho e he hb=>?_,fun j o i ho hi=>?_,fun i o ho he d hd=>?_,fun i j oi oj d hne hi hj hd hr=>?_,fun i j oi oj d hne hi hj he hd hd'=>?_⟩
 ·obtain ⟨k1,k2⟩:=hm j o ho;have hmem:e.on∈XB o:=YX.2 ⟨e,he,hb,rfl⟩;refine ⟨by have:=k1 _ hmem;omega,?_⟩
  unfold bit;rw [Nat.zero_add] at k2;rw [k2];exact JK hmem
 ·obtain ⟨k1,k2⟩:=hm j o ho;unfold bit at hi;rw [Nat.zero_add] at k2;rw [k2] at hi;obtain ⟨x,hx,hh⟩:=Ql hi;obtain ⟨e,e1,e2,rfl⟩:=YX.1 hx;exact ⟨e,e1,e2,hh⟩
 ·have:=p1 i _ (row i o ho)
  simp only [he,Bool.not_true,Bool.false_or,hd] at this;exact vW this
 ·rcases Nat.lt_or_gt_of_ne hne with hlt|hlt
  ·have:=p2 i j _ _ hlt (row i oi hi) (row j oj hj)
   simp only [zAB,Bool.and_eq_true,Bool.or_eq_true,hd] at this;rcases this.1.1 with x|x
   ·exact .inl ⟨hlt,x⟩
   ·exact absurd hr (vW x.1)
  ·have:=p2 j i _ _ hlt (row j oj hj) (row i oi hi)
   simp only [zAB,Bool.and_eq_true,Bool.or_eq_true,hd] at this;refine .inr ⟨hlt,?_,?_⟩
   ·rcases this.1.1 with x|x
    ·exact x
    ·exact absurd hr (vW x.2)
   ·rcases this.2 with x|x
    ·simpa using x
    ·exact absurd hr (vW x)
 ·rcases Nat.lt_or_gt_of_ne hne with hlt|hlt
  ·have:=p2 i j _ _ hlt (row i oi hi) (row j oj hj)
   simp [zAB,hd,hd',unlike,he] at this
  ·have:=p2 j i _ _ hlt (row j oj hj) (row i oi hi)
   simp [zAB,hd,hd',unlike,he] at this
theorem lin_succ {ops:Array Oper} {fuel t:Nat} {listed:Array Bool}:(∃ i∈Region.ready .any ops listed,∃ t',Region.linearise.go .any ops (fuel+1) t listed []=i::Region.linearise.go .any ops fuel t' (listed.setIfInBounds i true) [])∨(Region.ready .any ops listed=[]/\Region.linearise.go .any ops (fuel+1) t listed []=[]):=by
 simp only [Region.linearise.go];change (∃ i∈Region.ready .any ops listed,∃ t',(match (Region.ready .any ops listed)[t%(Region.ready .any ops listed).length]? with
   | some i=>Region.linearise.go .any ops fuel (t / (Region.ready .any ops listed).length) (listed.setIfInBounds i true) [i]
   | none=>[].reverse)=_)∨(Region.ready .any ops listed=[]/\(match (Region.ready .any ops listed)[t%(Region.ready .any ops listed).length]? with
   | some i=>Region.linearise.go .any ops fuel (t / (Region.ready .any ops listed).length) (listed.setIfInBounds i true) [i]
   | none=>[].reverse)=[])
 cases hi:(Region.ready .any ops listed)[t%(Region.ready .any ops listed).length]? with
 | none=>
  right
  refine ⟨?_,rfl⟩;cases hr:Region.ready .any ops listed with
  | nil=>rfl
  | cons x xs=>
   rw [hr] at hi;have hlt:t%(x::xs).length<(x::xs).length:=Nat.mod_lt _ (by simp)
   simp at hi;simp at hlt;omega
 | some i=>
  left
  refine ⟨i,List.mem_of_getElem? hi,t / (Region.ready .any ops listed).length,?_⟩;simp only;rw [linearise_go_acc,List.reverse_singleton,List.singleton_append]
def left (listed:Array Bool):Nat:=listed.toList.countP (· == false)
theorem Qe {listed:Array Bool} {i:Nat} (h:listed.getD i true=false):left (listed.setIfInBounds i true)+1=left listed:=by
 have hi:i<listed.size:=by
  rcases Nat.lt_or_ge i listed.size with h'|h'
  ·exact h'
  ·simp [Array.getElem?_eq_none h'] at h
 have hv:listed.toList[i]?=some false:=by
  simp [Array.getElem?_eq_getElem hi] at h;simp [hi,h]
 have key:∀ (l:List Bool) (i:Nat),l[i]?=some false->(l.set i true).countP (· == false)+1=l.countP (· == false):=by
  intro l;induction l with
  | nil=>intro i h;simp at h
  | cons a l ih=>
   intro i h;cases i with
   | zero=>simp at h;subst h;simp
   | succ i=>
    have:=ih i (by simpa using h)
    simp only [List.set_cons_succ,List.countP_cons];omega
 unfold left;have:=key listed.toList i hv
 simpa using this
theorem WZ {listed:Array Bool} (h:left listed=0) {i:Nat}:listed.getD i true=true:=by
 unfold left at h;rw [List.countP_eq_zero] at h;by_cases hi:i<listed.size
 ·have:=h listed[i] (by simp)
  simp [Array.getElem?_eq_getElem hi];simpa using this
 ·simp [Array.getElem?_eq_none (Nat.le_of_not_lt hi)]
theorem zJR {listed:Array Bool}:∀ (n i:Nat),i<=n->listed.getD i true=false->∃ j,j<=i/\listed.getD j true=false/\∀ x<j,listed.getD x true=true:=by
 intro n;induction n with
 | zero=>intro i hi h;exact ⟨i,Nat.le_refl _,h,fun x hx=>by omega⟩
 | succ n ih=>
  intro i hi h;by_cases c:∃ x<i,listed.getD x true=false
  ·obtain ⟨x,hx,hx'⟩:=c;obtain ⟨j,h1,h2,h3⟩:=ih x (by omega) hx'
   exact ⟨j,by omega,h2,h3⟩
  ·refine ⟨i,Nat.le_refl _,h,fun x hx=>?_⟩;cases hh:listed.getD x true with
   | true=>rfl
   | false=>exact absurd ⟨x,hx,hh⟩ c
theorem zKD {listed:Array Bool} {i:Nat} (hi:i<listed.size):listed.getD i true=listed.getD i false:=by simp [hi]
abbrev Al:=List (Nat×Nat×List Value×TypeId)
def bxs (al:Al):List HP:=al.map fun p=>box p.2.1 p.2.2.1 p.2.2.2
section
variable {P:Program} {E:Env} {X:Xs} {b:Fx} {Post:Value->List HP->Prop} {k:List Item} {L:Tm} {s:List HP} {l:List Oper} {M eff rdx:List Nat}
theorem Cm.mono {o:Oper} {v:Value} {L':Tm} (h:Cm P L o v) (hl:∀ t∈temps o,look L t=look L' t):Cm P L' o v:=fun e' he=>
 h e' fun x hx u hu=>he x hx u (by
  cases x with
  | tmp t=>have:=hl t (XF.2 hx);show look L' t=_;rw [<-this];exact hu
  | _=>exact hu)
theorem Lt.mono {o:Oper} {v:Value} {L':Tm} (h:Lt P E L s o v) (hl:∀ t∈temps o,look L t=look L' t):Lt P E L' s o v:=fun e' he=>
 h e' fun x hx u hu=>he x hx u (by
  cases x with
  | tmp t=>have:=hl t (XF.2 hx);show look L' t=_;rw [<-this];exact hu
  | _=>exact hu)
theorem Want.mono {o:Oper} {y:Bool} {L':Tm} (h:Want L l o y) (hl:∀ t∈yR l o,look L t=look L' t):Want L' l o y:=by
 unfold Want at h ⊢;unfold yR at hl;cases hg:o.guard with
 | none=>rw [hg] at h;exact h
 | some p=>
  obtain ⟨j,w⟩:=p;rw [hg] at h;simp only [hg] at hl;obtain ⟨d,h1,h2⟩:=h;refine ⟨d,h1,?_⟩;rw [h1] at hl;have:=hl d (by simp)
  rw [this] at h2;exact h2
def ZI (M eff:List Nat) (i:Nat) (σ:List Nat):Bool:=σ.all fun j=>!eff.contains j||bit M j i
theorem wW {i j:Nat} {σ:List Nat} (h:ZI M eff i (j::σ)=true):(eff.contains j=true->bit M j i=true)/\ZI M eff i σ=true:=by
 simp only [ZI,List.all_cons,Bool.and_eq_true,Bool.or_eq_true,Bool.not_eq_true'] at h;exact ⟨fun he=>h.1.resolve_left (by rw [he];simp),h.2⟩
def Trk (M eff:List Nat) (σ:List Nat) (pd:List (Nat×Oper×Value)) (i:Nat) (o:Oper) (v:Value):Prop:=ZI M eff i σ=true∨(i,o,v)∈pd
def Evd (P:Program) (E:Env) (l:List Oper) (M eff rdx:List Nat) (σ:List Nat) (pd:List (Nat×Oper×Value)) (L:Tm) (s:List HP) (i:Nat) (o:Oper) (v:Value):Prop:=
 (Want L l o true/\Op.isDefer o.op=false/\(if rdx.contains i then Lt P E L s o v/\Trk M eff σ pd i o v else Cm P L o v))∨(Want L l o false/\v=undef)
variable {σi:List Nat} {pd:List (Nat×Oper×Value)} {al:Al}
theorem Evd.mono {i:Nat} {o:Oper} {v:Value} {L':Tm} (h:Evd P E l M eff rdx σi pd L s i o v) (hl:∀ t∈temps o++yR l o,look L t=look L' t):Evd P E l M eff rdx σi pd L' s i o v:=by
 rcases h with ⟨h1,h2,h3⟩|⟨h1,h2⟩
 ·refine .inl ⟨h1.mono fun t ht=>hl t (by simp [ht]),h2,?_⟩
  split at h3 <;> rename_i hc <;> simp only [hc,if_true]
  ·exact ⟨Lt.mono h3.1 fun t ht=>hl t (by simp [ht]),h3.2⟩
  ·exact Cm.mono h3 fun t ht=>hl t (by simp [ht])
 ·exact .inr ⟨h1.mono fun t ht=>hl t (by simp [ht]),h2⟩
theorem Evd.trk {i:Nat} {o:Oper} {v:Value} {σ':List Nat} {pd':List (Nat×Oper×Value)} (h:Evd P E l M eff rdx σi pd L s i o v) (ht:Trk M eff σi pd i o v->Trk M eff σ' pd' i o v):Evd P E l M eff rdx σ' pd' L s i o v:=by
 rcases h with ⟨h1,h2,h3⟩|h
 ·refine .inl ⟨h1,h2,?_⟩;split at h3 <;> rename_i hc <;> simp only [hc,if_true]
  ·exact ⟨h3.1,ht h3.2⟩
  ·exact h3
 ·exact .inr h
theorem Cm.sub {o:Oper} {v:Value} {L':Tm} (h:Cm P L o v) (hl:Sub L L'):Cm P L' o v:=fun e' he=>
 h e' fun x hx u hu=>he x hx u (by
  cases x with
  | tmp t=>exact hl.h t u hu
  | _=>exact hu)
theorem Lt.sub {o:Oper} {v:Value} {L':Tm} (h:Lt P E L s o v) (hl:Sub L L'):Lt P E L' s o v:=fun e' he=>
 h e' fun x hx u hu=>he x hx u (by
  cases x with
  | tmp t=>exact hl.h t u hu
  | _=>exact hu)
theorem Want.sub {o:Oper} {y:Bool} {L':Tm} (h:Want L l o y) (hl:Sub L L'):Want L' l o y:=by
 unfold Want at h ⊢;cases hg:o.guard with
 | none=>rw [hg] at h;exact h
 | some p=>
  obtain ⟨j,w⟩:=p;rw [hg] at h;obtain ⟨d,h1,h2⟩:=h;refine ⟨d,h1,?_⟩;rcases h2 with ⟨q,h2,h3⟩|⟨h2,h3⟩
  ·exact .inl ⟨q,hl.h _ _ h2,h3⟩
  ·exact .inr ⟨hl.h _ _ h2,h3⟩
theorem Evd.sub {i:Nat} {o:Oper} {v:Value} {L':Tm} (h:Evd P E l M eff rdx σi pd L s i o v) (hl:Sub L L'):Evd P E l M eff rdx σi pd L' s i o v:=by
 rcases h with ⟨h1,h2,h3⟩|⟨h1,h2⟩
 ·refine .inl ⟨h1.sub hl,h2,?_⟩;split at h3 <;> rename_i hc <;> simp only [hc,if_true]
  ·exact ⟨Lt.sub h3.1 hl,h3.2⟩
  ·exact Cm.sub h3 hl
 ·exact .inr ⟨h1.sub hl,h2⟩
theorem Sub.setd {L':Tm} {d:Option Nat} {v:Value} (h:Sub L L'):Sub (setd d v L) (setd d v L'):=by
 cases d with
 | none=>exact h
 | some d=>exact h.cons
structure AlOk (P:Program) (l:List Oper) (eff:List Nat) (done:Nat) (listed:Array Bool) (tmps:Array Value) (p:Nat×Nat×List Value×TypeId):Prop where
 eff:eff.contains p.1=true
 und:done.testBit p.1=false
 up:listed.getD p.1 true=true
 op:∃ d ty pos af agg sz,l[p.1]?=some ⟨some d,.alloc p.2.2.2,ty,pos,af,none⟩/\TyN P p.2.2.2 agg sz p.2.2.1/\tmps[d]?=some (.pointer (some ⟨p.2.1,0,none⟩))
structure Dy (P:Program) (E:Env) (nt:Nat) (l:List Oper) (M eff rdx:List Nat) (σ:List Nat) (pd:List (Nat×Oper×Value)) (al:Al) (done:Nat) (L:Tm) (s:List HP) (fuel:Nat) (listed:Array Bool) (tmps:Array Value):Prop where
 sz:listed.size=l.length
 tsz:tmps.size=nt
 fuel:left listed<=fuel
 down:∀ j o,l[j]?=some o->listed.getD j true=true->∀ e∈o.after,Region.binds .any e=true->listed.getD e.on true=true
 und:∀ i<l.length,done.testBit i=false->(∀ p∈al,p.1≠i)->listed.getD i true=false
 agree:∀ t v,look L t=some v->tmps[t]?=some v∨(∃ i o,l[i]?=some o/\done.testBit i=true/\listed.getD i true=false/\eff.contains i=false/\o.dst=some t)∨∃ p∈al,∃ o,l[p.1]?=some o/\o.dst=some t
 dcl:∀ i,i<l.length->done.testBit i=true->∀ x,bit M i x=true->done.testBit x=true
 virt:∀ i o,l[i]?=some o->done.testBit i=true->listed.getD i true=false->eff.contains i=false/\∃ v,Evd P E l M eff rdx σ pd L s i o v/\∀ d,o.dst=some d->look L d=some v/\d<nt
 alk:∀ p∈al,AlOk P l eff done listed tmps p
 nd:(al.map Prod.fst).Nodup
theorem YI {i:Nat} {o:Oper} (h:l[i]?=some o):i<l.length:=by
 rcases Nat.lt_or_ge i l.length with x|x
 ·exact x
 ·simp [List.getElem?_eq_none x] at h
theorem Dy.closed (hp:Plan l M eff) {nt done fuel:Nat} {listed:Array Bool} {tmps:Array Value} (h:Dy P E nt l M eff rdx σi pd al done L s fuel listed tmps) :
  ∀ n j,j<=n->listed.getD j true=true->∀ i,bit M j i=true->j<l.length->listed.getD i true=true:=by
 intro n;induction n with
 | zero=>
  intro j hj hl i hi hjl;obtain ⟨e,e1,e2,e3⟩:=hp.mask j l[j] i (by simp [hjl]) hi
  have:=(hp.edge j l[j] (by simp [hjl]) e e1 e2).1
  omega
 | succ n ih=>
  intro j hj hl i hi hjl;have ho:l[j]?=some l[j]:=by simp [hjl]
  obtain ⟨e,e1,e2,e3⟩:=hp.mask j l[j] i ho hi;have hlt:=(hp.edge j l[j] ho e e1 e2).1;have hle:=h.down j l[j] ho hl e e1 e2;rcases e3 with rfl|e3
  ·exact hle
  ·exact ih e.on (by omega) hle i e3 (by omega)
theorem Dy.ready (hp:Plan l M eff) {nt done fuel:Nat} {listed:Array Bool} {tmps:Array Value} (h:Dy P E nt l M eff rdx σi pd al done L s fuel listed tmps) {i:Nat} (hi:i∈Region.ready .any l.toArray listed) :
  ∃ o,l[i]?=some o/\listed.getD i true=false/\(∀ e∈o.after,Region.binds .any e=true->listed.getD e.on true=true)/\∀ x,bit M i x=true->listed.getD x true=true:=by
 obtain ⟨h1,o,h2,h3⟩:=mem_ready.1 hi;have h2:l[i]?=some o:=by simpa using h2
 have hil:i<l.length:=by
  rcases Nat.lt_or_ge i l.length with x|x
  ·exact x
  ·simp [List.getElem?_eq_none x] at h2
 have h3':∀ e∈o.after,Region.binds .any e=true->listed.getD e.on true=true:=fun e e1 e2=>by
  have:=h3 e e1 e2
  rw [zKD (by rw [h.sz];have:=(hp.edge i o h2 e e1 e2).1;omega)];exact this
 refine ⟨o,h2,h1,h3',fun x hx=>?_⟩;obtain ⟨e,e1,e2,e3⟩:=hp.mask i o x h2 hx;rcases e3 with rfl|e3
 ·exact h3' e e1 e2
 ·exact h.closed hp _ e.on (Nat.le_refl _) (h3' e e1 e2) x e3 (by have:=(hp.edge i o h2 e e1 e2).1;omega)
theorem Dy.some_ready (hp:Plan l M eff) {nt done fuel:Nat} {listed:Array Bool} {tmps:Array Value} (h:Dy P E nt l M eff rdx σi pd al done L s fuel listed tmps) {i:Nat} (hi:listed.getD i true=false):Region.ready .any l.toArray listed≠[]:=by
 obtain ⟨j,h1,h2,h3⟩:=zJR i i (Nat.le_refl _) hi;have hjl:j<l.length:=by
  rcases Nat.lt_or_ge j l.length with x|x
  ·exact x
  ·simp [Array.getElem?_eq_none (by rw [h.sz];exact x:listed.size<=j)] at h2
 have hmem:j∈Region.ready .any l.toArray listed:=mem_ready.2 ⟨h2,l[j],by simp [hjl],fun e e1 e2=>by
  have hlt:=(hp.edge j l[j] (by simp [hjl]) e (by simpa using e1) e2).1
  rw [<-zKD (by rw [h.sz];omega)];exact h3 _ hlt⟩
 intro he;rw [he] at hmem;cases hmem
theorem Dy.reads (hp:Plan l M eff) {nt done fuel:Nat} {listed:Array Bool} {tmps:Array Value} (h:Dy P E nt l M eff rdx σi pd al done L s fuel listed tmps) {i:Nat} {o:Oper} (ho:l[i]?=some o) (hr:∀ x,bit M i x=true->listed.getD x true=true) (hl:lz eff i o=true∨done.testBit i=false) (hb:∀ x,bit M i x=true->done.testBit x=true) (hna:∀ p∈al,p.1≠i) :
  ∀ t∈temps o++yR l o,∀ v,look L t=some v->tmps[t]?=some v:=by
 intro t ht v hv;rcases h.agree t v hv with x|⟨j,oj,h1,h2,h3,h4,h5⟩|⟨p,hp1,oj,h1,h5⟩
 ·exact x
 ·exfalso
  by_cases e:j=i
  ·subst e;rw [ho] at h1;cases h1;rcases hl with hl|hl
   ·exact hp.own j o ho hl t h5 ht
   ·rw [h2] at hl;cases hl
  ·rcases hp.reads j i oj o t e h1 ho h5 ht with ⟨_,x⟩|⟨_,_,x⟩
   ·rw [hr j x] at h3;cases h3
   ·rw [QC h4] at x;cases x
 ·exfalso
  have ha:=h.alk p hp1;obtain ⟨d,ty,pos,af,agg,sz,e1,_,_⟩:=ha.op;rcases hp.reads p.1 i oj o t (hna p hp1) h1 ho h5 ht with ⟨_,x⟩|⟨_,_,x⟩
  ·have:=hb _ x
   rw [ha.und] at this;cases this
  ·rw [h1] at e1;cases e1;rw [Jj rfl] at x;cases x
theorem xT {d:Option Nat} {v:Value} {t:Nat} (h:d≠some t):look (setd d v L) t=look L t:=by
 cases d with
 | none=>rfl
 | some d=>
  have:d≠t:=fun e=>h (by rw [e])
  simp [setd,xG,this]
theorem yJ {listed:Array Bool} {i j:Nat} (hi:i<listed.size):(listed.setIfInBounds i true).getD j true=if i=j then true else listed.getD j true:=by
 by_cases e:i=j
 ·subst e;simp [hi]
 ·simp [Array.getElem?_setIfInBounds_ne e,e]
theorem vY {d:Option Nat} {v:Value} {tmps:Array Value} {t:Nat} (h:d≠some t):(putd d v tmps)[t]?=tmps[t]?:=by
 cases d with
 | none=>rfl
 | some d=>
  have:d≠t:=fun e=>h (by rw [e])
  simp [putd,Array.getElem?_setIfInBounds_ne this]
theorem Wo {d:Option Nat} {v:Value} {tmps:Array Value}:(putd d v tmps).size=tmps.size:=by cases d <;> simp [putd]
theorem Dy.took (hp:Plan l M eff) {nt done fuel:Nat} {listed:Array Bool} {tmps:Array Value} (h:Dy P E nt l M eff rdx σi pd al done L s (fuel+1) listed tmps) {i:Nat} {o:Oper} {v:Value} (ho:l[i]?=some o) (hf:listed.getD i true=false) (hd:done.testBit i=true) (hne:eff.contains i=false)
  (hed:∀ e∈o.after,Region.binds .any e=true->listed.getD e.on true=true) (hv:∀ d,o.dst=some d->look L d=some v/\d<nt) :
  Dy P E nt l M eff rdx σi pd al done L s fuel (listed.setIfInBounds i true) (putd o.dst v tmps):=by
 have hil:i<listed.size:=by
  rw [h.sz];rcases Nat.lt_or_ge i l.length with x|x
  ·exact x
  ·simp [List.getElem?_eq_none x] at ho
 refine ⟨by simp [h.sz],by rw [Wo];exact h.tsz,?_,?_,?_,?_,h.dcl,?_,?_,h.nd⟩
 ·have:=Qe hf;have:=h.fuel;omega
 ·intro j oj hj hl e e1 e2;rw [yJ hil] at hl ⊢;by_cases x:i=e.on
  ·simp [x]
  ·simp only [x,if_false];by_cases y:i=j
   ·subst y;rw [ho] at hj;cases hj;exact hed e e1 e2
   ·simp only [y,if_false] at hl;exact h.down j oj hj hl e e1 e2
 ·intro j hj hd' hna;rw [yJ hil];have:i≠j:=by intro x;subst x;rw [hd] at hd';cases hd'
  simp only [this,if_false];exact h.und j hj hd' hna
 ·intro t u hu;by_cases x:o.dst=some t
  ·left
   obtain ⟨h1,h2⟩:=hv t x;rw [h1] at hu;cases hu;rw [x];simp [putd,h.tsz,h2]
  ·rcases h.agree t u hu with y|⟨j,oj,h1,h2,h3,h4,h5⟩|y
   ·left;rw [vY x];exact y
   ·refine .inr (.inl ⟨j,oj,h1,h2,?_,h4,h5⟩);rw [yJ hil];have:i≠j:=by intro z;subst z;rw [ho] at h1;cases h1;exact x h5
    simp only [this,if_false];exact h3
   ·exact .inr (.inr y)
 ·intro j oj hj hdj hlj;rw [yJ hil] at hlj;by_cases y:i=j
  ·simp [y] at hlj
  ·simp only [y,if_false] at hlj;exact h.virt j oj hj hdj hlj
 ·intro p hp1;have ha:=h.alk p hp1;obtain ⟨d,ty,pos,af,agg,sz,e1,e2,e3⟩:=ha.op;have hip:i≠p.1:=by intro x;have:=ha.und;rw [<-x,hd] at this;cases this
  refine ⟨ha.eff,ha.und,?_,d,ty,pos,af,agg,sz,e1,e2,?_⟩
  ·rw [yJ hil];simp only [hip,if_false];exact ha.up
  ·rw [vY];exact e3;intro x;exact hp.one i p.1 o _ d hip ho e1 (QC hne) x rfl
def DA (P:Program) (E:Env) (X:Xs) (b:Fx) (Post:Value->List HP->Prop) (l:List Oper) (M eff rdx:List Nat) (σ:List (Nat×Oper)) (pd:List (Nat×Oper×Value)) (k:List Item) (L:Tm) (s:List HP):Prop:=
 Plan l M eff->LateAll P b.n l->(∀ p∈σ,l[p.1]?=some p.2)->∀ done,zKZ M eff l done (σ.map Prod.fst)=true->
 ∀ (K:Goroutine->Hp->Hp->Prop) (cs:List Frame) (F:List HP),
  (∀ fr v s' t r f,Leaves P E b fr v s'->(∀ r f,sep s' r f->sep t r f)->Post v t->sep (s'++F) r f->Safe P E X K (G fr cs) r f)->
  ∀ Lf,Sub L Lf->∀ fuel t listed tmps r f al,Dy P E b.n l M eff rdx (σ.map Prod.fst) pd al done Lf s fuel listed tmps->sep (s++(bxs al++F)) r f->
   Safe P E X K (G (b.at tmps (.inRegion l.toArray (Region.linearise.go .any l.toArray fuel t listed [])::k)) cs) r f
theorem WV (hp:Plan l M eff) {done fuel t':Nat} {listed:Array Bool} {tmps:Array Value} {K:Goroutine->Hp->Hp->Prop} {cs:List Frame} {F:List HP} {r f:Hp} (h:Dy P E b.n l M eff rdx σi pd al done L s (fuel+1) listed tmps) {i:Nat} (hi:i∈Region.ready .any l.toArray listed) (hd:done.testBit i=true) (hs:sep (s++F) r f)
  (g:∀ tmps r f,Dy P E b.n l M eff rdx σi pd al done L s fuel (listed.setIfInBounds i true) tmps->sep (s++F) r f->Safe P E X K (G (b.at tmps (.inRegion l.toArray (Region.linearise.go .any l.toArray fuel t' (listed.setIfInBounds i true) [])::k)) cs) r f) :
  Safe P E X K (G (b.at tmps (.inRegion l.toArray (i::Region.linearise.go .any l.toArray fuel t' (listed.setIfInBounds i true) [])::k)) cs) r f:=by
 obtain ⟨o,ho,hf,hed,hcl⟩:=h.ready hp hi;obtain ⟨hne,v,hev,hv⟩:=h.virt i o ho hd hf;have hrd:=h.reads hp ho hcl (.inl (QC hne)) (h.dcl i (YI ho) hd) (fun p hp1 x=>by have:=(h.alk p hp1).und;rw [x,hd] at this;cases this)
 have ho':l.toArray[i]?=some o:=by simpa using ho
 have hD:=h.took hp ho hf hd hne hed hv;rcases hev with ⟨h1,h2,h3⟩|⟨h1,h2⟩
 ·have hlt:Lt P E L s o v:=by
   split at h3
   ·exact h3.1
   ·exact h3.lt
  refine hlt.ex (X:=X) (b:=b) (.inr h2) K cs F l i _ k tmps r f ho' (wY (fun t ht u hu=>hrd t (by simp [ht]) u hu) h1) (fun t ht u hu=>hrd t (by simp [XF.2 ht]) u hu) hs ?_
  rintro u s' r' f' ⟨rfl,rfl⟩ hs';exact g _ _ _ hD hs'
 ·refine .idle rfl (fun w=>YZ ho' (wY (fun t ht u hu=>hrd t (by simp [ht]) u hu) h1)) ?_
  rw [wE ho',<-h2];exact g _ _ _ hD hs
theorem zI {done j i:Nat}:(done ||| 2^j).testBit i=(done.testBit i||decide (j=i)):=by
 rw [Nat.testBit_or,Nat.testBit_two_pow]
theorem WS {done j:Nat} {σ:List Nat} (h:zKZ M eff l done (j::σ)=true) :
  (∀ i,bit M j i=true->done.testBit i=true)/\done.testBit j=false/\j<l.length/\(eff.contains j=true->∀ m∈σ,bit M m j=true∨eff.contains m=true/\Xj l m=true)/\zKZ M eff l (done ||| 2^j) σ=true:=by
 simp only [zKZ,Bool.and_eq_true] at h;obtain ⟨⟨⟨⟨h1,h2⟩,h3⟩,h4⟩,h5⟩:=h;refine ⟨fun i hi=>?_,by simpa using h2,Yk h3,fun he=>?_,h5⟩
 ·have:=Nat.eq_of_beq_eq_true h1
  unfold bit at hi;rw [<-this,Nat.testBit_and,Bool.and_eq_true] at hi;exact hi.2
 ·simp only [he,Bool.not_true,Bool.false_or,List.all_eq_true,Bool.or_eq_true,Bool.and_eq_true] at h4;exact h4
theorem W.draw {i:Nat} {σ:List Nat} {σo:List (Nat×Oper)} (hm:P.follows .mixedOrders=true) (hp:zLP l M eff rdx σ=true) (hla:LateAll P b.n l) (ho:xB l σ=some σo) (g:DA P E X b Post l M eff rdx σo [] k L s):W P E X b Post (.code (.region i l.toArray true)::k) L s:=by
 intro K cs F hr tmps r f hok hs;obtain ⟨hplan,hsuf⟩:=Plan.of hp;have key:∀ {σ:List Nat} {σo:List (Nat×Oper)},xB l σ=some σo->(∀ p∈σo,l[p.1]?=some p.2)/\σo.map Prod.fst=σ:=by
  intro σ;induction σ with
  | nil=>intro σo e;cases e;exact ⟨fun p hp=>(by cases hp),rfl⟩
  | cons j σ ih=>
   intro σo e;unfold xB at e;split at e
   ·rename_i o r e1 e2
    cases e
    obtain ⟨k1,k2⟩:=ih e2;refine ⟨fun p hp=>?_,by simp [k2]⟩
    rcases List.mem_cons.1 hp with rfl|hp
    ·exact e1
    ·exact k1 p hp
   ·cases e
 obtain ⟨k1,k2⟩:=key ho;refine .next rfl fun w hsat=>?_;refine ⟨G (b.at tmps (.inRegion l.toArray (Region.schedule (P.follows .mixedOrders) l.toArray (w.tape w.drawn (.order b.fn i)))::k)) cs,{ w with drawn:=w.drawn+1 },#[],r,f,?_,?_,?_⟩
 ·simp [Go.Conc.G,stepG,stepG.exec,Fx.at,choose,Sem.run,Question.forced,Question.cut]
 ·exact ⟨⟨hsat.os,hsat.out,hsat.tape,hsat.ro,hsat.own,hsat.gh,hsat.tok,hsat.apart⟩,Hp.le_refl _,Nat.le_refl _,fun _ _ _=>rfl,fun _ x y=>absurd y x,fun _ x y=>absurd y x,fun e he=>by simp at he,fun e he=>by simp at he,fun _ h=>h⟩
 ·unfold Region.schedule;rw [hm];simp only [Bool.true_or,if_true,Region.linearise];refine g hplan hla k1 0 (by rw [k2];exact hsuf) K cs F hr L Sub.refl _ _ _ tmps r f [] ?_ hs
  refine ⟨by simp,hok.size,?_,?_,?_,fun t v e=>.inl (hok.h t v e),fun i hi hd=>by simp at hd,?_,fun p hp=>(by cases hp),List.nodup_nil⟩
  ·unfold left;exact Nat.le_trans List.countP_le_length (by simp)
  ·intro j o hj hl;have hjl:j<l.length:=by
    rcases Nat.lt_or_ge j l.length with x|x
    ·exact x
    ·simp [List.getElem?_eq_none x] at hj
   simp [hjl] at hl
  ·intro j hj _ _;simp [hj]
  ·intro j o _ hd;simp at hd
theorem DA.ahead {j:Nat} {o:Oper} {σ:List (Nat×Oper)} {v:Value} (he:eff.contains j=false) (hd:ltd o.dst b.n=true) {pd pd':List (Nat×Oper×Value)} (hev:Evd P E l M eff rdx (σ.map Prod.fst) pd' L s j o v) (hpd:∀ p∈pd,p∈pd') (g:DA P E X b Post l M eff rdx σ pd' k (setd o.dst v L) s):DA P E X b Post l M eff rdx ((j,o)::σ) pd k L s:=by
 intro hp hla hl done hsuf K cs F hr Lf hLf fuel t listed tmps r f al hD hs;have hev:=hev.sub hLf;obtain ⟨s1,s2,s3,s4,s5⟩:=WS hsuf;have ho:l[j]?=some o:=hl (j,o) (List.mem_cons_self ..);have hnal:∀ p∈al,p.1≠j:=fun p hp1 x=>by have:=(hD.alk p hp1).eff;rw [x,he] at this;cases this
 have hfj:=hD.und j s3 s2 hnal;have stable:∀ i oi,l[i]?=some oi->(done.testBit i=true∨i=j)->∀ t∈temps oi++yR l oi,look Lf t=look (setd o.dst v Lf) t:=by
  intro i oi hi hdi t ht;by_cases x:o.dst=some t
  ·exfalso
   by_cases hji:j=i
   ·subst hji;rw [ho] at hi;cases hi;exact hp.own j o ho (QC he) t x ht
   ·have hdi:=hdi.resolve_right (fun y=>hji y.symm);rcases hp.reads j i o oi t hji ho hi x ht with ⟨_,y⟩|⟨_,_,y⟩
    ·have:=hD.dcl i (YI hi) hdi j y
     rw [s2] at this;cases this
    ·rw [QC he] at y;cases y
  ·rw [xT x]
 refine g hp hla (fun p h=>hl p (List.mem_cons_of_mem _ h)) _ s5 K cs F hr (setd o.dst v Lf) hLf.setd fuel t listed tmps r f al ?_ hs;refine ⟨hD.sz,hD.tsz,hD.fuel,hD.down,?_,?_,?_,?_,?_,hD.nd⟩
 ·intro i hi hdi hna;rw [zI,Bool.or_eq_false_iff] at hdi;exact hD.und i hi hdi.1 hna
 ·intro u w hw;by_cases x:o.dst=some u
  ·exact .inr (.inl ⟨j,o,ho,by rw [zI];simp,hfj,he,x⟩)
  ·rw [xT x] at hw;rcases hD.agree u w hw with y|⟨i,oi,h1,h2,h3,h4,h5⟩|y
   ·exact .inl y
   ·exact .inr (.inl ⟨i,oi,h1,by rw [zI,h2];rfl,h3,h4,h5⟩)
   ·exact .inr (.inr y)
 ·intro i hi hdi x hx;rw [zI] at hdi ⊢;by_cases y:j=i
  ·subst y;rw [s1 x hx];rfl
  ·simp only [y,decide_false,Bool.or_false] at hdi;rw [hD.dcl i hi hdi x hx];rfl
 ·intro i oi hi hdi hli;rw [zI] at hdi;by_cases y:j=i
  ·subst y;rw [ho] at hi;cases hi;refine ⟨he,v,hev.mono (stable j o ho (.inr rfl)),fun d hdd=>⟨?_,VY hd d hdd⟩⟩;rw [hdd];simp [setd,xG]
  ·simp only [y,decide_false,Bool.or_false] at hdi;obtain ⟨k1,u,k2,k3⟩:=hD.virt i oi hi hdi hli;refine ⟨k1,u,(k2.trk fun ht=>ht.imp (fun h=>(wW h).2) (fun h=>hpd _ h)).mono (stable i oi hi (.inl hdi)),fun d hdd=>?_⟩;obtain ⟨k4,k5⟩:=k3 d hdd;refine ⟨?_,k5⟩;rw [xT];exact k4;intro x;exact hp.one j i o oi d y ho hi (QC he) x hdd
 ·intro p hp1;have ha:=hD.alk p hp1;refine ⟨ha.eff,?_,ha.up,ha.op⟩;rw [zI,ha.und];simp only [Bool.false_or,decide_eq_false_iff_not];exact fun x=>hnal p hp1 x.symm
theorem sufB_cover:∀ {σ:List Nat} {done:Nat},zKZ M eff l done σ=true->∀ i<l.length,done.testBit i=true∨i∈σ
 | [],done,h,i,hi=>by
  have:=Nat.eq_of_beq_eq_true h
  subst this;left;simp [Nat.testBit_two_pow_sub_one,hi]
 | j::σ,done,h,i,hi=>by
  obtain ⟨_,_,_,_,s5⟩:=WS h;rcases sufB_cover s5 i hi with x|x
  ·rw [zI,Bool.or_eq_true] at x;rcases x with x|x
   ·exact .inl x
   ·right;simp at x;simp [x]
  ·right;simp [x]
theorem Qv {A:HP}:∀ {s F:List HP},Sel (s++A::F) A (s++F)
 | [],_=>.here
 | _::s,_=>.there (Qv (s:=s))
theorem Lt.cons {A:HP} {s:List HP} {o:Oper} {v:Value} (h:Lt P E L s o v):Lt P E L (A::s) o v:=by
 intro e' he w r f F es hs hB;obtain ⟨a,w1,es1,r1,f1,A1,e1,k1,⟨q1,q2⟩,s1⟩:=h e' he w r f (A::F) es hs (Qv.back hB);subst q2;exact ⟨a,w1,es1,r1,f1,A::A1,e1,k1,⟨q1,rfl⟩,Qv.out s1⟩
theorem Evd.cons {A:HP} {s:List HP} {i:Nat} {o:Oper} {v:Value} {σi:List Nat} {pd:List (Nat×Oper×Value)} (h:Evd P E l M eff rdx σi pd L s i o v):Evd P E l M eff rdx σi pd L (A::s) i o v:=by
 rcases h with ⟨h1,h2,h3⟩|h
 ·refine .inl ⟨h1,h2,?_⟩;split at h3 <;> rename_i hc <;> simp only [hc,if_true]
  ·exact ⟨h3.1.cons,h3.2⟩
  ·exact h3
 ·exact .inr h
theorem Qy (hp:Plan l M eff) (hla:LateAll P b.n l) {done fuel t':Nat} {listed:Array Bool} {tmps:Array Value} {K:Goroutine->Hp->Hp->Prop} {cs:List Frame} {F:List HP} {r f:Hp} (h:Dy P E b.n l M eff rdx σi pd al done L s (fuel+1) listed tmps) {i:Nat} (hi:i∈Region.ready .any l.toArray listed) (hd:done.testBit i=false) (he:eff.contains i=true) (hlt:Xj l i=true) (hs:sep (s++(bxs al++F)) r f)
  (g:∀ tmps r f al,Dy P E b.n l M eff rdx σi pd al done L s fuel (listed.setIfInBounds i true) tmps->sep (s++(bxs al++F)) r f->Safe P E X K (G (b.at tmps (.inRegion l.toArray (Region.linearise.go .any l.toArray fuel t' (listed.setIfInBounds i true) [])::k)) cs) r f) :
  Safe P E X K (G (b.at tmps (.inRegion l.toArray (i::Region.linearise.go .any l.toArray fuel t' (listed.setIfInBounds i true) [])::k)) cs) r f:=by
 obtain ⟨o,ho,hf,hed,hcl⟩:=h.ready hp hi;have hlo:vZ o=true:=by unfold Xj at hlt;rw [ho] at hlt;exact hlt
 obtain ⟨d,t,ty,pos,af,agg,sz,z,e0,hdn,hT⟩:=hla.h i o ho hlo;subst e0;have ho':l.toArray[i]?=some (⟨some d,.alloc t,ty,pos,af,none⟩:Oper):=by simpa using ho
 have hil:i<listed.size:=by rw [h.sz];exact YI ho
 refine zJK (X:=X) (b:=b) (L:=L) (s:=[]) hT K cs (s++(bxs al++F)) l i _ k tmps r f ho' (wY (L:=L) (fun t ht u hu=>by simp [yR] at ht) (by unfold Want;rfl)) (fun t ht u hu=>by simp [Op.operands] at ht) hs ?_
 rintro v s' r' f' ⟨bb,rfl,rfl⟩ hs';refine g _ _ _ ((i,bb,z,t)::al) ?_ (Qv.back hs');refine ⟨by simp [h.sz],by rw [Wo];exact h.tsz,?_,?_,?_,?_,h.dcl,?_,?_,?_⟩
 ·have:=Qe hf;have:=h.fuel;omega
 ·intro j oj hj hl e e1 e2;rw [yJ hil] at hl ⊢;by_cases x:i=e.on
  ·simp [x]
  ·simp only [x,if_false];by_cases y:i=j
   ·subst y;rw [ho] at hj;cases hj;exact hed e e1 e2
   ·simp only [y,if_false] at hl;exact h.down j oj hj hl e e1 e2
 ·intro j hj hd' hna;rw [yJ hil];have:i≠j:=hna (i,bb,z,t) (List.mem_cons_self ..)
  simp only [this,if_false];exact h.und j hj hd' fun p hp1=>hna p (List.mem_cons_of_mem _ hp1)
 ·intro u w hw;by_cases x:d=u
  ·exact .inr (.inr ⟨(i,bb,z,t),List.mem_cons_self ..,_,ho,by rw [x]⟩)
  ·rcases h.agree u w hw with y|⟨j,oj,h1,h2,h3,h4,h5⟩|⟨p,hp1,y⟩
   ·left;rw [vY (by simpa using x)];exact y
   ·refine .inr (.inl ⟨j,oj,h1,h2,?_,h4,h5⟩);rw [yJ hil];have:i≠j:=by intro z;subst z;rw [h2] at hd;cases hd
    simp only [this,if_false];exact h3
   ·exact .inr (.inr ⟨p,List.mem_cons_of_mem _ hp1,y⟩)
 ·intro j oj hj hdj hlj;rw [yJ hil] at hlj;have:i≠j:=by intro z;subst z;rw [hdj] at hd;cases hd
  simp only [this,if_false] at hlj;exact h.virt j oj hj hdj hlj
 ·intro p hp1;rcases List.mem_cons.1 hp1 with rfl|hp1
  ·exact ⟨he,hd,by rw [yJ hil];simp,d,ty,pos,af,agg,sz,ho,hT,by simp [putd,h.tsz,hdn]⟩
  ·have ha:=h.alk p hp1;obtain ⟨d',ty',pos',af',agg',sz',e1,e2,e3⟩:=ha.op;have hip:i≠p.1:=by intro x;have:=ha.up;rw [<-x,hf] at this;cases this
   refine ⟨ha.eff,ha.und,?_,d',ty',pos',af',agg',sz',e1,e2,?_⟩
   ·rw [yJ hil];simp only [hip,if_false];exact ha.up
   ·rw [vY];exact e3;intro x;cases x;exact hp.one i p.1 _ _ d hip ho e1 (Jj rfl) rfl rfl
 ·refine List.nodup_cons.2 ⟨fun hm=>?_,h.nd⟩;obtain ⟨p,hp1,e⟩:=List.mem_map.1 hm;have:=(h.alk p hp1).up
  rw [e,hf] at this;cases this
theorem DA.act {j:Nat} {o:Oper} {σ:List (Nat×Oper)} {pd:List (Nat×Oper×Value)} {Q:Value->List HP->Prop} (he:eff.contains j=true) (hnl:vZ o=false) (hd:ltd o.dst b.n=true)
  (hx:∀ (K:Goroutine->Hp->Hp->Prop) (cs:List Frame) (F:List HP) (i:Nat) (is:List Nat) (tmps:Array Value) (r f:Hp),l.toArray[i]?=some o->(∀ t∈temps o++yR l o,∀ v,look L t=some v->tmps[t]?=some v)->sep (s++F) r f->
   (∀ v s' r' f',Q v s'->sep (s'++F) r' f'->Safe P E X K (G (b.at (putd o.dst v tmps) (.inRegion l.toArray is::k)) cs) r' f')->Safe P E X K (G (b.at tmps (.inRegion l.toArray (i::is)::k)) cs) r f)
  (hst:∀ v s',Q v s'->∀ p∈pd,bit M j p.1=true∨Lt P E (setd o.dst v L) s' p.2.1 p.2.2)
  (g:∀ v s',Q v s'->DA P E X b Post l M eff rdx σ pd k (setd o.dst v L) s'):DA P E X b Post l M eff rdx ((j,o)::σ) pd k L s:=by
 intro hp hla hl done hsuf K cs F hr Lf hLf fuel;obtain ⟨s1,s2,s3,s4,s5⟩:=WS hsuf;have ho:l[j]?=some o:=hl (j,o) (List.mem_cons_self ..);have hnal:∀ {listed:Array Bool} {tmps:Array Value} {n:Nat} {al:Al},Dy P E b.n l M eff rdx (((j,o)::σ).map Prod.fst) pd al done Lf s n listed tmps->∀ p∈al,p.1≠j:=by
  intro listed tmps n al hD p hp1 x;obtain ⟨d,ty,pos,af,agg,sz,e1,_,_⟩:=(hD.alk p hp1).op;rw [x,ho] at e1;cases e1;cases hnl
 induction fuel with
 | zero=>
  intro t listed tmps r f al hD hs;have:=WZ (Nat.le_zero.1 hD.fuel) (i:=j)
  rw [hD.und j s3 s2 (hnal hD)] at this;cases this
 | succ fuel ih=>
  intro t listed tmps r f al hD hs;have hfj:=hD.und j s3 s2 (hnal hD);rcases lin_succ (ops:=l.toArray) (fuel:=fuel) (t:=t) (listed:=listed) with ⟨i,hi,t',e⟩|⟨e,_⟩
  ·rw [e];obtain ⟨oi,hoi,hfi,hed,hcl⟩:=hD.ready hp hi;have hil:=YI hoi;cases hdi:done.testBit i with
   | true=>exact WV hp hD hi hdi hs fun tmps r f hD hs=>ih t' _ tmps r f al hD hs
   | false=>
    by_cases hij:i=j
    ·subst hij;rw [ho] at hoi;cases hoi;refine hx K cs (bxs al++F) i _ tmps r f (by simpa using ho) (fun t ht v hv=>hD.reads hp ho hcl (.inr s2) s1 (hnal hD) t ht v (hLf.h t v hv)) hs fun v s' r' f' q hs'=>?_
     refine g v s' q hp hla (fun p h=>hl p (List.mem_cons_of_mem _ h)) _ s5 K cs F hr (setd o.dst v Lf) hLf.setd fuel t' _ _ r' f' al ?_ hs';have hisz:i<listed.size:=by rw [hD.sz];exact hil
     have gone:∀ x,bit M i x=true->listed.getD x true=true:=hcl;refine ⟨by simp [hD.sz],by rw [Wo];exact hD.tsz,?_,?_,?_,?_,?_,?_,?_,hD.nd⟩
     ·have:=Qe hfi;have:=hD.fuel;omega
     ·intro m om hm hlm e e1 e2;rw [yJ hisz] at hlm ⊢;by_cases x:i=e.on
      ·simp [x]
      ·simp only [x,if_false];by_cases y:i=m
       ·subst y;rw [ho] at hm;cases hm;exact hed e e1 e2
       ·simp only [y,if_false] at hlm;exact hD.down m om hm hlm e e1 e2
     ·intro m hm hdm hna;rw [zI,Bool.or_eq_false_iff] at hdm;rw [yJ hisz];have:i≠m:=by simpa using hdm.2
      simp only [this,if_false];exact hD.und m hm hdm.1 hna
     ·intro u w hw;by_cases x:o.dst=some u
      ·left
       rw [x] at hw ⊢;simp only [setd,xG,if_true] at hw;cases hw;simp [putd,hD.tsz,VY hd u x]
      ·rw [xT x] at hw;rcases hD.agree u w hw with y|⟨m,om,h1,h2,h3,h4,h5⟩|y
       ·left;rw [vY x];exact y
       ·refine .inr (.inl ⟨m,om,h1,by rw [zI,h2];rfl,?_,h4,h5⟩)
        rw [yJ hisz];have:i≠m:=by intro y;subst y;rw [h2] at hdi;cases hdi
        simp only [this,if_false];exact h3
       ·exact .inr (.inr y)
     ·intro m hm hdm x hxx;rw [zI] at hdm ⊢;by_cases y:i=m
      ·subst y;rw [s1 x hxx];rfl
      ·simp only [y,decide_false,Bool.or_false] at hdm;rw [hD.dcl m hm hdm x hxx];rfl
     ·intro m om hm hdm hlm;rw [zI] at hdm;rw [yJ hisz] at hlm;by_cases y:i=m
      ·simp [y] at hlm
      ·simp only [y,decide_false,Bool.or_false] at hdm;simp only [y,if_false] at hlm;obtain ⟨k1,u,k2,k3⟩:=hD.virt m om hm hdm hlm;have hnb:bit M i m≠true:=fun z=>by rw [gone m z] at hlm;cases hlm
       have hstab:∀ t∈temps om++yR l om,look Lf t=look (setd o.dst v Lf) t:=fun t ht=>by
        rw [xT];intro z;rcases hp.reads i m o om t y ho hm z ht with ⟨_,w⟩|⟨_,w,_⟩
        ·have:=hD.dcl m (YI hm) hdm i w
         rw [s2] at this;cases this
        ·exact hnb w
       refine ⟨k1,u,?_,fun d hdd=>?_⟩
       ·rcases k2 with ⟨z1,z2,z3⟩|⟨z1,z2⟩
        ·refine .inl ⟨z1.mono fun t ht=>hstab t (by simp [ht]),z2,?_⟩
         split at z3 <;> rename_i hc <;> simp only [hc,if_true]
         ·obtain ⟨_,z4⟩:=z3;rcases z4 with z4|z4
          ·exact absurd ((wW z4).1 he) hnb
          ·exact ⟨((hst v s' q _ z4).resolve_left hnb).sub hLf.setd,.inr z4⟩
         ·exact Cm.mono z3 fun t ht=>hstab t (by simp [ht])
        ·exact .inr ⟨z1.mono fun t ht=>hstab t (by simp [ht]),z2⟩
       ·obtain ⟨k4,k5⟩:=k3 d hdd;refine ⟨?_,k5⟩;rw [xT];exact k4;intro z;exact hp.one m i om o d (fun w=>y w.symm) hm ho (QC k1) hdd z
     ·intro p hp1;have ha:=hD.alk p hp1;obtain ⟨d,ty,pos,af,agg,sz,e1,e2,e3⟩:=ha.op;have hip:p.1≠i:=hnal hD p hp1;refine ⟨ha.eff,?_,?_,d,ty,pos,af,agg,sz,e1,e2,?_⟩
      ·rw [zI,ha.und];simp only [Bool.false_or,decide_eq_false_iff_not];exact fun x=>hip x.symm
      ·rw [yJ hisz,if_neg (fun x:i=p.1=>hip x.symm)];exact ha.up
      ·rw [vY];exact e3;exact hp.one p.1 i _ o d hip e1 ho (Jj rfl) rfl
    ·have hlate:eff.contains i=true/\Xj l i=true:=by
      rcases sufB_cover hsuf i hil with x|x
      ·rw [hdi] at x;cases x
      ·rcases List.mem_cons.1 x with x|x
       ·exact absurd x hij
       ·rcases s4 he i x with y|y
        ·have:=hcl j y
         rw [hfj] at this;cases this
        ·exact y
     exact Qy hp hla hD hi hdi hlate.1 hlate.2 hs fun tmps r f al hD hs=>ih t' _ tmps r f al hD hs
  ·exact absurd e (hD.some_ready hp hfj)
theorem zLV {t:TypeId} {agg agg':Bool} {sz sz':Nat} {z z':List Value} (h:TyN P t agg sz z) (h':TyN P t agg' sz' z'):z=z':=by
 obtain ⟨i,v,d,h1,h2,h3,h4,_⟩:=h.h;obtain ⟨i',v',d',k1,k2,k3,k4,_⟩:=h'.h;rw [h1] at k1;cases k1;rw [h3] at k3;cases k3;rw [h4] at k4;simpa using congrArg Array.toList k4
theorem DA.late {j d:Nat} {t ty:TypeId} {pos:String} {af:Array Edge} {agg:Bool} {sz:Nat} {z:List Value} {σ:List (Nat×Oper)} {pd:List (Nat×Oper×Value)} (he:eff.contains j=true) (hT:TyN P t agg sz z)
  (g:∀ bb,DA P E X b Post l M eff rdx σ pd k ((d,.pointer (some ⟨bb,0,none⟩))::L) (box bb z t::s)):DA P E X b Post l M eff rdx ((j,⟨some d,.alloc t,ty,pos,af,none⟩)::σ) pd k L s:=by
 intro hp hla hl done hsuf K cs F hr Lf hLf fuel;obtain ⟨s1,s2,s3,s4,s5⟩:=WS hsuf;have ho:l[j]?=some (⟨some d,.alloc t,ty,pos,af,none⟩:Oper):=hl (j,_) (List.mem_cons_self ..);have take:∀ fuel t' listed tmps r f al,Dy P E b.n l M eff rdx (((j,(⟨some d,.alloc t,ty,pos,af,none⟩:Oper))::σ).map Prod.fst) pd al done Lf s fuel listed tmps->sep (s++(bxs al++F)) r f->(∃ p∈al,p.1=j)->
   Safe P E X K (G (b.at tmps (.inRegion l.toArray (Region.linearise.go .any l.toArray fuel t' listed [])::k)) cs) r f:=by
  rintro fuel t' listed tmps r f al hD hs ⟨⟨j',bb,z',t0⟩,hmem,e⟩;simp only at e;subst e;have ha:=hD.alk _ hmem;obtain ⟨d',ty',pos',af',agg',sz',e1,e2,e3⟩:=ha.op;simp only at e1 e2 e3;rw [ho] at e1;cases e1;have:=zLV hT e2
  subst this;have hup:=ha.up;simp only at hup;obtain ⟨a1,a2,rfl⟩:=List.append_of_mem hmem;have hnd:=hD.nd;simp only [List.map_append,List.map_cons] at hnd;have hnj:∀ p∈a1++a2,p.1≠j':=by
   intro p hp1 x;rw [List.nodup_append] at hnd;obtain ⟨n1,n2,n3⟩:=hnd;rcases List.mem_append.1 hp1 with y|y
   ·exact n3 p.1 (List.mem_map.2 ⟨p,y,rfl⟩) j' (by simp) x
   ·exact (List.nodup_cons.1 n2).1 (List.mem_map.2 ⟨p,y,x⟩)
  have hsub:∀ p∈a1++a2,p∈a1++(j',bb,z,t)::a2:=fun p hp1=>by
   rcases List.mem_append.1 hp1 with y|y
   ·simp [y]
   ·simp [y]
  have hin:∀ p∈a1++(j',bb,z,t)::a2,p.1≠j'->p∈a1++a2:=fun p hp1 hne=>by
   rcases List.mem_append.1 hp1 with y|y
   ·simp [y]
   ·rcases List.mem_cons.1 y with rfl|y
    ·exact absurd rfl hne
    ·simp [y]
  have hs2:sep ((box bb z t::s)++(bxs (a1++a2)++F)) r f:=by
   have e4:s++(bxs (a1++(j',bb,z,t)::a2)++F)=(s++bxs a1)++box bb z t::(bxs a2++F):=by simp [bxs]
   rw [e4] at hs;have:=Qv.out hs
   have e5:(box bb z t::s)++(bxs (a1++a2)++F)=box bb z t::((s++bxs a1)++(bxs a2++F)):=by simp [bxs]
   rw [e5];exact this
  refine g bb hp hla (fun p h=>hl p (List.mem_cons_of_mem _ h)) _ s5 K cs F hr ((d,.pointer (some ⟨bb,0,none⟩))::Lf) hLf.cons fuel t' listed tmps r f (a1++a2) ?_ hs2;refine ⟨hD.sz,hD.tsz,hD.fuel,hD.down,?_,?_,?_,?_,?_,?_⟩
  ·intro m hm hdm hna;rw [zI,Bool.or_eq_false_iff] at hdm;have hjm:j'≠m:=by simpa using hdm.2
   exact hD.und m hm hdm.1 fun p hp1 x=>hna p (hin p hp1 (fun y=>hjm (y.symm.trans x))) x
  ·intro u w hw;rw [xG] at hw;by_cases x:d=u
   ·simp only [x,if_true] at hw;cases hw;rw [<-x];exact .inl e3
   ·simp only [x,if_false] at hw;rcases hD.agree u w hw with y|⟨m,om,h1,h2,h3,h4,h5⟩|⟨p,hp1,op,h1,h5⟩
    ·exact .inl y
    ·exact .inr (.inl ⟨m,om,h1,by rw [zI,h2];rfl,h3,h4,h5⟩)
    ·by_cases y:p.1=j'
     ·rw [y,ho] at h1;cases h1;cases h5;exact absurd rfl x
     ·exact .inr (.inr ⟨p,hin p hp1 y,op,h1,h5⟩)
  ·intro m hm hdm x hxx;rw [zI] at hdm ⊢;by_cases y:j'=m
   ·subst y;rw [s1 x hxx];rfl
   ·simp only [y,decide_false,Bool.or_false] at hdm;rw [hD.dcl m hm hdm x hxx];rfl
  ·intro m om hm hdm hlm;rw [zI] at hdm;have y:j'≠m:=by intro y;subst y;rw [hup] at hlm;cases hlm
   simp only [y,decide_false,Bool.or_false] at hdm;obtain ⟨k1,u,k2,k3⟩:=hD.virt m om hm hdm hlm;have hstab:∀ t∈temps om++yR l om,look Lf t=look ((d,Value.pointer (some ⟨bb,0,none⟩))::Lf) t:=fun t ht=>by
    rw [xG];split
    ·rename_i z
     subst z;exfalso
     rcases hp.reads j' m _ om d y ho hm rfl ht with ⟨_,w⟩|⟨_,_,w⟩
     ·have:=hD.dcl m (YI hm) hdm j' w
      rw [s2] at this;cases this
     ·rw [Jj rfl] at w;cases w
    ·rfl
   refine ⟨k1,u,((k2.trk fun ht=>ht.imp (fun h=>(wW h).2) id).mono hstab).cons,fun d' hdd=>?_⟩;obtain ⟨k4,k5⟩:=k3 d' hdd;refine ⟨?_,k5⟩;rw [xG,if_neg];exact k4;intro z;exact hp.one m j' om _ d' (fun w=>y w.symm) hm ho (QC k1) hdd (by rw [z])
  ·intro p hp1;have ha:=hD.alk p (hsub p hp1);refine ⟨ha.eff,?_,ha.up,ha.op⟩;rw [zI,ha.und];simp only [Bool.false_or,decide_eq_false_iff_not];exact fun x=>hnj p hp1 x.symm
  ·refine hD.nd.sublist ?_;simp
 induction fuel with
 | zero=>
  intro t' listed tmps r f al hD hs;by_cases hj:∃ p∈al,p.1=j
  ·exact take _ _ _ _ _ _ _ hD hs hj
  ·have:=WZ (Nat.le_zero.1 hD.fuel) (i:=j)
   rw [hD.und j s3 s2 (fun p hp1 x=>hj ⟨p,hp1,x⟩)] at this;cases this
 | succ fuel ih=>
  intro t0 listed tmps r f al hD hs;by_cases hj:∃ p∈al,p.1=j
  ·exact take _ _ _ _ _ _ _ hD hs hj
  ·have hfj:=hD.und j s3 s2 (fun p hp1 x=>hj ⟨p,hp1,x⟩);rcases lin_succ (ops:=l.toArray) (fuel:=fuel) (t:=t0) (listed:=listed) with ⟨i,hi,t',e⟩|⟨e,_⟩
   ·rw [e];obtain ⟨oi,hoi,hfi,hed,hcl⟩:=hD.ready hp hi;have hil:=YI hoi;cases hdi:done.testBit i with
    | true=>exact WV hp hD hi hdi hs fun tmps r f hD hs=>ih t' _ tmps r f al hD hs
    | false=>
     have hlate:eff.contains i=true/\Xj l i=true:=by
      rcases sufB_cover hsuf i hil with x|x
      ·rw [hdi] at x;cases x
      ·rcases List.mem_cons.1 x with x|x
       ·subst x;exact ⟨he,by unfold Xj;rw [ho];rfl⟩
       ·rcases s4 he i x with y|y
        ·have:=hcl j y
         rw [hfj] at this;cases this
        ·exact y
     exact Qy hp hla hD hi hdi hlate.1 hlate.2 hs fun tmps r f al hD hs=>ih t' _ tmps r f al hD hs
   ·exact absurd e (hD.some_ready hp hfj)
theorem DA.done {pd:List (Nat×Oper×Value)} (g:W P E X b Post k L s):DA P E X b Post l M eff rdx [] pd k L s:=by
 intro hp hla hl done hsuf K cs F hr Lf hLf fuel;have hcov:=sufB_cover hsuf;have hal:∀ {listed:Array Bool} {tmps:Array Value} {n:Nat} {al:Al},Dy P E b.n l M eff rdx [] pd al done Lf s n listed tmps->al=[]:=by
  intro listed tmps n al hD;cases al with
  | nil=>rfl
  | cons p a=>
   exfalso
   have ha:=hD.alk p (List.mem_cons_self ..);obtain ⟨d,ty,pos,af,agg,sz,e1,_,_⟩:=ha.op;rcases hcov p.1 (YI e1) with x|x
   ·rw [ha.und] at x;cases x
   ·cases x
 have fin:∀ (listed:Array Bool) (tmps:Array Value) (n:Nat),Dy P E b.n l M eff rdx [] pd [] done Lf s n listed tmps->(∀ i,listed.getD i true=true)->L.ok b.n tmps:=fun listed tmps n hD ha=>
  ⟨hD.tsz,fun t v e=>by
   rcases hD.agree t v (hLf.h t v e) with x|⟨i,o,h1,h2,h3,_⟩|⟨p,x,_⟩
   ·exact x
   ·rw [ha i] at h3;cases h3
   ·cases x⟩
 induction fuel with
 | zero=>
  intro t listed tmps r f al hD hs;have:=hal hD;subst this
  have ha:∀ i,listed.getD i true=true:=fun i=>WZ (Nat.le_zero.1 hD.fuel);exact W.endRegion g K cs F hr tmps r f (fin _ _ _ hD ha) hs
 | succ fuel ih=>
  intro t listed tmps r f al hD hs;have:=hal hD;subst this
  rcases lin_succ (ops:=l.toArray) (fuel:=fuel) (t:=t) (listed:=listed) with ⟨i,hi,t',e⟩|⟨e,e'⟩
  ·rw [e];obtain ⟨oi,hoi,hfi,hed,hcl⟩:=hD.ready hp hi;have hdi:done.testBit i=true:=by
    rcases hcov i (YI hoi) with x|x
    ·exact x
    ·cases x
   exact WV hp hD hi hdi hs fun tmps r f hD hs=>ih t' _ tmps r f [] hD hs
  ·rw [e'];have ha:∀ i,listed.getD i true=true:=fun i=>by
    cases hh:listed.getD i true with
    | true=>rfl
    | false=>exact absurd e (hD.some_ready hp hh)
   exact W.endRegion g K cs F hr tmps r f (fin _ _ _ hD ha) hs
section
variable {j d:Nat} {pd:List (Nat×Oper×Value)} {op:Op} {ty:TypeId} {pos:String} {af:Array Edge} {gd:Option (Nat×Bool)} {σ:List (Nat×Oper)}
theorem DA.cm {v:Value} (hw:Want L l ⟨some d,op,ty,pos,af,gd⟩ true) (hnd:Op.isDefer op=false) (hd:Nat.blt d b.n=true) (he:eff.contains j=false) (hr:rdx.contains j=false) (h:Cm P L ⟨some d,op,ty,pos,af,gd⟩ v) (g:DA P E X b Post l M eff rdx σ pd k ((d,v)::L) s):DA P E X b Post l M eff rdx ((j,⟨some d,op,ty,pos,af,gd⟩)::σ) pd k L s:=
 DA.ahead (o:=⟨some d,op,ty,pos,af,gd⟩) (v:=v) he hd (.inl ⟨hw,hnd,by rw [hr];exact h⟩) (fun _ h=>h) g
theorem zOT {o:Oper} {v:Value} {σ:List Nat} (h:Cm P L o v) (ha:ZI M eff j σ=true):if rdx.contains j then Lt P E L s o v/\Trk M eff σ pd j o v else Cm P L o v:=by
 split
 ·exact ⟨h.lt,.inl ha⟩
 ·exact h
theorem DA.cmr {v:Value} (hw:Want L l ⟨some d,op,ty,pos,af,gd⟩ true) (hnd:Op.isDefer op=false) (hd:Nat.blt d b.n=true) (he:eff.contains j=false) (ha:ZI M eff j (σ.map Prod.fst)=true) (h:Cm P L ⟨some d,op,ty,pos,af,gd⟩ v) (g:DA P E X b Post l M eff rdx σ pd k ((d,v)::L) s):DA P E X b Post l M eff rdx ((j,⟨some d,op,ty,pos,af,gd⟩)::σ) pd k L s:=
 DA.ahead (o:=⟨some d,op,ty,pos,af,gd⟩) (v:=v) he hd (.inl ⟨hw,hnd,zOT h ha⟩) (fun _ h=>h) g
theorem DA.lt {v:Value} (hw:Want L l ⟨some d,op,ty,pos,af,gd⟩ true) (hnd:Op.isDefer op=false) (hd:Nat.blt d b.n=true) (he:eff.contains j=false) (hr:rdx.contains j=true) (ha:ZI M eff j (σ.map Prod.fst)=true) (h:Lt P E L s ⟨some d,op,ty,pos,af,gd⟩ v) (g:DA P E X b Post l M eff rdx σ pd k ((d,v)::L) s):DA P E X b Post l M eff rdx ((j,⟨some d,op,ty,pos,af,gd⟩)::σ) pd k L s:=
 DA.ahead (o:=⟨some d,op,ty,pos,af,gd⟩) (v:=v) he hd (.inl ⟨hw,hnd,by rw [hr];exact ⟨h,.inl ha⟩⟩) (fun _ h=>h) g
theorem DA.ltP {v:Value} (hw:Want L l ⟨some d,op,ty,pos,af,gd⟩ true) (hnd:Op.isDefer op=false) (hd:Nat.blt d b.n=true) (he:eff.contains j=false) (hr:rdx.contains j=true) (h:Lt P E L s ⟨some d,op,ty,pos,af,gd⟩ v) (g:DA P E X b Post l M eff rdx σ ((j,⟨some d,op,ty,pos,af,gd⟩,v)::pd) k ((d,v)::L) s):DA P E X b Post l M eff rdx ((j,⟨some d,op,ty,pos,af,gd⟩)::σ) pd k L s:=
 DA.ahead (o:=⟨some d,op,ty,pos,af,gd⟩) (v:=v) he hd (.inl ⟨hw,hnd,by rw [hr];exact ⟨h,.inr (List.mem_cons_self ..)⟩⟩) (fun _ h=>List.mem_cons_of_mem _ h) g
theorem DA.skip (hw:Want L l ⟨some d,op,ty,pos,af,gd⟩ false) (hd:Nat.blt d b.n=true) (he:eff.contains j=false) (g:DA P E X b Post l M eff rdx σ pd k ((d,undef)::L) s):DA P E X b Post l M eff rdx ((j,⟨some d,op,ty,pos,af,gd⟩)::σ) pd k L s:=
 DA.ahead (o:=⟨some d,op,ty,pos,af,gd⟩) (v:=undef) he hd (.inr ⟨hw,rfl⟩) (fun _ h=>h) g
inductive PdOk (P:Program) (E:Env) (M:List Nat) (j:Nat) (L:Tm) (s:List HP):List (Nat×Oper×Value)->Prop
 | nil:PdOk P E M j L s []
 | old {i:Nat} {o:Oper} {v:Value} {pd:List (Nat×Oper×Value)} (h:bit M j i=true) (g:PdOk P E M j L s pd):PdOk P E M j L s ((i,o,v)::pd)
 | cons {i:Nat} {o:Oper} {v:Value} {pd:List (Nat×Oper×Value)} (h:Lt P E L s o v) (g:PdOk P E M j L s pd):PdOk P E M j L s ((i,o,v)::pd)
theorem PdOk.h {s:List HP} (h:PdOk P E M j L s pd):∀ p∈pd,bit M j p.1=true∨Lt P E L s p.2.1 p.2.2:=by
 induction h with
 | nil=>intro p hp;cases hp
 | old h g ih=>
         intro p hp;rcases List.mem_cons.1 hp with rfl|hp
         ·exact .inl h
         ·exact ih p hp
 | cons h g ih=>
          intro p hp;rcases List.mem_cons.1 hp with rfl|hp
          ·exact .inr h
          ·exact ih p hp
theorem DA.exP {o:Oper} {Q:Value->List HP->Prop} (hw:Want L l o true) (hd:ltd o.dst b.n=true) (he:eff.contains j=true) (hnl:vZ o=false) (h:Ex P E X b L s o Q) (g:∀ v s',Q v s'->PdOk P E M j (setd o.dst v L) s' pd/\DA P E X b Post l M eff rdx σ pd k (setd o.dst v L) s'):DA P E X b Post l M eff rdx ((j,o)::σ) pd k L s:=
 DA.act he hnl hd (fun K cs F i is tmps r f h1 h2 h3 h4=>h K cs F l i is k tmps r f h1 (wY (fun t ht v hv=>h2 t (by simp [ht]) v hv) hw) (fun t ht v hv=>h2 t (by simp [XF.2 ht]) v hv) h3 h4) (fun v s' q=>(g v s' q).1.h) fun v s' q=>(g v s' q).2
theorem DA.cmE {v:Value} (hw:Want L l ⟨some d,op,ty,pos,af,gd⟩ true) (hnd:Op.isDefer op=false) (hd:Nat.blt d b.n=true) (he:eff.contains j=true) (hnl:vZ ⟨some d,op,ty,pos,af,gd⟩=false) (h:Cm P L ⟨some d,op,ty,pos,af,gd⟩ v) (hpd:PdOk P E M j ((d,v)::L) s pd) (g:DA P E X b Post l M eff rdx σ pd k ((d,v)::L) s):DA P E X b Post l M eff rdx ((j,⟨some d,op,ty,pos,af,gd⟩)::σ) pd k L s:=
 DA.exP (o:=⟨some d,op,ty,pos,af,gd⟩) hw hd he hnl (h.lt.ex (.inr hnd)) fun u s' ⟨e1,e2⟩=>by rw [e1,e2];exact ⟨hpd,g⟩
theorem zIz {o:Oper} (hw:Want L l o false):vZ o=false:=by
 unfold Want at hw;cases hg:o.guard with
 | none=>rw [hg] at hw;cases hw
 | some p=>unfold vZ;split <;> simp [hg]
theorem DA.exSkip {o:Oper} (hw:Want L l o false) (hd:ltd o.dst b.n=true) (he:eff.contains j=true) (hpd:PdOk P E M j (setd o.dst undef L) s pd) (g:DA P E X b Post l M eff rdx σ pd k (setd o.dst undef L) s):DA P E X b Post l M eff rdx ((j,o)::σ) pd k L s:=
 DA.act (Q:=fun v s'=>v=undef/\s'=s) he (zIz hw) hd (fun K cs F i is tmps r f h1 h2 h3 h4=>by
  refine .idle rfl (fun w=>YZ h1 (wY (fun t ht v hv=>h2 t (by simp [ht]) v hv) hw)) ?_
  rw [wE h1];exact h4 _ _ _ _ ⟨rfl,rfl⟩ h3) (fun v s' ⟨e1,e2⟩=>by rw [e1,e2];exact hpd.h) fun v s' ⟨e1,e2⟩=>by rw [e1,e2];exact g
inductive PdSub (M eff:List Nat) (σ:List Nat) (pd0:List (Nat×Oper×Value)):List (Nat×Oper×Value)->Prop
 | refl:PdSub M eff σ pd0 pd0
 | nil:PdSub M eff σ pd0 []
 | cons {i:Nat} {o:Oper} {v:Value} {pd:List (Nat×Oper×Value)} (h:ZI M eff i σ=true) (g:PdSub M eff σ pd0 pd):PdSub M eff σ pd0 ((i,o,v)::pd)
theorem PdSub.h {σ:List Nat} {pd0:List (Nat×Oper×Value)} (h:PdSub M eff σ pd0 pd):∀ p∈pd,ZI M eff p.1 σ=true∨p∈pd0:=by
 induction h with
 | refl=>exact fun p hp=>.inr hp
 | nil=>intro p hp;cases hp
 | cons h g ih=>
          intro p hp;rcases List.mem_cons.1 hp with rfl|hp
          ·exact .inl h
          ·exact ih p hp
theorem DA.close {L':Tm} {pd0:List (Nat×Oper×Value)} (gk:DA P E X b Post l M eff rdx σ pd0 k L' s) (hL:Sub L' L) (hp:PdSub M eff (σ.map Prod.fst) pd0 pd):DA P E X b Post l M eff rdx σ pd k L s:=
 fun hpl hla hl done hsuf K cs F hr Lf hLf fuel t listed tmps r f al hD hs=>gk hpl hla hl done hsuf K cs F hr Lf ⟨fun t v e=>hLf.h t v (hL.h t v e)⟩ fuel t listed tmps r f al
  ⟨hD.sz,hD.tsz,hD.fuel,hD.down,hD.und,hD.agree,hD.dcl,fun i o h1 h2 h3=>by
   obtain ⟨k1,v,k2,k3⟩:=hD.virt i o h1 h2 h3;exact ⟨k1,v,k2.trk fun ht=>ht.elim .inl fun h=>hp.h _ h,k3⟩,hD.alk,hD.nd⟩ hs
theorem DA.intoC {A:HP} {s:List HP} (hi:Into s (A::s)) (g:DA P E X b Post l M eff rdx σ pd k L (A::s)):DA P E X b Post l M eff rdx σ pd k L s:=
 fun hpl hla hl done hsuf K cs F hr Lf hLf fuel t listed tmps r f al hD hs=>g hpl hla hl done hsuf K cs F hr Lf hLf fuel t listed tmps r f al
  ⟨hD.sz,hD.tsz,hD.fuel,hD.down,hD.und,hD.agree,hD.dcl,fun i o h1 h2 h3=>by
   obtain ⟨k1,v,k2,k3⟩:=hD.virt i o h1 h2 h3;exact ⟨k1,v,k2.cons,k3⟩,hD.alk,hD.nd⟩ (by
   obtain ⟨f1,f2,d,l1,l2,h1,h2⟩:=zD.1 hs;exact zD.2 ⟨f1,f2,d,l1,l2,hi.h _ _ h1,h2⟩)
def QI (l:List Oper):List (Nat×Oper)->Option (Nat×Bool)
 | []=>none
 | p::_=>match p.2.guard with
  | none=>none
  | some (j,w)=>match QD l j with
   | none=>none
   | some d=>some (d,w)
def XY (c:Nat):List (Nat×Oper)->Option (Nat×List (Nat×Oper))
 | []=>none
 | p::r=>match p.2.dst,p.2.op with
  | some d,.pick (.tmp e) _ _=>if e=c then some (d,r) else XY c r
  | _,_=>XY c r
variable {σ':List (Nat×Oper)}
theorem DA.orG {c d:Nat} {q y:Bool} (hg:QI l σ=some (c,false)) (hq:look L c=some (.bool q)) (hc:XY c σ=some (d,σ'))
  (hF:q=false->DA P E X b Post l M eff rdx σ' pd k ((d,.bool (q||y))::L) s->DA P E X b Post l M eff rdx σ pd k L s)
  (hT:q=true->DA P E X b Post l M eff rdx σ' pd k ((d,.bool (q||y))::L) s->DA P E X b Post l M eff rdx σ pd k L s)
  (g:DA P E X b Post l M eff rdx σ' pd k ((d,.bool (q||y))::L) s):DA P E X b Post l M eff rdx σ pd k L s:=by
 cases q
 ·exact hF rfl g
 ·exact hT rfl g
theorem DA.andG {c d:Nat} {q y:Bool} (hg:QI l σ=some (c,true)) (hq:look L c=some (.bool q)) (hc:XY c σ=some (d,σ'))
  (hT:q=true->DA P E X b Post l M eff rdx σ' pd k ((d,.bool (q&&y))::L) s->DA P E X b Post l M eff rdx σ pd k L s)
  (hF:q=false->DA P E X b Post l M eff rdx σ' pd k ((d,.bool (q&&y))::L) s->DA P E X b Post l M eff rdx σ pd k L s)
  (g:DA P E X b Post l M eff rdx σ' pd k ((d,.bool (q&&y))::L) s):DA P E X b Post l M eff rdx σ pd k L s:=by
 cases q
 ·exact hF rfl g
 ·exact hT rfl g
theorem DA.orY {L':Tm} {pd0:List (Nat×Oper×Value)} {q y:Bool} (h:q=false) (gk:DA P E X b Post l M eff rdx σ pd0 k ((d,.bool (q||y))::L') s) (hL:Sub L' L) (hp:PdSub M eff (σ.map Prod.fst) pd0 pd):DA P E X b Post l M eff rdx σ pd k ((d,.bool y)::L) s:=by
 subst h;exact DA.close gk (by rw [Bool.false_or];exact hL.cons) hp
theorem DA.orN {L':Tm} {pd0:List (Nat×Oper×Value)} {q y:Bool} (h:q=true) (gk:DA P E X b Post l M eff rdx σ pd0 k ((d,.bool (q||y))::L') s) (hL:Sub L' L) (hp:PdSub M eff (σ.map Prod.fst) pd0 pd):DA P E X b Post l M eff rdx σ pd k ((d,.bool true)::L) s:=by
 subst h;exact DA.close gk (by rw [Bool.true_or];exact hL.cons) hp
theorem DA.andY {L':Tm} {pd0:List (Nat×Oper×Value)} {q y:Bool} (h:q=true) (gk:DA P E X b Post l M eff rdx σ pd0 k ((d,.bool (q&&y))::L') s) (hL:Sub L' L) (hp:PdSub M eff (σ.map Prod.fst) pd0 pd):DA P E X b Post l M eff rdx σ pd k ((d,.bool y)::L) s:=by
 subst h;exact DA.close gk (by rw [Bool.true_and];exact hL.cons) hp
theorem DA.andN {L':Tm} {pd0:List (Nat×Oper×Value)} {q y:Bool} (h:q=false) (gk:DA P E X b Post l M eff rdx σ pd0 k ((d,.bool (q&&y))::L') s) (hL:Sub L' L) (hp:PdSub M eff (σ.map Prod.fst) pd0 pd):DA P E X b Post l M eff rdx σ pd k ((d,.bool false)::L) s:=by
 subst h;exact DA.close gk (by rw [Bool.false_and];exact hL.cons) hp
end
end
end Go.KL
end
