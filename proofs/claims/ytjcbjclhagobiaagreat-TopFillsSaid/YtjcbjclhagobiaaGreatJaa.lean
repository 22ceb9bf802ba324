/- Texts joined by a program of ours: Ka Kb Kc Kd Ke Kf Kg Kh. -/
import Derived.Conc.Own
import Derived.KernelRfl
import Derived.Conc.Events
import Derived.Orders
import Derived.Laws.Sem
set_option linter.all false
section
namespace Go.KL
open Go
abbrev Hp:=Nat->Option Obj
structure Hp.le (a b:Hp):Prop where
 h:∀ n o,a n=some o->b n=some o
structure Hp.disj (a b:Hp):Prop where
 h:∀ n,a n=none∨b n=none
def Hp.emp:Hp:=fun _=>none
def Hp.union (a b:Hp):Hp:=fun n=>(a n).or (b n)
def Hp.one (n:Nat) (o:Obj):Hp:=fun m=>if m=n then some o else none
def Hp.cell (h:Hp) (a:Addr):Option Value:=
 match h a.block with
 | some (.cells c _ _)=>if a.spot.isSome then none else c[a.off]?
 | _=>none
theorem Hp.le_refl (a:Hp):a.le a:=⟨fun _ _ h=>h⟩
theorem Hp.le.trans {a b c:Hp} (h:a.le b) (k:b.le c):a.le c:=⟨fun n o e=>k.h n o (h.h n o e)⟩
theorem Hp.disj.symm {a b:Hp} (h:a.disj b):b.disj a:=⟨fun n=>(h.h n).symm⟩
theorem Hp.disj_emp (a:Hp):a.disj Hp.emp:=⟨fun _=>.inr rfl⟩
theorem Hp.emp_disj (a:Hp):Hp.emp.disj a:=⟨fun _=>.inl rfl⟩
theorem Hp.emp_le (a:Hp):Hp.emp.le a:=⟨fun _ _ h=>by cases h⟩
theorem Hp.le_union_left (a b:Hp):a.le (a.union b):=⟨fun n o h=>by simp [Hp.union,h]⟩
theorem Hp.le_union_right {a b:Hp} (d:a.disj b):b.le (a.union b):=⟨fun n o h=>by
 rcases d.h n with e|e
 ·simp [Hp.union,e,h]
 ·rw [h] at e;cases e⟩
theorem Hp.union_le {a b c:Hp} (h:a.le c) (k:b.le c):(a.union b).le c:=⟨fun n o e=>by
 unfold Hp.union at e;cases ha:a n with
 | some x=>rw [ha] at e;simp at e;subst e;exact h.h n _ ha
 | none=>rw [ha] at e;simp at e;exact k.h n o e⟩
theorem Hp.union_none {a b:Hp} {n:Nat}:(a.union b) n=none↔a n=none/\b n=none:=by
 unfold Hp.union;cases a n <;> simp
theorem Hp.union_disj {a b c:Hp} (h:a.disj c) (k:b.disj c):(a.union b).disj c:=⟨fun n=>by
 rcases h.h n with e|e
 ·rcases k.h n with f|f
  ·exact .inl (Hp.union_none.2 ⟨e,f⟩)
  ·exact .inr f
 ·exact .inr e⟩
theorem Hp.disj_union {a b c:Hp} (h:a.disj b) (k:a.disj c):a.disj (b.union c):=(Hp.union_disj h.symm k.symm).symm
theorem Hp.disj.mono {a b c d:Hp} (h:a.disj b) (k:c.le a) (l:d.le b):c.disj d:=⟨fun n=>by
 rcases h.h n with e|e
 ·left;cases hc:c n with
  | none=>rfl
  | some o=>rw [k.h n o hc] at e;cases e
 ·right;cases hd:d n with
  | none=>rfl
  | some o=>rw [l.h n o hd] at e;cases e⟩
theorem Hp.le.none {a b:Hp} (h:a.le b) {n:Nat} (k:b n=Option.none):a n=Option.none:=by
 cases e:a n with
 | none=>rfl
 | some o=>rw [h.h n o e] at k;cases k
@[simp] theorem Hp.one_same (n:Nat) (o:Obj):Hp.one n o n=some o:=by simp [Hp.one]
theorem Hp.one_some {n m:Nat} {o x:Obj} (h:Hp.one n o m=some x):m=n/\x=o:=by
 unfold Hp.one at h;split at h
 ·rename_i e;exact ⟨e,by cases h;rfl⟩
 ·cases h
theorem Hp.one_le {n:Nat} {o:Obj} {h:Hp} (k:h n=some o):(Hp.one n o).le h:=⟨fun m x e=>by
 obtain ⟨rfl,rfl⟩:=Hp.one_some e;exact k⟩
theorem Hp.le.cell {a b:Hp} (h:a.le b) {p:Addr} {v:Value} (k:a.cell p=some v):b.cell p=some v:=by
 unfold Hp.cell at k ⊢;cases e:a p.block with
 | none=>rw [e] at k;cases k
 | some o=>rw [e] at k;rw [h.h _ _ e];exact k
def _root_.Go.World.hp (w:World):Hp:=fun n=>w.heap[n]?
structure HP where
 p:Hp->Hp->Prop
 mono:∀ {r r' f:Hp},r.le r'->p r f->p r' f
def sep:List HP->Hp->Hp->Prop
 | [],_,_=>True
 | A::s,r,f=>∃ f1 f2:Hp,f1.disj f2/\f1.le f/\f2.le f/\A.p r f1/\sep s r f2
theorem wF:∀ {s:List HP} {r r' f f':Hp},r.le r'->f.le f'->sep s r f->sep s r' f'
 | [],_,_,_,_,_,_,_=>trivial
 | A::s,r,r',f,f',hr,hf,⟨f1,f2,d,l1,l2,a,k⟩=>⟨f1,f2,d,l1.trans hf,l2.trans hf,A.mono hr a,wF hr (Hp.le_refl _) k⟩
theorem zFv {A B:HP} {s:List HP} {r f:Hp} (h:sep (A::B::s) r f):sep (B::A::s) r f:=by
 obtain ⟨f1,f2,d,l1,l2,a,g1,g2,d',m1,m2,b,k⟩:=h;refine ⟨g1,f1.union g2,?_,m1.trans l2,Hp.union_le l1 (m2.trans l2),b,f1,g2,?_,Hp.le_union_left _ _,Hp.le_union_right ?_,a,k⟩
 ·exact Hp.disj_union (d.mono (Hp.le_refl _) m1).symm d'
 ·exact d.mono (Hp.le_refl _) m2
 ·exact d.mono (Hp.le_refl _) m2
inductive Sel:List HP->HP->List HP->Prop
 | here {A:HP} {s:List HP}:Sel (A::s) A s
 | there {A B:HP} {s t:List HP} (h:Sel s A t):Sel (B::s) A (B::t)
theorem Sel.out:∀ {s t:List HP} {A:HP},Sel s A t->∀ {r f:Hp},sep s r f->sep (A::t) r f
 | _,_,_,.here,_,_,h=>h
 | _,_,_,.there k,_,_,⟨f1,f2,d,l1,l2,b,h⟩=>zFv ⟨f1,f2,d,l1,l2,b,k.out h⟩
theorem Sel.back:∀ {s t:List HP} {A:HP},Sel s A t->∀ {r f:Hp},sep (A::t) r f->sep s r f
 | _,_,_,.here,_,_,h=>h
 | _,_,_,.there k,_,_,h=>by
  obtain ⟨f1,f2,d,l1,l2,b,h⟩:=zFv h;exact ⟨f1,f2,d,l1,l2,b,k.back h⟩
def ro (Q:Hp->Prop) (m:∀ {r r':Hp},r.le r'->Q r->Q r'):HP:=⟨fun r _=>Q r,fun h=>m h⟩
def HP.dup (A:HP):Prop:=∀ {r f f':Hp},A.p r f->A.p r f'
class HP.Dup (A:HP):Prop where
 h:A.dup
theorem wB {A:HP} (d:A.dup) {s:List HP} {r f f':Hp} (h:A.p r f') (k:sep s r f):sep (A::s) r f:=
 ⟨Hp.emp,f,Hp.emp_disj _,Hp.emp_le _,Hp.le_refl _,d h,k⟩
inductive Sels:List HP->List HP->List HP->Prop
 | nil {s:List HP}:Sels s [] s
 | dup {A:HP} {s t l u:List HP} (d:A.dup) (h:Sel s A t) (k:Sels s l u):Sels s (A::l) u
 | cons {A:HP} {s t l u:List HP} (h:Sel s A t) (k:Sels t l u):Sels s (A::l) u
theorem Sels.dupI {A:HP} {s t l u:List HP} [d:A.Dup] (h:Sel s A t) (k:Sels s l u):Sels s (A::l) u:=.dup d.h h k
theorem Sels.out:∀ {s l u:List HP},Sels s l u->∀ {r f:Hp},sep s r f->sep (l++u) r f
 | _,_,_,.nil,_,_,h=>h
 | _,_,_,.dup d h k,_,_,x=>by
  obtain ⟨f1,f2,_,l1,l2,a,y⟩:=h.out x;exact wB d a (k.out x)
 | _,_,_,.cons h k,_,_,x=>by
  obtain ⟨f1,f2,d,l1,l2,a,y⟩:=h.out x;exact ⟨f1,f2,d,l1,l2,a,k.out y⟩
theorem zD {s t:List HP} {r f:Hp}:sep (s++t) r f↔∃ f1 f2:Hp,f1.disj f2/\f1.le f/\f2.le f/\sep s r f1/\sep t r f2:=by
 induction s generalizing f with
 | nil=>exact ⟨fun h=>⟨Hp.emp,f,Hp.emp_disj _,Hp.emp_le _,Hp.le_refl _,trivial,h⟩,fun ⟨_,_,_,_,l,_,h⟩=>wF (Hp.le_refl _) l h⟩
 | cons A s ih=>
  constructor
  ·rintro ⟨f1,f2,d,l1,l2,a,h⟩;obtain ⟨g1,g2,d',m1,m2,h1,h2⟩:=ih.1 h;refine ⟨f1.union g1,g2,?_,Hp.union_le l1 (m1.trans l2),m2.trans l2,⟨f1,g1,d.mono (Hp.le_refl _) m1,Hp.le_union_left _ _,Hp.le_union_right (d.mono (Hp.le_refl _) m1),a,h1⟩,h2⟩;exact Hp.union_disj (d.mono (Hp.le_refl _) m2) d'
  ·rintro ⟨f1,f2,d,l1,l2,⟨g1,g2,d',m1,m2,a,h⟩,k⟩;refine ⟨g1,g2.union f2,Hp.disj_union d' (d.mono m1 (Hp.le_refl _)),m1.trans l1,Hp.union_le (m2.trans l1) l2,a,?_⟩;refine ih.2 ⟨g2,f2,d.mono m2 (Hp.le_refl _),Hp.le_union_left _ _,Hp.le_union_right (d.mono m2 (Hp.le_refl _)),h,k⟩
structure Env where
 os:Os
 out:Array (Nat×ByteArray)
 tape:Tape
 main:Bool:=true
 tok:Nat:=0
def gobj:Obj->Bool
 | .pending ..=>true
 | _=>false
structure Sat (E:Env) (w:World) (r f:Hp):Prop where
 os:w.os=E.os
 out:w.output=E.out
 tape:w.tape=E.tape
 ro:r.le w.hp
 own:∀ n o,f n=some o->gobj o=false->w.hp n=some o
 gh:∀ n o,f n=some o->(gobj o=true↔n=E.tok)
 tok:E.tok<w.heap.size
 apart:r.disj f
def zNo (t n:Nat) (r f:Hp) (e:Event):Prop:=
 e.sync=false/\match e.loc with
 | .cell a=>(r a.block≠none/\e.write=false)∨(f a.block≠none/\a.block≠t)∨n<=a.block
 | .obj b=>(r b≠none/\e.write=false)∨(f b≠none/\b≠t)∨n<=b
 | _=>False
def zKF (e:Event):Prop:=∃ m,e.loc=.mark m/\((∃ f,m=.extern f)∨m=.noRoom)
def zGM:Loc->Option Nat
 | .cell a=>some a.block
 | .obj b=>some b
 | _=>none
structure Kept (E:Env) (w:World) (r f:Hp) (w':World) (es:Array Event) (r' f':Hp):Prop where
 sat:Sat E w' r' f'
 ro:r.le r'
 size:w.heap.size<=w'.heap.size
 keep:∀ n,n<w.heap.size->(f n=none∨n=E.tok)->w'.heap[n]?=w.heap[n]?
 fresh:∀ n,f' n≠none->f n=none->w.heap.size<=n
 roFresh:∀ n,r' n≠none->r n=none->(f n≠none/\n≠E.tok)∨w.heap.size<=n
 evs:∀ e∈es,zNo E.tok w.heap.size r f e∨zKF e
 low:∀ e∈es,∀ b,zGM e.loc=some b->b<w'.heap.size
 tk:∀ o,f' E.tok=some o->f E.tok=some o
theorem Kept.refl {E:Env} {w:World} {r f:Hp} (h:Sat E w r f):Kept E w r f w #[] r f:=
 ⟨h,Hp.le_refl _,Nat.le_refl _,fun _ _ _=>rfl,fun _ h k=>absurd k h,fun _ h k=>absurd k h,fun e he=>by simp at he,fun e he=>by simp at he,fun _ h=>h⟩
theorem zNo.mono {t n:Nat} {r f:Hp} {e:Event} {n':Nat} {r' f':Hp} (h:zNo t n' r' f' e) (hn:n<=n') (hr:∀ m,r' m≠none->r m≠none∨(f m≠none/\m≠t)∨n<=m) (hf:∀ m,f' m≠none->f m≠none∨n<=m):zNo t n r f e:=by
 obtain ⟨hs,h⟩:=h;refine ⟨hs,?_⟩;cases hl:e.loc with
 | cell a=>
  rw [hl] at h;rcases h with ⟨h,hw⟩|h|h
  ·rcases hr _ h with k|k|k
   ·exact .inl ⟨k,hw⟩
   ·exact .inr (.inl k)
   ·exact .inr (.inr k)
  ·exact .inr ((hf _ h.1).imp (fun x=>⟨x,h.2⟩) id)
  ·exact .inr (.inr (Nat.le_trans hn h))
 | obj a=>
  rw [hl] at h;rcases h with ⟨h,hw⟩|h|h
  ·rcases hr _ h with k|k|k
   ·exact .inl ⟨k,hw⟩
   ·exact .inr (.inl k)
   ·exact .inr (.inr k)
  ·exact .inr ((hf _ h.1).imp (fun x=>⟨x,h.2⟩) id)
  ·exact .inr (.inr (Nat.le_trans hn h))
 | output=>rw [hl] at h;exact h
 | goroutines=>rw [hl] at h;exact h
 | mark m=>rw [hl] at h;exact h
theorem Kept.trans {E:Env} {w w1 w2:World} {r f r1 f1 r2 f2:Hp} {es es':Array Event} (h:Kept E w r f w1 es r1 f1) (k:Kept E w1 r1 f1 w2 es' r2 f2):Kept E w r f w2 (es++es') r2 f2:=by
 have key:∀ n,f1 n≠none->f n≠none∨w.heap.size<=n:=fun n hn=>by
  by_cases e:f n=none
  ·exact .inr (h.fresh n hn e)
  ·exact .inl e
 refine ⟨k.sat,h.ro.trans k.ro,Nat.le_trans h.size k.size,fun n hn hf=>?_,fun n hn hf=>?_,fun n hn hr=>?_,fun e he=>?_,fun e he b hb=>(Array.mem_append.1 he).elim (fun x=>Nat.lt_of_lt_of_le (h.low e x b hb) k.size) (fun x=>k.low e x b hb),fun o ho=>h.tk o (k.tk o ho)⟩
 ·rw [k.keep n (Nat.lt_of_lt_of_le hn h.size),h.keep n hn hf];rcases hf with hf|hf
  ·left
   cases e:f1 n with
   | none=>rfl
   | some o=>exact absurd (h.fresh n (by rw [e];simp) hf) (Nat.not_le.2 hn)
  ·exact .inr hf
 ·by_cases e:f1 n=none
  ·exact Nat.le_trans h.size (k.fresh n hn e)
  ·exact h.fresh n e hf
 ·by_cases e:r1 n=none
  ·rcases k.roFresh n hn e with x|x
   ·exact (key n x.1).imp (fun y=>⟨y,x.2⟩) id
   ·exact .inr (Nat.le_trans h.size x)
  ·exact h.roFresh n e hr
 ·rcases Array.mem_append.1 he with x|x
  ·exact h.evs e x
  ·rcases k.evs e x with y|y
   ·refine .inl (y.mono h.size (fun m hm=>?_) key);by_cases e':r m=none
    ·exact .inr (h.roFresh m hm e')
    ·exact .inl e'
   ·exact .inr y
theorem Kept.drop {E:Env} {w:World} {r f:Hp} {w':World} {es:Array Event} {r' f' g:Hp} (h:Kept E w r f w' es r' f') (l:g.le f'):Kept E w r f w' es r' g:=
 ⟨⟨h.sat.os,h.sat.out,h.sat.tape,h.sat.ro,fun n o e=>h.sat.own n o (l.h _ _ e),fun n o e=>h.sat.gh n o (l.h _ _ e),h.sat.tok,h.sat.apart.mono (Hp.le_refl _) l⟩,h.ro,h.size,h.keep,fun n hn hf=>h.fresh n (fun e=>hn (l.none e)) hf,h.roFresh,h.evs,h.low,fun o ho=>h.tk o (l.h _ _ ho)⟩
inductive Safe (P:Program) (E:Env) (X:Goroutine->Hp->Hp->(Goroutine->Hp->Hp->Prop)->Prop) (K:Goroutine->Hp->Hp->Prop):Goroutine->Hp->Hp->Prop
 | stop {g:Goroutine} {r f:Hp} (h:K g r f):Safe P E X K g r f
 | step {g:Goroutine} {r f:Hp} (N:World->Goroutine×World×Array Event×Hp×Hp) (hs:g.status=.running)
   (h:∀ w,Sat E w r f->stepG P E.main g w=.go (N w).1 (N w).2.1 (N w).2.2.1/\Kept E w r f (N w).2.1 (N w).2.2.1 (N w).2.2.2.1 (N w).2.2.2.2)
   (ih:∀ w,Sat E w r f->Safe P E X K (N w).1 (N w).2.2.2.1 (N w).2.2.2.2):Safe P E X K g r f
 | ghost {g:Goroutine} {r f r' f':Hp} (hr:r.le r') (hf:f'.le f) (hd:r'.disj f') (hn:∀ n,r' n≠none->r n=none->f n=r' n) (hg:∀ n o,r' n=some o->r n=none->gobj o=false) (k:Safe P E X K g r' f'):Safe P E X K g r f
 | big {g:Goroutine} {r f:Hp} {S:Goroutine->Hp->Hp->Prop} (h:X g r f S) (ih:∀ g' r' f',S g' r' f'->Safe P E X K g' r' f'):Safe P E X K g r f
theorem Safe.next {P:Program} {E:Env} {X:Goroutine->Hp->Hp->(Goroutine->Hp->Hp->Prop)->Prop} {K:Goroutine->Hp->Hp->Prop} {g:Goroutine} {r f:Hp} (hs:g.status=.running)
  (h:∀ w,Sat E w r f->∃ g' w' es r' f',stepG P E.main g w=.go g' w' es/\Kept E w r f w' es r' f'/\Safe P E X K g' r' f'):Safe P E X K g r f:=by
 classical
 refine .step (fun w=>if x:Sat E w r f then ((h w x).choose,(h w x).choose_spec.choose,(h w x).choose_spec.choose_spec.choose,(h w x).choose_spec.choose_spec.choose_spec.choose,(h w x).choose_spec.choose_spec.choose_spec.choose_spec.choose) else (g,w,#[],r,f)) hs (fun w x=>?_) (fun w x=>?_)
 ·simp only [dif_pos x];have:=(h w x).choose_spec.choose_spec.choose_spec.choose_spec.choose_spec
  exact ⟨this.1,this.2.1⟩
 ·simp only [dif_pos x];exact (h w x).choose_spec.choose_spec.choose_spec.choose_spec.choose_spec.2.2
theorem Safe.idle {P:Program} {E:Env} {X:Goroutine->Hp->Hp->(Goroutine->Hp->Hp->Prop)->Prop} {K:Goroutine->Hp->Hp->Prop} {g g':Goroutine} {r f:Hp} (hs:g.status=.running)
  (h:∀ w,stepG P E.main g w=.go g' w) (k:Safe P E X K g' r f):Safe P E X K g r f:=
 .next hs fun w x=>⟨g',w,#[],r,f,h w,.refl x,k⟩
theorem Safe.weaken {P:Program} {E:Env} {X:Goroutine->Hp->Hp->(Goroutine->Hp->Hp->Prop)->Prop} {K K':Goroutine->Hp->Hp->Prop} {g:Goroutine} {r f:Hp} (h:Safe P E X K g r f) (hk:∀ g r f,K g r f->Safe P E X K' g r f):Safe P E X K' g r f:=by
 induction h with
 | stop h=>exact hk _ _ _ h
 | step N hs h _ ih=>exact .step N hs h ih
 | ghost hr hf hd hn hg _ ih=>exact .ghost hr hf hd hn hg ih
 | big h _ ih=>exact .big h ih
theorem Sat.ghost {E:Env} {w:World} {r f r' f':Hp} (h:Sat E w r f) (hr:r.le r') (hf:f'.le f) (hd:r'.disj f') (hn:∀ n,r' n≠none->r n=none->f n=r' n) (hg:∀ n o,r' n=some o->r n=none->gobj o=false):Sat E w r' f':=by
 refine ⟨h.os,h.out,h.tape,⟨fun n o e=>?_⟩,fun n o e=>h.own n o (hf.h _ _ e),fun n o e=>h.gh n o (hf.h _ _ e),h.tok,hd⟩;cases hc:r n with
 | some x=>have:=hr.h _ _ hc;rw [e] at this;cases this;exact h.ro.h _ _ hc
 | none=>exact h.own _ _ (by rw [hn n (by rw [e];simp) hc];exact e) (hg n o e hc)
theorem Sat.notTok {E:Env} {w:World} {r f:Hp} (h:Sat E w r f) {n:Nat} {o:Obj} (e:f n=some o) (hg:gobj o=false):n≠E.tok:=fun x=>by
 have:=(h.gh n o e).2 x;rw [hg] at this;cases this
theorem Sat.lt {E:Env} {w:World} {r f:Hp} (h:Sat E w r f) {n:Nat} (e:f n≠none):n<w.heap.size:=by
 cases x:f n with
 | none=>exact absurd x e
 | some o=>
  cases g:gobj o with
  | false=>
   have:=h.own n o x g
   unfold World.hp at this;exact (Array.getElem?_eq_some_iff.1 this).1
  | true=>rw [(h.gh n o x).1 g];exact h.tok
end Go.KL
end
section
namespace Go.KL
open Go
def T {α:Type} (P:Program) (E:Env) (s:Sem α) (A:List HP) (Q:α->List HP->Prop):Prop:=
 ∀ (w:World) (r f:Hp) (F:List HP) (es:Array Event),Sat E w r f->sep (A++F) r f->
  ∃ a w' es' r' f' A',s.runT P w es=(.ok a w',es++es')/\Kept E w r f w' es' r' f'/\Q a A'/\sep (A'++F) r' f'
def Calm {α:Type} (P:Program) (s:Sem α) (a:α):Prop:=∀ w es,s.runT P w es=(.ok a w,es)
section
variable {α β:Type} {P:Program} {E:Env}
theorem Calm.bind {s:Sem α} {a:α} {k:α->Sem β} {b:β} (h:Calm P s a) (g:Calm P (k a) b):Calm P (s >>= k) b:=by
 intro w es;show (Sem.bind s k).runT P w es=_;rw [Sem.runT_bind',h w es];exact g w es
theorem Calm.pure (a:α):Calm P (Pure.pure a:Sem α) a:=fun _ _=>rfl
theorem Calm.program:Calm P Go.program P:=fun _ _=>rfl
theorem T.calm {s:Sem α} {a:α} {A:List HP} {Q:α->List HP->Prop} (h:Calm P s a) (q:Q a A):T P E s A Q:=
 fun w r f F es hs hA=>⟨a,w,#[],r,f,A,by rw [h w es];simp,.refl hs,q,hA⟩
theorem T.bind {s:Sem α} {k:α->Sem β} {A:List HP} {Q:α->List HP->Prop} {R:β->List HP->Prop} (h:T P E s A Q) (g:∀ a A',Q a A'->T P E (k a) A' R):T P E (s >>= k) A R:=by
 intro w r f F es hs hA;obtain ⟨a,w1,es1,r1,f1,A1,e1,k1,q1,s1⟩:=h w r f F es hs hA;obtain ⟨b,w2,es2,r2,f2,A2,e2,k2,q2,s2⟩:=g a A1 q1 w1 r1 f1 F (es++es1) k1.sat s1;refine ⟨b,w2,es1++es2,r2,f2,A2,?_,k1.trans k2,q2,s2⟩;show (Sem.bind s k).runT P w es=_;rw [Sem.runT_bind',e1];show (k a).runT P w1 (es++es1)=_;rw [e2,Array.append_assoc]
theorem T.cons {s:Sem α} {A:List HP} {Q R:α->List HP->Prop} (h:T P E s A Q) (g:∀ a A',Q a A'->R a A'):T P E s A R:=by
 intro w r f F es hs hA;obtain ⟨a,w1,es1,r1,f1,A1,e1,k1,q1,s1⟩:=h w r f F es hs hA;exact ⟨a,w1,es1,r1,f1,A1,e1,k1,g _ _ q1,s1⟩
theorem T.calmBind {s:Sem α} {a:α} {k:α->Sem β} {A:List HP} {R:β->List HP->Prop} (h:Calm P s a) (g:T P E (k a) A R):T P E (s >>= k) A R:=
 T.bind (Q:=fun x B=>x=a/\B=A) (T.calm h ⟨rfl,rfl⟩) fun _ _ ⟨e,e'⟩=>by rw [e,e'];exact g
theorem T.sels {s:Sem α} {A B F:List HP} {Q:α->List HP->Prop} {R:α->List HP->Prop} (h:Sels B A F) (g:T P E s A Q) (hr:∀ a A',Q a A'->R a (A'++F)):T P E s B R:=by
 intro w r f F' es hs hB;obtain ⟨f1,f2,d,l1,l2,h1,h2⟩:=zD.1 hB;have hA:sep (A++(F++F')) r f:=by
  rw [<-List.append_assoc];exact zD.2 ⟨f1,f2,d,l1,l2,h.out h1,h2⟩
 obtain ⟨a,w1,es1,r1,f1',A1,e1,k1,q1,s1⟩:=g w r f (F++F') es hs hA;exact ⟨a,w1,es1,r1,f1',A1++F,e1,k1,hr _ _ q1,by rw [List.append_assoc];exact s1⟩
end
def blk (b:Nat) (o:Obj):HP:=⟨fun _ f=>f b=some o,fun _ h=>h⟩
def box (b:Nat) (c:List Value) (t:TypeId):HP:=blk b (.cells c.toArray t (0,0))
theorem Qz {A:HP} {F:List HP} {r f:Hp} (h:sep ([A]++F) r f):∃ f1 f2,Hp.disj f1 f2/\f1.le f/\f2.le f/\A.p r f1/\sep F r f2:=h
section
variable {P:Program} {E:Env}
theorem T.new (o:Obj) (ho:gobj o=false):T P E (newObj o) [] (fun b A=>A=[blk b o]):=by
 intro w r f F es hs hA;have hfs:f w.heap.size=none:=by
  cases e:f w.heap.size with
  | none=>rfl
  | some x=>exact absurd (hs.lt (n:=w.heap.size) (by rw [e];simp)) (Nat.lt_irrefl _)
 refine ⟨w.heap.size,{ w with heap:=w.heap.push o },#[],r,f.union (Hp.one w.heap.size o),[blk w.heap.size o],rfl,?_,rfl,?_⟩
 ·have hlt:∀ (h:Hp),h.le w.hp->h w.heap.size=none:=fun h l=>by
   cases e:h w.heap.size with
   | none=>rfl
   | some x=>have:=l.h _ _ e;simp [World.hp] at this
  have d:f.disj (Hp.one w.heap.size o):=⟨fun n=>by
   by_cases e:n=w.heap.size
   ·exact .inl (e ▸ hfs)
   ·right;simp [Hp.one,e]⟩
  have up:∀ (h:Hp),h.le w.hp->h.le ({ w with heap:=w.heap.push o }:World).hp:=fun h l=>⟨fun n x e=>by
   have:=l.h _ _ e
   simp only [World.hp] at this ⊢;rw [Array.getElem?_push];have hn:n≠w.heap.size:=by
    intro h';subst h';simp at this
   simp [hn,this]⟩
  have hsz:({ w with heap:=w.heap.push o }:World).heap.size=w.heap.size+1:=by simp
  have hsplit:∀ n x,f.union (Hp.one w.heap.size o) n=some x->f n=some x∨(n=w.heap.size/\x=o):=by
   intro n x e;unfold Hp.union at e;cases hc:f n with
   | some y=>rw [hc] at e;simp at e;exact .inl (by rw [e])
   | none=>rw [hc] at e;simp at e;exact .inr (Hp.one_some e)
  refine ⟨⟨hs.os,hs.out,hs.tape,up _ hs.ro,fun n x e hg=>?_,fun n x e=>?_,by rw [hsz];have:=hs.tok;omega,Hp.disj_union hs.apart ⟨fun n=>?_⟩⟩,Hp.le_refl _,?_,?_,?_,?_,?_,fun e he=>(by simp at he),fun x e=>(hsplit _ x e).elim id fun y=>absurd y.1 (by have:=hs.tok;omega)⟩
  ·rcases hsplit n x e with h|⟨rfl,rfl⟩
   ·have h2:=hs.own n x h hg;simp only [World.hp] at h2 ⊢;rw [Array.getElem?_push];have hn:n≠w.heap.size:=by
     intro h';subst h';simp at h2
    simp [hn,h2]
   ·simp [World.hp]
  ·rcases hsplit n x e with h|⟨rfl,rfl⟩
   ·exact hs.gh n x h
   ·rw [ho];constructor
    ·intro h;cases h
    ·intro h;have:=hs.tok;omega
  ·by_cases e:n=w.heap.size
   ·exact .inl (e ▸ hlt r hs.ro)
   ·right;simp [Hp.one,e]
  ·simp
  ·intro n hn hf;show (w.heap.push o)[n]?=_;rw [Array.getElem?_push];simp [Nat.ne_of_lt hn]
  ·intro n hn hf;cases e:Hp.one w.heap.size o n with
   | none=>exact absurd (Hp.union_none.2 ⟨hf,e⟩) hn
   | some x=>obtain ⟨rfl,_⟩:=Hp.one_some e;exact Nat.le_refl _
  ·intro n hn hr;exact absurd hr hn
  ·intro e he;simp at he
 ·refine ⟨Hp.one w.heap.size o,f,?_,Hp.le_union_right ?_,Hp.le_union_left _ _,by simp [blk],hA⟩
  ·refine ⟨fun n=>?_⟩;by_cases e:n=w.heap.size
   ·right
    cases e':f n with
    | none=>rfl
    | some x=>rw [e,hfs] at e';cases e'
   ·left;simp [Hp.one,e]
  ·refine ⟨fun n=>?_⟩;by_cases e:n=w.heap.size
   ·left
    cases e':f n with
    | none=>rfl
    | some x=>rw [e,hfs] at e';cases e'
   ·right;simp [Hp.one,e]
end
end Go.KL
end
section
namespace Go.KL
open Go
def Jy:Value->Bool
 | .agg _ | .tuple _=>false
 | _=>true
def Has (A:HP) (a:Addr) (v:Value):Prop:=∀ r f,A.p r f->f.cell a=some v∨r.cell a=some v
theorem zNU {b off:Nat} {c:Array Value} {t:TypeId} {z:Nat×Nat} {v:Value} (h:c[off]?=some v):Has (blk b (.cells c t z)) ⟨b,off,none⟩ v:=
 fun r f k=>.inl (by have k:f b=_:=k;simp [Hp.cell,k,h])
theorem VG {b off:Nat} {c:List Value} {t:TypeId} {v:Value} (h:c[off]?=some v):Has (box b c t) ⟨b,off,none⟩ v:=zNU (by simpa using h)
theorem zLq {E:Env} {w:World} {r f:Hp} (h:Sat E w r f) {a:Addr} {v:Value} (k:f.cell a=some v∨r.cell a=some v):w.cell? a=some v:=by
 rcases k with k|k
 ·unfold Hp.cell at k;cases e:f a.block with
  | none=>rw [e] at k;cases k
  | some o=>
   rw [e] at k;cases o <;> simp only [reduceCtorEq] at k
   have:=h.own a.block _ e rfl
   show w.hp.cell a=some v;unfold Hp.cell;rw [this];exact k
 ·exact h.ro.cell k
theorem zED {E:Env} {w:World} {r f:Hp} (h:Sat E w r f) {a:Addr} {v:Value} (k:f.cell a=some v):a.block≠E.tok:=by
 unfold Hp.cell at k;cases e:f a.block with
 | none=>rw [e] at k;cases k
 | some o=>
  rw [e] at k;cases o <;> simp only [reduceCtorEq] at k
  exact h.notTok e rfl
theorem WU {h:Hp} {a:Addr} {v:Value} (k:h.cell a=some v):h a.block≠none:=by
 intro e;unfold Hp.cell at k;rw [e] at k;cases k
section
variable {P:Program} {E:Env}
theorem T.load {A:HP} {a:Addr} {v:Value} (h:Has A a v):T P E (Go.load a) [A] (fun x B=>x=v/\B=[A]):=by
 intro w r f F es hs hA;obtain ⟨f1,f2,d,l1,l2,a1,_⟩:=Qz hA;have hc:f.cell a=some v∨r.cell a=some v:=(h r f1 a1).imp (fun x=>l1.cell x) id;refine ⟨v,w,#[⟨.cell a,false,false⟩],r,f,[A],?_,?_,⟨rfl,rfl⟩,hA⟩
 ·show Sem.runT P (.load .plain a .pure) w es=_;rw [Sem.runT,zLq hs hc];rfl
 ·refine ⟨hs,Hp.le_refl _,Nat.le_refl _,fun _ _ _=>rfl,fun _ x y=>absurd y x,fun _ x y=>absurd y x,fun e he=>.inl ?_,fun e he b hb=>?_,fun _ h=>h⟩
  ·simp at he;subst he;refine ⟨rfl,?_⟩;rcases hc with x|x
   ·exact .inr (.inl ⟨WU x,zED hs x⟩)
   ·exact .inl ⟨WU x,rfl⟩
  ·simp at he;subst he;cases hb
   rcases hc with x|x
   ·exact hs.lt (WU x)
   ·have:=WU x
    cases e:r a.block with
    | none=>exact absurd e this
    | some o=>have:=hs.ro.h _ _ e;unfold World.hp at this;exact (Array.getElem?_eq_some_iff.1 this).1
theorem zHP {w:World} {b off:Nat} {c:Array Value} {t:TypeId} {z:Nat×Nat} (h:w.heap[b]?=some (.cells c t z)) (v:Value) :
  (w.setCell ⟨b,off,none⟩ v).hp=fun n=>if n=b then some (.cells (c.setIfInBounds off v) t z) else w.hp n:=by
 funext n
 unfold World.hp World.setCell;simp only [Array.getElem?_modify];by_cases e:b=n
 ·subst e;simp [h]
 ·simp [e,Ne.symm e]
theorem T.store {b off:Nat} {c:List Value} {t:TypeId} {v:Value} (hv:Jy v=true) (hn:off<c.length) :
  T P E (Go.store ⟨b,off,none⟩ v) [box b c t] (fun _ B=>B=[box b (c.set off v) t]):=by
 intro w r f F es hs hA;obtain ⟨f1,f2,d,l1,l2,a1,hF⟩:=Qz hA;have a1:f1 b=some (.cells c.toArray t (0,0)):=a1;have hb:w.heap[b]?=some (.cells c.toArray t (0,0)):=hs.own _ _ (l1.h _ _ a1) rfl;have hbt:b≠E.tok:=hs.notTok (l1.h _ _ a1) rfl;have hc:w.cell? ⟨b,off,none⟩=some c[off]:=by simp [World.cell?,hb,hn]
 have hz:w.frozen? ⟨b,off,none⟩=false:=by simp [World.frozen?,hb]
 have hhp:=zHP (off:=off) hb v;have hrb:r b=none:=by
  rcases hs.apart.h b with x|x
  ·exact x
  ·rw [l1.h _ _ a1] at x;cases x
 have hf2:f2 b=none:=by
  rcases d.h b with x|x
  ·rw [a1] at x;cases x
  ·exact x
 refine ⟨(),w.setCell ⟨b,off,none⟩ v,#[⟨.cell ⟨b,off,none⟩,true,false⟩],r,(Hp.one b (.cells (c.set off v).toArray t (0,0))).union f2,[box b (c.set off v) t],?_,?_,rfl,?_⟩
 ·show Sem.runT P (.store .plain ⟨b,off,none⟩ v (.pure ())) w es=_;have:Sem.runT P (.store .plain ⟨b,off,none⟩ v (.pure ())) w es=(.ok () (w.setCell ⟨b,off,none⟩ v),es.push ⟨.cell ⟨b,off,none⟩,true,false⟩):=by
   cases v <;> first|(simp [Jy] at hv;done)|(rw [Sem.runT,hc] <;> simp [hz,Sem.runT,-Sem.runT_eq] <;> rfl)
  rw [this];simp
 ·refine ⟨⟨hs.os,hs.out,hs.tape,⟨fun n o e=>?_⟩,fun n o e hgn=>?_,fun n o e=>?_,?_,?_⟩,Hp.le_refl _,?_,?_,?_,fun _ x y=>absurd y x,fun e he=>.inl ?_,fun e he b' hb'=>?_,fun o ho=>l2.h _ _ (by simpa [Hp.union,Hp.one,Ne.symm hbt] using ho)⟩
  ·rw [hhp];have:n≠b:=by intro x;subst x;rw [hrb] at e;cases e
   simp only [this,if_false];exact hs.ro.h _ _ e
  ·rw [hhp];by_cases x:n=b
   ·subst x;simp [Hp.union] at e;subst e;simp
   ·simp only [x,if_false];have:f2 n=some o:=by simpa [Hp.union,Hp.one,x] using e
    exact hs.own _ _ (l2.h _ _ this) hgn
  ·by_cases x:n=b
   ·subst x;simp [Hp.union] at e;subst e;constructor
    ·intro h;cases h
    ·intro h;exact absurd h hbt
   ·have:f2 n=some o:=by simpa [Hp.union,Hp.one,x] using e
    exact hs.gh n o (l2.h _ _ this)
  ·have:=hs.tok;simpa [World.setCell] using this
  ·refine hs.apart.mono (Hp.le_refl _) ?_ |> fun (k:r.disj (f1.union f2))=>⟨fun n=>?_⟩
   ·exact Hp.union_le l1 l2
   ·by_cases x:n=b
    ·subst x;exact .inl hrb
    ·rcases k.h n with y|y
     ·exact .inl y
     ·right;rw [Hp.union_none] at y;simp [Hp.union,Hp.one,x,y.2]
  ·simp [World.setCell]
  ·intro n hn' hf;have:n≠b:=by
    intro x;subst x;rcases hf with hf|hf
    ·rw [l1.h _ _ a1] at hf;cases hf
    ·exact hbt hf
   have:=congrFun hhp n
   simp only [World.hp] at this;rw [this];simp [*]
  ·intro n hn' hf;exfalso
   apply hn';rw [Hp.union_none];have x:n≠b:=by intro x;subst x;rw [l1.h _ _ a1] at hf;cases hf
   exact ⟨by simp [Hp.one,x],l2.none hf⟩
  ·simp at he;subst he;exact ⟨rfl,.inr (.inl ⟨by rw [l1.h _ _ a1];simp,hbt⟩)⟩
  ·simp at he;subst he;cases hb'
   have:=hs.lt (n:=b) (by rw [l1.h _ _ a1];simp)
   simpa [World.setCell] using this
 ·refine ⟨Hp.one b (.cells (c.set off v).toArray t (0,0)),f2,⟨fun n=>?_⟩,Hp.le_union_left _ _,Hp.le_union_right ⟨fun n=>?_⟩,by simp [box,blk],hF⟩
  ·by_cases x:n=b
   ·subst x;exact .inr hf2
   ·left;simp [Hp.one,x]
  ·by_cases x:n=b
   ·subst x;exact .inr hf2
   ·left;simp [Hp.one,x]
theorem T.choose (q:Question):T P E (Go.choose q) [] (fun _ B=>B=[]):=by
 intro w r f F es hs hA;have hd:∀ d,Kept E w r f { w with drawn:=d } #[] r f:=fun d=>
  ⟨⟨hs.os,hs.out,hs.tape,hs.ro,hs.own,hs.gh,hs.tok,hs.apart⟩,Hp.le_refl _,Nat.le_refl _,fun _ _ _=>rfl,fun _ x y=>absurd y x,fun _ x y=>absurd y x,fun e he=>by simp at he,fun e he=>by simp at he,fun _ h=>h⟩
 by_cases e:q.forced
 ·refine ⟨0,w,#[],r,f,[],?_,.refl hs,rfl,hA⟩;show Sem.runT P (.choose q .pure) w es=_;rw [Sem.runT,if_pos e];simp [Sem.runT,-Sem.runT_eq]
 ·refine ⟨q.cut (w.tape w.drawn q),{ w with drawn:=w.drawn+1 },#[],r,f,[],?_,hd _,rfl,hA⟩
  show Sem.runT P (.choose q .pure) w es=_;rw [Sem.runT,if_neg e];simp [Sem.runT,-Sem.runT_eq]
def Obj.rowed:Obj->Bool
 | .cells ..=>true
 | _=>false
theorem T.getObj {b:Nat} {o:Obj} (hc:Obj.rowed o=false) (hch:o.isChan=false) (hg:gobj o=false):T P E (Go.getObj b) [blk b o] (fun x B=>x=o/\B=[blk b o]):=by
 intro w r f F es hs hA;obtain ⟨f1,f2,d,l1,l2,a1,hF⟩:=Qz hA;have a1:f1 b=some o:=a1;have hb:w.heap[b]?=some o:=hs.own _ _ (l1.h _ _ a1) hg;have hbt:b≠E.tok:=hs.notTok (l1.h _ _ a1) hg;refine ⟨o,w,#[⟨.obj b,false,false⟩],r,f,[blk b o],?_,?_,⟨rfl,rfl⟩,hA⟩
 ·show Sem.runT P (.getObj b .pure) w es=_;rw [Sem.runT,hb];cases o <;> simp [Obj.rowed,Obj.isChan] at hc hch <;> simp [Sem.runT,Obj.isChan,-Sem.runT_eq]
 ·refine ⟨hs,Hp.le_refl _,Nat.le_refl _,fun _ _ _=>rfl,fun _ x y=>absurd y x,fun _ x y=>absurd y x,fun e he=>.inl ?_,fun e he b' hb'=>?_,fun _ h=>h⟩
  ·simp at he;subst he;exact ⟨rfl,.inr (.inl ⟨by rw [l1.h _ _ a1];simp,hbt⟩)⟩
  ·simp at he;subst he;cases hb'
   exact hs.lt (by rw [l1.h _ _ a1];simp)
theorem T.setObj {b:Nat} {o o':Obj} (hc:Obj.rowed o=false) (hch:o'.isChan=false) (hg:gobj o=false) (hg':gobj o'=false):T P E (Go.setObj b o') [blk b o] (fun _ B=>B=[blk b o']):=by
 intro w r f F es hs hA;obtain ⟨f1,f2,d,l1,l2,a1,hF⟩:=Qz hA;have a1:f1 b=some o:=a1;have hb:w.heap[b]?=some o:=hs.own _ _ (l1.h _ _ a1) hg;have hbt:b≠E.tok:=hs.notTok (l1.h _ _ a1) hg;have hlt:b<w.heap.size:=by
  rw [Array.getElem?_eq_some_iff] at hb;exact hb.1
 have hhp:({ w with heap:=w.heap.setIfInBounds b o' }:World).hp=fun n=>if n=b then some o' else w.hp n:=by
  funext n
  simp only [World.hp,Array.getElem?_setIfInBounds];by_cases e:b=n
  ·subst e;simp [hlt]
  ·simp [e,Ne.symm e]
 have hrb:r b=none:=by
  rcases hs.apart.h b with x|x
  ·exact x
  ·rw [l1.h _ _ a1] at x;cases x
 have hf2:f2 b=none:=by
  rcases d.h b with x|x
  ·rw [a1] at x;cases x
  ·exact x
 refine ⟨(),{ w with heap:=w.heap.setIfInBounds b o' },#[⟨.obj b,true,false⟩],r,(Hp.one b o').union f2,[blk b o'],?_,?_,rfl,?_⟩
 ·show Sem.runT P (.setObj b o' (.pure ())) w es=_;rw [Sem.runT,hb];cases o <;> simp [Obj.rowed] at hc <;> simp [Sem.runT,hch,-Sem.runT_eq]
 ·refine ⟨⟨hs.os,hs.out,hs.tape,⟨fun n o e=>?_⟩,fun n o e hgn=>?_,fun n o e=>?_,?_,?_⟩,Hp.le_refl _,?_,?_,?_,fun _ x y=>absurd y x,fun e he=>.inl ?_,fun e he b' hb'=>?_,fun o ho=>l2.h _ _ (by simpa [Hp.union,Hp.one,Ne.symm hbt] using ho)⟩
  ·rw [hhp];have:n≠b:=by intro x;subst x;rw [hrb] at e;cases e
   simp only [this,if_false];exact hs.ro.h _ _ e
  ·rw [hhp];by_cases x:n=b
   ·subst x;simp [Hp.union] at e;subst e;simp
   ·simp only [x,if_false];have:f2 n=some o:=by simpa [Hp.union,Hp.one,x] using e
    exact hs.own _ _ (l2.h _ _ this) hgn
  ·by_cases x:n=b
   ·subst x;simp [Hp.union] at e;subst e;rw [hg'];constructor
    ·intro h;cases h
    ·intro h;exact absurd h hbt
   ·have:f2 n=some o:=by simpa [Hp.union,Hp.one,x] using e
    exact hs.gh n o (l2.h _ _ this)
  ·have:=hs.tok;simpa [World.setCell] using this
  ·refine hs.apart.mono (Hp.le_refl _) ?_ |> fun (k:r.disj (f1.union f2))=>⟨fun n=>?_⟩
   ·exact Hp.union_le l1 l2
   ·by_cases x:n=b
    ·subst x;exact .inl hrb
    ·rcases k.h n with y|y
     ·exact .inl y
     ·right;rw [Hp.union_none] at y;simp [Hp.union,Hp.one,x,y.2]
  ·simp
  ·intro n hn' hf;have:n≠b:=by
    intro x;subst x;rcases hf with hf|hf
    ·rw [l1.h _ _ a1] at hf;cases hf
    ·exact hbt hf
   have:=congrFun hhp n
   simp only [World.hp] at this;rw [this];simp [*]
  ·intro n hn' hf;exfalso
   apply hn';rw [Hp.union_none];have x:n≠b:=by intro x;subst x;rw [l1.h _ _ a1] at hf;cases hf
   exact ⟨by simp [Hp.one,x],l2.none hf⟩
  ·simp at he;subst he;exact ⟨rfl,.inr (.inl ⟨by rw [l1.h _ _ a1];simp,hbt⟩)⟩
  ·simp at he;subst he;cases hb'
   have:=hs.lt (n:=b) (by rw [l1.h _ _ a1];simp)
   simpa [World.setCell] using this
 ·refine ⟨Hp.one b o',f2,⟨fun n=>?_⟩,Hp.le_union_left _ _,Hp.le_union_right ⟨fun n=>?_⟩,by simp [blk],hF⟩
  ·by_cases x:n=b
   ·subst x;exact .inr hf2
   ·left;simp [Hp.one,x]
  ·by_cases x:n=b
   ·subst x;exact .inr hf2
   ·left;simp [Hp.one,x]
theorem T.mark {m:Mark} (h:(∃ f,m=.extern f)∨m=.noRoom):T P E (Go.mark m) [] (fun _ B=>B=[]):=by
 intro w r f F es hs hA;refine ⟨(),w,#[⟨.mark m,false,true⟩],r,f,[],?_,?_,rfl,hA⟩
 ·show Sem.runT P (.mark m (.pure ())) w es=_;simp [Sem.runT,-Sem.runT_eq]
 ·refine ⟨hs,Hp.le_refl _,Nat.le_refl _,fun _ _ _=>rfl,fun _ x y=>absurd y x,fun _ x y=>absurd y x,fun e he=>.inr ?_,fun e he b hb=>?_,fun _ h=>h⟩
  ·simp at he;subst he;exact ⟨m,rfl,h⟩
  ·simp at he;subst he;cases hb
theorem T.loadCellsFrom {A:HP} {a:Addr}:∀ (n i:Nat) (acc cs:List Value),cs.length=n->(∀ j v,cs[j]?=some v->Has A (a.add (i+j)) v)->
  T P E (Go.loadCellsFrom a i n acc.toArray) [A] (fun x B=>x=(acc++cs).toArray/\B=[A])
 | 0,i,acc,cs,hn,h=>by
  cases cs with
  | nil=>exact T.calm (Calm.pure _) ⟨by simp,rfl⟩
  | cons c cs=>simp at hn
 | n+1,i,acc,cs,hn,h=>by
  cases cs with
  | nil=>simp at hn
  | cons c cs=>
   refine T.bind (T.load (h 0 c rfl)) ?_;rintro x _ ⟨hx,rfl⟩;rw [hx];have:=T.loadCellsFrom (A:=A) (a:=a) n (i+1) (acc++[c]) cs (by simpa using hn) (fun j v hj=>by
    have:=h (j+1) v (by simpa using hj)
    rwa [show i+(j+1)=i+1+j by omega] at this)
   simpa using this
theorem T.loadCells {A:HP} {a:Addr} {n:Nat} {cs:List Value} (hn:cs.length=n) (h:∀ j v,cs[j]?=some v->Has A (a.add j) v) :
  T P E (Go.loadCells a n) [A] (fun x B=>x=cs.toArray/\B=[A]):=by
 have:=T.loadCellsFrom (P:=P) (E:=E) (A:=A) (a:=a) n 0 [] cs hn (fun j v hj=>by simpa using h j v hj)
 simpa [Go.loadCells] using this
def lay:List Value->Nat->List Value->List Value
 | c,_,[]=>c
 | c,off,v::vs=>lay (c.set off v) (off+1) vs
theorem zG:∀ (vs c:List Value) (off:Nat),(lay c off vs).length=c.length
 | [],_,_=>rfl
 | v::vs,c,off=>by rw [lay,zG vs];simp
theorem T.storeCells {b:Nat} {t:TypeId} {off:Nat}:∀ (vs:List Value) (i:Nat) (c:List Value),(∀ v∈vs,Jy v=true)->off+i+vs.length<=c.length->
  T P E (Go.storeCells ⟨b,off,none⟩ vs i) [box b c t] (fun _ B=>B=[box b (lay c (off+i) vs) t])
 | [],i,c,_,_=>T.calm (Calm.pure _) rfl
 | v::vs,i,c,hv,hn=>by
  have e:(⟨b,off,none⟩:Addr).add i=⟨b,off+i,none⟩:=by
   unfold Addr.add;split <;> simp_all
  refine T.bind (Q:=fun _ B=>B=[box b (c.set (off+i) v) t]) ?_ ?_
  ·rw [e];exact T.store (hv v (List.mem_cons_self ..)) (by simp at hn;omega)
  ·rintro _ _ rfl;have:=T.storeCells (b:=b) (t:=t) (off:=off) vs (i+1) (c.set (off+i) v) (fun x hx=>hv x (List.mem_cons_of_mem _ hx)) (by simp at hn ⊢;omega)
   exact this
end
end Go.KL
end
section
namespace Go.KL
open Go
class TyU (P:Program) (t:TypeId) (d:outParam TypeDesc):Prop where
 h:P.underlying t=some d
class TyN (P:Program) (t:TypeId) (agg:outParam Bool) (sz:outParam Nat) (z:outParam (List Value)):Prop where
 h:∃ i v d,P.info? t=some i/\i.size=sz/\i.zero=some v/\v.cells=z.toArray/\P.underlying t=some d/\(match d with | .struct _ | .array _ _=>true|_=>false)=agg
class TyB (P:Program) (t:TypeId) (n:outParam Nat):Prop where
 h:∃ i,P.info? t=some i/\i.bytes=n
class TyF (P:Program) (t:TypeId) (i:Nat) (off:outParam Nat) (ft:outParam TypeId):Prop where
 h:∃ fs f j,P.underlying t=some (.struct fs)/\fs[i]?=some f/\f.offset=off/\f.type=ft/\P.info? f.type=some j/\(j.size == 0)=false
theorem TyN.of {P:Program} {t:TypeId} {agg:Bool} {sz:Nat} {z:List Value} (h1:(P.info? t).map (fun i=>(i.size,i.zero.map Value.cells))=some (sz,some z.toArray)) (h2:(P.underlying t).map (fun d=>match d with | .struct _ | .array _ _=>true|_=>false)=some agg):TyN P t agg sz z:=by
 cases hi:P.info? t with
 | none=>rw [hi] at h1;cases h1
 | some i=>
  cases hd:P.underlying t with
  | none=>rw [hd] at h2;cases h2
  | some d=>
   rw [hi] at h1;rw [hd] at h2;simp only [Option.map_some,Option.some.injEq,Prod.mk.injEq] at h1 h2;cases hz:i.zero with
   | none=>rw [hz] at h1;simp at h1
   | some v=>
    rw [hz] at h1;simp only [Option.map_some,Option.some.injEq] at h1;exact ⟨i,v,d,hi,h1.1,hz,h1.2,hd,h2⟩
theorem TyB.of {P:Program} {t:TypeId} {n:Nat} (h:(P.info? t).map (·.bytes)=some n):TyB P t n:=by
 cases hi:P.info? t with
 | none=>rw [hi] at h;cases h
 | some i=>rw [hi] at h;simp only [Option.map_some,Option.some.injEq] at h;exact ⟨i,hi,h⟩
theorem TyF.of {P:Program} {t:TypeId} {i off:Nat} {ft:TypeId} (h:(match P.underlying t with|some (.struct fs)=>(fs[i]?).map (fun f=>(f.offset,f.type,(P.info? f.type).map (fun j=>j.size == 0)))|_=>none)=some (off,ft,some false)):TyF P t i off ft:=by
 split at h
 ·rename_i fs hu
  cases hf:fs[i]? with
  | none=>rw [hf] at h;cases h
  | some f=>
   rw [hf] at h;simp only [Option.map_some,Option.some.injEq,Prod.mk.injEq] at h;cases hj:P.info? f.type with
   | none=>rw [hj] at h;simp at h
   | some j=>
    rw [hj] at h;simp only [Option.map_some,Option.some.injEq] at h;exact ⟨fs,f,j,hu,hf,h.1,h.2.1,hj,h.2.2⟩
 ·cases h
section
variable {P:Program} {E:Env}
theorem Calm.underlying {t:TypeId} {d:TypeDesc} (h:P.underlying t=some d):Calm P (Go.underlying t) d:=by
 intro w es;show (Sem.bind Go.program _).runT P w es=_;rw [Sem.runT_bind'];show Sem.runT P (match P.underlying t with|some d=>_|none=>_) w es=_;rw [h];rfl
theorem Calm.typeInfo {t:TypeId} {i:TypeInfo} (h:P.info? t=some i):Calm P (Go.typeInfo t) i:=by
 intro w es;show (Sem.bind Go.program _).runT P w es=_;rw [Sem.runT_bind'];show Sem.runT P (match P.info? t with|some d=>_|none=>_) w es=_;rw [h];rfl
theorem Calm.sizeOf {t:TypeId} {i:TypeInfo} (h:P.info? t=some i):Calm P (Go.sizeOf t) i.size:=(Calm.typeInfo h).bind (Calm.pure _)
theorem Calm.sizeOf' {t:TypeId} {agg:Bool} {sz:Nat} {z:List Value} (h:TyN P t agg sz z):Calm P (Go.sizeOf t) sz:=by
 obtain ⟨i,v,d,h1,h2,_⟩:=h.h;rw [<-h2];exact Calm.sizeOf h1
theorem Calm.isAgg {t:TypeId} {agg:Bool} {sz:Nat} {z:List Value} (h:TyN P t agg sz z):Calm P (Go.isAgg t) agg:=by
 obtain ⟨i,v,d,h1,h2,h3,h4,h5,h6⟩:=h.h;refine (Calm.underlying h5).bind ?_;cases d <;> simp only at h6 <;> subst h6 <;> exact Calm.pure _
theorem Calm.zeroValue {t:TypeId} {agg:Bool} {sz:Nat} {z:List Value} (h:TyN P t agg sz z):∃ v,Calm P (Go.zeroValue t) v/\v.cells=z.toArray:=by
 obtain ⟨i,v,d,h1,h2,h3,h4,_⟩:=h.h;refine ⟨v,(Calm.typeInfo h1).bind ?_,h4⟩;rw [h3];exact Calm.pure _
theorem T.loadVar1 {t:TypeId} {z:List Value} {A:HP} {a:Addr} {v:Value} (h:TyN P t false 1 z) (k:Has A a v):T P E (Go.loadVar t a) [A] (fun x B=>x=v/\B=[A]):=
 T.calmBind (Calm.isAgg h) (T.load k)
theorem T.loadVarN {t:TypeId} {sz:Nat} {z:List Value} {A:HP} {a:Addr} {cs:List Value} (h:TyN P t true sz z) (hn:cs.length=sz) (k:∀ j v,cs[j]?=some v->Has A (a.add j) v) :
  T P E (Go.loadVar t a) [A] (fun x B=>x=.agg cs.toArray/\B=[A]):=by
 refine T.calmBind (Calm.isAgg h) (T.calmBind (Calm.sizeOf' h) (T.bind (T.loadCells hn k) ?_));rintro x _ ⟨hx,rfl⟩;exact T.calm (Calm.pure _) ⟨by rw [hx],rfl⟩
theorem T.storeVar {t T0:TypeId} {agg:Bool} {z:List Value} {b off:Nat} {c vs:List Value} {v:Value} (h:TyN P t agg vs.length z) (hv:v.cells=vs.toArray) (h1:∀ x∈vs,Jy x=true) (hn:off+vs.length<=c.length) :
  T P E (Go.storeVar t ⟨b,off,none⟩ v) [box b c T0] (fun _ B=>B=[box b (lay c off vs) T0]):=by
 unfold Go.storeVar;refine T.calmBind (Calm.sizeOf' h) ?_;have e:¬ (v.cells.size≠vs.length):=by rw [hv];simp
 simp only [if_neg e];rw [hv];exact T.calmBind (Calm.pure _) (by simpa using T.storeCells (b:=b) (t:=T0) (off:=off) vs 0 c h1 (by omega))
theorem T.newRow {t:TypeId} (c:List Value):T P E (Go.newRow t c.toArray) [] (fun a B=>∃ b,a=⟨b,0,none⟩/\B=[box b c t]):=by
 refine T.bind (T.new _ rfl) ?_;rintro b _ rfl;exact T.calm (Calm.pure _) ⟨b,rfl,rfl⟩
theorem T.alloc {t:TypeId} {agg:Bool} {sz:Nat} {z:List Value} (h:TyN P t agg sz z):T P E (Instr.alloc t true (.tuple #[])) [] (fun x B=>∃ b,x=.pointer (some ⟨b,0,none⟩)/\B=[box b z t]):=by
 obtain ⟨v,hv,hz⟩:=Calm.zeroValue h;refine T.calmBind hv ?_;simp only [Go.newVar,hz];refine T.bind (T.newRow z) ?_;rintro _ _ ⟨b,rfl,rfl⟩;exact T.calm (Calm.pure _) ⟨b,rfl,rfl⟩
theorem T.boxOp {t:TypeId} {v:Value} {vs:List Value} (hv:v.cells=vs.toArray):T P E (Instr.box t v) [] (fun x B=>∃ b,x=.pointer (some ⟨b,0,none⟩)/\B=[box b vs t]):=by
 unfold Instr.box;simp only [Go.newVar,hv];refine T.bind (T.newRow vs) ?_;rintro _ _ ⟨b,rfl,rfl⟩;exact T.calm (Calm.pure _) ⟨b,rfl,rfl⟩
theorem Calm.fieldAt {t:TypeId} {i off:Nat} {ft:TypeId} {a:Addr} (h:TyF P t i off ft):Calm P (Instr.fieldAt t (.pointer (some a)) i) (.pointer (some (a.add off))):=by
 obtain ⟨fs,f,j,h1,h2,h3,h4,h5,h6⟩:=h.h;refine (Calm.underlying h1).bind ?_;simp only [h2];refine (Calm.pure _).bind ?_;refine Calm.bind (a:=a.add off) ?_ (Calm.pure _);unfold fieldPlace;refine (Calm.sizeOf h5).bind ?_;have:¬ (j.size=0):=by simpa using h6
 simp only [if_neg this,h3];exact Calm.pure _
theorem Calm.indexSlice {t e:TypeId} {agg:Bool} {sz:Nat} {z:List Value} {a:Addr} {len cap:Nat} {k:IntKind} {i:Int} (h:TyU P t (.slice e)) (he:TyN P e agg sz z) (h0:0<=i) (h1:i<len) :
  Calm P (Instr.indexAt t (.slice (some a) len cap) (.int k i)) (.pointer (some (a.add (i.toNat*sz)))):=by
 unfold Instr.indexAt;refine (Calm.pure _).bind ?_;refine (Calm.underlying h.h).bind ?_;refine (Calm.pure _).bind ?_;refine (Calm.underlying h.h).bind ?_;simp only;rw [if_pos ⟨h0,h1⟩];exact (Calm.sizeOf' he).bind (Calm.pure _)
theorem Calm.indexArr {t e:TypeId} {agg:Bool} {sz:Nat} {z:List Value} {a:Addr} {len:Nat} {k:IntKind} {i:Int} (h:TyU P t (.array len e)) (he:TyN P e agg sz z) (h0:0<=i) (h1:i<len) :
  Calm P (Instr.indexAt t (.pointer (some a)) (.int k i)) (.pointer (some (a.add (i.toNat*sz)))):=by
 unfold Instr.indexAt;refine (Calm.pure _).bind ?_;refine (Calm.underlying h.h).bind ?_;refine (Calm.pure _).bind ?_;refine (Calm.pure _).bind ?_;refine (Calm.underlying h.h).bind ?_;simp only;rw [if_pos ⟨h0,h1⟩];exact (Calm.sizeOf' he).bind (Calm.pure _)
theorem Calm.part1 {t:TypeId} {z:List Value} {cs:Array Value} {off:Nat} {v:Value} (h:TyN P t false 1 z) (hv:cs[off]?=some v):Calm P (Go.part t cs off) v:=by
 unfold Go.part;refine (Calm.isAgg h).bind ?_;simp only [Bool.false_eq_true,if_false];rw [hv];exact Calm.pure _
theorem Calm.partN {t:TypeId} {sz:Nat} {z:List Value} {cs:Array Value} {off:Nat} (h:TyN P t true sz z):Calm P (Go.part t cs off) (.agg (cs.extract off (off+sz))):=by
 unfold Go.part;refine (Calm.isAgg h).bind ?_;simp only [if_true];exact (Calm.sizeOf' h).bind (Calm.pure _)
theorem Calm.field {t:TypeId} {i off:Nat} {ft:TypeId} {cs:Array Value} {v:Value} (h:TyF P t i off ft) (hp:Calm P (Go.part ft cs off) v):Calm P (Instr.field t (.agg cs) i) v:=by
 obtain ⟨fs,f,j,h1,h2,h3,h4,h5,h6⟩:=h.h;unfold Instr.field;refine (Calm.underlying h1).bind ?_;simp only [h2];refine (Calm.pure _).bind ?_;rw [h3,h4];exact hp
theorem Calm.indexAgg {t e:TypeId} {agg:Bool} {sz:Nat} {z:List Value} {cs:Array Value} {len:Nat} {k:IntKind} {i:Int} {v:Value} (h:TyU P t (.array len e)) (he:TyN P e agg sz z) (h0:0<=i) (h1:i<len) (hp:Calm P (Go.part e cs (i.toNat*sz)) v) :
  Calm P (Instr.index t (.agg cs) (.int k i)) v:=by
 unfold Instr.index;refine (Calm.pure _).bind ?_;refine (Calm.underlying h.h).bind ?_;simp only;rw [if_pos ⟨h0,h1⟩];exact (Calm.sizeOf' he).bind hp
theorem Calm.extract {vs:Array Value} {i:Nat} {v:Value} (h:vs[i]?=some v):Calm P (Instr.extract (.tuple vs) i) v:=by
 unfold Instr.extract;simp only [h];exact Calm.pure _
end
end Go.KL
end
section
namespace Go.KL
open Go
abbrev Tm:=List (Nat×Value)
def look:Tm->Nat->Option Value
 | [],_=>none
 | (d,v)::L,t=>cond (Nat.beq d t) (some v) (look L t)
structure Tm.ok (L:Tm) (n:Nat) (tmps:Array Value):Prop where
 size:tmps.size=n
 h:∀ t v,look L t=some v->tmps[t]?=some v
structure Fx where
 fn:FuncId
 kind:CallKind
 defers:List Deferred
 roundOf:Option Nat
 n:Nat
def Fx.at (b:Fx) (tmps:Array Value) (todo:List Item):Frame:={ fn:=b.fn,tmps,todo,defers:=b.defers,mode:=.run,kind:=b.kind,roundOf:=b.roundOf }
abbrev Xs:=Goroutine->Hp->Hp->(Goroutine->Hp->Hp->Prop)->Prop
abbrev G:=@Go.Conc.G
structure Leaves (P:Program) (E:Env) (b:Fx) (fr:Frame) (v:Value) (s:List HP):Prop where
 fn:fr.fn=b.fn
 kind:fr.kind=b.kind
 defers:fr.defers=b.defers
 round:fr.roundOf=b.roundOf
 way:(fr.mode=.returning/\b.roundOf=none/\∃ fnc,P.funcs[b.fn]?=some fnc/\T P E (results fnc fr.tmps) s (fun x B=>x=v/\B=s))∨(fr.mode=.run/\b.roundOf.isSome=true/\((fr.todo=[]/\v=.bool true)∨∃ k,fr.todo=.code .ret::k/\v=.bool false))
def W (P:Program) (E:Env) (X:Xs) (b:Fx) (Post:Value->List HP->Prop) (todo:List Item) (L:Tm) (s:List HP):Prop:=
 ∀ (K:Goroutine->Hp->Hp->Prop) (cs:List Frame) (F:List HP),
  (∀ fr v s' t r f,Leaves P E b fr v s'->(∀ r f,sep s' r f->sep t r f)->Post v t->sep (s'++F) r f->Safe P E X K (G fr cs) r f)->
  ∀ tmps r f,L.ok b.n tmps->sep (s++F) r f->Safe P E X K (G (b.at tmps todo) cs) r f
section
variable {P:Program} {E:Env} {X:Xs} {b:Fx} {Post:Value->List HP->Prop} {k:List Item} {L:Tm} {s:List HP}
theorem W.ctl {t t':List Item} (h:∀ tmps cs w,L.ok b.n tmps->stepG P E.main (G (b.at tmps t) cs) w=.go (G (b.at tmps t') cs) w) (g:W P E X b Post t' L s):W P E X b Post t L s:=
 fun K cs F hr tmps r f hL hs=>.idle rfl (fun w=>h tmps cs w hL) (g K cs F hr tmps r f hL hs)
theorem W.seq {x y:Code} (g:W P E X b Post (.code x::.code y::k) L s):W P E X b Post (.code (.seq x y)::k) L s:=W.ctl (fun _ _ _ _=>rfl) g
theorem W.skip (g:W P E X b Post k L s):W P E X b Post (.code .skip::k) L s:=W.ctl (fun _ _ _ _=>rfl) g
theorem W.inBlock {i:Nat} (g:W P E X b Post k L s):W P E X b Post (.inBlock i::k) L s:=W.ctl (fun _ _ _ _=>rfl) g
theorem W.block {i:Nat} {x:Code} (g:W P E X b Post (.code x::.inBlock i::k) L s):W P E X b Post (.code (.block i x)::k) L s:=W.ctl (fun _ _ _ _=>rfl) g
theorem W.exit {i:Nat} {k':List Item} (h:exitTo i k=some k') (g:W P E X b Post k' L s):W P E X b Post (.code (.exit i)::k) L s:=
 W.ctl (fun tmps cs w _=>by
  show (exitTo i k).elim _ _=_;rw [h];rfl) g
theorem W.region {i:Nat} {ops:Array Oper} (g:W P E X b Post (.inRegion ops (List.range ops.size)::k) L s):W P E X b Post (.code (.region i ops false)::k) L s:=W.ctl (fun _ _ _ _=>rfl) g
theorem W.endRegion {ops:Array Oper} (g:W P E X b Post k L s):W P E X b Post (.inRegion ops []::k) L s:=W.ctl (fun _ _ _ _=>rfl) g
theorem W.weaken {t:List Item} {L':Tm} {s':List HP} (hL:∀ t v,look L' t=some v->look L t=some v) (hs:∀ r f,sep s r f->sep s' r f) (g:W P E X b Post t L' s'):W P E X b Post t L s:=by
 intro K cs F hr tmps r f hok h;refine g K cs F hr tmps r f ⟨hok.size,fun t v e=>hok.h t v (hL t v e)⟩ ?_;obtain ⟨f1,f2,d,l1,l2,h1,h2⟩:=zD.1 h;exact zD.2 ⟨f1,f2,d,l1,l2,hs _ _ h1,h2⟩
theorem W.post {t:List Item} {Post':Value->List HP->Prop} (h:∀ v s,Post' v s->Post v s) (g:W P E X b Post' t L s):W P E X b Post t L s:=
 fun K cs F hr tmps r f hok hs=>g K cs F (fun fr v s' t r f hl he hp=>hr fr v s' t r f hl he (h v t hp)) tmps r f hok hs
def ev (L:Tm):Operand->Option Value
 | .tmp t=>look L t
 | .const v=>some v
 | .global g=>some (.pointer (some ⟨g,0,none⟩))
 | .func f=>some (.func (.func f) #[] #[])
theorem Zd {tmps:Array Value} {todo:List Item} (h:L.ok b.n tmps) {o:Operand} {v:Value} (e:ev L o=some v):(b.at tmps todo).eval o=v:=by
 cases o with
 | tmp t=>
  have:=h.h t v e
  show tmps.getD t undef=v;simp [Array.getD_eq_getD_getElem?,this]
 | const c=>cases e;rfl
 | global g=>cases e;rfl
 | func g=>cases e;rfl
theorem W.cond {c:Operand} {x y:Code} {v:Bool} (hc:ev L c=some (.bool v)) (g1:v=true->W P E X b Post (.code x::k) L s) (g2:v=false->W P E X b Post (.code y::k) L s):W P E X b Post (.code (.cond c x y)::k) L s:=by
 cases v with
 | true=>exact W.ctl (fun tmps cs w h=>by
   show (match (b.at tmps (.code (.cond c x y)::k)).eval c with | .bool q=>_|_=>_)=_
   rw [Zd h hc];rfl) (g1 rfl)
 | false=>exact W.ctl (fun tmps cs w h=>by
   show (match (b.at tmps (.code (.cond c x y)::k)).eval c with | .bool q=>_|_=>_)=_
   rw [Zd h hc];rfl) (g2 rfl)
theorem W.loop {ι:Type} (m:ι->Nat) (C:ι->Prop) (Lf:ι->Tm) (sf:ι->List HP) {body:Code} (i0:ι) (hC:C i0)
  (hL:∀ t v,look (Lf i0) t=some v->look L t=some v) (hs:∀ r f,sep s r f->sep (sf i0) r f)
  (g:∀ i,C i->(∀ j,C j->m j<m i->W P E X b Post (.inLoop body::k) (Lf j) (sf j))->W P E X b Post (.code body::.inLoop body::k) (Lf i) (sf i)):W P E X b Post (.code (.loop body)::k) L s:=by
 have key:∀ n i,m i<n->C i->W P E X b Post (.code body::.inLoop body::k) (Lf i) (sf i):=by
  intro n;induction n with
  | zero=>intro i h;omega
  | succ n ih=>intro i h hi;exact g i hi fun j hj hm=>W.ctl (fun _ _ _ _=>rfl) (ih j (by omega) hj)
 exact W.ctl (fun _ _ _ _=>rfl) (W.weaken hL hs (key (m i0+1) i0 (Nat.lt_succ_self _) hC))
theorem wH {p:Program} {fn:FuncId} {es:Array Event} {e:Event} (h:e∈seen p fn es):e∈es:=by
 unfold seen at h;have key:∀ (l:List Event) (q:Bool) (acc:Array Event),e∈(l.foldl (fun (x:Bool×Array Event) e=>match e.loc with
   | .mark (.extern f)=>((p.funcs[f]?).any (·.norace),x.2)
   | _=>(x.1,if x.1&&!e.sync then x.2 else x.2.push e)) (q,acc)).2->e∈acc∨e∈l:=by
  intro l;induction l with
  | nil=>intro q acc h;exact .inl h
  | cons a l ih=>
   intro q acc h;rw [List.foldl_cons] at h;cases hl:a.loc with
   | mark m=>
    cases m with
    | extern f=>simp only [hl] at h;rcases ih _ _ h with x|x <;> simp [x]
    | _=>
     simp only [hl] at h;rcases ih _ _ h with x|x
     ·split at x
      ·exact .inl x
      ·rcases Array.mem_push.1 x with y|y <;> simp [y]
     ·simp [x]
   | _=>
    simp only [hl] at h;rcases ih _ _ h with x|x
    ·split at x
     ·exact .inl x
     ·rcases Array.mem_push.1 x with y|y <;> simp [y]
    ·simp [x]
 dsimp only at h;rw [<-Array.foldl_toList] at h;rcases key es.toList _ _ h with x|x
 ·simp at x
 ·simpa using x
end
end Go.KL
end
section
namespace Go.KL
open Go
def setd:Option Nat->Value->Tm->Tm
 | some d,v,L=>(d,v)::L
 | none,_,L=>L
def putd:Option Nat->Value->Array Value->Array Value
 | some d,v,a=>a.setIfInBounds d v
 | none,_,a=>a
theorem xG {d t:Nat} {v:Value} {L:Tm}:look ((d,v)::L) t=if d=t then some v else look L t:=by
 show cond (Nat.beq d t) _ _=_;cases h:Nat.beq d t with
 | true=>have:=Nat.eq_of_beq_eq_true h;simp [this]
 | false=>have:=Nat.ne_of_beq_eq_false h;simp [this]
theorem zL1 {L:Tm} {n d:Nat} {tmps:Array Value} {v:Value} (h:L.ok n tmps) (hd:d<n):Tm.ok ((d,v)::L) n (tmps.setIfInBounds d v):=by
 refine ⟨by simp [h.size],fun t x e=>?_⟩
 rw [xG] at e;by_cases c:d=t
 ·subst c;simp only [if_true] at e;cases e;simp [h.size,hd]
 ·simp only [c,if_false] at e;rw [Array.getElem?_setIfInBounds];simp only [c,if_false];exact h.h t x e
def QD:List Oper->Nat->Option Nat
 | [],_=>none
 | o::_,0=>o.dst
 | _::l,n+1=>QD l n
theorem zFp:∀ (l:List Oper) (j:Nat),(l[j]?).bind (·.dst)=QD l j
 | [],_=>rfl
 | _::_,0=>rfl
 | _::l,n+1=>by rw [List.getElem?_cons_succ,zFp l n,QD]
def Want (L:Tm) (l:List Oper) (o:Oper) (y:Bool):Prop:=
 match o.guard with
 | none=>y=true
 | some (j,w)=>∃ d,QD l j=some d/\((∃ q,look L d=some (.bool q)/\y=(q == w))∨(look L d=some undef/\y=false))
def yR (l:List Oper) (o:Oper):List Nat:=match o.guard with
 | none=>[]
 | some (j,_)=>(QD l j).toList
theorem wY {L:Tm} {tmps:Array Value} {l:List Oper} {o:Oper} {y:Bool} (h:∀ t∈yR l o,∀ v,look L t=some v->tmps[t]?=some v) (w:Want L l o y):Region.wanted o (yielded l.toArray tmps)=y:=by
 unfold Want at w;unfold Region.wanted;unfold yR at h;cases hg:o.guard with
 | none=>rw [hg] at w;exact w.symm
 | some p=>
  obtain ⟨j,ww⟩:=p;rw [hg] at w;simp only [hg] at h;obtain ⟨d,h1,w⟩:=w;have e0:(l.toArray[j]?).bind (·.dst)=some d:=by rw [<-h1,<-zFp];simp
  rw [h1] at h;have h:=h d (by simp)
  rcases w with ⟨q,h2,rfl⟩|⟨h2,rfl⟩
  ·have:yielded l.toArray tmps j=some q:=by
    unfold yielded;rw [e0];show (match tmps[d]? with|some (.bool b)=>some b|_=>none)=_;rw [h _ h2]
   simp only [this];cases q <;> cases ww <;> rfl
  ·have:yielded l.toArray tmps j=none:=by
    unfold yielded;rw [e0];show (match tmps[d]? with|some (.bool b)=>some b|_=>none)=_;rw [h _ h2];rfl
   simp only [this];rfl
section
variable {L:Tm} {l:List Oper} {o:Oper} {j d:Nat} {q:Bool}
theorem zNy (hg:o.guard=some (j,true)) (hd:QD l j=some d) (hl:look L d=some (.bool q)) (h:q=true):Want L l o true:=by
 unfold Want;rw [hg];exact ⟨d,hd,.inl ⟨q,hl,by rw [h];rfl⟩⟩
theorem zOB (hg:o.guard=some (j,false)) (hd:QD l j=some d) (hl:look L d=some (.bool q)) (h:q=false):Want L l o true:=by
 unfold Want;rw [hg];exact ⟨d,hd,.inl ⟨q,hl,by rw [h];rfl⟩⟩
theorem zLW (hg:o.guard=some (j,true)) (hd:QD l j=some d) (hl:look L d=some (.bool q)) (h:q=false):Want L l o false:=by
 unfold Want;rw [hg];exact ⟨d,hd,.inl ⟨q,hl,by rw [h];rfl⟩⟩
theorem zLw (hg:o.guard=some (j,false)) (hd:QD l j=some d) (hl:look L d=some (.bool q)) (h:q=true):Want L l o false:=by
 unfold Want;rw [hg];exact ⟨d,hd,.inl ⟨q,hl,by rw [h];rfl⟩⟩
theorem zLr {w:Bool} (hg:o.guard=some (j,w)) (hd:QD l j=some d) (hl:look L d=some undef):Want L l o false:=by
 unfold Want;rw [hg];exact ⟨d,hd,.inr ⟨hl,rfl⟩⟩
end
theorem vD {α:Type} {l r:List α} {n:Nat} {a:α} (h:l.drop n=a::r):l[n]?=some a/\l.drop (n+1)=r:=by
 constructor
 ·have:=List.getElem?_drop (xs:=l) (i:=n) (j:=0)
  rw [h] at this;simpa using this.symm
 ·rw [<-List.drop_drop,h];rfl
section
variable {P:Program} {E:Env} {X:Xs} {b:Fx} {Post:Value->List HP->Prop} {k:List Item} {L:Tm} {s:List HP}
theorem Yk {d n:Nat} (h:Nat.blt d n=true):d<n:=by simpa [Nat.blt_eq] using h
def ltd:Option Nat->Nat->Bool
 | some d,n=>Nat.blt d n
 | none,_=>true
def Op.isDefer:Op->Bool
 | .defer _=>true
 | _=>false
theorem Zw {mn:Bool} {tmps:Array Value} {cs:List Frame} {w:World} {all:Array Oper} {i:Nat} {is:List Nat} {o:Oper} (h:all[i]?=some o) (hw:Region.wanted o (yielded all tmps)=true) (hd:b.roundOf=none∨Op.isDefer o.op=false) :
  stepG P mn (G (b.at tmps (.inRegion all (i::is)::k)) cs) w=stepG.apply P true (b.at tmps (.inRegion all (i::is)::k)) cs none (execOp (b.at tmps (.inRegion all (i::is)::k)).eval o) w:=by
 show (if ((all[i]?).map (Region.wanted · (yielded all tmps))).getD false then _ else _)=_;rw [h];simp only [Option.map_some,Option.getD_some,hw,if_true];show (match (all[i]?:Option Oper) with|none=>_|some o=>_)=_;rw [h];simp only;rcases hd with hd|hd
 ·simp only [Fx.at,hd]
 ·cases ho:o.op <;> simp only [Op.isDefer,ho] at hd <;> first|(cases hd;done)|(cases hr:b.roundOf <;> simp only [Fx.at,hr])
theorem YZ {mn:Bool} {tmps:Array Value} {cs:List Frame} {w:World} {all:Array Oper} {i:Nat} {is:List Nat} {o:Oper} (h:all[i]?=some o) (hw:Region.wanted o (yielded all tmps)=false) :
  stepG P mn (G (b.at tmps (.inRegion all (i::is)::k)) cs) w=.go (G ((b.at tmps (.inRegion all (i::is)::k)).finish undef) cs) w:=by
 show (if ((all[i]?).map (Region.wanted · (yielded all tmps))).getD false then _ else _)=_;rw [h];simp only [Option.map_some,Option.getD_some,hw];rfl
theorem wE {tmps:Array Value} {all:Array Oper} {i:Nat} {is:List Nat} {o:Oper} {v:Value} (h:all[i]?=some o) :
  (b.at tmps (.inRegion all (i::is)::k)).finish v=b.at (putd o.dst v tmps) (.inRegion all is::k):=by
 show (({ b.at tmps (.inRegion all (i::is)::k) with tmps:=match (all[i]?).bind (·.dst) with|some d=>tmps.setIfInBounds d v|none=>tmps,todo:=.inRegion all is::k }:Frame))=_
 rw [h];show _=({ b.at tmps (.inRegion all (i::is)::k) with tmps:=putd o.dst v tmps,todo:=.inRegion all is::k }:Frame)
 cases hh:o.dst <;> simp [hh,putd]
theorem VS {n:Nat} {tmps:Array Value} {v:Value} {d:Option Nat} (h:L.ok n tmps) (hd:∀ x,d=some x->x<n):(setd d v L).ok n (putd d v tmps):=by
 cases d with
 | none=>exact h
 | some d=>exact zL1 h (hd d rfl)
theorem VY {d:Option Nat} {n:Nat} (h:ltd d n=true):∀ x,d=some x->x<n:=by
 intro x e;subst e;simpa [ltd,Nat.blt_eq] using h
theorem zBK {tmps:Array Value} {todo:List Item} {o:Oper} (h:∀ t,Operand.tmp t∈o.op.operands->∀ v,look L t=some v->tmps[t]?=some v) {x:Operand} {v:Value} (hx:x∈o.op.operands) (e:ev L x=some v):(b.at tmps todo).eval x=v:=by
 cases x with
 | tmp t=>
  have:=h t hx v e
  show tmps.getD t undef=v;simp [Array.getD_eq_getD_getElem?,this]
 | const c=>cases e;rfl
 | global g=>cases e;rfl
 | func g=>cases e;rfl
def Ex (P:Program) (E:Env) (X:Xs) (b:Fx) (L:Tm) (s:List HP) (o:Oper) (Q:Value->List HP->Prop):Prop:=
 ∀ (K:Goroutine->Hp->Hp->Prop) (cs:List Frame) (F:List HP) (l:List Oper) (i:Nat) (is:List Nat) (k:List Item) (tmps:Array Value) (r f:Hp),
  l.toArray[i]?=some o->Region.wanted o (yielded l.toArray tmps)=true->
  (∀ t,Operand.tmp t∈o.op.operands->∀ v,look L t=some v->tmps[t]?=some v)->sep (s++F) r f->
  (∀ v s' r' f',Q v s'->sep (s'++F) r' f'->Safe P E X K (G (b.at (putd o.dst v tmps) (.inRegion l.toArray is::k)) cs) r' f')->
  Safe P E X K (G (b.at tmps (.inRegion l.toArray (i::is)::k)) cs) r f
theorem Ex.mono {o:Oper} {Q R:Value->List HP->Prop} (h:Ex P E X b L s o Q) (g:∀ v s',Q v s'->R v s'):Ex P E X b L s o R:=
 fun K cs F l i is k tmps r f h1 h2 h3 h4 h5=>h K cs F l i is k tmps r f h1 h2 h3 h4 fun v s' r' f' q=>h5 v s' r' f' (g v s' q)
def Cm (P:Program) (L:Tm) (o:Oper) (v:Value):Prop:=∀ e',(∀ x∈o.op.operands,∀ v,ev L x=some v->e' x=v)->Calm P (execOp e' o) (.value v)
def Lt (P:Program) (E:Env) (L:Tm) (s:List HP) (o:Oper) (v:Value):Prop:=∀ e',(∀ x∈o.op.operands,∀ v,ev L x=some v->e' x=v)->T P E (execOp e' o) s (fun nx s'=>nx=.value v/\s'=s)
theorem Cm.lt {o:Oper} {v:Value} (h:Cm P L o v):Lt P E L s o v:=fun e' he=>T.calm (h e' he) ⟨rfl,rfl⟩
def zDA:Op->Bool
 | .select ..=>false
 | _=>true
theorem zIU {op:Op} (h:zDA op=true):∀ cs b,op≠.select cs b:=by
 intro cs b e;subst e;cases h
theorem hybrid {o:Oper} (hns:zDA o.op=true) {e':Operand->Value} (he:∀ x∈o.op.operands,∀ v,ev L x=some v->e' x=v):∃ e'',(∀ x v,ev L x=some v->e'' x=v)/\execOp e' o=execOp e'' o:=by
 classical
 refine ⟨fun x=>if x∈o.op.operands then e' x else (ev L x).getD undef,fun x v hv=>?_,execOp_congr o (zIU hns) fun x hx=>by simp [hx]⟩
 by_cases hx:x∈o.op.operands
 ·simp only [hx,if_true];exact he x hx v hv
 ·simp [hx,hv]
theorem Cm.of {o:Oper} {v:Value} (hns:zDA o.op=true) (h:∀ e',(∀ x v,ev L x=some v->e' x=v)->Calm P (execOp e' o) (.value v)):Cm P L o v:=fun e' he=>by
 obtain ⟨e'',h1,h2⟩:=hybrid hns he;rw [h2];exact h e'' h1
theorem Lt.of {o:Oper} {v:Value} (hns:zDA o.op=true) (h:∀ e',(∀ x v,ev L x=some v->e' x=v)->T P E (execOp e' o) s (fun nx s'=>nx=.value v/\s'=s)):Lt P E L s o v:=fun e' he=>by
 obtain ⟨e'',h1,h2⟩:=hybrid hns he;rw [h2];exact h e'' h1
theorem wR {w w':World} {r f r' f':Hp} {es es':Array Event} (h:Kept E w r f w' es r' f') (k:∀ e∈es',e∈es):Kept E w r f w' es' r' f':=
 ⟨h.sat,h.ro,h.size,h.keep,h.fresh,h.roFresh,fun e he=>h.evs e (k e he),fun e he=>h.low e (k e he),h.tk⟩
theorem Ex.opO {o:Oper} {Q:Value->List HP->Prop} (hnd:b.roundOf=none∨Op.isDefer o.op=false)
  (ht:∀ e',(∀ x∈o.op.operands,∀ v,ev L x=some v->e' x=v)->T P E (execOp e' o) s (fun nx s'=>∃ v,(nx=.value v∨nx=.skip/\v=undef)/\Q v s')):Ex P E X b L s o Q:=by
 intro K cs F l i is k tmps r f h hw ha hs g;refine .next rfl fun w hsat=>?_;obtain ⟨nx,w',es,r',f',s',e1,k1,⟨v,hv,q1⟩,s1⟩:=ht (b.at tmps (.inRegion l.toArray (i::is)::k)).eval (fun x hx v e=>zBK ha hx e) w r f F #[] hsat hs;have g1:=g v s' r' f' q1 s1;have hes:(#[]:Array Event)++es=es:=by simp
 rw [hes] at e1;have:∃ es',(∀ e∈es',e∈es)/\stepG P E.main (G (b.at tmps (.inRegion l.toArray (i::is)::k)) cs) w=.go (G ((b.at tmps (.inRegion l.toArray (i::is)::k)).finish v) cs) w' es':=by
  rw [Zw h hw hnd];unfold stepG.apply;simp only [if_true,e1];rcases hv with rfl|⟨rfl,rfl⟩
  all_goals
   refine ⟨seen P b.fn (if b.kind == .early then #[] else es),fun e he=>?_,?_⟩
   ·have:=wH he
    split at this
    ·simp at this
    ·exact this
   ·simp only [GStep.after];rfl
 obtain ⟨es',hsub,hst⟩:=this;refine ⟨_,w',es',r',f',hst,wR k1 hsub,?_⟩;rw [wE h];exact g1
theorem Ex.op {o:Oper} {Q:Value->List HP->Prop} (hns:zDA o.op=true) (hnd:b.roundOf=none∨Op.isDefer o.op=false)
  (ht:∀ e',(∀ x v,ev L x=some v->e' x=v)->T P E (execOp e' o) s (fun nx s'=>∃ v,(nx=.value v∨nx=.skip/\v=undef)/\Q v s')):Ex P E X b L s o Q:=
 Ex.opO hnd fun e' he=>by
  obtain ⟨e'',h1,h2⟩:=hybrid hns he;rw [h2];exact ht e'' h1
theorem Lt.ex {o:Oper} {v:Value} (hnd:b.roundOf=none∨Op.isDefer o.op=false) (h:Lt P E L s o v):Ex P E X b L s o (fun u s'=>u=v/\s'=s):=
 Ex.opO hnd fun e' he=>T.cons (h e' he) fun nx s' ⟨e1,e2⟩=>⟨v,.inl e1,rfl,e2⟩
def WL (P:Program) (E:Env) (X:Xs) (b:Fx) (Post:Value->List HP->Prop) (l rest:List Oper) (k:List Item) (L:Tm) (s:List HP):Prop:=
 ∀ n,l.drop n=rest->W P E X b Post (.inRegion l.toArray (List.range' n rest.length)::k) L s
theorem W.opsL {i:Nat} {l:List Oper} (g:WL P E X b Post l l k L s):W P E X b Post (.code (.region i l.toArray false)::k) L s:=by
 refine W.region ?_;have:=g 0 rfl
 rw [List.range_eq_range'];simpa using this
section
variable {l rest:List Oper} {o:Oper} {d:Nat} {op:Op} {ty:TypeId} {pos:String} {af:Array Edge} {gd:Option (Nat×Bool)}
theorem WL.done (g:W P E X b Post k L s):WL P E X b Post l [] k L s:=fun _ _=>W.endRegion g
theorem WL.ex {Q:Value->List HP->Prop} (hw:Want L l o true) (hd:ltd o.dst b.n=true) (h:Ex P E X b L s o Q) (g:∀ v s',Q v s'->WL P E X b Post l rest k (setd o.dst v L) s'):WL P E X b Post l (o::rest) k L s:=by
 intro n hrest K cs F hr tmps r f hok hs;obtain ⟨h1,h2⟩:=vD hrest;have e:List.range' n (o::rest).length=n::List.range' (n+1) rest.length:=by simp [List.range'_succ]
 rw [e];refine h K cs F l n _ k tmps r f (by simpa using h1) (wY (fun t _ v e=>hok.h t v e) hw) (fun t _ v e=>hok.h t v e) hs fun v s' r' f' q hs'=>?_
 exact g v s' q (n+1) h2 K cs F hr _ r' f' (VS hok (VY hd)) hs'
theorem WL.skip (hw:Want L l ⟨some d,op,ty,pos,af,gd⟩ false) (hd:Nat.blt d b.n=true) (g:WL P E X b Post l rest k ((d,undef)::L) s):WL P E X b Post l (⟨some d,op,ty,pos,af,gd⟩::rest) k L s:=by
 intro n hrest;obtain ⟨h1,h2⟩:=vD hrest;have e:List.range' n ((⟨some d,op,ty,pos,af,gd⟩:Oper)::rest).length=n::List.range' (n+1) rest.length:=by simp [List.range'_succ]
 rw [e];intro K cs F hr tmps r f hok hs;have h1:l.toArray[n]?=some (⟨some d,op,ty,pos,af,gd⟩:Oper):=by simpa using h1
 refine .idle rfl (fun w=>YZ h1 (wY (fun t _ v e=>hok.h t v e) hw)) ?_;rw [wE h1];exact g (n+1) h2 K cs F hr _ r f (VS (d:=some d) hok (fun x hx=>by cases hx;exact Yk hd)) hs
theorem WL.cm {v:Value} (hw:Want L l ⟨some d,op,ty,pos,af,gd⟩ true) (hnd:Op.isDefer op=false) (hd:Nat.blt d b.n=true) (h:Cm P L ⟨some d,op,ty,pos,af,gd⟩ v) (g:WL P E X b Post l rest k ((d,v)::L) s):WL P E X b Post l (⟨some d,op,ty,pos,af,gd⟩::rest) k L s:=
 WL.ex hw hd (h.lt.ex (.inr hnd)) fun u s' ⟨e1,e2⟩=>by rw [e1,e2];exact g
theorem WL.lt {v:Value} (hw:Want L l ⟨some d,op,ty,pos,af,gd⟩ true) (hnd:Op.isDefer op=false) (hd:Nat.blt d b.n=true) (h:Lt P E L s ⟨some d,op,ty,pos,af,gd⟩ v) (g:WL P E X b Post l rest k ((d,v)::L) s):WL P E X b Post l (⟨some d,op,ty,pos,af,gd⟩::rest) k L s:=
 WL.ex hw hd (h.ex (.inr hnd)) fun u s' ⟨e1,e2⟩=>by rw [e1,e2];exact g
structure Sub (L' L:Tm):Prop where
 h:∀ t v,look L' t=some v->look L t=some v
theorem Sub.refl:Sub L L:=⟨fun _ _ h=>h⟩
theorem Sub.skip {L':Tm} {d:Nat} {v:Value} (h:look L' d=none) (g:Sub L' L):Sub L' ((d,v)::L):=⟨fun t u e=>by
 rw [xG];by_cases c:d=t
 ·subst c;rw [h] at e;cases e
 ·simp only [c,if_false];exact g.h t u e⟩
theorem Sub.cons {L':Tm} {d:Nat} {v:Value} (g:Sub L' L):Sub ((d,v)::L') ((d,v)::L):=⟨fun t u e=>by
 rw [xG] at e ⊢;by_cases c:d=t
 ·simp only [c,if_true] at e ⊢;exact e
 ·simp only [c,if_false] at e ⊢;exact g.h t u e⟩
theorem WL.close {L':Tm} (gk:WL P E X b Post l rest k L' s) (hL:Sub L' L):WL P E X b Post l rest k L s:=
 fun n hn=>W.weaken hL.h (fun _ _ h=>h) (gk n hn)
def zBb (l:List Oper):List Oper->Option (Nat×Bool)
 | []=>none
 | o::_=>match o.guard with
  | none=>none
  | some (j,w)=>match QD l j with
   | none=>none
   | some d=>some (d,w)
def VI (c:Nat):List Oper->Option (Nat×List Oper)
 | []=>none
 | o::r=>match o.dst,o.op with
  | some d,.pick (.tmp e) _ _=>if e=c then some (d,r) else VI c r
  | _,_=>VI c r
theorem WL.orG {rest':List Oper} {c d:Nat} {q y:Bool} (hg:zBb l rest=some (c,false)) (hq:look L c=some (.bool q)) (hc:VI c rest=some (d,rest'))
  (hF:q=false->WL P E X b Post l rest' k ((d,.bool (q||y))::L) s->WL P E X b Post l rest k L s)
  (hT:q=true->WL P E X b Post l rest' k ((d,.bool (q||y))::L) s->WL P E X b Post l rest k L s)
  (g:WL P E X b Post l rest' k ((d,.bool (q||y))::L) s):WL P E X b Post l rest k L s:=by
 cases q
 ·exact hF rfl g
 ·exact hT rfl g
theorem WL.andG {rest':List Oper} {c d:Nat} {q y:Bool} (hg:zBb l rest=some (c,true)) (hq:look L c=some (.bool q)) (hc:VI c rest=some (d,rest'))
  (hT:q=true->WL P E X b Post l rest' k ((d,.bool (q&&y))::L) s->WL P E X b Post l rest k L s)
  (hF:q=false->WL P E X b Post l rest' k ((d,.bool (q&&y))::L) s->WL P E X b Post l rest k L s)
  (g:WL P E X b Post l rest' k ((d,.bool (q&&y))::L) s):WL P E X b Post l rest k L s:=by
 cases q
 ·exact hF rfl g
 ·exact hT rfl g
theorem WL.orY {L':Tm} {q y:Bool} (h:q=false) (gk:WL P E X b Post l rest k ((d,.bool (q||y))::L') s) (hL:Sub L' L):WL P E X b Post l rest k ((d,.bool y)::L) s:=by
 subst h;exact WL.close gk (by rw [Bool.false_or];exact hL.cons)
theorem WL.orN {L':Tm} {q y:Bool} (h:q=true) (gk:WL P E X b Post l rest k ((d,.bool (q||y))::L') s) (hL:Sub L' L):WL P E X b Post l rest k ((d,.bool true)::L) s:=by
 subst h;exact WL.close gk (by rw [Bool.true_or];exact hL.cons)
theorem WL.andY {L':Tm} {q y:Bool} (h:q=true) (gk:WL P E X b Post l rest k ((d,.bool (q&&y))::L') s) (hL:Sub L' L):WL P E X b Post l rest k ((d,.bool y)::L) s:=by
 subst h;exact WL.close gk (by rw [Bool.true_and];exact hL.cons)
theorem WL.andN {L':Tm} {q y:Bool} (h:q=false) (gk:WL P E X b Post l rest k ((d,.bool (q&&y))::L') s) (hL:Sub L' L):WL P E X b Post l rest k ((d,.bool false)::L) s:=by
 subst h;exact WL.close gk (by rw [Bool.false_and];exact hL.cons)
end
end
end Go.KL
end
section
namespace Go.KL
open Go
def evs (L:Tm):List Operand->Option (List Value)
 | []=>some []
 | x::xs=>match ev L x,evs L xs with
  | some v,some vs=>some (v::vs)
  | _,_=>none
theorem Yx {L:Tm} {e':Operand->Value} (h:∀ x v,ev L x=some v->e' x=v):∀ {xs:List Operand} {vs:List Value},evs L xs=some vs->xs.map e'=vs
 | [],_,e=>by cases e;rfl
 | x::xs,_,e=>by
  unfold evs at e;split at e
  ·rename_i v vs h1 h2;cases e;rw [List.map_cons,h x v h1,Yx h h2]
  ·cases e
def zMQ:Nat->List Value->Tm
 | _,[]=>[]
 | i,v::vs=>(i,v)::zMQ (i+1) vs
theorem zBo:∀ {vs:List Value} {i t:Nat} {v:Value},look (zMQ i vs) t=some v->i<=t/\vs[t-i]?=some v
 | [],_,_,_,h=>by cases h
 | a::vs,i,t,v,h=>by
  rw [zMQ,xG] at h;by_cases c:i=t
  ·subst c;simp only [if_true] at h;cases h;exact ⟨Nat.le_refl _,by simp⟩
  ·simp only [c,if_false] at h;obtain ⟨h1,h2⟩:=zBo h;refine ⟨by omega,?_⟩
   rw [show t-i=(t-(i+1))+1 by omega];simpa using h2
class TyFn (P:Program) (f:FuncId) (fnc:outParam Func):Prop where
 h:P.funcs[f]?=some fnc
class TyRes (P:Program) (f:FuncId) (rs:outParam (List ResultVar)):Prop where
 h:∃ fnc,P.funcs[f]?=some fnc/\fnc.results.toList=rs
def vL (fnc:Func) (args:List Value):Nat:=args.length+(fnc.ntmps-args.length)
def Does (P:Program) (E:Env) (X:Xs) (f:FuncId) (args:List Value) (pre:List HP) (Post:Value->List HP->Prop):Prop:=
 ∃ fnc body,P.funcs[f]?=some fnc/\fnc.body=some body/\(fnc.name == "runtime.NumGoroutine")=false/\
  W P E X ⟨f,.normal,[],none,vL fnc args⟩ Post [.code body] (zMQ 0 args) pre
theorem Does.of {P:Program} {E:Env} {X:Xs} {f:FuncId} {args:List Value} {pre:List HP} {Post:Value->List HP->Prop} {fnc:Func} {body:Code} (n:Nat) (h:TyFn P f fnc) (hb:fnc.body=some body) (hn:(fnc.name == "runtime.NumGoroutine")=false) (hs:vL fnc args=n)
  (g:W P E X ⟨f,.normal,[],none,n⟩ Post [.code body] (zMQ 0 args) pre):Does P E X f args pre Post:=⟨fnc,body,h.h,hb,hn,hs ▸ g⟩
theorem Does.post {P:Program} {E:Env} {X:Xs} {f:FuncId} {args:List Value} {pre:List HP} {Post Post':Value->List HP->Prop} (h:Does P E X f args pre Post) (g:∀ v s,Post v s->Post' v s):Does P E X f args pre Post':=by
 obtain ⟨fnc,body,h1,h2,h3,h4⟩:=h;exact ⟨fnc,body,h1,h2,h3,W.post g h4⟩
section
variable {P:Program} {E:Env} {X:Xs} {b:Fx} {Post:Value->List HP->Prop} {k:List Item} {L:Tm} {s:List HP}
theorem Calm.callFunc {f:FuncId} {fnc:Func} {body:Code} {args:Array Value} (h:P.funcs[f]?=some fnc) (hb:fnc.body=some body) (hn:(fnc.name == "runtime.NumGoroutine")=false):Calm P (callFunc f args) (.enter f args):=by
 unfold Go.callFunc;refine Calm.program.bind ?_;simp only [h,hn,hb,Bool.false_eq_true,if_false,Option.isNone_some];exact Calm.pure _
theorem Calm.callOp {e':Operand->Value} {o:Oper} {fo:Operand} {args:Array Operand} {ats:Array TypeId} {g:FuncId} {fi ca:Array Value} {fnc:Func} {body:Code} (ho:o.op=.call ⟨.value fo,args,ats⟩) (hf:e' fo=.func (.func g) fi ca)
  (h:P.funcs[g]?=some fnc) (hb:fnc.body=some body) (hn:(fnc.name == "runtime.NumGoroutine")=false):Calm P (execOp e' o) (.enter g (fi++args.map e'++ca)):=by
 unfold execOp;rw [ho];simp only;refine Calm.bind (a:={ target:=.fn (.func g) ca,args:=fi++args.map e' }) ?_ ?_
 ·unfold resolve;simp only [hf,Deferred.ofValue];exact Calm.pure _
 ·simp only [invoke];exact Calm.callFunc h hb hn
def pack:List Value->Value
 | [v]=>v
 | vs=>.tuple vs.toArray
inductive Res (P:Program) (E:Env) (L:Tm) (s:List HP):List ResultVar->List Value->Prop
 | nil:Res P E L s [] []
 | tmp {t:Nat} {v:Value} {rs:List ResultVar} {vs:List Value} (h:look L t=some v) (k:Res P E L s rs vs):Res P E L s (.tmp t::rs) (v::vs)
 | cell {t:Nat} {ty:TypeId} {a:Addr} {v:Value} {rs:List ResultVar} {vs:List Value} (h:look L t=some (.pointer (some a))) (g:T P E (loadVar ty a) s (fun x B=>x=v/\B=s)) (k:Res P E L s rs vs):Res P E L s (.cell t ty::rs) (v::vs)
theorem Res.run {tmps:Array Value} {n:Nat} (hok:L.ok n tmps) {rs:List ResultVar} {vs:List Value} (h:Res P E L s rs vs):T P E (rs.mapM fun
  | .tmp t=>(pure (tmps.getD t undef):Sem Value)
  | .cell a t=>do loadVar t (<-asAddr (tmps.getD a undef))) s (fun x B=>x=vs/\B=s):=by
 induction h with
 | nil=>exact T.calm (Calm.pure _) ⟨rfl,rfl⟩
 | @tmp t v rs vs h k ih=>
  rw [List.mapM_cons];have:tmps.getD t undef=v:=by simp [Array.getD_eq_getD_getElem?,hok.h _ _ h]
  simp only [this];refine T.calmBind (Calm.pure _) (T.bind ih ?_);rintro x B ⟨hx,hB⟩;exact T.calm (Calm.pure _) ⟨by rw [hx],hB⟩
 | @cell t ty a v rs vs h g k ih=>
  rw [List.mapM_cons];have:tmps.getD t undef=.pointer (some a):=by simp [Array.getD_eq_getD_getElem?,hok.h _ _ h]
  simp only [this];refine T.bind (Q:=fun x B=>x=v/\B=s) (T.calmBind (Calm.pure _) g) ?_;rintro x B ⟨hx,hB⟩;rw [hB];refine T.bind ih ?_;rintro y C ⟨hy,hC⟩;exact T.calm (Calm.pure _) ⟨by rw [hx,hy],hC⟩
theorem JC {fnc:Func} {tmps:Array Value} {n:Nat} {vs:List Value} (hok:L.ok n tmps) (h:Res P E L s fnc.results.toList vs):T P E (results fnc tmps) s (fun x B=>x=pack vs/\B=s):=by
 unfold results;rw [Array.mapM_eq_mapM_toList,map_eq_pure_bind];refine T.bind (Q:=fun x B=>x=vs.toArray/\B=s) (T.bind (h.run hok) ?_) ?_
 ·rintro x _ ⟨hx,rfl⟩;exact T.calm (Calm.pure _) ⟨by rw [hx],rfl⟩
 ·rintro x _ ⟨hx,rfl⟩;refine T.calm (Calm.pure _) ⟨?_,rfl⟩;rw [hx];match vs with
  | []=>rfl
  | [v]=>rfl
  | v::w::l=>simp [pack]
theorem W.ret {fnc:Func} {vs:List Value} {t:List HP} (h:TyFn P b.fn fnc) (hro:b.roundOf=none) (hres:Res P E L s fnc.results.toList vs) (ht:∀ r f,sep s r f->sep t r f) (hp:Post (pack vs) t):W P E X b Post (.code .ret::k) L s:=by
 intro K cs F hr tmps r f hok hs;refine .idle (g':=G { b.at tmps (.code .ret::k) with mode:=.returning } cs) rfl (fun w=>?_) (hr _ (pack vs) s t r f ?_ ht hp hs)
 ·show (match b.roundOf with|none=>_|some l=>_)=_;rw [hro];rfl
 ·exact ⟨rfl,rfl,rfl,rfl,.inl ⟨rfl,hro,fnc,h.h,JC hok hres⟩⟩
theorem W.fall {fnc:Func} {vs:List Value} {t:List HP} (h:TyFn P b.fn fnc) (hro:b.roundOf=none) (hres:Res P E L s fnc.results.toList vs) (ht:∀ r f,sep s r f->sep t r f) (hp:Post (pack vs) t):W P E X b Post [] L s:=by
 intro K cs F hr tmps r f hok hs;refine .idle (g':=G { b.at tmps [] with mode:=.returning } cs) rfl (fun w=>?_) (hr _ (pack vs) s t r f ?_ ht hp hs)
 ·show (match b.roundOf with|none=>_|some l=>_)=_;rw [hro];rfl
 ·exact ⟨rfl,rfl,rfl,rfl,.inl ⟨rfl,hro,fnc,h.h,JC hok hres⟩⟩
theorem Qu {K:Goroutine->Hp->Hp->Prop} {b':Fx} {fr c:Frame} {cs:List Frame} {v:Value} {s' F:List HP} {r f:Hp} (hk:b'.kind=.normal) (hd:b'.defers=[]) (hr:b'.roundOf=none) (h:Leaves P E b' fr v s') (hs:sep (s'++F) r f)
  (g:∀ r f,sep (s'++F) r f->Safe P E X K (G (c.finish v) cs) r f):Safe P E X K (G fr (c::cs)) r f:=by
 obtain ⟨h1,h2,h4,_,⟨h3,_,fnc,h5,h6⟩|⟨_,h3,_⟩⟩:=h
 case inr=>rw [hr] at h3;cases h3
 refine .next rfl fun w hsat=>?_;obtain ⟨x,w',es,r',f',s'',e1,k1,⟨hx,hB⟩,s1⟩:=h6 w r f F #[] hsat hs;subst hB;have e0:(#[]:Array Event)++es=es:=by simp
 rw [e0] at e1;refine ⟨G (c.finish v) cs,w',seen P fr.fn es,r',f',?_,wR k1 (fun e he=>wH he),g _ _ s1⟩;have hst:stepG P E.main (G fr (c::cs)) w=unwind P E.main fr (c::cs) none w:=by
  unfold stepG;show (match (none:Option Dying),fr.mode with|some d@{ calling:=false,.. },_=>_|_,.run=>_|_,_=>_)=_;rw [h3]
 rw [hst];unfold unwind;rw [h4,hd];simp only [h3,h1,h5,e1];simp only [doReturn,h2,hk,GStep.after,hx];simp [Go.Conc.G]
theorem zAw {g:FuncId} {fnc:Func} {body:Code} {args:Array Value} (h:P.funcs[g]?=some fnc) (hb:fnc.body=some body) :
  Frame.enter P g args .normal=(⟨g,.normal,[],none,vL fnc args.toList⟩:Fx).at (args++Array.replicate (fnc.ntmps-args.size) undef) [.code body]:=by
 unfold Frame.enter;simp only [h,Option.map_some,Option.getD_some,Option.bind_some,hb];rfl
theorem QR {fnc:Func} {args:Array Value}:(zMQ 0 args.toList).ok (vL fnc args.toList) (args++Array.replicate (fnc.ntmps-args.size) undef):=by
 refine ⟨by simp [vL],fun t v h=>?_⟩
 obtain ⟨_,h2⟩:=zBo h;simp only [Nat.sub_zero] at h2;have:args[t]?=some v:=by simpa using h2
 rw [Array.getElem?_append_left]
 ·exact this
 ·rw [Array.getElem?_eq_some_iff] at this;exact this.1
theorem Ex.call {o:Oper} {fo:Operand} {args:Array Operand} {ats:Array TypeId} {g:FuncId} {fi ca:Array Value} {vs as:List Value} {pre F:List HP} {Post':Value->List HP->Prop}
  (ho:o.op=.call ⟨.value fo,args,ats⟩) (hf:ev L fo=some (.func (.func g) fi ca)) (ha:evs L args.toList=some vs) (has:fi.toList++vs++ca.toList=as)
  (hsp:Does P E X g as pre Post') (hsel:∀ r f,sep s r f->sep (pre++F) r f):Ex P E X b L s o (fun v s'=>∃ t,Post' v t/\s'=t++F):=by
 subst has;intro K cs F' l i is k tmps r f h hw hag hs gk;obtain ⟨fnc,body,p1,p2,p3,p4⟩:=hsp;obtain ⟨e'',he,hx⟩:=hybrid (L:=L) (o:=o) (by rw [ho];rfl) (e':=(b.at tmps (.inRegion l.toArray (i::is)::k)).eval) (fun x hx v e=>zBK hag hx e)
 have hm:args.map e''=vs.toArray:=by
  have:=Yx he ha
  apply Array.ext';simpa using this
 have hc:=Calm.callOp (P:=P) (e':=e'') ho (he _ _ hf) p1 p2 p3;rw [hm,<-hx] at hc;refine .next rfl fun w hsat=>⟨G (Frame.enter P g (fi++vs.toArray++ca) .normal) (b.at tmps (.inRegion l.toArray (i::is)::k)::cs),w,seen P b.fn (if b.kind == .early then #[] else #[]),r,f,?_,wR (Kept.refl hsat) (fun e he=>?_),?_⟩
 ·rw [Zw h hw (.inr (by rw [ho];rfl))]
  unfold stepG.apply;simp only [if_true,hc w #[]];rfl
 ·have:=wH he
  split at this <;> simp at this
 ·show Safe P E X K (G (Frame.enter P g (fi++vs.toArray++ca) .normal) (b.at tmps (.inRegion l.toArray (i::is)::k)::cs)) r f;rw [zAw p1 p2];have ea:(fi++vs.toArray++ca).toList=fi.toList++vs++ca.toList:=by simp
  have hs':sep (pre++(F++F')) r f:=by
   rw [<-List.append_assoc];obtain ⟨f1,f2,d,l1,l2,h1,h2⟩:=zD.1 hs;exact zD.2 ⟨f1,f2,d,l1,l2,hsel _ _ h1,h2⟩
  rw [<-ea] at p4;refine p4 K (b.at tmps (.inRegion l.toArray (i::is)::k)::cs) (F++F') ?_ _ r f QR hs';intro fr v s' t r f hl he hp hss;refine Qu rfl rfl rfl hl hss fun r f hss=>?_;rw [wE h];refine gk v (t++F) r f ⟨t,hp,rfl⟩ ?_;rw [List.append_assoc];obtain ⟨f1,f2,d,l1,l2,h1,h2⟩:=zD.1 hss;exact zD.2 ⟨f1,f2,d,l1,l2,he _ _ h1,h2⟩
end
end Go.KL
end
section
namespace Go.KL
open Go
def zLn:List Value->Nat->Nat->Option (List Value)
 | _,_,0=>some []
 | c,off,n+1=>match c[off]?,zLn c (off+1) n with
  | some v,some vs=>some (v::vs)
  | _,_=>none
theorem YC:∀ {n off:Nat} {c vs:List Value},zLn c off n=some vs->vs.length=n/\∀ j v,vs[j]?=some v->c[off+j]?=some v
 | 0,_,_,_,h=>by cases h;exact ⟨rfl,fun j v e=>by simp at e⟩
 | n+1,off,c,vs,h=>by
  unfold zLn at h;split at h
  ·rename_i v vs' h1 h2
   cases h
   obtain ⟨k1,k2⟩:=YC h2;refine ⟨by simp [k1],fun j x e=>?_⟩
   cases j with
   | zero=>simp at e;subst e;simpa using h1
   | succ j=>rw [show off+(j+1)=off+1+j by omega];exact k2 j x (by simpa using e)
  ·cases h
def yG:Value->List Value
 | .agg cs=>cs.toList
 | v=>[v]
theorem YM (v:Value):v.cells=(yG v).toArray:=by cases v <;> simp [Value.cells,yG]
def vH:List Value->Bool
 | []=>true
 | v::vs=>Jy v&&vH vs
theorem ZS:∀ {vs:List Value},vH vs=true->∀ v∈vs,Jy v=true
 | [],_,_,h=>by cases h
 | a::vs,h,v,hm=>by
  simp only [vH,Bool.and_eq_true] at h;rcases List.mem_cons.1 hm with rfl|hm
  ·exact h.1
  ·exact ZS h.2 v hm
def vQ:List Value->Nat->Bool
 | [],0=>true
 | _::vs,n+1=>vQ vs n
 | _,_=>false
theorem vI:∀ {vs:List Value} {n:Nat},vQ vs n=true->vs.length=n
 | [],0,_=>rfl
 | [],_+1,h=>by cases h
 | _::_,0,h=>by cases h
 | _::vs,n+1,h=>by rw [List.length_cons,vI (vs:=vs) h]
theorem T.sel {P:Program} {E:Env} {α:Type} {m:Sem α} {A:HP} {s F:List HP} {v:α} (h:Sel s A F) (g:T P E m [A] (fun x B=>x=v/\B=[A])):T P E m s (fun x B=>x=v/\B=s):=by
 intro w r f F' es hs hB;obtain ⟨f1,f2,d,l1,l2,h1,h2⟩:=zD.1 hB;have hA:sep ([A]++(F++F')) r f:=by
  rw [<-List.append_assoc];exact zD.2 ⟨f1,f2,d,l1,l2,h.out h1,h2⟩
 obtain ⟨a,w1,es1,r1,f1',A1,e1,k1,⟨q1,q2⟩,s1⟩:=g w r f (F++F') es hs hA;subst q2;refine ⟨a,w1,es1,r1,f1',s,e1,k1,⟨q1,rfl⟩,?_⟩;rw [<-List.append_assoc] at s1;obtain ⟨f1,f2,d,l1,l2,h1,h2⟩:=zD.1 s1;exact zD.2 ⟨f1,f2,d,l1,l2,h.back h1,h2⟩
def zPR:BinOp->Int->Int->Option Bool
 | .eql,a,b=>some (decide (a=b))
 | .neq,a,b=>some (!decide (a=b))
 | .lss,a,b=>some (decide (a<b))
 | .leq,a,b=>some (decide (a<=b))
 | .gtr,a,b=>some (decide (b<a))
 | .geq,a,b=>some (decide (b<=a))
 | _,_,_=>none
section
variable {P:Program} {E:Env} {X:Xs} {b:Fx} {Post:Value->List HP->Prop} {k:List Item} {L:Tm} {s:List HP} {l rest:List Oper} {dst:Option Nat} {ty:TypeId} {pos:String} {af:Array Edge} {gd:Option (Nat×Bool)}
theorem Calm.binI {e':Operand->Value} {o:Oper} {op:BinOp} {t1 t2:TypeId} {x y:Operand} {kk:IntKind} {a c:Int} {v:Value} (ho:o.op=.binOp op t1 x y t2) (hx:e' x=.int kk a) (hy:e' y=.int kk c) (h:Calm P (Go.binOp op t1 (.int kk a) (.int kk c)) v):Calm P (execOp e' o) (.value v):=by
 unfold execOp;rw [ho];simp only [hx,hy];refine Calm.bind (a:=v) ?_ (Calm.pure _);refine Calm.bind (a:=()) ?_ h;unfold eqGuard;cases op <;> exact Calm.pure _
theorem zON {op:BinOp} {t1 t2:TypeId} {x y:Operand} {kk:IntKind} {a c:Int} {v:Value} (hx:ev L x=some (.int kk a)) (hy:ev L y=some (.int kk c)) (h:Calm P (Go.binOp op t1 (.int kk a) (.int kk c)) v):Cm P L ⟨dst,.binOp op t1 x y t2,ty,pos,af,gd⟩ v:=
 Cm.of rfl (fun e' he=>Calm.binI rfl (he _ _ hx) (he _ _ hy) h)
theorem zMX (t1:TypeId) (kk:IntKind) (a c:Int):Calm P (Go.binOp .add t1 (.int kk a) (.int kk c)) (.int kk (kk.wrap (a+c))):=by
 unfold Go.binOp;simp only [ne_eq,not_true_eq_false,if_false,Op.intArith];exact Calm.pure _
theorem zOb (t1:TypeId) (kk:IntKind) (a c:Int):Calm P (Go.binOp .sub t1 (.int kk a) (.int kk c)) (.int kk (kk.wrap (a-c))):=by
 unfold Go.binOp;simp only [ne_eq,not_true_eq_false,if_false,Op.intArith];exact Calm.pure _
theorem zNs (t1:TypeId) (kk:IntKind) (a c:Int):Calm P (Go.binOp .mul t1 (.int kk a) (.int kk c)) (.int kk (kk.wrap (a*c))):=by
 unfold Go.binOp;simp only [ne_eq,not_true_eq_false,if_false,Op.intArith];exact Calm.pure _
theorem JD {kk:IntKind} {a:Int} (h:kk.min<=a/\a<=kk.max):kk.wrap a=a:=by
 obtain ⟨h1,h2⟩:=h;cases kk <;> simp [IntKind.min,IntKind.max,IntKind.signed,IntKind.bits] at h1 h2 <;> simp [IntKind.wrap,IntKind.signed,IntKind.bits] <;> omega
theorem zK {a:Int} (h : -9223372036854775808<=a/\a<=9223372036854775807):IntKind.i64.wrap a=a:=JD (by simpa [IntKind.min,IntKind.max,IntKind.signed,IntKind.bits] using h)
theorem YR {a:Int} (h:0<=a/\a<=18446744073709551615):IntKind.u64.wrap a=a:=JD (by simpa [IntKind.min,IntKind.max,IntKind.signed,IntKind.bits] using h)
theorem zEz {a:Int} (h:0<=a/\a<=255):IntKind.u8.wrap a=a:=JD (by simpa [IntKind.min,IntKind.max,IntKind.signed,IntKind.bits] using h)
theorem Wn {a:Int} (h:0<=a/\a<=65535):IntKind.u16.wrap a=a:=JD (by simpa [IntKind.min,IntKind.max,IntKind.signed,IntKind.bits] using h)
theorem zPG {a c:Int} (t1:TypeId) (kk:IntKind) (h:c≠0):Calm P (Go.binOp .quo t1 (.int kk a) (.int kk c)) (.int kk (kk.wrap (a.tdiv c))):=by
 unfold Go.binOp;simp only [ne_eq,not_true_eq_false,if_false,Op.intDiv,h];exact Calm.pure _
theorem zOw {a c:Int} (t1:TypeId) (kk:IntKind) (h:c≠0):Calm P (Go.binOp .rem t1 (.int kk a) (.int kk c)) (.int kk (a.tmod c)):=by
 unfold Go.binOp;simp only [ne_eq,not_true_eq_false,if_false,Op.intDiv,h];exact Calm.pure _
theorem zL4 {a c:Int} (t1:TypeId) (kk:IntKind) (h0:0<=a) (h:0<c) (hm:a<=kk.max):Calm P (Go.binOp .quo t1 (.int kk a) (.int kk c)) (.int kk (a / c)):=by
 have:=zPG (P:=P) (a:=a) (c:=c) t1 kk (by omega)
 rw [Int.tdiv_eq_ediv_of_nonneg h0] at this;rwa [JD ⟨?_,?_⟩] at this
 ·have h1:0<=a / c:=Int.ediv_nonneg h0 (by omega)
  have:kk.min<=0:=by cases kk <;> simp [IntKind.min,IntKind.signed,IntKind.bits]
  omega
 ·have:a / c<=a:=Int.ediv_le_self _ h0
  omega
theorem zOA {a c:Int} (t1:TypeId) (kk:IntKind) (h0:0<=a) (h:0<c):Calm P (Go.binOp .rem t1 (.int kk a) (.int kk c)) (.int kk (a%c)):=by
 have:=zOw (P:=P) (a:=a) (c:=c) t1 kk (by omega)
 rwa [Int.tmod_eq_emod_of_nonneg h0] at this
theorem zOv {op:BinOp} {a c:Int} {q:Bool} (t1:TypeId) (kk:IntKind) (h:zPR op a c=some q):Calm P (Go.binOp op t1 (.int kk a) (.int kk c)) (.bool q):=by
 cases op <;> simp only [zPR,Option.some.injEq,reduceCtorEq] at h <;> subst h <;> unfold Go.binOp <;> simp only [ne_eq,not_true_eq_false,if_false,Op.intCmp]
 ·have:(a == c)=decide (a=c):=rfl
  rw [this];exact Calm.pure _
 ·have:(a != c)=!decide (a=c):=rfl
  rw [this];exact Calm.pure _
 all_goals exact Calm.pure _
theorem zPH {y:Int} (t1:TypeId) (kk yk:IntKind) (a:Int) (h:0<=y):Calm P (Go.binOp .shl t1 (.int kk a) (.int yk y)) (.int kk (kk.wrap (a*2^(min y.toNat kk.bits)))):=by
 unfold Go.binOp;simp only [Op.shift,Int.not_lt.2 h,if_false];exact Calm.pure _
theorem zPF {y:Int} (t1:TypeId) (kk yk:IntKind) (a:Int) (h:0<=y):Calm P (Go.binOp .shr t1 (.int kk a) (.int yk y)) (.int kk (a.fdiv (2^(min y.toNat kk.bits)))):=by
 unfold Go.binOp;simp only [Op.shift,Int.not_lt.2 h,if_false];exact Calm.pure _
def zOe (op:BinOp) (kk:IntKind) (x y:Int):Option Int:=
 let a:=BitVec.ofInt kk.bits x
 let b:=BitVec.ofInt kk.bits y
 match op with
 | .and=>some (kk.wrap (a&&& b).toNat)
 | .or=>some (kk.wrap (a ||| b).toNat)
 | .xor=>some (kk.wrap (a ^^^ b).toNat)
 | .andNot=>some (kk.wrap (a&&& ~~~b).toNat)
 | _=>none
theorem zKq {op:BinOp} {a c v:Int} (t1:TypeId) (kk:IntKind) (h:zOe op kk a c=some v):Calm P (Go.binOp op t1 (.int kk a) (.int kk c)) (.int kk v):=by
 cases op <;> simp only [zOe,Option.some.injEq,reduceCtorEq] at h <;> subst h <;> unfold Go.binOp <;> simp only [ne_eq,not_true_eq_false,if_false,Op.intBits] <;> exact Calm.pure _
theorem zMi {op:BinOp} {t1 t2:TypeId} {x y:Operand} {kk yk:IntKind} {a c:Int} {v:Value} (hx:ev L x=some (.int kk a)) (hy:ev L y=some (.int yk c)) (h:Calm P (Go.binOp op t1 (.int kk a) (.int yk c)) v):Cm P L ⟨dst,.binOp op t1 x y t2,ty,pos,af,gd⟩ v:=
 Cm.of rfl (fun e' he=>by
  unfold execOp;simp only [he _ _ hx,he _ _ hy];refine Calm.bind (a:=v) ?_ (Calm.pure _);refine Calm.bind (a:=()) ?_ h;unfold eqGuard;cases op <;> exact Calm.pure _)
theorem zOU {x:Operand} {v:Value} (hx:ev L x=some v):Cm P L ⟨dst,.move x,ty,pos,af,gd⟩ v:=
 Cm.of rfl (fun e' he=>by unfold execOp;simp only [he _ _ hx];exact Calm.pure _)
theorem zKl {x:Operand} {v:Value} (hx:ev L x=some v):Cm P L ⟨dst,.assign x,ty,pos,af,gd⟩ v:=
 Cm.of rfl (fun e' he=>by unfold execOp;simp only [he _ _ hx];exact Calm.pure _)
theorem zO2 {t:TypeId} {x:Operand} {q:Bool} (hx:ev L x=some (.bool q)):Cm P L ⟨dst,.unOp .not t x,ty,pos,af,gd⟩ (.bool (!q)):=
 Cm.of rfl (fun e' he=>by unfold execOp;simp only [he _ _ hx,Op.unary];exact (Calm.pure _).bind (Calm.pure _))
theorem zNH {t:TypeId} {x:Operand} {kk:IntKind} {a v:Int} (hx:ev L x=some (.int kk a)) (hv:zOe .xor kk (if kk.signed then -1 else kk.max) a=some v):Cm P L ⟨dst,.unOp .xor t x,ty,pos,af,gd⟩ (.int kk v):=
 Cm.of rfl (fun e' he=>by
  unfold execOp;simp only [he _ _ hx,Op.unary];refine Calm.bind (a:=.int kk v) ?_ (Calm.pure _);simp only [zOe,Option.some.injEq] at hv;subst hv;exact Calm.pure _)
theorem zFf {t1 t2:TypeId} {x:Operand} {kk k2:IntKind} {a:Int} {d1:TypeDesc} (h1:TyU P t1 d1) (h2:TyU P t2 (.int k2)) (hx:ev L x=some (.int kk a)):Cm P L ⟨dst,.convert t1 t2 x,ty,pos,af,gd⟩ (.int k2 (k2.wrap a)):=
 Cm.of rfl (fun e' he=>by
  unfold execOp;simp only [he _ _ hx];refine Calm.bind (a:=.int k2 (k2.wrap a)) ?_ (Calm.pure _);unfold convert;refine (Calm.underlying h1.h).bind ((Calm.underlying h2.h).bind ?_);exact Calm.pure _)
theorem zOc {c x y:Operand} {q:Bool} {v1 v2:Value} (hc:ev L c=some (.bool q)) (hx:ev L x=some v1) (hy:ev L y=some v2):Cm P L ⟨dst,.pick c x y,ty,pos,af,gd⟩ (if q then v1 else v2):=
 Cm.of rfl (fun e' he=>by
  unfold execOp;simp only [he _ _ hx,he _ _ hy,he _ _ hc,asBool];exact (Calm.pure _).bind (Calm.pure _))
theorem zHc {x:Operand} {a:Addr} (hx:ev L x=some (.pointer (some a))):Cm P L ⟨dst,.nilCheck x,ty,pos,af,gd⟩ (.pointer (some a)):=
 Cm.of rfl (fun e' he=>by unfold execOp;simp only [he _ _ hx];exact Calm.pure _)
theorem zIS {x:Operand} {i:Nat} {vs:Array Value} {v:Value} (hx:ev L x=some (.tuple vs)) (hv:vs.toList[i]?=some v):Cm P L ⟨dst,.extract x i,ty,pos,af,gd⟩ v:=
 Cm.of rfl (fun e' he=>by unfold execOp;simp only [he _ _ hx];exact (Calm.extract (by simpa using hv)).bind (Calm.pure _))
theorem Xt {t:TypeId} {x:Operand} {i off:Nat} {ft:TypeId} {a:Addr} (h:TyF P t i off ft) (hx:ev L x=some (.pointer (some a))):Cm P L ⟨dst,.fieldAddr t x i,ty,pos,af,gd⟩ (.pointer (some (a.add off))):=
 Cm.of rfl (fun e' he=>by unfold execOp;simp only [he _ _ hx];exact (Calm.fieldAt h).bind (Calm.pure _))
theorem zKp {t:TypeId} {x:Operand} {i off:Nat} {ft:TypeId} {z:List Value} {cs:Array Value} {v:Value} (h:TyF P t i off ft) (h1:TyN P ft false 1 z) (hx:ev L x=some (.agg cs)) (hv:cs.toList[off]?=some v):Cm P L ⟨dst,.field t x i,ty,pos,af,gd⟩ v:=
 Cm.of rfl (fun e' he=>by unfold execOp;simp only [he _ _ hx];exact (Calm.field h (Calm.part1 h1 (by simpa using hv))).bind (Calm.pure _))
theorem zKm {t:TypeId} {x:Operand} {i off sz:Nat} {ft:TypeId} {z:List Value} {cs:Array Value} (h:TyF P t i off ft) (h1:TyN P ft true sz z) (hx:ev L x=some (.agg cs)):Cm P L ⟨dst,.field t x i,ty,pos,af,gd⟩ (.agg (cs.extract off (off+sz))):=
 Cm.of rfl (fun e' he=>by unfold execOp;simp only [he _ _ hx];exact (Calm.field h (Calm.partN h1)).bind (Calm.pure _))
theorem zCS {t e:TypeId} {agg:Bool} {sz:Nat} {z:List Value} {x y:Operand} {a:Addr} {len cap:Nat} {kk:IntKind} {i:Int} (h:TyU P t (.slice e)) (he:TyN P e agg sz z) (hx:ev L x=some (.slice (some a) len cap)) (hy:ev L y=some (.int kk i)) (h0:0<=i) (h1:i<len):Cm P L ⟨dst,.indexAddr t x y,ty,pos,af,gd⟩ (.pointer (some (a.add (i.toNat*sz)))):=
 Cm.of rfl (fun e' he'=>by unfold execOp;simp only [he' _ _ hx,he' _ _ hy];exact (Calm.indexSlice h he h0 h1).bind (Calm.pure _))
theorem VF {t e:TypeId} {agg:Bool} {sz:Nat} {z:List Value} {x y:Operand} {a:Addr} {len:Nat} {kk:IntKind} {i:Int} (h:TyU P t (.array len e)) (he:TyN P e agg sz z) (hx:ev L x=some (.pointer (some a))) (hy:ev L y=some (.int kk i)) (h0:0<=i) (h1:i<len):Cm P L ⟨dst,.indexAddr t x y,ty,pos,af,gd⟩ (.pointer (some (a.add (i.toNat*sz)))):=
 Cm.of rfl (fun e' he'=>by unfold execOp;simp only [he' _ _ hx,he' _ _ hy];exact (Calm.indexArr h he h0 h1).bind (Calm.pure _))
theorem zDq {t e:TypeId} {z:List Value} {x y:Operand} {cs:Array Value} {len:Nat} {kk:IntKind} {i:Int} {v:Value} (h:TyU P t (.array len e)) (he:TyN P e false 1 z) (hx:ev L x=some (.agg cs)) (hy:ev L y=some (.int kk i)) (h0:0<=i) (h1:i<len) (hv:cs.toList[i.toNat]?=some v):Cm P L ⟨dst,.index t x y,ty,pos,af,gd⟩ v:=
 Cm.of rfl (fun e' he'=>by unfold execOp;simp only [he' _ _ hx,he' _ _ hy];exact (Calm.indexAgg h he h0 h1 (Calm.part1 he (by simpa using hv))).bind (Calm.pure _))
end
end Go.KL
end
