/- Texts joined by a program of ours: Nw. -/
import Derived.Test.YtjcbjclhagobiaaGreatJap
import Derived.Test.YtjcbjclhagobiaaGreatJaq
set_option linter.all false
section
namespace Go.Proofs.YtjcbjclhagobiaaGreat
open Go Go.KL Go.KM
theorem zMG {x:Int} {m:Nat} (hm:m<9223372036854775808):0<=XX .i64 x (m:Int)/\XX .i64 x (m:Int)<=(m:Int):=by
 unfold XX;have h:(BitVec.ofInt 64 x&&& BitVec.ofInt 64 (m:Int)).toNat<=m:=by
  rw [BitVec.toNat_and,YK,BitVec.toNat_ofNat,Nat.mod_eq_of_lt (by omega)]
  exact Nat.and_le_right
 have e:IntKind.i64.wrap (((BitVec.ofInt 64 x&&& BitVec.ofInt 64 (m:Int)).toNat:Nat):Int)=_:=zK (by omega)
 show 0<=IntKind.i64.wrap (((BitVec.ofInt 64 x&&& BitVec.ofInt 64 (m:Int)).toNat:Nat):Int)/\IntKind.i64.wrap (((BitVec.ofInt 64 x&&& BitVec.ofInt 64 (m:Int)).toNat:Nat):Int)<=_;rw [e];omega
theorem zCN {h:HSt} {p:Pf} {e:Int} {m':Prs}:(YL h p e m').h.tmost=h.tmost:=by
 unfold YL;split <;> rfl
theorem zGb (h:HSt) (a:Ad):(hLook h a).h.tmost=h.tmost:=by
 unfold hLook;split <;> rfl
theorem zAC (h:HSt) (n:Int):(hPick h n).h.tmost=h.tmost:=by
 unfold hPick;split
 ·rfl
 ·split
  ·rfl
  ·split <;> rfl
theorem zG7 (h:HSt) (x:Pf×Int):(Xu h x).1.tmost=h.tmost:=by
 unfold Xu;split <;> rfl
theorem zA4:∀ {l:Prs} {h:HSt},(YY Vc h l).1.tmost=h.tmost
 | [],_=>rfl
 | x::l,h=>(zA4 (l:=l) (h:=(Vc h x).1)).trans (zG7 h x)
theorem zDt (h:HSt) (k n:Int):(pfPick h k n).h.tmost=h.tmost:=by
 unfold pfPick;split
 ·exact zAC h k
 ·exact (zA4 (h:=(hPick h k).h)).trans (zAC h k)
theorem zBx (h:HSt) (l:List Nat):(vN h l).1.tmost=h.tmost:=by
 show (judgeP h l).1.tmost=h.tmost;rcases judgeP_h h l with e|e <;> rw [e];exact zGb _ _
theorem zIX (e:En) (s:Sp):(eStep e s).1.h.tmost=e.h.tmost:=by
 unfold eStep;split;· exact zBx _ _
 split;· exact zCN
 split;· exact zCN
 split;· rfl
 split;· rfl
 split;· exact zDt _ _ _
 split;· rfl
 split;· exact zA4
 split;· rfl
 split;· rfl
 rfl
theorem zBs:∀ {l:List Sp} {e:En},(wU e l).1.h.tmost=e.h.tmost
 | [],_=>rfl
 | s::l,e=>(zBs (l:=l) (e:=(eStep e s).1)).trans (zIX e s)
theorem zDK:∀ {l:List Sp} {e:En},EnOk e->HopH e.h.m->(∀ s∈l,s.pkt.length<=1000000)->HopH (wU e l).1.h.m
 | [],_,_,g,_=>g
 | s::l,e,he,g,hl=>zDK (l:=l) (he.step s (hl s (by simp))) (g.step he.h s) fun s hs=>hl s (by simp [hs])
end Go.Proofs.YtjcbjclhagobiaaGreat
end
