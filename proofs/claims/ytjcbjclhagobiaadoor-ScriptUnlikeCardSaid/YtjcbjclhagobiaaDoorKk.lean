/- Own program logic, part 11: loops. -/
import Derived.Test.YtjcbjclhagobiaaDoorKj
namespace Go.KL
open Go

/-- What is known of the slots is known of others too. -/
inductive SubA : Tm → Tm → Prop
  | nil {L : Tm} : SubA [] L
  | cons {t : Nat} {v : Value} {Lj L : Tm} (h : look L t = some v) (g : SubA Lj L) : SubA ((t, v) :: Lj) L
theorem SubA.h {Lj L : Tm} (h : SubA Lj L) : ∀ t v, look Lj t = some v → look L t = some v := by
  induction h with
  | nil => intro t v e; cases e
  | @cons d v Lj L h g ih =>
    intro t u e
    rw [look_cons] at e
    by_cases c : d = t
    · subst c; simp only [if_true] at e; cases e; exact h
    · simp only [c, if_false] at e; exact ih t u e
theorem SubA.eq {t : Nat} {v v' : Value} {Lj L : Tm} (h : look L t = some v') (e : v' = v) (g : SubA Lj L) : SubA ((t, v) :: Lj) L := .cons (e ▸ h) g
/-- What is owned is owned as said. -/
structure Into (s t : List HP) : Prop where
  h : ∀ r f, sep s r f → sep t r f
theorem Into.of {s t F : List HP} (h : Sels s t F) : Into s t := ⟨fun r f hs => by
  obtain ⟨f1, f2, d, l1, l2, h1, h2⟩ := sep_append.1 (h.out hs)
  exact sep_mono (Hp.le_refl _) l1 h1⟩
theorem Into.refl {s : List HP} : Into s s := ⟨fun _ _ h => h⟩
section
variable {P : Program} {E : Env} {X : Xs} {b : Fx} {Post : Value → List HP → Prop} {k : List Item} {L : Tm} {s : List HP}
theorem unroll {body : Code} (g : W P E X b Post (.code body :: .inLoop body :: k) L s) : W P E X b Post (.code (.loop body) :: k) L s := W.ctl (fun _ _ _ _ => rfl) g
theorem again {body : Code} (g : W P E X b Post (.code body :: .inLoop body :: k) L s) : W P E X b Post (.inLoop body :: k) L s := W.ctl (fun _ _ _ _ => rfl) g
theorem loop {ι : Type} (m : ι → Nat) (C : ι → Prop) (Lf : ι → Tm) (sf : ι → List HP) {body : Code} (i0 : ι) (hC : C i0)
    (g : ∀ i, C i → (∀ j, C j → m j < m i → W P E X b Post (.inLoop body :: k) (Lf j) (sf j)) → W P E X b Post (.code body :: .inLoop body :: k) (Lf i) (sf i))
    (hL : SubA (Lf i0) L := by ((try dsimp only); repeat (first | (with_reducible exact SubA.nil) | ((with_reducible apply SubA.cons); (case h => exact rfl)))))
    (hs : Into s (sf i0) := by (first | with_reducible exact Into.refl | ((try dsimp only); (try simp only [List.cons_append, List.nil_append]); (with_reducible apply Into.of); repeat (first | (with_reducible exact Sels.nil) | ((with_reducible apply Sels.dupI); (case h => (first | (with_reducible exact Sel.here) | ((repeat (first | (with_reducible exact Sel.here) | (with_reducible apply Sel.there))); done) | (repeat (first | (exact Sel.here) | (apply Sel.there)))))) | ((with_reducible apply Sels.cons); (case h => (first | (with_reducible exact Sel.here) | ((repeat (first | (with_reducible exact Sel.here) | (with_reducible apply Sel.there))); done) | (repeat (first | (exact Sel.here) | (apply Sel.there)))))))))) :
    W P E X b Post (.code (.loop body) :: k) L s := W.loop m C Lf sf i0 hC hL.h hs.h g
/-- The round's end. -/
theorem next {Lj : Tm} {sj : List HP} {t : List Item} (g : W P E X b Post t Lj sj)
    (hL : SubA Lj L := by ((try dsimp only); repeat (first | (with_reducible exact SubA.nil) | ((with_reducible apply SubA.cons); (case h => exact rfl)) | ((with_reducible apply SubA.eq); (case h => exact rfl); (case e => first | (congr 1; omega) | (simp; omega))))))
    (hs : Into s sj := by (first | with_reducible exact Into.refl | ((try dsimp only); (try simp only [List.cons_append, List.nil_append]); (with_reducible apply Into.of); repeat (first | (with_reducible exact Sels.nil) | ((with_reducible apply Sels.dupI); (case h => (first | (with_reducible exact Sel.here) | ((repeat (first | (with_reducible exact Sel.here) | (with_reducible apply Sel.there))); done) | (repeat (first | (exact Sel.here) | (apply Sel.there)))))) | ((with_reducible apply Sels.cons); (case h => (first | (with_reducible exact Sel.here) | ((repeat (first | (with_reducible exact Sel.here) | (with_reducible apply Sel.there))); done) | (repeat (first | (exact Sel.here) | (apply Sel.there)))))))))) :
    W P E X b Post t L s := W.weaken hL.h hs.h g
end
end Go.KL
