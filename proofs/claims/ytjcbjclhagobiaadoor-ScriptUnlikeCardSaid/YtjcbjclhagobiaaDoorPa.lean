/- What arguments read as, in the words of the program logic; what stands behind a call. -/
import Derived.Test.YtjcbjclhagobiaaDoorKp
import Derived.Test.YtjcbjclhagobiaaDoorKr
import Derived.ProofKit
import Derived.Carry
import Derived.ChangeArms
import Derived.Deep.Slices
namespace Go.KL
open Go Go.ChangeShapes Go.RowKit Go.Deep

section
variable {H : Type} {enc : TypeId × Value → H} {P : Program} {w : World} {base : Nat} {spare : Nat → Bool} {held : Bool}
/-- Bytes. -/
theorem read_bytes {t e : TypeId} {fuel : Nat} {cs : List Value} {x : DataW H × List MemPlace} (ht : P.underlying t = some (.slice e)) (he : P.underlying e = some (.int .u8)) (hc : P.cellsOf e = 1) (h : DataW.trod enc P w base spare held fuel t cs = some x) :
    ∃ (b : Option Addr) (cap : Nat) (l : List Nat), cs = [.slice b l.length cap] ∧ (∀ x ∈ l, x < 256) ∧ ∀ f, (rsl b cap 1 (l.map u8e)).p w.hp f := by
  rcases open_slice1 ht hc h with ⟨rfl, _⟩ | ⟨a, len, cap, m, n, V, D, Pl, rfl, hb, hl, hm, hmm, _, hx⟩
  · exact ⟨none, 0, [], rfl, (fun _ h => by cases h), fun f => ⟨⟨(fun e h => by cases h), (fun e h => by cases h)⟩, Nat.le_refl _, (fun _ => rfl), (fun a h => by cases h)⟩⟩
  · have hlm : len ≤ m := by rw [hmm]; split <;> omega
    have hv : ∀ i, i < len → ∃ k : Nat, k < 256 ∧ V i = .int .u8 (k : Int) := fun i hi => by
      obtain ⟨k, h1, _, h2⟩ := DataW.trod_int he (hx i (by omega)).2
      simp only [Lit.wf, IntKind.min, IntKind.max, IntKind.signed, IntKind.bits] at h2
      simp at h2
      have h1 : V i = .int .u8 k := by simpa using h1
      exact ⟨k.toNat, by omega, by rw [h1, Int.toNat_of_nonneg (by omega)]⟩
    let g : Nat → Nat := fun i => match V i with | .int _ k => k.toNat | _ => 0
    have hg : ∀ i, i < len → g i < 256 ∧ V i = .int .u8 (g i : Int) := fun i hi => by
      obtain ⟨k, h1, h2⟩ := hv i hi
      have : g i = k := by show (match V i with | .int _ k => k.toNat | _ => 0) = k; rw [h2]; simp
      rw [this]; exact ⟨h1, h2⟩
    refine ⟨some a, cap, (List.range len).map g, by simp, fun x hx => ?_, fun f => ⟨u8_ok _, by simpa using hl, (fun h => by cases h), fun a' ha j v hj => ?_⟩⟩
    · obtain ⟨i, hi, rfl⟩ := List.mem_map.1 hx
      exact (hg i (List.mem_range.1 hi)).1
    · cases ha
      have hfl : (((List.range len).map g).map u8e).flatten = (List.range len).map fun i => Value.int .u8 (g i : Int) := by
        rw [List.map_map]
        generalize List.range len = R
        induction R with
        | nil => rfl
        | cons r R ih => simp only [List.map_cons, List.flatten_cons, ih]; rfl
      rw [hfl, List.getElem?_map] at hj
      cases hr : (List.range len)[j]? with
      | none => rw [hr] at hj; cases hj
      | some i =>
        obtain ⟨hj1, rfl⟩ := List.getElem?_eq_some_iff.1 hr
        simp only [List.length_range] at hj1
        simp only [List.getElem_range] at hj hr ⊢
        rw [hr] at hj
        cases hj
        show w.cell? (a.add j) = _
        rw [(hx j (by omega)).1, (hg j hj1).2]
end

theorem seps {A : HP} {s : List HP} {r : Hp} (h : A.p r Hp.emp) (k : sep s r Hp.emp) : sep (A :: s) r Hp.emp := ⟨Hp.emp, Hp.emp, Hp.emp_disj _, Hp.emp_le _, Hp.emp_le _, h, k⟩
/-- What stands behind a call that answers true, and leaves what was there. -/
theorem post_true {H : Type} {enc : TypeId × Value → H} {P : Program} {f : Func} {s : ChangeSpec} {apart fresh handsOn : Bool} {W W' : World} {args : Array Value} {t : TypeId} {ds : List (DataW H)} {before : List MemPlace}
    (hl : laidOutB P = true) (hts : f.params.toList.all (fun t => P.readableRec t && decide (t < P.types.size)) = true) (hsv : s.vars = []) (hr : f.resultTypes = #[t]) (ht : P.underlying t = some .bool)
    (hW : DataW.Whole enc P f.params.toList s.vars apart W args.toList ds [] before) (hf : s.fn H ds = { results := [.lit (.bool true)], args := ds }) (hb : Below W.heap.size W W') :
    s.post enc P f apart fresh handsOn false W args (.bool true) W' := by
  have hlt := hW.lt
  obtain ⟨p, q, h1, h2, rfl, hz, hn⟩ := hW
  have h2' : q = [] := by rw [hsv] at h2; exact h2
  subst h2'
  have all : ∀ {ts : List TypeId} {vs : List Value} {ds : List (DataW H)} {p : List MemPlace}, ts.all (fun t => P.readableRec t && decide (t < P.types.size)) = true → (∀ x ∈ p, x.block < W.heap.size) → DataW.TrodAll enc P W 0 (fun _ => true) true ts vs ds p → DataW.TrodAll enc P W' 0 (fun b => decide (b < W.heap.size)) true ts vs ds p := by
    intro ts
    induction ts with
    | nil => intro vs ds p _ _ h; cases vs <;> cases ds <;> first | exact h | exact h.elim
    | cons t ts ih =>
      intro vs ds p ha hp h
      cases vs with
      | nil => cases ds <;> exact h.elim
      | cons v vs =>
        cases ds with
        | nil => exact h.elim
        | cons d ds =>
          obtain ⟨p1, p2, k1, k2, rfl⟩ := h
          simp only [List.all_cons, Bool.and_eq_true] at ha
          exact ⟨p1, p2, Below.trod hl ha.1.1 (of_decide_eq_true ha.1.2) k1 hb (fun x hx => hp x (by simp [hx])), ih (by simpa using ha.2) (fun x hx => hp x (by simp [hx])) k2, rfl⟩
  refine ⟨ds, [], p ++ [], [], p, [], ⟨p, [], h1, h2, rfl, hz, hn⟩, ?_, ?_, ?_, hb.frame _, fun h => by cases h⟩
  · rw [List.append_nil, hf, hr]
    exact trodAll_mk1 (shut_bool ht true)
  · rw [List.append_nil, hf]
    exact all hts (fun x hx => hlt x (by simp [hx])) h1
  · rw [List.append_nil, hf, hsv]; exact rfl
theorem Ran.below {W W' : World} {E : Env} {r f : Hp} (h : Ran W Hp.emp W' Hp.emp) (hs : Sat E W' r f) (h1 : E.os = W.os) (h2 : E.tape = W.tape) (h3 : E.out = W.output) : Below W.heap.size W W' :=
  ⟨hs.os.trans h1, hs.tape.trans h2, hs.out.trans h3, h.size, fun k hk => h.keep k hk rfl⟩
end Go.KL
