/- What Decode does: bytes as a script. -/
import Derived.Test.YtjcbjclhagobiaaDoorCd
namespace Go.KL
open Go
/-- Rows of bytes that are never written again. -/
def rall (l : List (Option Addr × Nat × List Nat)) : HP :=
  ro (fun r => ∀ x ∈ l, (rsl x.1 x.2.1 1 (x.2.2.map u8e)).p r Hp.emp) fun h g x hx => (rsl x.1 x.2.1 1 (x.2.2.map u8e)).mono h (g x hx)
instance {l : List (Option Addr × Nat × List Nat)} : (rall l).Dup := ⟨fun h => h⟩
theorem Into.rallNil {s : List HP} : Into s (rall [] :: s) := ⟨fun r f h => sep_dup (A := rall []) (fun h => h) (f' := f) (fun x hx => by cases hx) h⟩
theorem Into.rallSnoc {s F F2 : List HP} {l : List (Option Addr × Nat × List Nat)} {b : Option Addr} {c : Nat} {m : List Nat} (h1 : Sel s (rall l) F) (h2 : Sel s (KL.rsl b c 1 (m.map u8e)) F2) : Into s (rall (l ++ [(b, c, m)]) :: s) := ⟨fun r f h => by
  obtain ⟨f1, f2, d, l1, l2, a1, _⟩ := h1.out h
  obtain ⟨g1, g2, d', m1, m2, a2, _⟩ := h2.out h
  refine sep_dup (A := rall (l ++ [(b, c, m)])) (fun h => h) (f' := f) (fun x hx => ?_) h
  rcases List.mem_append.1 hx with hx | hx
  · exact a1 x hx
  · simp at hx; subst hx; exact a2⟩
theorem Into.rallGet {s F : List HP} {l : List (Option Addr × Nat × List Nat)} {b : Option Addr} {c : Nat} {m : List Nat} (hm : (b, c, m) ∈ l) (h1 : Sel s (rall l) F) : Into s (KL.rsl b c 1 (m.map u8e) :: s) := ⟨fun r f h => by
  obtain ⟨f1, f2, d, l1, l2, a1, _⟩ := h1.out h
  exact sep_dup (A := KL.rsl b c 1 (m.map u8e)) (fun h => h) (f' := f) (a1 _ hm) h⟩
theorem rsnoc {s F F2 : List HP} {l : List (Option Addr × Nat × List Nat)} (b : Option Addr) (c : Nat) (m : List Nat) (h1 : Sel s (rall l) F := by (repeat (first | (with_reducible exact Sel.here) | (with_reducible apply Sel.there)))) (h2 : Sel s (rsl b c 1 (m.map u8e)) F2 := by (repeat (first | (with_reducible exact Sel.here) | (with_reducible apply Sel.there)))) : Into s (rall (l ++ [(b, c, m)]) :: s) := .rallSnoc h1 h2
theorem Into.nilB {s : List HP} : Into s (KL.rsl none 0 1 (([] : List Nat).map u8e) :: s) := Into.nilR
theorem Does.frame {P : Program} {E : Env} {X : Xs} {f : FuncId} {args : List Value} {pre F : List HP} {Post : Value → List HP → Prop} (h : Does P E X f args pre Post) : Does P E X f args (pre ++ F) (fun v t => ∃ t', Post v t' ∧ t = t' ++ F) := by
  obtain ⟨fnc, body, h1, h2, h3, h4⟩ := h
  refine ⟨fnc, body, h1, h2, h3, fun K cs F' hr tmps r f hok hs => ?_⟩
  refine h4 K cs (F ++ F') (fun fr v s' t r f hl he hp hss => ?_) tmps r f hok (by rw [← List.append_assoc]; exact hs)
  obtain ⟨l1, l2, l3, l4, fnc', l5, l6⟩ := hl
  refine hr fr v (s' ++ F) (t ++ F) r f ⟨l1, l2, l3, l4, fnc', l5, ?_⟩ (fun r f hq => ?_) ⟨t, hp, rfl⟩ (by rw [List.append_assoc]; exact hss)
  · intro w r f F2 es hsat hsep
    obtain ⟨a, w', es', r', f', A', e1, k1, ⟨q1, q2⟩, s1⟩ := l6 w r f (F ++ F2) es hsat (by rw [← List.append_assoc]; exact hsep)
    exact ⟨a, w', es', r', f', s' ++ F, e1, k1, ⟨q1, rfl⟩, by rw [q2] at s1; rw [List.append_assoc]; exact s1⟩
  · obtain ⟨f1, f2, d, l1, l2, h1, h2⟩ := sep_append.1 hq
    exact sep_append.2 ⟨f1, f2, d, l1, l2, he _ _ h1, h2⟩
theorem Does.framed {P : Program} {E : Env} {X : Xs} {f : FuncId} {args : List Value} {pre F : List HP} {Post Post' : Value → List HP → Prop} (F0 : List HP) (h : Does P E X f args pre Post) (he : pre ++ F0 = F) (g : ∀ v t, Post v t → Post' v (t ++ F0)) : Does P E X f args F Post' := by
  subst he
  exact h.frame.post fun v t ⟨t', h1, h2⟩ => by rw [h2]; exact g v t' h1
/-- More is given, less is told. -/
theorem Does.conv {P : Program} {E : Env} {X : Xs} {f : FuncId} {args : List Value} {pre pre' : List HP} {Post Post' : Value → List HP → Prop} (h : Does P E X f args pre Post) (hi : Into pre' pre) (g : ∀ v t, Post v t → ∃ t', Into t t' ∧ Post' v t') : Does P E X f args pre' Post' := by
  obtain ⟨fnc, body, h1, h2, h3, h4⟩ := h
  refine ⟨fnc, body, h1, h2, h3, fun K cs F' hr tmps r f hok hs => ?_⟩
  refine h4 K cs F' (fun fr v s' t r f hl he hp hss => ?_) tmps r f hok ((hi.app (F := F')).h _ _ hs)
  obtain ⟨t', k1, k2⟩ := g v t hp
  exact hr fr v s' t' r f hl (fun r f hq => k1.h _ _ (he _ _ hq)) k2 hss
end Go.KL
namespace Go.Proofs.YtjcbjclhagobiaaDoor
open Go Go.KL Go.KM
variable {E : Env} {X : Xs}

/-- A step, as it is told. -/
structure StepM where
  what : Int
  hi : Nat
  lo : Nat
  v6 : Bool
  pn : Int
  hop : Int
  n : Int
  packet : List Nat
abbrev StepV := StepM × Option Addr × Nat
def StepV.cells (s : StepV) : List Value := [.int .i64 s.1.what, u64 s.1.hi, u64 s.1.lo, .bool s.1.v6, .int .i64 s.1.pn, .int .i64 s.1.hop, .int .i64 s.1.n, .slice s.2.1 s.1.packet.length s.2.2]
def StepV.row (s : StepV) : Option Addr × Nat × List Nat := (s.2.1, s.2.2, s.1.packet)
def rdPart (w : Nat) (l : List Nat) : StepM × List Nat :=
  let z : StepM := ⟨w, 0, 0, false, 0, 0, 0, []⟩
  let p := (rdPfx l).1
  let r := (rdPfx l).2
  match w with
  | 0 => ({ z with packet := l.tail.take (l.headD 0) }, l.tail.drop (l.headD 0))
  | 1 => ({ z with hi := p.hi, lo := p.lo, v6 := p.v6, pn := p.n, hop := (numN r 2 : Nat) }, r.drop 2)
  | 2 => ({ z with hi := p.hi, lo := p.lo, v6 := p.v6, pn := p.n }, r)
  | 5 => ({ z with n := (l.headD 0 : Nat) }, l.tail)
  | 6 => ({ z with hi := p.hi, lo := p.lo, v6 := p.v6, pn := p.n }, r)
  | 7 => ({ z with hi := p.hi, lo := p.lo, v6 := p.v6, pn := p.n, n := (r.headD 0 : Nat) }, r.tail)
  | _ => (z, l)
def partF : Nat → Nat
  | 0 => 21
  | 1 => 22
  | 2 => 23
  | 5 => 24
  | 6 => 23
  | 7 => 25
  | _ => 20
def newStep (w : Int) : List Value := [.int .i64 w, u64 0, u64 0, .bool false, .int .i64 0, .int .i64 0, .int .i64 0, .slice none 0 0]
theorem part_spec (w : Nat) (hw : w < 10) (rb sb : Nat) (T T2 : TypeId) (l : List Nat) (hl : ∀ x ∈ l, x < 256) (base : Option Addr) (cap : Nat) : Does PR E X (partF w) [.pointer (some ⟨rb, 0, none⟩), .pointer (some ⟨sb, 0, none⟩)] [box rb [.slice base l.length cap] T, rsl base cap 1 (l.map u8e), box sb (newStep w) T2]
    (fun v t => ∃ base' cap' pb pc, t = [box rb [.slice base' (rdPart w l).2.length cap'] T, rsl base' cap' 1 ((rdPart w l).2.map u8e), box sb (StepV.cells ((rdPart w l).1, pb, pc)) T2, rsl pb pc 1 ((rdPart w l).1.packet.map u8e)]) := by
  have hz : ∀ (a b c : HP), Into [a, b, c] [a, b, c, rsl none 0 1 (([] : List Nat).map u8e)] := fun a b c => ⟨fun r f h => by
    have := Into.nilB.h r f h
    exact (Sel.there (Sel.there (Sel.there Sel.here)) : Sel [a, b, c, rsl none 0 1 (([] : List Nat).map u8e)] (rsl none 0 1 (([] : List Nat).map u8e)) [a, b, c]).back this⟩
  have nn : ∀ w : Nat, partF w = 20 → (rdPart w l).1 = ⟨w, 0, 0, false, 0, 0, 0, []⟩ → (rdPart w l).2 = l → Does PR E X (partF w) [.pointer (some ⟨rb, 0, none⟩), .pointer (some ⟨sb, 0, none⟩)] [box rb [.slice base l.length cap] T, rsl base cap 1 (l.map u8e), box sb (newStep w) T2]
    (fun v t => ∃ base' cap' pb pc, t = [box rb [.slice base' (rdPart w l).2.length cap'] T, rsl base' cap' 1 ((rdPart w l).2.map u8e), box sb (StepV.cells ((rdPart w l).1, pb, pc)) T2, rsl pb pc 1 ((rdPart w l).1.packet.map u8e)]) := fun w h1 h2 h3 => by
    rw [h1, h2, h3]
    exact ((nothing_spec _ _).framed (Post' := fun v t => t = [box rb [.slice base l.length cap] T, rsl base cap 1 (l.map u8e), box sb (newStep w) T2]) _ rfl fun v t e => by rw [e]; rfl).conv .refl fun v t e => by subst e; exact ⟨_, hz _ _ _, base, cap, none, 0, rfl⟩
  obtain rfl | rfl | rfl | rfl | rfl | rfl | rfl | rfl | rfl | rfl : w = 0 ∨ w = 1 ∨ w = 2 ∨ w = 3 ∨ w = 4 ∨ w = 5 ∨ w = 6 ∨ w = 7 ∨ w = 8 ∨ w = 9 := by omega
  · exact (packet_spec rb sb T T2 l hl base cap _ _ _ _ _ _ _ _).post fun v t ⟨b', c', pb, pc, e⟩ => ⟨b', c', pb, pc, e⟩
  · exact (update_spec rb sb T T2 l hl base cap _ _ _ _ _ _ _ _).conv .refl fun v t ⟨b', c', e⟩ => by subst e; exact ⟨_, hz _ _ _, b', c', none, 0, rfl⟩
  · exact (place_spec rb sb T T2 l hl base cap _ _ _ _ _ _ _ _).conv .refl fun v t ⟨b', c', e⟩ => by subst e; exact ⟨_, hz _ _ _, b', c', none, 0, rfl⟩
  · exact nn _ rfl rfl rfl
  · exact nn _ rfl rfl rfl
  · exact (pick_spec rb sb T T2 l hl base cap _ _ _ _ _ _ _ _).conv .refl fun v t ⟨b', c', e⟩ => by subst e; exact ⟨_, hz _ _ _, b', c', none, 0, rfl⟩
  · exact (place_spec rb sb T T2 l hl base cap _ _ _ _ _ _ _ _).conv .refl fun v t ⟨b', c', e⟩ => by subst e; exact ⟨_, hz _ _ _, b', c', none, 0, rfl⟩
  · exact (fetch_spec rb sb T T2 l hl base cap _ _ _ _ _ _ _ _).conv .refl fun v t ⟨b', c', e⟩ => by subst e; exact ⟨_, hz _ _ _, b', c', none, 0, rfl⟩
  · exact nn _ rfl rfl rfl
  · exact nn _ rfl rfl rfl
def partV : List Value := [.func (.func 21) #[] #[], .func (.func 22) #[] #[], .func (.func 23) #[] #[], .func (.func 20) #[] #[], .func (.func 20) #[] #[], .func (.func 24) #[] #[], .func (.func 23) #[] #[], .func (.func 25) #[] #[], .func (.func 20) #[] #[], .func (.func 20) #[] #[]]
theorem parts_spec : Does PR E X 14 [] [] (fun v t => v = .agg partV.toArray ∧ t = []) := by
  refine Does.of 7 inferInstance rfl (by decide) rfl ?_
  refine auto ?_
  refine alloc fun b1 => ?_
  refine auto ?_
  refine ret ?_
  exact ends ⟨rfl, rfl⟩
/-- Numbers of eight bytes. -/
def rdNums (l : List Nat) : Nat → List Nat
  | 0 => []
  | k + 1 => rdNums l k ++ [numN (l.drop (8 * k)) 8]
@[simp] theorem rdNums_len {l : List Nat} : ∀ {k : Nat}, (rdNums l k).length = k
  | 0 => rfl
  | k + 1 => by simp [rdNums, rdNums_len (k := k)]
def u64e (x : Nat) : List Value := [u64 x]
/-- Steps, as long as there are bytes. -/
def rdSteps : Nat → List Nat → List StepM
  | 0, _ => []
  | _ + 1, [] => []
  | k + 1, a :: l => (rdPart (a % 10) l).1 :: rdSteps k (rdPart (a % 10) l).2
structure CfgM where
  cap : Int
  policy : Int
  bound : Int
  n : Int
  h : Int
  fetch : Int
  presets : List Nat
def CfgM.cells (c : CfgM) (base : Option Addr) (cap : Nat) : List Value := [.int .i64 c.cap, .int .i64 c.policy, .int .i64 c.bound, .int .i64 c.n, .int .i64 c.h, .int .i64 c.fetch, .slice base c.presets.length cap]
def byteAt (l : List Nat) (i : Nat) : Nat := (l.drop i).headD 0
def rdCfg (l : List Nat) : CfgM := ⟨(byteAt l 0 % 32 : Nat), (byteAt l 1 % 2 : Nat), (byteAt l 2 % 32 : Nat), (byteAt l 3 : Nat), (byteAt l 4 : Nat), (byteAt l 5 % 9 : Nat), rdNums (l.drop 7) (byteAt l 6 % 18)⟩
def rdScript (l : List Nat) : List StepM := rdSteps 4096 (l.drop (7 + 8 * (byteAt l 6 % 18)))
theorem rdPart_len (w : Nat) (l : List Nat) : (rdPart w l).2.length ≤ l.length := by
  have hp : (rdPfx l).2.length ≤ l.length := by
    unfold rdPfx; simp only [List.length_drop]; omega
  unfold rdPart
  split <;> simp only [List.length_drop, List.length_tail] <;> omega
theorem rdPart_lt {l : List Nat} (hl : ∀ x ∈ l, x < 256) (w : Nat) : ∀ x ∈ (rdPart w l).2, x < 256 := by
  have hp : ∀ x ∈ (rdPfx l).2, x < 256 := fun x hx => hl x (List.mem_of_mem_drop (List.mem_of_mem_drop hx))
  unfold rdPart
  split <;> intro x hx
  · exact hl x (List.mem_of_mem_tail (List.mem_of_mem_drop hx))
  · exact hp x (List.mem_of_mem_drop hx)
  · exact hp x hx
  · exact hl x (List.mem_of_mem_tail hx)
  · exact hp x hx
  · exact hp x (List.mem_of_mem_tail hx)
  · exact hl x hx
theorem one_at (rb : Nat) (T : TypeId) (l : List Nat) (i : Nat) (hl : ∀ x ∈ l, x < 256) (base : Option Addr) (cap : Nat) : Does PR E X 12 [.pointer (some ⟨rb, 0, none⟩)] [box rb [.slice base (l.drop i).length cap] T, rsl base cap 1 ((l.drop i).map u8e)]
    (fun v t => ∃ base' cap', v = .int .i64 (byteAt l i : Int) ∧ t = [box rb [.slice base' (l.drop (i + 1)).length cap'] T, rsl base' cap' 1 ((l.drop (i + 1)).map u8e)]) :=
  (one_spec rb T (l.drop i) (fun x hx => hl x (List.mem_of_mem_drop hx)) base cap).post fun v t ⟨b', c', h1, h2⟩ => ⟨b', c', h1, by rw [h2, List.tail_drop]⟩
theorem byteAt_lt {l : List Nat} (hl : ∀ x ∈ l, x < 256) (i : Nat) : byteAt l i < 256 := headD_lt hl i
theorem decode_spec (l : List Nat) (hl : ∀ x ∈ l, x < 256) (base : Option Addr) (cap : Nat) : Does PR E X 6 [.slice base l.length cap] [rsl base cap 1 (l.map u8e)]
    (fun v t => ∃ (b1 : Option Addr) (c1 : Nat) (b2 : Option Addr) (c2 : Nat) (vs : List StepV), vs.map (·.1) = rdScript l ∧ v = .tuple #[.agg ((rdCfg l).cells b1 c1).toArray, .slice b2 vs.length c2] ∧ t = [osl b1 c1 30 1 ((rdCfg l).presets.map u64e), osl b2 c2 36 8 (vs.map StepV.cells), rall (vs.map StepV.row)]) := by
  refine Does.of 75 inferInstance rfl (by decide) rfl ?_
  refine auto ?_
  refine alloc fun b2 => ?_
  refine auto ?_
  refine box_ fun b4 => ?_
  refine auto ?_
  refine call (one_spec b4 _ l hl base cap) ?_
  rintro _ _ ⟨ba1, ca1, rfl, rfl⟩
  refine auto ?_
  refine alloc fun b5 => ?_
  refine auto ?_
  rw [← List.drop_one]
  have h0 : l.headD 0 = byteAt l 0 := rfl
  rw [h0]
  refine call (one_at b4 _ l 1 hl ba1 ca1) ?_
  rintro _ _ ⟨ba2, ca2, rfl, rfl⟩
  refine auto ?_
  refine call (one_at b4 _ l 2 hl ba2 ca2) ?_
  rintro _ _ ⟨ba3, ca3, rfl, rfl⟩
  refine auto ?_
  refine call (one_at b4 _ l 3 hl ba3 ca3) ?_
  rintro _ _ ⟨ba4, ca4, rfl, rfl⟩
  refine auto ?_
  refine call (one_at b4 _ l 4 hl ba4 ca4) ?_
  rintro _ _ ⟨ba5, ca5, rfl, rfl⟩
  refine auto ?_
  refine call (one_at b4 _ l 5 hl ba5 ca5) ?_
  rintro _ _ ⟨ba6, ca6, rfl, rfl⟩
  refine auto ?_
  refine call (one_at b4 _ l 6 hl ba6 ca6) ?_
  rintro _ _ ⟨ba7, ca7, rfl, rfl⟩
  refine auto ?_
  have e0 : ((byteAt l 0 : Nat) : Int) % 32 = ((byteAt l 0 % 32 : Nat) : Int) := by omega
  have e1 : ((byteAt l 1 : Nat) : Int) % 2 = ((byteAt l 1 % 2 : Nat) : Int) := by omega
  have e2 : ((byteAt l 2 : Nat) : Int) % 32 = ((byteAt l 2 % 32 : Nat) : Int) := by omega
  have e5 : ((byteAt l 5 : Nat) : Int) % 9 = ((byteAt l 5 % 9 : Nat) : Int) := by omega
  have e6 : ((byteAt l 6 : Nat) : Int) % 18 = ((byteAt l 6 % 18 : Nat) : Int) := by omega
  simp only [e0, e1, e2, e5, e6]
  have hn : byteAt l 6 % 18 < 18 := Nat.mod_lt _ (by decide)
  refine into (Into.nilO (T := 30) (sz := 1)) ?_
  have d7 : ∀ k, (l.drop 7).drop k = l.drop (7 + k) := fun k => List.drop_drop ..
  generalize hN : byteAt l 6 % 18 = N
  rw [hN] at hn
  refine loop (ι := Nat × (Option Addr × Nat) × (Option Addr × Nat)) (fun i => N - i.1) (fun i => i.1 ≤ N) (fun i => [(2, .pointer (some ⟨b2, 0, none⟩)), (4, .pointer (some ⟨b4, 0, none⟩)), (5, .pointer (some ⟨b5, 0, none⟩)), (36, .int .i64 ((N : Nat) : Int)), (37, .int .i64 (i.1 : Int))])
    (fun i => [box b4 [.slice i.2.1.1 (l.drop (7 + 8 * i.1)).length i.2.1.2] 47, rsl i.2.1.1 i.2.1.2 1 ((l.drop (7 + 8 * i.1)).map u8e), box b5 [.int .i64 (byteAt l 0 % 32 : Nat), .int .i64 (byteAt l 1 % 2 : Nat), .int .i64 (byteAt l 2 % 32 : Nat), .int .i64 (byteAt l 3 : Nat), .int .i64 (byteAt l 4 : Nat), .int .i64 (byteAt l 5 % 9 : Nat), .slice i.2.2.1 i.1 i.2.2.2] 26, osl i.2.2.1 i.2.2.2 30 1 ((rdNums (l.drop 7) i.1).map u64e), box b2 [.int .i64 0, .int .i64 0, .int .i64 0, .int .i64 0, .int .i64 0, .int .i64 0, .slice none 0 0] 26]) (0, (ba7, ca7), (none, 0)) (by simp) ?_
  rintro ⟨i, ⟨br, cr⟩, ⟨bp, cp⟩⟩ hi ih
  (try dsimp only at hi ih ⊢)
  refine auto ?_
  refine branch (fun h => ?_) (fun h => ?_)
  · refine auto ?_
    refine draw [0, 1, 0, 4, 12, 31, 63, 127] [3, 4, 5, 7] [1] [0, 1, 2, 3, 4, 5, 6, 7] ?_
    refine dauto ?_
    refine call (number_spec b4 _ (l.drop (7 + 8 * i)) (fun x hx => hl x (List.mem_of_mem_drop hx)) br cr 8 (by omega)) ?_
    rintro _ _ ⟨b8, c8, rfl, rfl⟩
    refine pdok ?_
    refine dauto ?_
    refine dbuildSlice fun b9 => ?_
    refine dauto ?_
    refine dappendO fun b10 c10 => ?_
    refine dauto ?_
    refine auto ?_
    have en : List.map u64e (rdNums (l.drop 7) i) ++ [valC (.int .u64 ((numN (l.drop (7 + 8 * i)) 8 : Nat) : Int))] = List.map u64e (rdNums (l.drop 7) (i + 1)) := by
      rw [rdNums, d7]; simp [u64e, valC]
    have ed : (l.drop (7 + 8 * i)).drop 8 = l.drop (7 + 8 * (i + 1)) := by rw [List.drop_drop]; congr 1
    rw [en, ed]
    have hi' : i < N := by have := of_decide_eq_true h; omega
    exact next (ih (i + 1, (b8, c8), (b10, c10)) (by dsimp only; omega) (by dsimp only; omega))
  · have hi' : i = N := by have := of_decide_eq_false h; omega
    subst hi'
    refine auto ?_
    refine call parts_spec ?_
    rintro _ _ ⟨rfl, rfl⟩
    refine auto ?_
    refine alloc fun b7 => ?_
    refine auto ?_
    refine into (Into.nilO (T := 36) (sz := 8)) ?_
    refine into Into.rallNil ?_
    have hl7 : ∀ x ∈ l.drop (7 + 8 * i), x < 256 := fun x hx => hl x (List.mem_of_mem_drop hx)
    refine loop (ι := List StepV × List Nat × (Option Addr × Nat) × (Option Addr × Nat)) (fun j => j.2.1.length) (fun j => j.1.length ≤ 4096 ∧ (∀ x ∈ j.2.1, x < 256) ∧ j.1.map (·.1) ++ rdSteps (4096 - j.1.length) j.2.1 = rdScript l) (fun j => [(2, .pointer (some ⟨b2, 0, none⟩)), (4, .pointer (some ⟨b4, 0, none⟩)), (5, .pointer (some ⟨b5, 0, none⟩)), (6, .slice j.2.2.2.1 j.1.length j.2.2.2.2), (7, .pointer (some ⟨b7, 0, none⟩))])
      (fun j => [box b7 partV 51, box b4 [.slice j.2.2.1.1 j.2.1.length j.2.2.1.2] 47, rsl j.2.2.1.1 j.2.2.1.2 1 (j.2.1.map u8e), osl j.2.2.2.1 j.2.2.2.2 36 8 (j.1.map StepV.cells), rall (j.1.map StepV.row), box b5 [.int .i64 (byteAt l 0 % 32 : Nat), .int .i64 (byteAt l 1 % 2 : Nat), .int .i64 (byteAt l 2 % 32 : Nat), .int .i64 (byteAt l 3 : Nat), .int .i64 (byteAt l 4 : Nat), .int .i64 (byteAt l 5 % 9 : Nat), .slice bp i cp] 26, osl bp cp 30 1 ((rdNums (l.drop 7) i).map u64e), box b2 [.int .i64 0, .int .i64 0, .int .i64 0, .int .i64 0, .int .i64 0, .int .i64 0, .slice none 0 0] 26])
      ([], l.drop (7 + 8 * i), (br, cr), (none, 0)) ⟨by simp, hl7, by unfold rdScript; rw [hN]; rfl⟩ ?_
    rintro ⟨vs, m, ⟨br2, cr2⟩, ⟨bs, cs⟩⟩ ⟨hvs, hm, hrd⟩ ih2
    (try dsimp only at hvs hm hrd ih2 ⊢)
    refine auto ?_
    refine branch (fun h2 => ?_) (fun h2 => ?_)
    · simp only [Bool.and_eq_true, decide_eq_true_eq] at h2
      obtain ⟨a, m, rfl⟩ : ∃ a m', m = a :: m' := by
        cases m with
        | nil => simp at h2
        | cons a m => exact ⟨a, m, rfl⟩
      refine auto ?_
      refine call (one_spec b4 _ (a :: m) hm br2 cr2) ?_
      rintro _ _ ⟨b8, c8, rfl, rfl⟩
      refine auto ?_
      refine alloc fun b9 => ?_
      simp only [List.headD_cons, List.tail_cons]
      have ea : ((a : Nat) : Int) % 10 = ((a % 10 : Nat) : Int) := by omega
      rw [ea]
      have hw : a % 10 < 10 := Nat.mod_lt _ (by decide)
      have hrs : rdSteps (4096 - vs.length) (a :: m) = (rdPart (a % 10) m).1 :: rdSteps (4096 - (vs.length + 1)) (rdPart (a % 10) m).2 := by
        rw [show 4096 - vs.length = (4096 - (vs.length + 1)) + 1 by omega]; rfl
      rw [hrs] at hrd
      have hm2 := rdPart_lt (l := m) (fun x hx => hm x (by simp [hx])) (a % 10)
      have hml := rdPart_len (a % 10) m
      generalize a % 10 = w at hw hrd hm2 hml
      have hm1 : ∀ x ∈ m, x < 256 := fun x hx => hm x (by simp [hx])
      have hpv : partV[0 + ((w : Nat) : Int).toNat * 1]? = some (.func (.func (partF w)) #[] #[]) := by
        obtain rfl | rfl | rfl | rfl | rfl | rfl | rfl | rfl | rfl | rfl : w = 0 ∨ w = 1 ∨ w = 2 ∨ w = 3 ∨ w = 4 ∨ w = 5 ∨ w = 6 ∨ w = 7 ∨ w = 8 ∨ w = 9 := by omega
        all_goals rfl
      refine auto ?_
      refine call (part_spec w hw b4 b9 _ _ m hm1 b8 c8) ?_
      rintro _ _ ⟨b10, c10, pb, pc, rfl⟩
      refine auto ?_
      refine buildSlice fun b11 => ?_
      refine auto ?_
      refine appendO fun b12 c12 => ?_
      refine auto ?_
      refine into (rsnoc pb pc (rdPart w m).1.packet) ?_
      have ev : List.map StepV.cells vs ++ [valC (.agg #[.int .i64 (rdPart w m).1.what, u64 (rdPart w m).1.hi, u64 (rdPart w m).1.lo, .bool (rdPart w m).1.v6, .int .i64 (rdPart w m).1.pn, .int .i64 (rdPart w m).1.hop, .int .i64 (rdPart w m).1.n, .slice pb (rdPart w m).1.packet.length pc])] = List.map StepV.cells (vs ++ [((rdPart w m).1, pb, pc)]) := by
        rw [List.map_append]; rfl
      have er : List.map StepV.row vs ++ [(pb, pc, (rdPart w m).1.packet)] = List.map StepV.row (vs ++ [((rdPart w m).1, pb, pc)]) := by
        rw [List.map_append]; rfl
      have el : vs.length + 1 = (vs ++ [((rdPart w m).1, pb, pc)]).length := by simp
      rw [ev, er, el]
      refine next (ih2 (vs ++ [((rdPart w m).1, pb, pc)], (rdPart w m).2, (b10, c10), (b12, c12)) ⟨?_, hm2, ?_⟩ ?_)
      · simp; omega
      · simpa using hrd
      · simp; omega
    · refine auto ?_
      refine ret ?_
      refine ends (t := [osl bp cp 30 1 ((rdNums (l.drop 7) i).map u64e), osl bs cs 36 8 (vs.map StepV.cells), rall (vs.map StepV.row)]) ⟨bp, cp, bs, cs, vs, ?_, ?_, ?_⟩
      · rw [← hrd]
        simp only [Bool.and_eq_false_iff, decide_eq_false_iff_not] at h2
        rcases h2 with h2 | h2
        · have : m = [] := by cases m with
            | nil => rfl
            | cons => simp at h2
          subst this
          cases 4096 - vs.length <;> simp [rdSteps]
        · rw [show 4096 - vs.length = 0 by omega]; simp [rdSteps]
      · simp only [pack_two, CfgM.cells, rdCfg, hN, rdNums_len]
      · simp only [rdCfg, hN]
end Go.Proofs.YtjcbjclhagobiaaDoor
