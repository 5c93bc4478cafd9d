/- Polls in memory: what they hold, and what leaves them as they are. No condition. -/
import Derived.Test.YtblapbnplflghaaGt
import Derived.Test.YtblapbnplflghaaPa
import Derived.Test.YtblapbnplflghaaQuL
namespace Go.Proofs.Ytblapbnplflghaa
open Go.RowKit
set_option linter.unusedVariables false
set_option linter.unusedSimpArgs false
set_option linter.unusedSectionVars false
set_option maxRecDepth 100000

theorem ChI.frb {S : Nat → Prop} {w w' : World} {p L M n m : Nat} {R : Nat → List Nat} (h : ChI w p L M n m R) (F : FrB S w w') (hp : ¬ S p) (hL : ¬ S L) (hM : ¬ S M) : ChI w' p L M n m R := by
  obtain ⟨s, h, h2⟩ := h
  exact ⟨s, ⟨h.pl.frb F hp, h.pm.frb F hp, fun k f hk hf => (h.hl k f hk hf).frb F hL, fun k f hk hf => (h.he k f hk hf).frb F hM, Nat.lt_of_lt_of_le h.lL F.size, Nat.lt_of_lt_of_le h.lM F.size, h.dpl, h.dpm, h.dlm, h.bn, h.bm⟩, h2⟩
theorem QS.frb {S : Nat → Prop} {w w' : World} {q p L M t d mo : Nat} {T : List Th} (h : QS w q p L M t d mo T) (F : FrB S w w') (hq : ¬ S q) (hp : ¬ S p) (hL : ¬ S L) (hM : ¬ S M) : QS w' q p L M t d mo T := by
  obtain ⟨R, h1, h2⟩ := h.ch
  exact ⟨h.c0.frb F hq, h.c1.frb F hq, h.c2.frb F hq, h.c3.frb F hq, h.c4.frb F hq, ⟨R, h1.frb F hp hL hM, h2⟩, h.qp, h.ok, h.nd, h.bd⟩
theorem GC.frb {S : Nat → Prop} {w w' : World} {b off : Nat} {g : G} (h : GC w b off g) (F : FrB S w w') (hs : ¬ S b) : GC w' b off g :=
  ⟨h.c0.frb F hs, h.c1.frb F hs, h.c2.frb F hs, h.c3.frb F hs, h.c4.frb F hs, h.c5.frb F hs, h.c6.frb F hs⟩
theorem Fr.toB {S : Nat → Nat → Prop} {S' : Nat → Prop} {w w' : World} (F : Fr S w w') (hs : ∀ k o, S k o → S' k) : FrB S' w w' :=
  ⟨F.os, F.tape, F.output, F.size, fun k hk hn => F.block k hk (fun o h => hn (hs k o h))⟩
theorem FrB.mono {S S' : Nat → Prop} {w w' : World} (F : FrB S w w') (hs : ∀ k, S k → S' k) : FrB S' w w' :=
  ⟨F.os, F.tape, F.output, F.size, fun k hk hn => F.block k hk (fun h => hn (hs k h))⟩
theorem FrB.drew {S : Nat → Prop} {w w' : World} (F : FrB S w w') : FrB S w w'.drew := ⟨F.os, F.tape, F.output, F.size, F.block⟩

/-- Where a poll lies: its variable p, its gates g, its box (B, c), its queue (q, l, L, M); how many devices, notes, timers, things. -/
structure PoD where
  p : Nat
  g : Nat
  B : Nat
  c : Nat
  q : Nat
  l : Nat
  L : Nat
  M : Nat
  n : Nat
  cap : Nat
  t : Nat
  mo : Nat
def PoD.own (D : PoD) : Nat → Prop := fun k => k = D.p ∨ k = D.g ∨ k = D.B ∨ k = D.c ∨ k = D.q ∨ k = D.l ∨ k = D.L ∨ k = D.M
/-- What its steps may turn. -/
def PoD.F (D : PoD) : Nat → Prop := fun k => k = D.p ∨ k = D.g ∨ k = D.c ∨ k = D.q ∨ k = D.L ∨ k = D.M
theorem PoD.F_own {D : PoD} {k : Nat} (h : D.F k) : D.own k := by
  unfold PoD.F at h; unfold PoD.own
  rcases h with h | h | h | h | h | h <;> simp [h]
structure PoD.Ne (D : PoD) : Prop where
  pg : D.p ≠ D.g
  pB : D.p ≠ D.B
  pc : D.p ≠ D.c
  pq : D.p ≠ D.q
  pl : D.p ≠ D.l
  pL : D.p ≠ D.L
  pM : D.p ≠ D.M
  gB : D.g ≠ D.B
  gc : D.g ≠ D.c
  gq : D.g ≠ D.q
  gl : D.g ≠ D.l
  gL : D.g ≠ D.L
  gM : D.g ≠ D.M
  Bq : D.B ≠ D.q
  Bl : D.B ≠ D.l
  BL : D.B ≠ D.L
  BM : D.B ≠ D.M
  cq : D.c ≠ D.q
  cl : D.c ≠ D.l
  cL : D.c ≠ D.L
  cM : D.c ≠ D.M
structure PoS (w : World) (D : PoD) (gs : List G) (ns : List (Int × Int)) (T : List Th) (f : Nat) : Prop where
  c0 : Cel w D.p 0 (.slice (some ⟨D.g, 0, none⟩) D.n D.n)
  c1 : Cel w D.p 1 (.pointer (some ⟨D.B, 0, none⟩))
  c2 : Cel w D.p 2 (.pointer (some ⟨D.q, 0, none⟩))
  c3 : Cel w D.p 3 (.int .i64 f)
  ga : ∀ i (h : i < gs.length), GC w D.g (i * 7) gs[i]
  gl : gs.length = D.n
  bx : BoxS w D.B D.c D.cap (ns.map ntV)
  qu : QS w D.q D.l D.L D.M D.t D.n D.mo T
  no : ∀ x ∈ ns, 0 ≤ x.1 ∧ x.1 < D.n
  n : D.n ≤ 64
  f : f ≤ 64
  gb : D.g < w.heap.size
  ne : D.Ne
section
variable {w w' : World} {D : PoD} {gs : List G} {ns ns' : List (Int × Int)} {T T' : List Th} {f : Nat}
theorem PoS.fr {S : Nat → Prop} (h : PoS w D gs ns T f) (F : FrB S w w') (hS : ∀ k, D.own k → ¬ S k) : PoS w' D gs ns T f := by
  have hp : ¬ S D.p := hS _ (by unfold PoD.own; simp)
  have hg : ¬ S D.g := hS _ (by unfold PoD.own; simp)
  exact ⟨h.c0.frb F hp, h.c1.frb F hp, h.c2.frb F hp, h.c3.frb F hp, fun i hi => (h.ga i hi).frb F hg, h.gl, h.bx.frb F (hS _ (by unfold PoD.own; simp)) (hS _ (by unfold PoD.own; simp)),
    h.qu.frb F (hS _ (by unfold PoD.own; simp)) (hS _ (by unfold PoD.own; simp)) (hS _ (by unfold PoD.own; simp)) (hS _ (by unfold PoD.own; simp)), h.no, h.n, h.f, Nat.lt_of_lt_of_le h.gb F.size, h.ne⟩
theorem PoS.below (h : PoS w D gs ns T f) (F : Below w.heap.size w w') : PoS w' D gs ns T f := h.fr (FrB.of_below (S := fun _ => False) F (Nat.le_refl _)) (fun _ _ h => h)
theorem PoS.drew (h : PoS w D gs ns T f) : PoS w.drew D gs ns T f := h.below ⟨rfl, rfl, rfl, Nat.le_refl _, fun _ _ => rfl⟩
theorem PoS.lt (h : PoS w D gs ns T f) {k : Nat} (hk : D.own k) : k < w.heap.size := by
  have h1 := h.c0.lt; have h2 := h.gb; have h3 := h.bx.lt; have h4 := h.qu.lt
  unfold PoD.own at hk
  rcases hk with rfl | rfl | rfl | rfl | rfl | rfl | rfl | rfl
  · exact h1
  · exact h2
  · exact h3.1
  · exact h3.2
  · exact h4.1
  · exact h4.2.1
  · exact h4.2.2.1
  · exact h4.2.2.2
theorem PoS.gate {K : Nat} {x : G} (h : PoS w D gs ns T f) (G : GC w' D.g (K * 7) x) (F : Fr (cellsAt D.g (K * 7) 7) w w') : PoS w' D (gs.set K x) ns T f := by
  have FB : FrB (fun k => k = D.g) w w' := F.toB (fun k o e => e.1)
  have ne := h.ne
  refine ⟨h.c0.frb FB ne.pg, h.c1.frb FB ne.pg, h.c2.frb FB ne.pg, h.c3.frb FB ne.pg, fun i hi => ?_, by rw [List.length_set]; exact h.gl, h.bx.frb FB ne.gB.symm ne.gc.symm,
    h.qu.frb FB ne.gq.symm ne.gl.symm ne.gL.symm ne.gM.symm, h.no, h.n, h.f, Nat.lt_of_lt_of_le h.gb FB.size, h.ne⟩
  rw [List.length_set] at hi
  by_cases e : i = K
  · subst e
    rw [List.getElem_set_self]; exact G
  · rw [List.getElem_set_ne (fun e2 => e e2.symm)]
    exact (h.ga i hi).fr F (fun o h1 h2 h3 => by have := h3.2; omega)
theorem PoS.boxed (h : PoS w D gs ns T f) (b : BoxS w' D.B D.c D.cap (ns'.map ntV)) (F : FrB (fun k => k = D.c) w w') (hn : ∀ x ∈ ns', 0 ≤ x.1 ∧ x.1 < D.n) : PoS w' D gs ns' T f := by
  have ne := h.ne
  exact ⟨h.c0.frb F ne.pc, h.c1.frb F ne.pc, h.c2.frb F ne.pc, h.c3.frb F ne.pc, fun i hi => (h.ga i hi).frb F ne.gc, h.gl, b,
    h.qu.frb F ne.cq.symm ne.cl.symm ne.cL.symm ne.cM.symm, hn, h.n, h.f, Nat.lt_of_lt_of_le h.gb F.size, h.ne⟩
theorem PoS.que (h : PoS w D gs ns T f) (Q : QS w' D.q D.l D.L D.M D.t D.n D.mo T') (F : Fr (quS D.q D.L D.M) w w') : PoS w' D gs ns T' f := by
  have FB : FrB (fun k => k = D.q ∨ k = D.L ∨ k = D.M) w w' := F.toB (fun k o e => e)
  have ne := h.ne
  have t3 : ∀ {k : Nat}, k ≠ D.q → k ≠ D.L → k ≠ D.M → ¬ (k = D.q ∨ k = D.L ∨ k = D.M) := fun a b c e => by
    rcases e with e | e | e
    · exact a e
    · exact b e
    · exact c e
  have tp := t3 ne.pq ne.pL ne.pM
  exact ⟨h.c0.frb FB tp, h.c1.frb FB tp, h.c2.frb FB tp, h.c3.frb FB tp, fun i hi => (h.ga i hi).frb FB (t3 ne.gq ne.gL ne.gM), h.gl, h.bx.frb FB (t3 ne.Bq ne.BL ne.BM) (t3 ne.cq ne.cL ne.cM), Q, h.no, h.n, h.f, Nat.lt_of_lt_of_le h.gb FB.size, h.ne⟩
theorem PoS.fst (h : PoS w D gs ns T f) {f' : Nat} (hf : f' ≤ 64) : PoS (w.setCell ⟨D.p, 3, none⟩ (.int .i64 f')) D gs ns T f' := by
  have F := FrB.set w ⟨D.p, 3, none⟩ (.int .i64 f')
  replace F : FrB (fun k => k = D.p) w (w.setCell ⟨D.p, 3, none⟩ (.int .i64 f')) := F
  have ne := h.ne
  exact ⟨h.c0.other (.inr (by decide)) _, h.c1.other (.inr (by decide)) _, h.c2.other (.inr (by decide)) _, h.c3.same _, fun i hi => (h.ga i hi).frb F ne.pg.symm, h.gl, h.bx.frb F ne.pB.symm ne.pc.symm,
    h.qu.frb F ne.pq.symm ne.pl.symm ne.pL.symm ne.pM.symm, h.no, h.n, hf, Nat.lt_of_lt_of_le h.gb F.size, h.ne⟩
theorem PoD.F_gate {D : PoD} {K : Nat} (F : Fr (cellsAt D.g (K * 7) 7) w w') : FrB D.F w w' := F.toB (fun k o e => .inr (.inl e.1))
theorem PoD.F_box {D : PoD} (F : FrB (fun k => k = D.c) w w') : FrB D.F w w' := F.mono (fun k e => .inr (.inr (.inl e)))
theorem PoD.F_que {D : PoD} (F : Fr (quS D.q D.L D.M) w w') : FrB D.F w w' := F.toB (fun k o e => by rcases e with e | e | e <;> (unfold PoD.F; simp [e]))
theorem PoD.F_fst {D : PoD} (w : World) (u : Value) : FrB D.F w (w.setCell ⟨D.p, 3, none⟩ u) := (FrB.set w ⟨D.p, 3, none⟩ u).mono (fun k e => .inl e)
theorem FrB.allT {S : Nat → Prop} {a b c : World} (h : FrB S a b) (k : FrB S b c) : FrB S a c := h.then_ k (fun _ _ h => h)
end

/-- A device's gate. -/
theorem at_p {w : World} {D : PoD} {gs : List G} {ns : List (Int × Int)} {T : List Th} {f : Nat} (h : PoS w D gs ns T f) {K : Nat} (hK : K < D.n) :
    Calls Try.prog 27 #[.pointer (some ⟨D.p, 0, none⟩), .int .i64 K] w fun e w' => e = .returned (.pointer (some ⟨D.g, K * 7, none⟩)) ∧ w = w' := by
  have x0 := h.c0.1
  have hn := h.n
  have d1 : decide ((K : Int) < 0) = false := decide_eq_false (by omega)
  have d2 : decide ((D.n : Int) ≤ (K : Int)) = false := decide_eq_false (by omega)
  have d3 : decide (D.n ≤ K) = false := decide_eq_false (by omega)
  clear h
  go_enter Try.func27, Try.ntmps27
  go_wp2
  go_ret
  exact ⟨by simp, rfl⟩
theorem at_out {w : World} {D : PoD} {gs : List G} {ns : List (Int × Int)} {T : List Th} {f : Nat} (h : PoS w D gs ns T f) {K : Nat} (hK : ¬ K < D.n) :
    Calls Try.prog 27 #[.pointer (some ⟨D.p, 0, none⟩), .int .i64 K] w fun e w' => e = .returned (.pointer none) ∧ w = w' := by
  have x0 := h.c0.1
  have hn := h.n
  have d1 : decide ((K : Int) < 0) = false := decide_eq_false (by omega)
  have d2 : decide ((D.n : Int) ≤ (K : Int)) = true := decide_eq_true (by omega)
  have d3 : decide (D.n ≤ K) = true := decide_eq_true (by omega)
  clear h
  go_enter Try.func27, Try.ntmps27
  go_wp2
  go_ret
  exact ⟨rfl, rfl⟩
end Go.Proofs.Ytblapbnplflghaa
