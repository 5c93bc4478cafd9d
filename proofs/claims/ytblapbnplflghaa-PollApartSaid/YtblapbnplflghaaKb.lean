/- PollApart: two polls side by side, and their steps. -/
import Derived.Test.YtblapbnplflghaaKa
import Derived.Test.YtblapbnplflghaaPv
import Derived.Test.YtblapbnplflghaaEq
namespace Go.Proofs.Ytblapbnplflghaa
open Go.RowKit
set_option linter.unusedVariables false
set_option linter.unusedSimpArgs false
set_option linter.unusedSectionVars false
set_option maxRecDepth 100000

structure PS where
  gs : List G
  ns : List (Int × Int)
  T : List Th
  f : Nat
/-- A step: the how-manieth way, the device, and what it says. -/
def stp (D : PoD) (k K : Nat) (m h o : Int) (s : PS) : PS :=
  match k with
  | 0 => { s with gs := s.gs.set K (openG (s.gs.getD K noG)) }
  | 1 => { s with gs := s.gs.set K noG, ns := if (s.gs.getD K noG).op then s.ns.filter (fun x => x.1 != (K : Int)) else s.ns, T := if (s.gs.getD K noG).op then s.T.erase (2, (K : Int)) else s.T }
  | 2 => { s with gs := postG D s.gs s.ns K m, ns := postN D s.gs s.ns K m }
  | 3 => { s with gs := s.gs.set K (watchG (s.gs.getD K noG) h m o), T := if watchB (s.gs.getD K noG) m o then s.T.erase (2, (K : Int)) else s.T }
  | 4 => { s with gs := s.gs.set K (unwatchG (s.gs.getD K noG)), T := if (s.gs.getD K noG).want != 0 then s.T.erase (2, (K : Int)) else s.T }
  | 5 => { s with gs := s.gs.set K (ackG (s.gs.getD K noG) m) }
  | 6 => { gs := (meetsG s.gs s.ns).map flushG, ns := [], T := (setQ ((meetsG s.gs s.ns).map flushG) D.t D.n D.mo s.f D.n (s.T, s.f)).1, f := (setQ ((meetsG s.gs s.ns).map flushG) D.t D.n D.mo s.f D.n (s.T, s.f)).2 }
  | _ => s
def ApS (s s' : PS) (i : Nat) : Prop := Ap s.gs s'.gs s.ns s'.ns s.T s'.T i
/-- How big these polls are. -/
structure PoD.Two (D : PoD) : Prop where
  t : D.t = 0
  n : D.n = 2
  mo : D.mo = 2
  cap : D.cap = 64
theorem post_room {D : PoD} {gs : List G} {ns : List (Int × Int)} (K : Nat) (m : Int) (h : ns.length < D.cap) : postG D gs ns K m = gs ∧ postN D gs ns K m = ns ++ (if postB gs K m then [((K : Int), bits .and .i64 m 7)] else []) := by
  constructor
  · unfold postG; rw [if_neg (fun e => e.2 h)]
  · unfold postN
    cases postB gs K m with
    | true => rw [if_pos ⟨rfl, h⟩]; rfl
    | false => rw [if_neg (fun e => by cases e.1)]; simp
section
variable {D D' : PoD} {s s' : PS} {i : Nat}
theorem ApS.le (h : ApS s s' i) : s.ns.length ≤ i ∧ s'.ns.length ≤ i := Ap.le h
theorem ApS.step0 (h : ApS s s' i) (hi : i < 64) (d : D.Two) (d' : D'.Two) (k : Nat) (m hd o : Int) : ApS (stp D k 0 m hd o s) (stp D' k 0 m hd o s') (i + 1) := by
  unfold ApS at h ⊢
  match k with
  | 0 => exact (Ap.both h openG (fun _ => false)).up
  | 1 =>
    have := Ap.both h (fun _ => noG) G.op
    refine this.notes (j := i + 1) ?_ ?_ ?_ ?_
    · show of0 (if (s.gs.getD 0 noG).op then _ else _) = of0 (if (s'.gs.getD 0 noG).op then _ else _)
      rw [← h.g0]
      split
      · rw [of0_sift0, of0_sift0]
      · exact h.n0
    · intro x hx
      have : x ∈ s.ns := by
        simp only [stp] at hx
        split at hx
        · exact (List.mem_filter.1 hx).1
        · exact hx
      exact h.no x this
    · intro x hx
      have : x ∈ s'.ns := by
        simp only [stp] at hx
        split at hx
        · exact (List.mem_filter.1 hx).1
        · exact hx
      exact h.no' x this
    · have h1 := h.le.1; have h2 := h.le.2
      constructor
      · simp only [stp]; split
        · exact Nat.le_trans (List.length_filter_le _ _) (by omega)
        · omega
      · simp only [stp]; split
        · exact Nat.le_trans (List.length_filter_le _ _) (by omega)
        · omega
  | 2 =>
    have h1 := h.le.1; have h2 := h.le.2
    have p1 := post_room (D := D) (gs := s.gs) (ns := s.ns) 0 m (by rw [d.cap]; omega)
    have p2 := post_room (D := D') (gs := s'.gs) (ns := s'.ns) 0 m (by rw [d'.cap]; omega)
    have pb : postB s.gs 0 m = postB s'.gs 0 m := by unfold postB; rw [h.g0]
    show Ap (postG D s.gs s.ns 0 m) (postG D' s'.gs s'.ns 0 m) (postN D s.gs s.ns 0 m) (postN D' s'.gs s'.ns 0 m) s.T s'.T (i + 1)
    rw [p1.1, p2.1, p1.2, p2.2, pb]
    refine h.notes ?_ ?_ ?_ ?_
    · unfold of0; rw [List.filter_append, List.filter_append]; congr 1; exact h.n0
    · intro x hx
      rcases List.mem_append.1 hx with hx | hx
      · exact h.no x hx
      · split at hx
        · simp at hx; subst hx; simp
        · simp at hx
    · intro x hx
      rcases List.mem_append.1 hx with hx | hx
      · exact h.no' x hx
      · split at hx
        · simp at hx; subst hx; simp
        · simp at hx
    · constructor <;> (rw [List.length_append]; split <;> simp <;> omega)
  | 3 => exact (Ap.both h (fun g => watchG g hd m o) (fun g => watchB g m o)).up
  | 4 => exact (Ap.both h unwatchG (fun g => g.want != 0)).up
  | 5 => exact (Ap.both h (fun g => ackG g m) (fun _ => false)).up
  | 6 =>
    show Ap ((meetsG s.gs s.ns).map flushG) ((meetsG s'.gs s'.ns).map flushG) [] [] _ _ (i + 1)
    simp only [stp]
    rw [d.t, d.n, d.mo, d'.t, d'.n, d'.mo]
    exact Ap.settle2 h s.f s'.f
  | (n + 7) => exact Ap.up h
theorem ApS.step1 (h : ApS s s' i) (hi : i < 64) (d : D.Two) (k : Nat) (hk : k ≠ 6) (m hd o : Int) : ApS (stp D k 1 m hd o s) s' (i + 1) := by
  unfold ApS at h ⊢
  match k with
  | 0 => exact (Ap.one h (openG (s.gs.getD 1 noG)) false).up
  | 1 =>
    have := Ap.one h noG (s.gs.getD 1 noG).op
    refine this.notes (j := i + 1) ?_ ?_ h.no' ?_
    · simp only [stp]; split
      · rw [of0_sift1]; exact h.n0
      · exact h.n0
    · intro x hx
      have : x ∈ s.ns := by
        simp only [stp] at hx
        split at hx
        · exact (List.mem_filter.1 hx).1
        · exact hx
      exact h.no x this
    · have h1 := h.le.1; have h2 := h.le.2
      constructor
      · simp only [stp]; split
        · exact Nat.le_trans (List.length_filter_le _ _) (by omega)
        · omega
      · omega
  | 2 =>
    have h1 := h.le.1; have h2 := h.le.2
    have p1 := post_room (D := D) (gs := s.gs) (ns := s.ns) 1 m (by rw [d.cap]; omega)
    show Ap (postG D s.gs s.ns 1 m) s'.gs (postN D s.gs s.ns 1 m) s'.ns s.T s'.T (i + 1)
    rw [p1.1, p1.2]
    refine h.notes ?_ ?_ h.no' ?_
    · unfold of0; rw [List.filter_append]
      have : List.filter (fun x : Int × Int => x.1 == 0) (if postB s.gs 1 m then [(((1 : Nat) : Int), bits .and .i64 m 7)] else []) = [] := by split <;> simp
      rw [this, List.append_nil]; exact h.n0
    · intro x hx
      rcases List.mem_append.1 hx with hx | hx
      · exact h.no x hx
      · split at hx
        · simp at hx; subst hx; simp
        · simp at hx
    · constructor
      · rw [List.length_append]; split <;> simp <;> omega
      · omega
  | 3 => exact (Ap.one h (watchG (s.gs.getD 1 noG) hd m o) (watchB (s.gs.getD 1 noG) m o)).up
  | 4 => exact (Ap.one h (unwatchG (s.gs.getD 1 noG)) ((s.gs.getD 1 noG).want != 0)).up
  | 5 => exact (Ap.one h (ackG (s.gs.getD 1 noG) m) false).up
  | 6 => exact absurd rfl hk
  | (n + 7) => exact Ap.up h
end
/-- Two polls made since a world. -/
structure TwS (w wr : World) (D D' : PoD) (s s' : PS) : Prop where
  S : StP w wr D s.gs s.ns s.T s.f
  S' : StP w wr D' s'.gs s'.ns s'.T s'.f
  ap : ∀ k, D.own k → ¬ D'.own k
section
variable {w wr w2 : World} {D D' : PoD} {s s' t : PS}
theorem TwS.below (h : TwS w wr D D' s s') (F : Below wr.heap.size wr w2) : TwS w w2 D D' s s' := ⟨h.S.below F, h.S'.below F, h.ap⟩
theorem TwS.op1 (h : TwS w wr D D' s s') (K : PoS w2 D t.gs t.ns t.T t.f) (F : FrB D.F wr w2) : TwS w w2 D D' t s' :=
  have S2 := h.S.op K F
  ⟨S2, ⟨h.S'.S.fr F (fun k hk e => h.ap k (PoD.F_own e) hk), S2.B, h.S'.lo⟩, h.ap⟩
theorem TwS.op2 (h : TwS w wr D D' s s') (K : PoS w2 D' t.gs t.ns t.T t.f) (F : FrB D'.F wr w2) : TwS w w2 D D' s t :=
  have S2 := h.S'.op K F
  ⟨⟨h.S.S.fr F (fun k hk e => h.ap k hk (PoD.F_own e)), S2.B, h.S.lo⟩, S2, h.ap⟩
/-- How far the step is. -/
structure InS (w wr : World) (D D' : PoD) (k K : Nat) (m hd o : Int) (s s' : PS) (j : Nat) : Prop where
  le : j ≤ 2
  st : TwS w wr D D' (if j = 0 then s else stp D k K m hd o s) (if j < 2 then s' else if K = 0 ∨ k = 6 then stp D' k K m hd o s' else s')
variable {k K j : Nat} {m hd o : Int}
theorem InS.below (h : InS w wr D D' k K m hd o s s' j) (F : Below wr.heap.size wr w2) : InS w w2 D D' k K m hd o s s' j := ⟨h.le, h.st.below F⟩
/-- A round of the step: on one of the two. -/
theorem InS.at (h : InS w wr D D' k K m hd o s s' j) (hj : j < 2) (hs : j = 1 → K = 0 ∨ k = 6) : ∃ (Dx : PoD) (x : PS), Dx.p = (if j = 0 then D.p else D'.p) ∧ (Dx = D ∨ Dx = D') ∧ (∀ b, Dx.F b → D.own b ∨ D'.own b) ∧ x.gs.length = Dx.n ∧ PoS wr Dx x.gs x.ns x.T x.f ∧ (∀ w2, PoS w2 Dx (stp Dx k K m hd o x).gs (stp Dx k K m hd o x).ns (stp Dx k K m hd o x).T (stp Dx k K m hd o x).f → FrB Dx.F wr w2 → InS w w2 D D' k K m hd o s s' (j + 1)) := by
  have h2 := h.st
  have : j = 0 ∨ j = 1 := by omega
  rcases this with rfl | rfl
  · simp at h2
    exact ⟨D, s, rfl, .inl rfl, fun b hb => .inl (PoD.F_own hb), h2.S.S.gl, h2.S.S, fun w2 P F => ⟨by omega, by simpa using h2.op1 P F⟩⟩
  · simp at h2
    refine ⟨D', s', rfl, .inr rfl, fun b hb => .inr (PoD.F_own hb), h2.S'.S.gl, h2.S'.S, fun w2 P F => ⟨by omega, ?_⟩⟩
    have e := hs rfl
    simpa [e] using h2.op2 P F
theorem InS.skip (h : InS w wr D D' k K m hd o s s' 1) (hs : ¬ (K = 0 ∨ k = 6)) : InS w wr D D' k K m hd o s s' 2 := ⟨by omega, by have h2 := h.st; simp at h2; simpa [hs] using h2⟩
theorem InS.start (h : TwS w wr D D' s s') : InS w wr D D' k K m hd o s s' 0 := ⟨by omega, by simpa using h⟩
theorem InS.end (h : InS w wr D D' k K m hd o s s' 2) : TwS w wr D D' (stp D k K m hd o s) (if K = 0 ∨ k = 6 then stp D' k K m hd o s' else s') := by simpa using h.st
theorem ApS.turn {i : Nat} (h : ApS s s' i) (hi : i < 64) (d : D.Two) (d' : D'.Two) (hK : K < 2) : ApS (stp D k K m hd o s) (if K = 0 ∨ k = 6 then stp D' k K m hd o s' else s') (i + 1) := by
  have : K = 0 ∨ K = 1 := by omega
  rcases this with rfl | rfl
  · rw [if_pos (.inl rfl)]; exact h.step0 hi d d' k m hd o
  · by_cases e : k = 6
    · subst e
      rw [if_pos (.inr rfl)]
      exact h.step0 hi d d' 6 m hd o
    · rw [if_neg (by simp [e])]; exact h.step1 hi d k e m hd o
def kOf (zk : Int) : Nat := if zk = 0 then 0 else if zk = 1 then 1 else if zk = 2 then 2 else if zk = 3 then 3 else if zk = 4 then 4 else if zk = 5 then 5 else if zk = 6 then 6 else 7
theorem kOf6 (zk : Int) : kOf zk = 6 ↔ zk = 6 := by
  unfold kOf
  repeat (split; (constructor <;> intro h <;> omega))
  constructor <;> intro h <;> omega
/-- The step's variable, and the row of the two. -/
structure OpA (wr : World) (D D' : PoD) (Z V : Nat) (zk zd zm zh zo : Int) : Prop where
  c0 : Cel wr Z 0 (.int .i64 zk)
  c1 : Cel wr Z 1 (.int .i64 zd)
  c2 : Cel wr Z 2 (.int .i64 zm)
  c3 : Cel wr Z 3 (.int .u64 zh)
  c4 : Cel wr Z 4 (.int .i64 zo)
  v : ∀ j, j < 2 → Cel wr V j (.pointer (some ⟨if j = 0 then D.p else D'.p, 0, none⟩))
  no : ∀ b, D.own b ∨ D'.own b → b ≠ Z ∧ b ≠ V
theorem OpA.fr {Z V : Nat} {zk zd zm zh zo : Int} {S : Nat → Prop} (h : OpA wr D D' Z V zk zd zm zh zo) (F : FrB S wr w2) (hS : ∀ b, S b → D.own b ∨ D'.own b) : OpA w2 D D' Z V zk zd zm zh zo :=
  have nz : ¬ S Z := fun e => (h.no _ (hS _ e)).1 rfl
  have nv : ¬ S V := fun e => (h.no _ (hS _ e)).2 rfl
  ⟨h.c0.frb F nz, h.c1.frb F nz, h.c2.frb F nz, h.c3.frb F nz, h.c4.frb F nz, fun j hj => (h.v j hj).frb F nv, h.no⟩
theorem twoOwn {w1 w2 w3 w4 w5 : World} {q l L M p g Bx c q' l' L' M' p' g' Bx' c' : Nat} (hq : (w1.heap.size ≤ q ∧ w1.heap.size ≤ l ∧ w1.heap.size ≤ L ∧ w1.heap.size ≤ M)) (Q : QS w2 q l L M 0 2 2 []) (B : Below w1.heap.size w1 w2)
    (hq' : (w2.heap.size ≤ q' ∧ w2.heap.size ≤ l' ∧ w2.heap.size ≤ L' ∧ w2.heap.size ≤ M')) (Q' : QS w3 q' l' L' M' 0 2 2 []) (B' : Below w2.heap.size w2 w3)
    (N : NewP w3 w4 q l L M 0 2 2 64 [] p g Bx c) (N' : NewP w4 w5 q' l' L' M' 0 2 2 64 [] p' g' Bx' c') :
    TwS w1 w5 ⟨p, g, Bx, c, q, l, L, M, 2, 64, 0, 2⟩ ⟨p', g', Bx', c', q', l', L', M', 2, 64, 0, 2⟩ ⟨List.replicate 2 noG, [], [], 0⟩ ⟨List.replicate 2 noG, [], [], 0⟩ := by
  have s1 := B.size; have s2 := B'.size; have s3 := N.F.size; have s4 := N'.F.size
  refine ⟨(StP.new (Below.refl w1.heap.size w1) hq.1 hq.2.1 hq.2.2.1 hq.2.2.2 (B.trans (B'.mono s1)) N).below N'.F, StP.new B hq'.1 hq'.2.1 hq'.2.2.1 hq'.2.2.2 (B'.trans (N.F.mono s2)) N', fun k hk hk' => ?_⟩
  have lq := Q.lt; have lq' := Q'.lt
  have h4 := N.S.lt hk
  have a : k < w2.heap.size ∨ w3.heap.size ≤ k := by
    have := N.lo
    unfold PoD.own at hk; dsimp only at hk
    omega
  have b : (w2.heap.size ≤ k ∧ k < w3.heap.size) ∨ w4.heap.size ≤ k := by
    have := N'.lo
    unfold PoD.own at hk'; dsimp only at hk'
    omega
  omega
theorem eqLook (o : Bool) (a b c d e f : Int) : ∀ w, (Op.equalIn 10000 38 (.agg #[.bool o, .int .i64 a, .int .i64 b, .int .u64 c, .int .i64 d, .int .i64 e, .int .i64 f]) (.agg #[.bool o, .int .i64 a, .int .i64 b, .int .u64 c, .int .i64 d, .int .i64 e, .int .i64 f])).run Try.prog w = .ok true w := fun w => by
  have h : (Op.equalIn 10000 38 (.agg #[.bool o, .int .i64 a, .int .i64 b, .int .u64 c, .int .i64 d, .int .i64 e, .int .i64 f]) (.agg #[.bool o, .int .i64 a, .int .i64 b, .int .u64 c, .int .i64 d, .int .i64 e, .int .i64 f])).run Try.prog w = .ok (o == o && (a == a && (b == b && (c == c && (d == d && (e == e && (f == f && true))))))) w := by
    refine eqs_of (d := 9999) Try.underlying38 (by kernel_rfl) ?_
    refine eqs_cons (by rfl) (by go_simp; rfl) (by go_simp; rfl) (by go_simp) ?_
    refine eqs_cons (by rfl) (by go_simp; rfl) (by go_simp; rfl) (by go_simp) ?_
    refine eqs_cons (by rfl) (by go_simp; rfl) (by go_simp; rfl) (by go_simp) ?_
    refine eqs_cons (by rfl) (by go_simp; rfl) (by go_simp; rfl) (by go_simp) ?_
    refine eqs_cons (by rfl) (by go_simp; rfl) (by go_simp; rfl) (by go_simp) ?_
    refine eqs_cons (by rfl) (by go_simp; rfl) (by go_simp; rfl) (by go_simp) ?_
    refine eqs_cons (by rfl) (by go_simp; rfl) (by go_simp; rfl) (by go_simp) ?_
    exact eqs_nil
  rw [h]; simp
end
end Go.Proofs.Ytblapbnplflghaa
