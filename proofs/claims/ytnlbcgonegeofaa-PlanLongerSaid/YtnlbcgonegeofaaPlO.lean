/- Of: the plan of slots. No condition. -/
import Derived.Test.YtnlbcgonegeofaaPlK
import Derived.Test.YtnlbcgonegeofaaOwnE
namespace Go.Proofs.Ytnlbcgonegeofaa
open Go.RowKit
set_option linter.unusedVariables false
set_option linter.unusedSimpArgs false
set_option maxRecDepth 100000

/-- A slot of a plan. -/
structure Ps where
  owner : Int
  frm : Nat
  til : Nat
deriving Inhabited
def Ps.cells (z : Ps) : List Value := [.int .i64 z.owner, .int .u64 z.frm, .int .u64 z.til]
def psE : Enc Ps where
  t := 53
  sz := 3
  f := Ps.cells
  z := .agg #[.int .i64 0, .int .u64 0, .int .u64 0]
  bytes := 24
  len := fun x => rfl
  one := fun x v h => by simp [Ps.cells] at h; rcases h with rfl | rfl | rfl <;> rfl
  info := by kernel_rfl
  zs := rfl
  pos := by decide
  small := by decide
def psl (xs : List Sl) (k : Nat) : List Ps := (List.range k).map fun i => ⟨(xs[i]?.map Sl.owner).getD 0, pre xs i, pre xs (i + 1)⟩
theorem psl_length (xs : List Sl) (k : Nat) : (psl xs k).length = k := by simp [psl]
theorem psl_at {xs : List Sl} {k i : Nat} (h : i < (psl xs k).length) (hi : i < xs.length) : (psl xs k)[i] = ⟨xs[i].owner, pre xs i, pre xs (i + 1)⟩ := by simp [psl, hi]
theorem psl_succ {xs : List Sl} {k : Nat} (h : k < xs.length) : psl xs (k + 1) = psl xs k ++ [⟨xs[k].owner, pre xs k, pre xs (k + 1)⟩] := by simp [psl, List.range_succ, h]
/-- The slots of a plan lie in memory. -/
abbrev PlAt (w : World) (A : Option Addr) (xs : List Sl) : Prop := RowAt Ps.cells 3 w A (psl xs xs.length)
theorem PlAt.at {w : World} {A : Option Addr} {xs : List Sl} (h : PlAt w A xs) {i : Nat} (hi : i < xs.length) : ∃ b off, A = some ⟨b, off, none⟩ ∧ b < w.heap.size ∧ w.cell? ⟨b, off + i * 3, none⟩ = some (.int .i64 xs[i].owner) ∧ w.cell? ⟨b, off + i * 3 + 1, none⟩ = some (.int .u64 (pre xs i : Nat)) ∧ w.cell? ⟨b, off + i * 3 + 2, none⟩ = some (.int .u64 (pre xs (i + 1) : Nat)) := by
  obtain ⟨b, off, e, hlt, hc⟩ := h i (by rw [psl_length]; exact hi)
  rw [psl_at _ hi] at hc
  exact ⟨b, off, e, hlt, hc 0 _ rfl, hc 1 _ rfl, hc 2 _ rfl⟩

/-- What Of holds in its variables behind i slots. -/
structure OfSt (w wr : World) (xs : List Sl) (i : Nat) (v : Value) : Prop where
  B : Below w.heap.size w wr
  sz : w.heap.size + 3 ≤ wr.heap.size
  r0 : Cel wr w.heap.size 0 (.slice none 0 0)
  r1 : Cel wr w.heap.size 1 (.int .u64 0)
  p0 : Cel wr (w.heap.size + 1) 0 v
  p1 : Cel wr (w.heap.size + 1) 1 (.int .u64 (pre xs i : Nat))
  s : ∀ j, j < 8 → Cel wr (w.heap.size + 1 + 1) j (.int .i64 (mineN (xs.take i) j : Nat))
  o : OwnE psE wr (w.heap.size + 3) v (psl xs i)
theorem OfSt.alloc {w wr : World} {xs : List Sl} {i : Nat} {v : Value} (h : OfSt w wr xs i v) (o : Obj) : OfSt w (wr.alloc o) xs i v :=
  ⟨belA h.B o, by have := h.sz; simp; omega, h.r0.alloc o, h.r1.alloc o, h.p0.alloc o, h.p1.alloc o, fun j hj => (h.s j hj).alloc o, h.o.alloc o⟩

theorem Cel.bel {B : Nat} {a a' : World} {b o : Nat} {v : Value} (h : Cel a b o v) (hb : Below B a a') (hlt : b < B) : Cel a' b o v :=
  ⟨(World.cell?_of_block (hb.block b hlt)).trans h.1, (World.frozen?_of_block (hb.block b hlt)).trans h.2⟩
theorem OfSt.next {w wr w' : World} {xs : List Sl} {i o m : Nat} {v v' : Value} {o1 o2 : Obj} (hmm : m = mineN (xs.take i) o) (h : OfSt w wr xs i v) (hi : i < xs.length) (ho : xs[i].owner = (o : Int)) (h8 : o < 8)
    (G2 : Below (w.heap.size + 3) (((wr.setCell ⟨w.heap.size + 1 + 1, o, none⟩ (.int .i64 ((m : Int) + 1))).alloc o1).alloc o2) w') (G1 : OwnE psE w' (w.heap.size + 3) v' (psl xs i ++ [⟨xs[i].owner, pre xs i, pre xs (i + 1)⟩])) :
    OfSt w ((w'.setCell ⟨w.heap.size + 1, 0, none⟩ v').setCell ⟨w.heap.size + 1, 1, none⟩ (.int .u64 (pre xs (i + 1) : Nat))) xs (i + 1) v' := by
  have hs := h.sz
  have hs2 := G2.size
  rw [World.size_alloc, World.size_alloc, World.size_setCell] at hs2
  have mv : ∀ {b q : Nat} {u : Value}, b < w.heap.size + 3 → (w.heap.size + 1 + 1 ≠ b ∨ o ≠ q) → Cel wr b q u → Cel w' b q u := fun hb hne hc => (((hc.other hne _).alloc o1).alloc o2).bel G2 hb
  refine ⟨?_, by rw [World.size_setCell, World.size_setCell]; omega, ?_, ?_, ?_, ?_, ?_, ?_⟩
  · have b2 : Below w.heap.size w w' := (belA (belA (belS h.B (by omega) _) o1) o2).trans (G2.mono (by omega))
    exact belS (belS b2 (by omega) _) (by omega) _
  · exact ((mv (by omega) (.inl (by omega)) h.r0).other (.inl (by omega)) _).other (.inl (by omega)) _
  · exact ((mv (by omega) (.inl (by omega)) h.r1).other (.inl (by omega)) _).other (.inl (by omega)) _
  · exact ((mv (by omega) (.inl (by omega)) h.p0).same _).other (.inr (by omega)) _
  · exact ((mv (by omega) (.inl (by omega)) h.p1).other (.inr (by omega)) _).same _
  · intro j hj
    have hm := mineN_take (xs := xs) (j : Int) hi
    rw [ho] at hm
    refine Cel.other (Cel.other ?_ (.inl (by omega)) _) (.inl (by omega)) _
    by_cases hjo : j = o
    · subst hjo
      rw [if_pos rfl] at hm
      rw [hm]
      rw [← hmm]
      have h9 := h.s j hj
      exact (((h9.same (.int .i64 ((m : Int) + 1))).alloc o1).alloc o2).bel G2 (by omega)
    · rw [if_neg (by omega), Nat.add_zero] at hm
      rw [hm]
      exact mv (by omega) (.inr (by omega)) (h.s j hj)
  · rw [psl_succ hi]
    have hlt := G1.lt
    refine OwnE.other (OwnE.other G1 (fun e => ?_) _) (fun e => ?_) _
    · have := hlt _ e; simp only at this; omega
    · have := hlt _ e; simp only at this; omega

/-- What Of answers. -/
def OfPost (xs : List Sl) (tn : Int) (w : World) (e : Ending) (w' : World) : Prop :=
  (Ok xs tn → ∃ A' c', e = .returned (.tuple #[.agg #[.slice A' xs.length c', .int .u64 (cyc xs : Nat)], .int .i64 0]) ∧ PlAt w' A' xs ∧ Below w.heap.size w w') ∧
  (¬ Ok xs tn → e = .returned (.tuple #[.agg #[.slice none 0 0, .int .u64 0], .int .i64 1]) ∧ Below w.heap.size w w')
theorem OfPost.bad {xs : List Sl} {tn : Int} {w w' : World} {e : Ending} (h : ¬ Ok xs tn) (he : e = .returned (.tuple #[.agg #[.slice none 0 0, .int .u64 0], .int .i64 1])) (hb : Below w.heap.size w w') : OfPost xs tn w e w' := ⟨fun h2 => absurd h2 h, fun _ => ⟨he, hb⟩⟩
theorem OfPost.good {xs : List Sl} {tn : Int} {w w' : World} {e : Ending} {A' : Option Addr} {c' : Nat} (h : Ok xs tn) (he : e = .returned (.tuple #[.agg #[.slice A' xs.length c', .int .u64 (cyc xs : Nat)], .int .i64 0])) (hp : PlAt w' A' xs) (hb : Below w.heap.size w w') : OfPost xs tn w e w' := ⟨fun _ => ⟨A', c', he, hp, hb⟩, fun h2 => absurd h h2⟩

set_option maxHeartbeats 4000000 in
theorem of_mid {w : World} {c : Nat} {A : Option Addr} {xs : List Sl} (hr : SlA w A xs) (tn : Int) (a1 : 1 ≤ xs.length) (a2 : xs.length ≤ 64) (a3 : 1 ≤ tn) (a4 : tn ≤ 8) :
    Calls Try.prog 10 #[.slice A xs.length c, .int .i64 tn] w fun e w' => OfPost xs tn w e w' := by
  obtain ⟨N, rfl⟩ := Int.eq_ofNat_of_zero_le (show 0 ≤ tn by omega)
  obtain ⟨d1, d1n⟩ : ((xs.length : Int) == 0) = false ∧ (xs.length == 0) = false := ⟨beq_eq_false_iff_ne.mpr (by omega), beq_eq_false_iff_ne.mpr (by omega)⟩
  obtain ⟨d2, d2n⟩ : decide ((64 : Int) < (xs.length : Int)) = false ∧ decide (64 < xs.length) = false := ⟨decide_eq_false (by omega), decide_eq_false (by omega)⟩
  obtain ⟨d3, d3n⟩ : decide ((N : Int) < 1) = false ∧ decide (N < 1) = false := ⟨decide_eq_false (by omega), decide_eq_false (by omega)⟩
  obtain ⟨d4, d4n⟩ : decide ((8 : Int) < (N : Int)) = false ∧ decide (8 < N) = false := ⟨decide_eq_false (by omega), decide_eq_false (by omega)⟩
  have key1 : Hid (∀ X, Below w.heap.size w X → SlA X A xs) := Lib.hid fun X hX => hr.below hX
  have A2 := Lib.hid a2; have A3 := Lib.hid a3; have A4 := Lib.hid a4; have A1 := Lib.hid a1
  have hl := a2
  clear a1 a2 a3 a4 hr
  go_enter Try.func10, Try.ntmps10
  go_wp2_with fail
  have S0 : Hid (OfSt w (((w.alloc (.cells #[.slice none 0 0, .int .u64 0] 27)).alloc (.cells #[.slice none 0 0, .int .u64 0] 27)).alloc (.cells #[.int .i64 0, .int .i64 0, .int .i64 0, .int .i64 0, .int .i64 0, .int .i64 0, .int .i64 0, .int .i64 0] 51)) xs 0 (.slice none 0 0)) := Lib.hid (by
    have z1 : (w.alloc (.cells #[.slice none 0 0, .int .u64 0] 27)).heap.size = w.heap.size + 1 := by simp
    have z2 : ((w.alloc (.cells #[.slice none 0 0, .int .u64 0] 27)).alloc (.cells #[.slice none 0 0, .int .u64 0] 27)).heap.size = w.heap.size + 1 + 1 := by simp
    refine ⟨belA (belA (belA (Below.refl _ _) _) _) _, by simp, ((Cel.new w _ _ 0 _ rfl).alloc _).alloc _, ((Cel.new w _ _ 1 _ rfl).alloc _).alloc _, ?_, ?_, ?_, OwnE.nil _ _⟩
    · have := (Cel.new (w.alloc (.cells #[.slice none 0 0, .int .u64 0] 27)) #[.slice none 0 0, .int .u64 0] 27 0 (.slice none 0 0) rfl).alloc (.cells #[.int .i64 0, .int .i64 0, .int .i64 0, .int .i64 0, .int .i64 0, .int .i64 0, .int .i64 0, .int .i64 0] 51)
      rw [z1] at this; exact this
    · have := (Cel.new (w.alloc (.cells #[.slice none 0 0, .int .u64 0] 27)) #[.slice none 0 0, .int .u64 0] 27 1 (.int .u64 0) rfl).alloc (.cells #[.int .i64 0, .int .i64 0, .int .i64 0, .int .i64 0, .int .i64 0, .int .i64 0, .int .i64 0, .int .i64 0] 51)
      rw [z1] at this; rw [pre_zero]; exact this
    · intro j hj
      have := Cel.new ((w.alloc (.cells #[.slice none 0 0, .int .u64 0] 27)).alloc (.cells #[.slice none 0 0, .int .u64 0] 27)) #[.int .i64 0, .int .i64 0, .int .i64 0, .int .i64 0, .int .i64 0, .int .i64 0, .int .i64 0, .int .i64 0] 51 j (.int .i64 0) (by
        have : j = 0 ∨ j = 1 ∨ j = 2 ∨ j = 3 ∨ j = 4 ∨ j = 5 ∨ j = 6 ∨ j = 7 := by omega
        rcases this with rfl | rfl | rfl | rfl | rfl | rfl | rfl | rfl <;> rfl)
      rw [z2] at this
      exact this)
  have hwlt := Lib.hid (Nat.le_refl w.heap.size)
  go_loopw [31] (fun iv wr => ∃ (i : Nat) (v : Value), iv = .int .i64 i ∧ Hid (i ≤ xs.length) ∧ Hid (OfSt w wr xs i v) ∧ Hid (∀ i' (h : i' < xs.length), i' < i → ¬ badS xs[i'] N) ∧ Hid (pre xs i ≤ 1000 * i)) (fun iv _ => xs.length - (intOf iv).toNat)
  case atStart => exact ⟨0, _, rfl, Lib.hid (Nat.zero_le _), S0, Lib.hid (fun _ _ h => by omega), Lib.hid (by rw [pre_zero]; omega)⟩
  case round =>
    obtain ⟨i, v, rfl, hi, S, hG, hP⟩ := hrel
    clear S0
    by_cases hlt : i < xs.length
    · obtain ⟨b, off, rfl, hbs, c0, c1⟩ := (key1.out wr S.out.B).at hlt
      obtain ⟨O, hO⟩ : ∃ O, O = xs[i].owner := ⟨_, rfl⟩
      obtain ⟨L, hL⟩ : ∃ L, L = xs[i].len := ⟨_, rfl⟩
      have hno : badS ⟨O, L⟩ N → ¬ Ok xs N := fun h => bad_no hlt (by rw [hO, hL] at h; exact h)
      rw [← hO] at c0
      rw [← hL] at c1
      have hsz := S.out.sz
      have b1 : w.heap.size + 1 + 1 < wr.heap.size := by omega
      have b2 : w.heap.size + 1 < wr.heap.size := by omega
      have b3 : w.heap.size < wr.heap.size := by omega
      obtain ⟨r0, r1⟩ := S.out.r0
      obtain ⟨r2, r3⟩ := S.out.r1
      have hbB := Lib.hid (fun u1 u2 => belA (belS (belS S.out.B (Nat.le_refl _) (k := w.heap.size) (o := 0) u1) (Nat.le_refl _) (k := w.heap.size) (o := 1) u2) (.cells #[.int .i64 O, .int .i64 L] 46))
      replace hno := Lib.hid hno
      replace hO := Lib.hid hO; replace hL := Lib.hid hL
      by_cases x1 : O < 0
      · have e1 : decide (O < 0) = true := decide_eq_true x1
        have hno2 := Lib.hid (hno.out (.inl x1))
        clear d1 d1n d2 d2n d3 d3n d4 d4n x1
        go_wp2
        refine bodyPost_ret (v := .tuple #[.agg #[.slice none 0 0, .int .u64 0], .int .i64 1]) (by simp [results, Try.results10, go_sem, *]) rfl ?_
        exact OfPost.bad hno2.out rfl (hbB.out _ _)
      have e1 : decide (O < 0) = false := decide_eq_false x1
      by_cases x2 : (N : Int) ≤ O
      · have e2 : decide ((N : Int) ≤ O) = true := decide_eq_true x2
        have hno2 := Lib.hid (hno.out (.inr (.inl x2)))
        clear d1 d1n d2 d2n d3 d3n d4 d4n x1 x2
        go_wp2
        refine bodyPost_ret (v := .tuple #[.agg #[.slice none 0 0, .int .u64 0], .int .i64 1]) (by simp [results, Try.results10, go_sem, *]) rfl ?_
        exact OfPost.bad hno2.out rfl (hbB.out _ _)
      have e2 : decide ((N : Int) ≤ O) = false := decide_eq_false x2
      by_cases x3 : L < 1
      · have e3 : decide (L < 1) = true := decide_eq_true x3
        have hno2 := Lib.hid (hno.out (.inr (.inr (.inl x3))))
        clear d1 d1n d2 d2n d3 d3n d4 d4n x1 x2 x3
        go_wp2
        refine bodyPost_ret (v := .tuple #[.agg #[.slice none 0 0, .int .u64 0], .int .i64 1]) (by simp [results, Try.results10, go_sem, *]) rfl ?_
        exact OfPost.bad hno2.out rfl (hbB.out _ _)
      have e3 : decide (L < 1) = false := decide_eq_false x3
      by_cases x4 : 1000 < L
      · have e4 : decide (1000 < L) = true := decide_eq_true x4
        have hno2 := Lib.hid (hno.out (.inr (.inr (.inr x4))))
        clear d1 d1n d2 d2n d3 d3n d4 d4n x1 x2 x3 x4
        go_wp2
        refine bodyPost_ret (v := .tuple #[.agg #[.slice none 0 0, .int .u64 0], .int .i64 1]) (by simp [results, Try.results10, go_sem, *]) rfl ?_
        exact OfPost.bad hno2.out rfl (hbB.out _ _)
      have e4 : decide (1000 < L) = false := decide_eq_false x4
      clear e1 e2 e3 e4 r0 r1 r2 r3 hbB hsz b1 b2 b3
      replace hO := hO.out; replace hL := hL.out
      have hG2 := Lib.hid (show ∀ i' (h : i' < xs.length), i' < i + 1 → ¬ badS xs[i'] N from fun i' h h2 => by
        by_cases he : i' = i
        · subst he; unfold badS; rw [← hO, ← hL]; omega
        · exact hG.out i' h (by omega))
      have ht := A4.out
      have hpb := hP.out
      have hps := pre_succ hlt
      have hl2 := A2.out
      have hn : (xs[i].n : Int) = L := by unfold Sl.n; rw [← hL]; omega
      obtain ⟨o, rfl⟩ := Int.eq_ofNat_of_zero_le (show 0 ≤ O by omega)
      obtain ⟨l, rfl⟩ := Int.eq_ofNat_of_zero_le (show 0 ≤ L by omega)
      have hP2 := Lib.hid (show pre xs (i + 1) ≤ 1000 * (i + 1) by omega)
      have h8 : o < 8 := by omega
      obtain ⟨m, hm⟩ : ∃ m, m = mineN (xs.take i) o := ⟨_, rfl⟩
      have hmb : m ≤ 64 := by
        rw [hm]
        have h1 : mineN (xs.take i) o ≤ (xs.take i).length := List.length_filter_le _ _
        rw [List.length_take] at h1
        omega
      obtain ⟨p, hp⟩ : ∃ p, p = pre xs i := ⟨_, rfl⟩
      obtain ⟨p2, hp2⟩ : ∃ p2, p2 = pre xs (i + 1) := ⟨_, rfl⟩
      have hpl : p2 = p + l := by omega
      have s1 := S.out.s o h8
      rw [← hm] at s1
      obtain ⟨s1, s2⟩ := s1
      obtain ⟨q0, q1⟩ := S.out.p0
      obtain ⟨q2, q3⟩ := S.out.p1
      rw [← hp] at q2
      have e1 : decide ((o : Int) < 0) = false := by simp
      obtain ⟨e2, e3⟩ : decide ((N : Int) ≤ (o : Int)) = false ∧ decide (N ≤ o) = false := ⟨decide_eq_false (by omega), decide_eq_false (by omega)⟩
      obtain ⟨e4, e5⟩ : decide ((l : Int) < 1) = false ∧ decide (l < 1) = false := ⟨decide_eq_false (by omega), decide_eq_false (by omega)⟩
      obtain ⟨e6, e7⟩ : decide ((1000 : Int) < (l : Int)) = false ∧ decide (1000 < l) = false := ⟨decide_eq_false (by omega), decide_eq_false (by omega)⟩
      have f1 : IntKind.u64.wrap (l : Int) = (l : Int) := wrapU (by omega)
      have f2 : IntKind.u64.wrap ((p : Int) + (l : Int)) = (p2 : Int) := by rw [wrapU (by omega)]; omega
      have f3 : IntKind.i64.wrap ((m : Int) + 1) = ((m + 1 : Nat) : Int) := by rw [IntKind.wrap_i64]; omega
      have f4 : (o : Int) < 8 := by omega
      have hsz := S.out.sz
      have b1 : w.heap.size + 1 + 1 < wr.heap.size := by omega
      have b2 : w.heap.size + 1 < wr.heap.size := by omega
      have b3 : w.heap.size < wr.heap.size := by omega
      have hlen2 := A2
      replace hp := Lib.hid hp; replace hp2 := Lib.hid hp2; replace hm := Lib.hid hm; replace hO := Lib.hid hO
      clear hL hn hpb hps hmb hpl hl2 x1 x2 x3 x4 hno d1 d1n d2 d2n d3 d3n d4 d4n
      have hneS : Hid (v.ownBlock ≠ some (w.heap.size + 1 + 1)) := Lib.hid (fun e => by have := S.out.o.lt _ e; omega)
      go_wp2_with (first | (at_builtin; refine append_rowE (E := psE) (xs := psl xs i) (ys := [⟨(o : Int), p, p2⟩]) rfl rfl Try.underlying25 rfl (((S.out.o.other (a := ⟨_, _, none⟩) hneS.out _).alloc _).alloc _) rfl (rowAt_new1 _ _ _ _ (by simp) rfl) rfl (by rw [psl_length]; have := hlen2.out; omega) (by simp) (by have := S.out.sz; simp; omega) ?_) | fail)
      intro v' w' G1 G2 G3 _
      obtain ⟨A2, c2, hv2, _⟩ := G1.slice
      obtain ⟨n2, hn2⟩ : ∃ n2, n2 = (psl xs i ++ [(⟨(o : Int), p, p2⟩ : Ps)]).length := ⟨_, rfl⟩
      rw [← hn2] at hv2
      replace hn2 := Lib.hid hn2
      subst hv2
      have n1 : Cel (((wr.setCell ⟨w.heap.size + 1 + 1, o, none⟩ (.int .i64 ((m : Int) + 1))).alloc (.cells #[.int .i64 (o : Int), .int .i64 (l : Int)] 46)).alloc (.cells #[.int .i64 (o : Int), .int .u64 (p : Int), .int .u64 (p2 : Int)] 53)) wr.heap.size 1 (.int .i64 (l : Int)) := by
        have := (Cel.new (wr.setCell ⟨w.heap.size + 1 + 1, o, none⟩ (.int .i64 ((m : Int) + 1))) #[.int .i64 (o : Int), .int .i64 (l : Int)] 46 1 _ rfl).alloc (.cells #[.int .i64 (o : Int), .int .u64 (p : Int), .int .u64 (p2 : Int)] 53)
        rw [World.size_setCell] at this
        exact this
      have n2' : w'.cell? ⟨wr.heap.size, 1, none⟩ = some (.int .i64 (l : Int)) := (World.cell?_of_block (G3.5 wr.heap.size n1.lt (fun e => by have := S.out.o.lt wr.heap.size e.symm; omega))).trans n1.1
      have m0 := ((((S.out.p0.other (b' := w.heap.size + 1 + 1) (o' := o) (.inl (by omega)) (.int .i64 ((m : Int) + 1))).alloc (.cells #[.int .i64 (o : Int), .int .i64 (l : Int)] 46)).alloc (.cells #[.int .i64 (o : Int), .int .u64 (p : Int), .int .u64 (p2 : Int)] 53)).bel G2 (by omega))
      have m1 := ((((S.out.p1.other (b' := w.heap.size + 1 + 1) (o' := o) (.inl (by omega)) (.int .i64 ((m : Int) + 1))).alloc (.cells #[.int .i64 (o : Int), .int .i64 (l : Int)] 46)).alloc (.cells #[.int .i64 (o : Int), .int .u64 (p : Int), .int .u64 (p2 : Int)] 53)).bel G2 (by omega))
      rw [← hp.out] at m1
      have hSn := OfSt.next hm.out S.out hlt hO.out.symm h8 G2 (by rw [← hO.out, ← hp.out, ← hp2.out]; exact G1)
      rw [← hp2.out] at hSn
      replace hSn := Lib.hid hSn
      obtain ⟨m0, m2⟩ := m0
      obtain ⟨m1, m3⟩ := m1
      clear n1 G1 G2 G3 S
      go_wp2
      go_roundw
      case rel => exact ⟨i + 1, _, by go_num, Lib.hid (by omega), hSn, hG2, hP2⟩
      case measure => simp [intOf]; omega
    · obtain rfl : i = xs.length := by have := hi.out; omega
      obtain ⟨A', c', hv, _⟩ := S.out.o.slice
      rw [psl_length] at hv
      subst hv
      obtain ⟨q0, q1⟩ := S.out.p0
      obtain ⟨q2, q3⟩ := S.out.p1
      obtain ⟨r0, r1⟩ := S.out.r0
      obtain ⟨r2, r3⟩ := S.out.r1
      have hsz := S.out.sz
      have b1 : w.heap.size + 1 + 1 < wr.heap.size := by omega
      have b2 : w.heap.size + 1 < wr.heap.size := by omega
      have b3 : w.heap.size < wr.heap.size := by omega
      have ht := A4.out
      obtain ⟨f1, f2⟩ : (N : Int) ≤ 8 ∧ N ≤ 8 := ⟨ht, by omega⟩
      have f3 : decide ((N : Int) < 0) = false := by simp
      obtain ⟨C, hC⟩ : ∃ C, C = pre xs xs.length := ⟨_, rfl⟩
      rw [← hC] at q2
      have hfin : Hid (∀ u1 u2, PlAt ((wr.setCell ⟨w.heap.size, 0, none⟩ u1).setCell ⟨w.heap.size, 1, none⟩ u2) A' xs ∧ Below w.heap.size w ((wr.setCell ⟨w.heap.size, 0, none⟩ u1).setCell ⟨w.heap.size, 1, none⟩ u2)) := Lib.hid (fun u1 u2 => by
        have hne : (Value.slice A' xs.length c').ownBlock ≠ some w.heap.size := fun e => by have := S.out.o.lt _ e; omega
        exact ⟨(OwnE.row (OwnE.other (OwnE.other S.out.o (a := ⟨_, _, none⟩) hne u1) (a := ⟨_, _, none⟩) hne u2)).1, belS (belS S.out.B (Nat.le_refl _) _) (Nat.le_refl _) _⟩)
      replace hC := Lib.hid hC
      clear hlt hi ht
      go_wp2_with fail
      go_loopw [88] (fun jv wr2 => ∃ j : Nat, jv = .int .i64 j ∧ wr2 = wr ∧ Hid (j ≤ N) ∧ Hid (∀ j' : Nat, j' < j → ∃ i, Own xs j' i)) (fun jv _ => N - (intOf jv).toNat)
      case atStart => exact ⟨0, rfl, rfl, Lib.hid (Nat.zero_le _), Lib.hid (fun _ h => by omega)⟩
      case round =>
        obtain ⟨j, rfl, rfl, hj, hJ⟩ := hrel
        by_cases hjN : j < N
        · have hj8 : j < 8 := by omega
          obtain ⟨s1, s2⟩ := S.out.s j hj8
          rw [List.take_length] at s1
          obtain ⟨m, hm⟩ : ∃ m, m = mineN xs j := ⟨_, rfl⟩
          rw [← hm] at s1
          by_cases hm0 : m = 0
          · have hno2 : Hid (¬ Ok xs N) := Lib.hid (fun ok => by
              obtain ⟨i, h1, h2⟩ := ok.has j (by omega) (by omega)
              have : 0 < mineN xs j := List.length_pos_of_mem (a := xs[i]) (List.mem_filter.2 ⟨List.getElem_mem h1, by simp [h2]⟩)
              omega)
            have hbB := Lib.hid (fun u1 u2 => (hfin.out u1 u2).2)
            subst hm0
            clear hm
            go_wp2
            refine bodyPost_ret (v := .tuple #[.agg #[.slice none 0 0, .int .u64 0], .int .i64 1]) (by simp [results, Try.results10, go_sem, *]) rfl ?_
            exact OfPost.bad hno2.out rfl (hbB.out _ _)
          have e1 : ((m : Int) == 0) = false := beq_eq_false_iff_ne.mpr (by omega)
          have e2 : (m == 0) = false := beq_eq_false_iff_ne.mpr (by omega)
          have hJ2 := Lib.hid (show ∀ j' : Nat, j' < j + 1 → ∃ i, Own xs j' i from fun j' h => by
            by_cases he : j' = j
            · subst he
              obtain ⟨s, hs⟩ := List.exists_mem_of_length_pos (show 0 < (xs.filter fun s => s.owner == (j' : Int)).length by unfold mineN at hm; omega)
              rw [List.mem_filter] at hs
              obtain ⟨i, h1, h2⟩ := List.getElem_of_mem hs.1
              exact ⟨i, h1, by rw [h2]; simpa using hs.2⟩
            · exact hJ.out j' (by omega))
          replace hm := Lib.hid hm
          go_wp2
          go_roundw
          case rel => exact ⟨j + 1, by go_num, by first | trivial | rfl, Lib.hid (by omega), hJ2⟩
          case measure => simp [intOf]; omega
        · have hok : Hid (Ok xs N) := Lib.hid ⟨A1.out, A2.out, A3.out, A4.out, fun i hi => by have := hG.out i hi hi; unfold badS at this; omega, fun t h1 h2 => by obtain ⟨n, rfl⟩ := Int.eq_ofNat_of_zero_le h1; exact hJ.out n (by omega)⟩
          clear hj
          go_wp2
          refine bodyPost_ret (v := .tuple #[.agg #[.slice A' xs.length c', .int .u64 (C : Int)], .int .i64 0]) (by simp [results, Try.results10, go_sem, *]) rfl ?_
          exact OfPost.good hok.out (by rw [hC.out]) (hfin.out _ _).1 (hfin.out _ _).2
/-- Of slots that may not be, by their number or the tenants'. -/
theorem of_out {w : World} {c n : Nat} {A : Option Addr} (tn : Int) (h : ¬ (1 ≤ n ∧ n ≤ 64 ∧ 1 ≤ tn ∧ tn ≤ 8)) :
    Calls Try.prog 10 #[.slice A n c, .int .i64 tn] w fun e w' => e = .returned (.tuple #[.agg #[.slice none 0 0, .int .u64 0], .int .i64 1]) ∧ Below w.heap.size w w' := by
  have hbB := Lib.hid (fun u1 u2 => belS (belS (belA (Below.refl w.heap.size w) (.cells #[.slice none 0 0, .int .u64 0] 27)) (Nat.le_refl _) (k := w.heap.size) (o := 0) u1) (Nat.le_refl _) (k := w.heap.size) (o := 1) u2)
  have hbA := Lib.hid (belA (Below.refl w.heap.size w) (.cells #[.slice none 0 0, .int .u64 0] 27))
  have h' := Lib.hid h
  clear h
  by_cases h1 : n = 0
  · subst h1
    go_enter Try.func10, Try.ntmps10
    go_wp2
    refine bodyPost_ret (v := .tuple #[.agg #[.slice none 0 0, .int .u64 0], .int .i64 1]) (by simp [results, Try.results10, go_sem, *]) rfl ?_
    exact ⟨rfl, by first | exact hbA.out | exact hbB.out _ _⟩
  obtain ⟨d1, d1n⟩ : ((n : Int) == 0) = false ∧ (n == 0) = false := ⟨beq_eq_false_iff_ne.mpr (by omega), beq_eq_false_iff_ne.mpr (by omega)⟩
  by_cases h2 : 64 < n
  · obtain ⟨d2, d2n⟩ : decide ((64 : Int) < (n : Int)) = true ∧ decide (64 < n) = true := ⟨decide_eq_true (by omega), decide_eq_true (by omega)⟩
    clear h1 h2
    go_enter Try.func10, Try.ntmps10
    go_wp2
    refine bodyPost_ret (v := .tuple #[.agg #[.slice none 0 0, .int .u64 0], .int .i64 1]) (by simp [results, Try.results10, go_sem, *]) rfl ?_
    exact ⟨rfl, by first | exact hbA.out | exact hbB.out _ _⟩
  obtain ⟨d2, d2n⟩ : decide ((64 : Int) < (n : Int)) = false ∧ decide (64 < n) = false := ⟨decide_eq_false (by omega), decide_eq_false (by omega)⟩
  by_cases h3 : tn < 1
  · have d3 : decide (tn < 1) = true := decide_eq_true h3
    clear h1 h2 h3
    go_enter Try.func10, Try.ntmps10
    go_wp2
    refine bodyPost_ret (v := .tuple #[.agg #[.slice none 0 0, .int .u64 0], .int .i64 1]) (by simp [results, Try.results10, go_sem, *]) rfl ?_
    exact ⟨rfl, by first | exact hbA.out | exact hbB.out _ _⟩
  have d3 : decide (tn < 1) = false := decide_eq_false h3
  have d4 : decide (8 < tn) = true := decide_eq_true (by have := h'.out; omega)
  clear h1 h2 h3
  go_enter Try.func10, Try.ntmps10
  go_wp2
  refine bodyPost_ret (v := .tuple #[.agg #[.slice none 0 0, .int .u64 0], .int .i64 1]) (by simp [results, Try.results10, go_sem, *]) rfl ?_
  exact ⟨rfl, by first | exact hbA.out | exact hbB.out _ _⟩
theorem of_c {w : World} {c : Nat} {A : Option Addr} {xs : List Sl} (hr : SlA w A xs) (tn : Int) :
    Calls Try.prog 10 #[.slice A xs.length c, .int .i64 tn] w fun e w' => OfPost xs tn w e w' := by
  by_cases h : 1 ≤ xs.length ∧ xs.length ≤ 64 ∧ 1 ≤ tn ∧ tn ≤ 8
  · exact of_mid hr tn h.1 h.2.1 h.2.2.1 h.2.2.2
  · exact (of_out tn h).mono fun e w' h2 => OfPost.bad (fun ok => h ⟨ok.l1, ok.l2, ok.t1, ok.t2⟩) h2.1 h2.2
end Go.Proofs.Ytnlbcgonegeofaa
