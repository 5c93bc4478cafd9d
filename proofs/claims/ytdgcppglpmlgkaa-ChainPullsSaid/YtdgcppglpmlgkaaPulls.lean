/- ChainPulls. -/
import Derived.Test.YtdgcppglpmlgkaaOpC
import Derived.Test.YtdgcppglpmlgkaaMapII
namespace Go.Proofs.Ytdgcppglpmlgkaa
open Go.RowKit
set_option linter.unusedVariables false
set_option linter.unusedSimpArgs false

def m63 (x : Int) : Nat := (bits .and .i64 x 63).toNat
theorem m63_eq (x : Int) : bits .and .i64 x 63 = (m63 x : Int) ∧ m63 x < 64 := by
  obtain ⟨k, h1, h2⟩ := mask63 x
  unfold m63
  rw [h1]
  exact ⟨by simp, by simpa using h2⟩
/-- Each once, as it came first. -/
def uniqs (l : List Nat) : List Nat := l.foldl (fun u k => if k ∈ u then u else u ++ [k]) []
theorem uniqs_snoc (l : List Nat) (k : Nat) : uniqs (l ++ [k]) = if k ∈ uniqs l then uniqs l else uniqs l ++ [k] := by
  unfold uniqs; rw [List.foldl_append]; rfl
theorem mem_uniqs (l : List Nat) (k : Nat) : k ∈ uniqs l ↔ k ∈ l := by
  have h : ∀ (l u : List Nat), k ∈ l.foldl (fun u k => if k ∈ u then u else u ++ [k]) u ↔ k ∈ u ∨ k ∈ l := by
    intro l
    induction l with
    | nil => intro u; simp
    | cons a t ih =>
      intro u
      rw [List.foldl_cons, ih]
      by_cases hc : a ∈ u
      · rw [if_pos hc]
        constructor
        · rintro (h | h)
          · exact .inl h
          · exact .inr (by simp [h])
        · rintro (h | h)
          · exact .inl h
          · rcases List.mem_cons.1 h with h | h
            · exact .inl (h ▸ hc)
            · exact .inr h
      · rw [if_neg hc]
        simp
        constructor
        · rintro ((h | h) | h) <;> simp [h]
        · rintro (h | h | h) <;> simp [h]
  have := h l []
  unfold uniqs
  rw [this]
  simp
theorem take_snoc {α : Type} {l : List α} {i : Nat} (h : i < l.length) : l.take (i + 1) = l.take i ++ [l[i]] := by
  rw [List.take_add_one]; simp [h]

theorem isOn1 (R : Nat → List Nat) (k : Nat) : isOn 1 R k = decide (k ∈ R 0) := by simp [isOn, List.range_succ]
theorem pull1R (R : Nat → List Nat) (k : Nat) : (pullR 1 R k) 0 = (R 0).erase k := by
  unfold pullR onB
  rw [Int.toNat_natCast, isOn1]
  by_cases h : k ∈ R 0
  · rw [if_pos (by simp [h])]
  · rw [if_neg (by simp [h]), List.erase_of_not_mem h]
theorem push1R {R : Nat → List Nat} {k : Nat} (hk : k < 64) : (pushR 64 1 R 0 k) 0 = if k ∈ R 0 then R 0 else R 0 ++ [k] := by
  unfold pushR canPush
  rw [Int.toNat_natCast, isOn1]
  by_cases h : k ∈ R 0
  · rw [if_neg (by simp [h]), if_pos h]
  · rw [if_pos (by simp [h]; omega), if_neg h]
    simp [updR]
theorem erase_filter {l : List Nat} (hn : l.Nodup) (o : List Nat) (k : Nat) : (l.filter (fun x => !decide (x ∈ o))).erase k = l.filter (fun x => !decide (x ∈ o ++ [k])) := by
  rw [List.Nodup.erase_eq_filter (hn.filter _), List.filter_filter]
  apply List.filter_congr
  intro x _
  by_cases h1 : x ∈ o <;> by_cases h2 : x = k <;> simp [h1, h2]
theorem nodup_uniqs (l : List Nat) : (uniqs l).Nodup := by
  have h : ∀ (l u : List Nat), u.Nodup → (l.foldl (fun u k => if k ∈ u then u else u ++ [k]) u).Nodup := by
    intro l
    induction l with
    | nil => intro u h; exact h
    | cons a t ih =>
      intro u h
      rw [List.foldl_cons]
      apply ih
      by_cases hc : a ∈ u
      · rw [if_pos hc]; exact h
      · rw [if_neg hc, List.nodup_append]
        exact ⟨h, by simp, fun x hx y hy e => by simp at hy; subst hy; subst e; exact hc hx⟩
  exact h l [] List.nodup_nil

/-- One more is told: want. -/
theorem want_step {l o : List Nat} {i : Nat} (h : i < l.length) {f g : Int → Int} (hf : ∀ k : Nat, f k = (l.take i).count k) (hg : ∀ k : Nat, g k = 0 ↔ k ∉ o) :
    ((uniqs (l.take (i + 1))).filter (fun x => !decide (x ∈ o))) = if f (l[i] : Nat) = 0 ∧ g (l[i] : Nat) = 0 then (uniqs (l.take i)).filter (fun x => !decide (x ∈ o)) ++ [l[i]] else (uniqs (l.take i)).filter (fun x => !decide (x ∈ o)) := by
  have hc : f (l[i] : Nat) = 0 ↔ l[i] ∉ l.take i := by
    rw [hf, ← List.count_eq_zero]; omega
  rw [take_snoc h, uniqs_snoc]
  by_cases h1 : l[i] ∈ l.take i
  · rw [if_pos ((mem_uniqs _ _).2 h1), if_neg (fun hh => hc.1 hh.1 h1)]
  · rw [if_neg (fun hh => h1 ((mem_uniqs _ _).1 hh)), List.filter_append]
    by_cases h2 : l[i] ∈ o
    · rw [if_neg (fun hh => (hg _).1 hh.2 h2)]; simp [h2]
    · rw [if_pos ⟨hc.2 h1, (hg _).2 h2⟩]; simp [h2]

/-- What is counted so far. -/
def Cnt (f : Int → Int) (l : List Nat) : Prop := (∀ k : Nat, f k = l.count k) ∧ ∀ k : Int, k < 0 → f k = 0
theorem Cnt.start : Cnt (fun _ => 0) [] := ⟨fun _ => rfl, fun _ _ => rfl⟩
theorem Cnt.step {f : Int → Int} {l : List Nat} (h : Cnt f l) (k : Nat) : Cnt (updF f k (f k + 1)) (l ++ [k]) := by
  refine ⟨fun x => ?_, fun x hx => ?_⟩
  · unfold updF
    rw [List.count_append]
    by_cases e : x = k
    · subst e; rw [if_pos rfl, h.1]; simp
    · rw [if_neg (by omega), h.1, List.count_singleton]
      have : (k == x) = false := by simp; omega
      rw [this]; simp
  · unfold updF
    rw [if_neg (by omega)]; exact h.2 x hx
theorem Cnt.le {f : Int → Int} {l : List Nat} (h : Cnt f l) (k : Nat) : 0 ≤ f k ∧ f k ≤ l.length := by
  rw [h.1]
  have := List.count_le_length (a := k) (l := l)
  omega

theorem natsI_snoc' (l : List Nat) (k : Nat) : natsI l ++ [(k : Int)] = natsI (l ++ [k]) := by simp [natsI]
theorem Below.grown' {B : Nat} {a w w' : World} {b : Nat} (h : Below B a w) (hg : w.grownBy w' (some b)) (hB : B ≤ w.heap.size) (hb : B ≤ b) : Below B a w' :=
  h.grown hg hB (fun k e => by injection e with e; omega)
theorem Cel.block {w w' : World} {b o : Nat} {v : Value} (h : Cel w b o v) (hb : w'.heap[b]? = w.heap[b]?) : Cel w' b o v :=
  ⟨(World.cell?_of_block hb).trans h.1, (World.frozen?_of_block hb).trans h.2⟩
theorem ChI.grown {w w' : World} {p L M n m b : Nat} {R : Nat → List Nat} (h : ChI w p L M n m R) (hg : w.grownBy w' (some b)) (hp : p ≠ b) (hL : L ≠ b) (hM : M ≠ b) : ChI w' p L M n m R := by
  have hlt := h.lt
  obtain ⟨s, h, h2⟩ := h
  have e1 : w'.heap[p]? = w.heap[p]? := hg.5 p hlt.1 (fun e => by injection e; omega)
  have e2 : w'.heap[L]? = w.heap[L]? := hg.5 L hlt.2.1 (fun e => by injection e; omega)
  have e3 : w'.heap[M]? = w.heap[M]? := hg.5 M hlt.2.2.1 (fun e => by injection e; omega)
  have hs := hg.4
  exact ⟨s, ⟨h.pl.block e1, h.pm.block e1, fun k f hk hf => (h.hl k f hk hf).block e2, fun k f hk hf => (h.he k f hk hf).block e3, by omega, by omega, h.dpl, h.dpm, h.dlm, h.bn, h.bm⟩, h2⟩
theorem wf_small {x : Int} (h : 0 ≤ x ∧ x < 1000000) : (Lit.int .i64 x).wf = true := WalkArith.wf_i64 (by omega)

set_option maxHeartbeats 8000000 in
set_option maxRecDepth 100000 in
theorem pulls_walk (A1 : Option Addr) (c1 : Nat) (xs : List Int) (A2 : Option Addr) (c2 : Nat) (ms : List Int) (w : World) (hr1 : RowAt intCells 1 w A1 xs) (hr2 : RowAt intCells 1 w A2 ms) :
    Calls Try.prog 10 #[.slice A1 xs.length c1, .slice A2 ms.length c2] w fun e w' => e = .returned (.bool true) ∧ Below w.heap.size w w' := by
  by_cases hbig : 50 < xs.length
  · have hb1 : decide ((50 : Int) < (xs.length : Int)) = true := by simp; omega
    go_enter Try.func10, Try.ntmps10
    go_wp2_with fail
    refine (alive_c w).mono ?_
    rintro e w1 ⟨rfl, hB1⟩
    have HB1 := Lib.hid hB1
    clear hB1
    go_wp2
    go_ret
    exact ⟨rfl, HB1.out⟩
  have hb1 : decide ((50 : Int) < (xs.length : Int)) = false := by simp; omega
  by_cases hbig2 : 50 < ms.length
  · have hb2 : decide ((50 : Int) < (ms.length : Int)) = true := by simp; omega
    go_enter Try.func10, Try.ntmps10
    go_wp2_with fail
    refine (alive_c w).mono ?_
    rintro e w1 ⟨rfl, hB1⟩
    have HB1 := Lib.hid hB1
    clear hB1
    go_wp2
    go_ret
    exact ⟨rfl, HB1.out⟩
  have hb2 : decide ((50 : Int) < (ms.length : Int)) = false := by simp; omega
  replace hbig := Lib.hid hbig; replace hbig2 := Lib.hid hbig2
  have HR1 := Lib.hid hr1; have HR2 := Lib.hid hr2
  clear hr1 hr2
  have hmm := @run_makeMap Try.prog
  go_enter Try.func10, Try.ntmps10
  go_wp2_with fail
  refine (alive_c w).mono ?_
  rintro e w1 ⟨rfl, hB1⟩
  have HB1 := Lib.hid hB1
  clear hB1
  go_wp2_with fail
  refine (new_i w1 64 1 64 1 rfl rfl).mono ?_
  rintro e w2 ⟨p, L, M, rfl, G, bp, bL, bM, B2⟩
  have HB2 := Lib.hid (HB1.out.trans (B2.mono HB1.out.size))
  have hL := Lib.hid (show w.heap.size ≤ L ∧ L < w2.heap.size from ⟨Nat.le_trans HB1.out.size bL, G.lt.2.1⟩)
  have hp := Lib.hid G.lt.1
  have hM := Lib.hid (show w.heap.size ≤ M ∧ M < w2.heap.size from ⟨Nat.le_trans HB1.out.size bM, G.lt.2.2.1⟩)
  clear bp bL bM B2 HB1
  have Ba := Below.alloc (Below.refl w2.heap.size w2) (Nat.le_refl _) (.map #[] 0)
  have Bb := Ba.alloc Ba.size (.map #[] 0)
  have O1 := Lib.hid ((IsM.made w2).alloc (.map #[] 0))
  have O2 := Lib.hid (IsM.made (w2.alloc (.map #[] 0)))
  have G2 := Lib.hid (G.below Bb (Nat.le_refl _))
  have HB3 := Lib.hid (HB2.out.trans (Bb.mono HB2.out.size))
  have hge := Lib.hid (show w2.heap.size + 2 ≤ ((w2.alloc (.map #[] 0)).alloc (.map #[] 0)).heap.size by simp)
  rw [World.size_alloc] at O2
  have hge2 := Lib.hid HB2.out.size
  clear Ba Bb G HB2
  go_wp2_with fail
  replace hL := Lib.hid (show w.heap.size ≤ L ∧ L < w2.heap.size from hL.out)
  generalize ((w2.alloc (.map #[] 0)).alloc (.map #[] 0)) = w3 at *
  generalize w2.heap.size = S at *
  clear hmm
  obtain ⟨kk, hkk⟩ : ∃ kk, kk = xs.map m63 := ⟨_, rfl⟩
  replace hkk := Lib.hid hkk
  go_loopw [30] (fun ii wr => ∃ (i : Nat) (R : Nat → List Nat), ii = .int .i64 i ∧ Hid (i ≤ xs.length) ∧ Hid (ChI wr p L M 64 1 R) ∧ Hid (R 0 = uniqs (kk.take i)) ∧ Hid (IsM wr S 0 (fun _ => 0)) ∧ Hid (IsM wr (S + 1) 0 (fun _ => 0)) ∧ Hid (Below w.heap.size w wr) ∧ Hid (S + 2 ≤ wr.heap.size)) (fun ii _ => xs.length - (intOf ii).toNat)
  case atStart => exact ⟨0, c0, rfl, Lib.hid (Nat.zero_le _), G2, Lib.hid rfl, O1, O2, HB3, hge⟩
  case round =>
    obtain ⟨i, R, rfl, h1, K, hR1, Oi, Oo, HB, hS⟩ := hrel
    clear G2 O1 O2 HB3 hge
    by_cases hlt : i < xs.length
    · have hi50 : i < 50 := by have := hbig.out; omega
      obtain ⟨b, off, rfl, hc⟩ := RowAt.get HR1.out hlt
      have hz := (HB.out.cell (by exact World.block_lt_of_cell? w _ hc)).trans hc
      have hki : kk.take (i + 1) = kk.take i ++ [m63 (xs.getD i 0)] := by
        have h2 : i < kk.length := by rw [hkk.out]; simpa using hlt
        rw [take_snoc h2]
        have : kk[i] = m63 (xs.getD i 0) := by simp [hkk.out, hlt]
        rw [this]
      replace hki := Lib.hid hki
      generalize xs.getD i 0 = z at *
      clear hc
      obtain ⟨hK, hk64⟩ := m63_eq z
      generalize m63 z = kn at *
      go_wp2_with fail
      refine (push_i K.out 0 kn).mono ?_
      rintro e w5 ⟨rfl, X, F5⟩
      have Oi5 := Lib.hid (Oi.out.block (F5.block S (by have := hS.out; omega) (fun o hs => by have := hL.out; have := hM.out; rcases hs with h | h <;> omega)))
      have Oo5 := Lib.hid (Oo.out.block (F5.block (S + 1) (by have := hS.out; omega) (fun o hs => by have := hL.out; have := hM.out; rcases hs with h | h <;> omega)))
      have HB5 := below_chain HB F5 (Nat.le_refl _) hL.out.1 hM.out.1
      have hS5 := Lib.hid (Nat.le_trans hS.out F5.size)
      have hX := push1R (R := R) hk64
      rw [hR1.out, ← uniqs_snoc, ← hki.out] at hX
      replace hX := Lib.hid hX
      replace X := Lib.hid X
      clear K Oi Oo HB F5 hS
      go_wp2
      go_roundw
      case rel => exact ⟨i + 1, _, by go_num, Lib.hid (by omega), X, hX, Oi5, Oo5, HB5, hS5⟩
      case measure => simp [intOf]; omega
    · have hi : i = kk.length := by rw [hkk.out, List.length_map]; have := h1.out; omega
      have hu : R 0 = (uniqs kk).filter (fun x => !decide (x ∈ ([] : List Nat))) := by
        rw [hR1.out, hi, List.take_length]
        symm
        apply List.filter_eq_self.2
        intro a _
        simp
      obtain ⟨oo, hoo⟩ : ∃ oo, oo = ms.map m63 := ⟨_, rfl⟩
      replace hoo := Lib.hid hoo
      replace hu := Lib.hid hu
      clear h1 hR1 hi
      go_wp2_with fail
      go_loopw [41] (fun jj wr => ∃ (j : Nat) (R : Nat → List Nat) (g : Int → Int), jj = .int .i64 j ∧ Hid (j ≤ ms.length) ∧ Hid (ChI wr p L M 64 1 R) ∧ Hid (R 0 = (uniqs kk).filter (fun x => !decide (x ∈ oo.take j))) ∧ Hid (IsM wr S j g) ∧ Hid (Cnt g (oo.take j)) ∧ Hid (IsM wr (S + 1) 0 (fun _ => 0)) ∧ Hid (Below w.heap.size w wr) ∧ Hid (S + 2 ≤ wr.heap.size)) (fun jj _ => ms.length - (intOf jj).toNat)
      case atStart => exact ⟨0, R, _, rfl, Lib.hid (Nat.zero_le _), K, hu, Oi, Lib.hid Cnt.start, Oo, HB, hS⟩
      case round =>
        clear K hu Oi Oo HB hS
        obtain ⟨j, R, g, rfl, h1, K, hR, Oi, hC, Oo, HB, hS⟩ := hrel
        by_cases hlt : j < ms.length
        · have hi50 : j < 50 := by have := hbig2.out; omega
          obtain ⟨b, off, rfl, hc⟩ := RowAt.get HR2.out hlt
          have hz := (HB.out.cell (by exact World.block_lt_of_cell? w _ hc)).trans hc
          have hki : oo.take (j + 1) = oo.take j ++ [m63 (ms.getD j 0)] := by
            have h2 : j < oo.length := by rw [hoo.out]; simpa using hlt
            rw [take_snoc h2]
            have : oo[j] = m63 (ms.getD j 0) := by simp [hoo.out, hlt]
            rw [this]
          have hol : (oo.take j).length ≤ 50 := by rw [List.length_take]; omega
          replace hki := Lib.hid hki
          generalize ms.getD j 0 = z at *
          clear hc
          obtain ⟨hK, hk64⟩ := m63_eq z
          generalize m63 z = kn at *
          have hgb := hC.out.le kn
          have hgb2 : g kn ≤ 50 := by omega
          have hgb0 := hgb.1
          replace hgb := Lib.hid hgb
          replace hol := Lib.hid hol
          go_wp2_with fail
          refine (pull_i K.out kn).mono ?_
          rintro e w5 ⟨rfl, X, F5⟩
          have Oi5 := Lib.hid (Oi.out.block (F5.block S (by have := hS.out; omega) (fun o hs => by have := hL.out; have := hM.out; rcases hs with h | h <;> omega)))
          have Oo5 := Lib.hid (Oo.out.block (F5.block (S + 1) (by have := hS.out; omega) (fun o hs => by have := hL.out; have := hM.out; rcases hs with h | h <;> omega)))
          have HB5 := below_chain HB F5 (Nat.le_refl _) hL.out.1 hM.out.1
          have hS5 := Lib.hid (Nat.le_trans hS.out F5.size)
          have hX := pull1R R kn
          rw [hR.out, erase_filter (nodup_uniqs _), ← hki.out] at hX
          replace hX := Lib.hid hX
          replace X := Lib.hid X
          clear K Oi Oo HB F5 hS hR
          have hwk : (Lit.int .i64 (kn : Int)).wf = true := wf_small (by omega)
          have hwv : (Lit.int .i64 (g kn + 1)).wf = true := wf_small (by omega)
          have Hwk := Lib.hid hwk; have Hwv := Lib.hid hwv
          clear hwk hwv
          go_wp2_with (first | (at_lookup; refine look_m rfl rfl Try.underlying50 rfl Oi5.out rfl Hwk.out ?_) | (at_mapUpdate; refine upd_m rfl rfl Try.underlying50 rfl Oi5.out (by omega) rfl Hwk.out rfl Hwv.out ?_))
          intro w6 P1 P2
          have X6 := Lib.hid (X.out.grown P2 (by have := hp.out; omega) (by have := hL.out; omega) (by have := hM.out; omega))
          have Oo6 := Lib.hid (Oo5.out.kept P2 (by intro e; injection e; omega))
          have HB6 := Lib.hid (Below.grown' HB5.out P2 (by have := hge2.out; have := hS5.out; omega) hge2.out)
          have hS6 := Lib.hid (Nat.le_trans hS5.out P2.4)
          have hC6 := hC.out.step kn
          rw [← hki.out] at hC6
          replace hC6 := Lib.hid hC6
          replace P1 := Lib.hid P1
          clear X Oi5 Oo5 HB5 hS5 P2 hgb0 hgb2
          go_wp2
          go_roundw
          case rel => exact ⟨j + 1, _, _, by go_num, Lib.hid (by omega), X6, hX, P1, hC6, Oo6, HB6, hS6⟩
          case measure => simp [intOf]; omega
        · have hj : j = oo.length := by rw [hoo.out, List.length_map]; have := h1.out; omega
          have hR' : R 0 = (uniqs kk).filter (fun x => !decide (x ∈ oo)) := by rw [hR.out, hj, List.take_length]
          have hC' : Cnt g oo := by have := hC.out; rw [hj, List.take_length] at this; exact this
          replace hR' := Lib.hid hR'; replace hC' := Lib.hid hC'
          have hla : (rowI R 0).length ≤ 8192 := K.out.rowLen 0
          replace hla := Lib.hid hla
          have hb := Below.alloc (Below.refl wr.heap.size wr) (Nat.le_refl _) (.cells #[] 3)
          have K0 := Lib.hid (K.out.below hb (Nat.le_refl _))
          have G0 := Lib.hid (Oi.out.alloc (.cells #[] 3))
          have S0 := Lib.hid (Oo.out.alloc (.cells #[] 3))
          have V0 := Lib.hid (OwnI.lit wr wr.heap.size (Nat.le_refl _) [] #[] rfl (by simp))
          have B0 := Lib.hid (HB.out.trans (hb.mono HB.out.size))
          have Z0 := Lib.hid hb.size
          clear h1 hC hR K Oi Oo HB hj hb
          go_wp2_with fail
          generalize wr.alloc (.cells #[] 3) = w5 at *
          generalize wr.heap.size = W0 at *
          go_loopw [12, 58] (fun v ii wr => ∃ (i : Nat) (f : Int → Int), ii = .int .i64 i ∧ Hid (i ≤ xs.length) ∧ Hid (ChI wr p L M 64 1 R) ∧ Hid (OwnI wr W0 v (natsI ((uniqs (kk.take i)).filter (fun x => !decide (x ∈ oo))))) ∧ Hid (IsM wr S j g) ∧ Hid (IsM wr (S + 1) i f) ∧ Hid (Cnt f (kk.take i)) ∧ Hid (Below w.heap.size w wr) ∧ Hid (W0 ≤ wr.heap.size)) (fun v ii _ => xs.length - (intOf ii).toNat)
          case atStart => exact ⟨0, _, rfl, Lib.hid (Nat.zero_le _), K0, V0, G0, S0, Lib.hid Cnt.start, B0, Z0⟩
          case round =>
            clear K0 V0 G0 S0 B0 Z0
            obtain ⟨i, f, rfl, h1, K, V, Gm, Sm, hC, HB, hZ⟩ := hrel
            by_cases hlt : i < xs.length
            · have hi50 : i < 50 := by have := hbig.out; omega
              obtain ⟨b, off, rfl, hc⟩ := RowAt.get HR1.out hlt
              have hz := (HB.out.cell (by exact World.block_lt_of_cell? w _ hc)).trans hc
              have h2 : i < kk.length := by rw [hkk.out]; simpa using hlt
              have hkz : kk[i] = m63 (xs.getD i 0) := by simp [hkk.out, hlt]
              have hki : kk.take (i + 1) = kk.take i ++ [m63 (xs.getD i 0)] := by rw [take_snoc h2, hkz]
              have hw := want_step h2 hC.out.1 (f := f) (g := g) (o := oo) (fun k => by rw [hC'.out.1, ← List.count_eq_zero]; omega)
              rw [hkz] at hw
              have hol : (kk.take i).length ≤ 50 := by rw [List.length_take]; omega
              have hvl : (natsI ((uniqs (kk.take i)).filter (fun x => !decide (x ∈ oo)))).length ≤ 100000000 := by
                rw [natsI, List.length_map]
                have a1 := List.length_filter_le (fun x => !decide (x ∈ oo)) (uniqs (kk.take i))
                have a2 := nodup_lt_length 64 (uniqs (kk.take i)) (nodup_uniqs _) (fun x hx => by
                  have a3 := List.mem_of_mem_take ((mem_uniqs _ _).1 hx)
                  rw [hkk.out] at a3
                  obtain ⟨y, _, rfl⟩ := List.mem_map.1 a3
                  exact (m63_eq y).2)
                omega
              replace hki := Lib.hid hki; replace hw := Lib.hid hw; replace hvl := Lib.hid hvl
              clear hkz h2
              generalize xs.getD i 0 = z at *
              clear hc
              obtain ⟨hK, hk64⟩ := m63_eq z
              generalize m63 z = kn at *
              have hfb := hC.out.le kn
              have hfb1 : f kn ≤ 50 := by omega
              have hfb0 : 0 ≤ f kn := hfb.1
              clear hfb hol
              have hwk : (Lit.int .i64 (kn : Int)).wf = true := wf_small (by omega)
              have hwv : (Lit.int .i64 (f kn + 1)).wf = true := wf_small (by omega)
              have Hwk := Lib.hid hwk; have Hwv := Lib.hid hwv
              clear hwk hwv
              go_wp2_with (first | (at_lookup; refine look_m rfl rfl Try.underlying50 rfl Sm.out rfl Hwk.out ?_) | (at_mapUpdate; refine upd_m rfl rfl Try.underlying50 rfl Sm.out (by omega) rfl Hwk.out rfl Hwv.out ?_))
              intro w6 P1 P2
              have hSW := Lib.hid (show S + 2 ≤ W0 from hS.out)
              have K6 := Lib.hid (K.out.grown P2 (by have := hp.out; omega) (by have := hL.out; omega) (by have := hM.out; omega))
              have G6 := Lib.hid (Gm.out.kept P2 (by intro e; injection e; omega))
              have V6 := Lib.hid (V.out.block (fun k hk => P2.5 k (V.out.lt k hk).2 (by intro e; injection e with e; have := (V.out.lt k hk).1; have := hSW.out; omega)))
              have HB6 := Lib.hid (Below.grown' HB.out P2 (by have := hge2.out; have := hZ.out; have := hSW.out; omega) (by have := hge2.out; omega))
              have hZ6 := Lib.hid (Nat.le_trans hZ.out P2.4)
              have hC6 := hC.out.step kn
              rw [← hki.out] at hC6
              replace hC6 := Lib.hid hC6
              replace P1 := Lib.hid P1
              have hup : updF f kn (f kn + 1) kn = f kn + 1 := by unfold updF; rw [if_pos rfl]
              clear K V Gm Sm HB hZ P2
              have r1 := look_run (t := 50) P1.out Try.underlying50 Hwk.out
              have r2 := look_run (t := 50) G6.out Try.underlying50 Hwk.out
              rw [hup] at r1
              by_cases f0 : f kn = 0
              · have t1 : (f kn + 1 == 1) = true := by rw [f0]; rfl
                by_cases g0 : g kn = 0
                · have t2 : (g kn == 0) = true := beq_iff_eq.mpr g0
                  have hw' := hw.out
                  rw [if_pos ⟨f0, g0⟩] at hw'
                  replace hw' := Lib.hid hw'
                  replace f0 := Lib.hid f0; replace g0 := Lib.hid g0
                  have hsz : W0 ≤ (w6.alloc (.cells #[.int .i64 kn] 3)).heap.size := by have := hZ6.out; simp; omega
                  go_wp2_with (first | (at_builtin; refine append_int rfl rfl Try.underlying40 rfl (V6.out.alloc _) rfl (cell_new1 _ _ _) hvl.out hsz ?_))
                  intro v' w7 P3 P4 _ _
                  have P5 : Below W0 w6 w7 := (Below.alloc (Below.refl W0 w6) hZ6.out _).trans P4
                  have X7 := Lib.hid (K6.out.low P5 (by have := hp.out; have := hSW.out; omega) (by have := hL.out; have := hSW.out; omega) (by have := hM.out; have := hSW.out; omega))
                  have G7 := Lib.hid (G6.out.block (P5.block S (by have := hSW.out; omega)))
                  have P7 := Lib.hid (P1.out.block (P5.block (S + 1) (by have := hSW.out; omega)))
                  have HB7 := Lib.hid (HB6.out.trans (P5.mono (by have := hge2.out; have := hSW.out; omega)))
                  have hZ7 := Lib.hid (Nat.le_trans hZ6.out P5.size)
                  rw [natsI_snoc', ← hw'.out] at P3
                  replace P3 := Lib.hid P3
                  clear K6 G6 V6 HB6 hZ6 P1 P4 P5 hsz
                  go_wp2
                  go_roundw
                  case rel => exact ⟨i + 1, _, by go_num, Lib.hid (by omega), X7, P3, G7, P7, hC6, HB7, hZ7⟩
                  case measure => simp [intOf]; omega
                · have t2 : (g kn == 0) = false := beq_eq_false_iff_ne.mpr g0
                  have hw' := hw.out
                  rw [if_neg (fun hh => g0 hh.2)] at hw'
                  rw [← hw'] at V6
                  replace f0 := Lib.hid f0; replace g0 := Lib.hid g0
                  clear hw'
                  go_wp2
                  go_roundw
                  case rel => exact ⟨i + 1, _, by go_num, Lib.hid (by omega), K6, V6, G6, P1, hC6, HB6, hZ6⟩
                  case measure => simp [intOf]; omega
              · have t1 : (f kn + 1 == 1) = false := beq_eq_false_iff_ne.mpr (by omega)
                have hw' := hw.out
                rw [if_neg (fun hh => f0 hh.1)] at hw'
                rw [← hw'] at V6
                replace f0 := Lib.hid f0
                clear hw'
                go_wp2
                go_roundw
                case rel => exact ⟨i + 1, _, by go_num, Lib.hid (by omega), K6, V6, G6, P1, hC6, HB6, hZ6⟩
                case measure => simp [intOf]; omega
            · have hi : i = kk.length := by rw [hkk.out, List.length_map]; have := h1.out; omega
              have hV := V.out
              rw [hi, List.take_length, ← hR'.out] at hV
              obtain ⟨Ai, ci, hvi⟩ := hV.slice
              rw [hvi] at hV
              replace hV := Lib.hid hV
              subst hvi
              have hnl : (natsI (R 0)).length ≤ 1000000000000 := by rw [natsI, List.length_map]; have := hla.out; have e : rowI R 0 = R 0 := rfl; rw [e] at this; omega
              replace hnl := Lib.hid hnl
              clear h1 V hi Sm Gm hC
              go_wp2_with fail
              refine (all_i K.out 0).mono ?_
              rintro e x6 ⟨v6, rfl, V6, F6⟩
              have K6 := (K.out.below F6 (Nat.le_refl _))
              have Q6 := (hV.out.fr (Fr.of_below (S := fun _ _ => False) F6 (Nat.le_refl _)) (fun _ _ _ h => h))
              have B6 := Lib.hid (HB.out.trans (F6.mono HB.out.size))
              clear K hV HB F6
              obtain ⟨Ae, ce, rfl⟩ := V6.slice
              have re := V6.row.1
              have ri := Q6.row.1
              clear V6 Q6
              have er1 : rowI R 0 = R 0 := rfl
              rw [er1] at re
              go_wp2_with fail
              refine (same_c re ri hnl.out hnl.out).mono ?_
              rintro e x7 ⟨rfl, F7⟩
              rw [decide_eq_true (rfl : natsI (R 0) = natsI (R 0))]
              have K7 := (K6.below F7 (Nat.le_refl _))
              have B7 := Lib.hid (B6.out.trans (F7.mono B6.out.size))
              have hll : ((natsI (R 0)).length : Int) = ((rowI R 0).length : Int) := by rw [natsI, List.length_map]; rfl
              clear K6 B6 F7 re ri er1
              go_wp2_with fail
              refine (len_i K7 0).mono ?_
              rintro e x8 ⟨rfl, rfl⟩
              clear K7
              go_wp2
              go_ret
              exact ⟨rfl, B7.out⟩
end Go.Proofs.Ytdgcppglpmlgkaa
