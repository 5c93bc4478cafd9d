/- Contracts of package ledger's functions. -/
import Derived.Test.YtdgcppglpmlgkaaOwnE
import Derived.Test.YtdgcppglpmlgkaaBookP
import Derived.Deep.LoopGhost
import Derived.BigQuiet
import Derived.Deep.QuietTactic
namespace Go.Proofs.Ytdgcppglpmlgkaa
open Go.RowKit
set_option linter.unusedVariables false
set_option linter.unusedSimpArgs false

theorem belowDrew {B : Nat} {a w : World} (h : Below B a w) (n : Nat) : Below B a (w.drewN n) := ⟨h.os, h.tape, h.output, h.size, h.block⟩
def lnE_i : Enc (Int × Int × Int) where
  t := 90
  sz := 3
  f := fun x => [.int .i64 (x.1), .int .i64 x.2.1, .int .i64 x.2.2]
  z := .agg #[.int .i64 0, .int .i64 0, .int .i64 0]
  bytes := 24
  len := fun x => rfl
  one := fun x v h => by simp at h; rcases h with rfl | rfl | rfl <;> rfl
  info := by kernel_rfl
  zs := rfl
  pos := by decide
  small := by decide

/-- A book at p: its lines are L, in the slice value v. -/
structure Bk_i (w : World) (p : Nat) (v : Value) (L : List (Int × Int × Int)) : Prop where
  cel : Cel w p 0 v
  own : OwnE lnE_i w 0 v L
  np : v.ownBlock ≠ some p
  good : Good L
  nd : (L.map (·.1)).Nodup

theorem Bk_i.fr {S : Nat → Prop} {w w' : World} {p : Nat} {v : Value} {L : List (Int × Int × Int)} (h : Bk_i w p v L) (hF : FrB S w w') (hp : ¬ S p) (hv : ∀ k, v.ownBlock = some k → ¬ S k) : Bk_i w' p v L :=
  ⟨h.cel.frb hF hp, h.own.frb hF hv, h.np, h.good, h.nd⟩
theorem Bk_i.below {w w' : World} {p : Nat} {v : Value} {L : List (Int × Int × Int)} (h : Bk_i w p v L) (hF : Below w.heap.size w w') : Bk_i w' p v L :=
  h.fr (FrB.of_below (S := fun _ => False) hF (Nat.le_refl _)) (fun h => h) (fun _ _ h => h)
theorem Bk_i.drewN {w : World} {p : Nat} {v : Value} {L : List (Int × Int × Int)} (h : Bk_i w p v L) (n : Nat) : Bk_i (w.drewN n) p v L := ⟨h.cel, h.own, h.np, h.good, h.nd⟩
theorem Bk_i.new (w : World) (p : Nat) (h : Cel w p 0 (.slice none 0 0)) : Bk_i w p (.slice none 0 0) [] :=
  ⟨h, OwnE.nil _ _, by simp [Value.ownBlock], Good.nil, by simp⟩

def FindSpec_i (v : Value) (L : List (Int × Int × Int)) (k : Int) (q : Option Addr) : Prop :=
  (fidx L k = none ∧ q = none) ∨ (∃ i g c, fidx L k = some i ∧ v = .slice (some ⟨g, 0, none⟩) L.length c ∧ q = some ⟨g, i * 3, none⟩)

set_option maxHeartbeats 1000000 in
theorem find_i {w : World} {p : Nat} {v : Value} {L : List (Int × Int × Int)} (h : Bk_i w p v L) (hl : L.length ≤ 100000) (k : Int) :
    Calls Try.prog 49 #[.pointer (some ⟨p, 0, none⟩), .int .i64 (k)] w fun e w' => ∃ q, e = .returned (.pointer q) ∧ FindSpec_i v L k q ∧ w = w' := by
  obtain ⟨A, c, rfl, hc⟩ := h.own.slice
  have h0 := h.cel.1
  have H := Lib.hid h; have HC := Lib.hid hc
  clear h hc
  go_enter Try.func49, Try.ntmps49
  go_wp2_with fail
  go_loopw [11] (fun ii wr => ∃ n : Nat, ii = .int .i64 n ∧ wr = w ∧ Hid (n ≤ L.length) ∧ Hid (∀ j (h : j < L.length), j < n → L[j].1 ≠ k)) (fun ii _ => L.length - (intOf ii).toNat)
  case atStart => exact ⟨0, rfl, rfl, Lib.hid (Nat.zero_le _), Lib.hid fun j _ h => absurd h (by omega)⟩
  case round =>
    obtain ⟨n, rfl, rfl, hn, hno⟩ := hrel
    by_cases hlt : n < L.length
    · obtain ⟨g, c', e, _, hgs, _⟩ := H.out.own.pos (by omega)
      injection e with e1 e2 e3
      subst e1; subst e3
      obtain ⟨hc0, _⟩ := OwnE.cel (E := lnE_i) (j := 0) H.out.own hlt rfl
      have e3 : n * lnE_i.sz + 0 = n * 3 := rfl
      rw [e3] at hc0
      obtain ⟨z, hz⟩ : ∃ z, z = L[n].1 := ⟨_, rfl⟩
      rw [← hz] at hc0
      have hz' := Lib.hid hz
      clear hz
      by_cases he : z = k
      · have e1 : (z == k) = true := by rw [he]; simp
        have hf : fidx L k = some n := fidx_hit hlt (by rw [← hz'.out]; exact he) hno.out
        replace hf := Lib.hid hf; replace he := Lib.hid he
        clear hno
        go_wp2
        go_ret
        exact ⟨_, rfl, .inr ⟨n, g, c, hf.out, rfl, rfl⟩, rfl⟩
      · have e1 : (z == k) = false := by
          exact beq_eq_false_iff_ne.mpr he
        replace he := Lib.hid he
        go_wp2
        go_roundw
        case rel =>
          refine ⟨n + 1, by go_num, by first | trivial | rfl, Lib.hid (by omega), Lib.hid fun j hj hjn => ?_⟩
          rcases Nat.lt_or_ge j n with h | h
          · exact hno.out j hj h
          · obtain rfl : j = n := by omega
            rw [← hz'.out]; exact he.out
        case measure => simp [intOf]; omega
    · have hf : fidx L k = none := fidx_miss (fun j hj => hno.out j hj (by omega))
      replace hf := Lib.hid hf
      clear hn hno
      go_wp2
      go_ret
      exact ⟨_, rfl, .inl ⟨hf.out, rfl⟩, rfl⟩

def bkS_i (p : Nat) (v : Value) : Nat → Prop := fun k => k = p ∨ v.ownBlock = some k
/-- What a line of a book holds. -/
theorem Bk_i.at {w : World} {p g c i : Nat} {L : List (Int × Int × Int)} (h : Bk_i w p (.slice (some ⟨g, 0, none⟩) L.length c) L) (hi : i < L.length) :
    Cel w g (i * 3) (.int .i64 (L[i].1)) ∧ Cel w g (i * 3 + 1) (.int .i64 L[i].2.1) ∧ Cel w g (i * 3 + 2) (.int .i64 L[i].2.2) :=
  ⟨OwnE.cel (E := lnE_i) (j := 0) h.own hi rfl, OwnE.cel (E := lnE_i) (j := 1) h.own hi rfl, OwnE.cel (E := lnE_i) (j := 2) h.own hi rfl⟩
theorem Bk_i.set {w : World} {p g c i j : Nat} {L : List (Int × Int × Int)} {k : Int} {q : Int × Int} {u : Value} (h : Bk_i w p (.slice (some ⟨g, 0, none⟩) L.length c) L) (hf : fidx L k = some i) (hj : j < 3)
    (hy : ∀ (hi : i < L.length), [.int .i64 (k), .int .i64 q.1, .int .i64 q.2] = [.int .i64 (L[i].1), .int .i64 L[i].2.1, .int .i64 L[i].2.2].set j u) (hq : okP q) :
    Bk_i (w.setCell ⟨g, i * 3 + j, none⟩ u) p (.slice (some ⟨g, 0, none⟩) L.length c) (bset L k q) := by
  obtain ⟨hi, hk, _⟩ := fidx_some hf
  have hgp : g ≠ p := fun e => h.np (by rw [e]; rfl)
  have ho : OwnE lnE_i (w.setCell ⟨g, i * 3 + j, none⟩ u) 0 (.slice (some ⟨g, 0, none⟩) L.length c) (bset L k q) := by
    rw [bset_some hf]
    exact OwnE.set (E := lnE_i) h.own hi hj (hy hi)
  exact ⟨h.cel.other (.inl hgp) _, ho, h.np, h.good.bset k hq, nodup_bset h.nd k q⟩

set_option maxHeartbeats 2000000 in
theorem limit_i {w : World} {p : Nat} {v : Value} {L : List (Int × Int × Int)} (h : Bk_i w p v L) (hl : L.length ≤ 100000) (k : Int) (n : Int) (hn : n < 9223372036854775808) :
    Calls Try.prog 25 #[.pointer (some ⟨p, 0, none⟩), .int .i64 (k), .int .i64 n] w fun e w' => e = .returned (.tuple #[]) ∧ ∃ v', Bk_i w' p v' (bLimit L k n) ∧ (v'.ownBlock = v.ownBlock ∨ ∃ b, v'.ownBlock = some b ∧ w.heap.size ≤ b) ∧ FrB (bkS_i p v) w w' := by
  have H := Lib.hid h
  have hgd : okP (max n 0, usedV L k) := ⟨by simp only; omega, by simp only; omega, (h.good.used k).1, (h.good.used k).2⟩
  obtain ⟨mx, hmx⟩ : ∃ mx, mx = max n 0 := ⟨_, rfl⟩
  have hL : bLimit L k n = bset L k (mx, usedV L k) := by rw [hmx]; rfl
  rw [hL]
  rw [← hmx] at hgd
  have hm2 : (0 ≤ n ∧ mx = n) ∨ (n < 0 ∧ mx = 0) := by omega
  replace hgd := Lib.hid hgd; replace hmx := Lib.hid hmx; replace hl := Lib.hid hl
  clear hL h
  rcases hm2 with ⟨hn0, rfl⟩ | ⟨hn0, rfl⟩
  · go_enter Try.func25, Try.ntmps25
    go_wp2_with fail
    refine (find_i H.out hl.out k).mono ?_
    rintro e w1 ⟨q, rfl, hq, rfl⟩
    rcases hq with ⟨hf, rfl⟩ | ⟨i, g, c, hf, rfl, rfl⟩
    · have hu : usedV L k = 0 := by unfold usedV; rw [(fidx_none hf).1]
      have hres : bset L k (mx, usedV L k) = L ++ [(k, mx, (0 : Int))] := by rw [hu, bset_none hf]
      replace hres := Lib.hid hres
      have hgd := hgd.out
      rw [hu] at hgd
      replace hgd := Lib.hid hgd
      have hnd := nodup_bset H.out.nd k (mx, (0 : Int))
      rw [bset_none hf] at hnd
      have hgo := H.out.good.bset k hgd.out
      rw [bset_none hf] at hgo
      replace hnd := Lib.hid hnd; replace hgo := Lib.hid hgo; replace hf := Lib.hid hf
      have hc := H.out.cel.1
      have hcf := H.out.cel.2
      have hpl := H.out.cel.lt
      go_wp2_with (first | (at_builtin; refine append_rowE (E := lnE_i) (ys := [(k, mx, (0 : Int))]) rfl rfl Try.underlying41 rfl (H.out.own.alloc _) rfl (rowAt_new1 (E := lnE_i) _ _ _ (k, mx, (0 : Int)) rfl rfl) rfl (Nat.le_trans hl.out (by decide)) (by simp) (Nat.zero_le _) ?_))
      intro v' w' G1 _ G2 G3
      have hpv : some p ≠ v.ownBlock := fun e => H.out.np e.symm
      have hcp : Cel w' p 0 v := ⟨(World.cell?_of_block (G2.5 p (by simp; omega) hpv)).trans (H.out.cel.alloc _).1, (World.frozen?_of_block (G2.5 p (by simp; omega) hpv)).trans (H.out.cel.alloc _).2⟩
      have hn' : v'.ownBlock ≠ some p := by
        rcases G3 with G3 | G3
        · rw [G3]; exact fun e => hpv e.symm
        · rw [G3]; intro e; injection e with e; first | omega | (simp at e; omega)
      have hown' := Lib.hid (show (v'.ownBlock = v.ownBlock ∨ ∃ b, v'.ownBlock = some b ∧ w.heap.size ≤ b) from G3.imp id (fun e => ⟨_, e, by simp⟩))
      have hFr := Lib.hid (show FrB (bkS_i p v) w w' from (FrB.alloc (bkS_i p v) w _).then_ (FrB.grown G2) (fun i _ e => .inr e))
      obtain ⟨hc1, hc2⟩ := hcp
      replace hn' := Lib.hid hn'; replace G1 := Lib.hid G1
      obtain ⟨A', c', rfl, _⟩ := G1.out.slice
      clear G2 G3 hc hcf
      go_wp2
      go_end0
      refine ⟨rfl, _, ?_, hown'.out, ?_⟩
      · rw [hres.out]
        refine ⟨?_, G1.out.other hn'.out _, hn'.out, hgo.out, hnd.out⟩
        have hh := Cel.same (v := v) (show Cel w' p 0 v from ⟨hc1, hc2⟩) (.slice A' (L.length + 1) c')
        rw [List.length_append]
        exact hh
      · exact hFr.out.then_ (FrB.set w' ⟨p, 0, none⟩ _) (fun b _ e => .inl e)
    · obtain ⟨hi, hki, hgi⟩ := fidx_some hf
      obtain ⟨hy0, hy1, hy2⟩ := H.out.at hi
      have hu : usedV L k = L[i].2.2 := by unfold usedV; rw [hgi]
      have hset := Bk_i.set (j := 1) (k := k) (q := (mx, usedV L k)) (u := .int .i64 (mx)) H.out hf (by decide) (fun hi => by rw [hu, hki]; rfl) hgd.out
      replace hset := Lib.hid hset; replace hgi := Lib.hid hgi; replace hki := Lib.hid hki; replace hu := Lib.hid hu
      obtain ⟨hc1, hc2⟩ := hy1
      have hc := H.out.cel.1
      clear hy0 hy2 hf
      go_wp2
      refine bodyPost_ret (results_none rfl _ _ _) rfl ?_
      exact ⟨rfl, _, hset.out, .inl rfl, (FrB.set w ⟨g, i * 3 + 1, none⟩ _).then_ (FrB.refl (fun _ => False) _) (fun _ _ h => h.elim) |> fun hh => ⟨hh.os, hh.tape, hh.output, hh.size, fun b hb hs => hh.block b hb (fun e => hs (.inr (by rw [e]; rfl)))⟩⟩
  · go_enter Try.func25, Try.ntmps25
    go_wp2_with fail
    refine (find_i H.out hl.out k).mono ?_
    rintro e w1 ⟨q, rfl, hq, rfl⟩
    rcases hq with ⟨hf, rfl⟩ | ⟨i, g, c, hf, rfl, rfl⟩
    · have hu : usedV L k = 0 := by unfold usedV; rw [(fidx_none hf).1]
      have hres : bset L k ((0 : Int), usedV L k) = L ++ [(k, (0 : Int), (0 : Int))] := by rw [hu, bset_none hf]
      replace hres := Lib.hid hres
      have hgd := hgd.out
      rw [hu] at hgd
      replace hgd := Lib.hid hgd
      have hnd := nodup_bset H.out.nd k ((0 : Int), (0 : Int))
      rw [bset_none hf] at hnd
      have hgo := H.out.good.bset k hgd.out
      rw [bset_none hf] at hgo
      replace hnd := Lib.hid hnd; replace hgo := Lib.hid hgo; replace hf := Lib.hid hf
      have hc := H.out.cel.1
      have hcf := H.out.cel.2
      have hpl := H.out.cel.lt
      go_wp2_with (first | (at_builtin; refine append_rowE (E := lnE_i) (ys := [(k, (0 : Int), (0 : Int))]) rfl rfl Try.underlying41 rfl (H.out.own.alloc _) rfl (rowAt_new1 (E := lnE_i) _ _ _ (k, (0 : Int), (0 : Int)) rfl rfl) rfl (Nat.le_trans hl.out (by decide)) (by simp) (Nat.zero_le _) ?_))
      intro v' w' G1 _ G2 G3
      have hpv : some p ≠ v.ownBlock := fun e => H.out.np e.symm
      have hcp : Cel w' p 0 v := ⟨(World.cell?_of_block (G2.5 p (by simp; omega) hpv)).trans (H.out.cel.alloc _).1, (World.frozen?_of_block (G2.5 p (by simp; omega) hpv)).trans (H.out.cel.alloc _).2⟩
      have hn' : v'.ownBlock ≠ some p := by
        rcases G3 with G3 | G3
        · rw [G3]; exact fun e => hpv e.symm
        · rw [G3]; intro e; injection e with e; first | omega | (simp at e; omega)
      have hown' := Lib.hid (show (v'.ownBlock = v.ownBlock ∨ ∃ b, v'.ownBlock = some b ∧ w.heap.size ≤ b) from G3.imp id (fun e => ⟨_, e, by simp⟩))
      have hFr := Lib.hid (show FrB (bkS_i p v) w w' from (FrB.alloc (bkS_i p v) w _).then_ (FrB.grown G2) (fun i _ e => .inr e))
      obtain ⟨hc1, hc2⟩ := hcp
      replace hn' := Lib.hid hn'; replace G1 := Lib.hid G1
      obtain ⟨A', c', rfl, _⟩ := G1.out.slice
      clear G2 G3 hc hcf
      go_wp2
      go_end0
      refine ⟨rfl, _, ?_, hown'.out, ?_⟩
      · rw [hres.out]
        refine ⟨?_, G1.out.other hn'.out _, hn'.out, hgo.out, hnd.out⟩
        have hh := Cel.same (v := v) (show Cel w' p 0 v from ⟨hc1, hc2⟩) (.slice A' (L.length + 1) c')
        rw [List.length_append]
        exact hh
      · exact hFr.out.then_ (FrB.set w' ⟨p, 0, none⟩ _) (fun b _ e => .inl e)
    · obtain ⟨hi, hki, hgi⟩ := fidx_some hf
      obtain ⟨hy0, hy1, hy2⟩ := H.out.at hi
      have hu : usedV L k = L[i].2.2 := by unfold usedV; rw [hgi]
      have hset := Bk_i.set (j := 1) (k := k) (q := ((0 : Int), usedV L k)) (u := .int .i64 ((0 : Int))) H.out hf (by decide) (fun hi => by rw [hu, hki]; rfl) hgd.out
      replace hset := Lib.hid hset; replace hgi := Lib.hid hgi; replace hki := Lib.hid hki; replace hu := Lib.hid hu
      obtain ⟨hc1, hc2⟩ := hy1
      have hc := H.out.cel.1
      clear hy0 hy2 hf
      go_wp2
      refine bodyPost_ret (results_none rfl _ _ _) rfl ?_
      exact ⟨rfl, _, hset.out, .inl rfl, (FrB.set w ⟨g, i * 3 + 1, none⟩ _).then_ (FrB.refl (fun _ => False) _) (fun _ _ h => h.elim) |> fun hh => ⟨hh.os, hh.tape, hh.output, hh.size, fun b hb hs => hh.block b hb (fun e => hs (.inr (by rw [e]; rfl)))⟩⟩

set_option maxHeartbeats 2000000 in
theorem used_i {w : World} {p : Nat} {v : Value} {L : List (Int × Int × Int)} (h : Bk_i w p v L) (hl : L.length ≤ 100000) (k : Int) :
    Calls Try.prog 29 #[.pointer (some ⟨p, 0, none⟩), .int .i64 (k)] w fun e w' => e = .returned (.int .i64 (usedV L k)) ∧ w = w' := by
  have H := Lib.hid h
  clear h
  go_enter Try.func29, Try.ntmps29
  go_wp2_with fail
  refine (find_i H.out hl k).mono ?_
  rintro e w1 ⟨q, rfl, hq, rfl⟩
  rcases hq with ⟨hf, rfl⟩ | ⟨i, g, c, hf, rfl, rfl⟩
  · have hu : usedV L k = 0 := by unfold usedV; rw [(fidx_none hf).1]
    replace hu := Lib.hid hu
    clear hf
    go_wp2
    go_ret
    exact ⟨by rw [hu.out]; rfl, rfl⟩
  · obtain ⟨hi, hki, hgi⟩ := fidx_some hf
    obtain ⟨-, -, hy2⟩ := H.out.at hi
    have hu : usedV L k = L[i].2.2 := by unfold usedV; rw [hgi]
    rw [← hu] at hy2
    obtain ⟨hy2, -⟩ := hy2
    clear hu hgi hki hf
    go_wp2
    go_ret
    exact ⟨rfl, rfl⟩

set_option maxHeartbeats 2000000 in
theorem leftq_i {w : World} {p : Nat} {v : Value} {L : List (Int × Int × Int)} (h : Bk_i w p v L) (hl : L.length ≤ 100000) (k : Int) :
    Calls Try.prog 28 #[.pointer (some ⟨p, 0, none⟩), .int .i64 (k)] w fun e w' => e = .returned (.int .i64 (leftV L k)) ∧ ∃ m, w' = w.drewN m := by
  have H := Lib.hid h
  clear h
  go_enter Try.func28, Try.ntmps28
  go_wp2_with fail
  refine (find_i H.out hl k).mono ?_
  rintro e w1 ⟨q, rfl, hq, rfl⟩
  rcases hq with ⟨hf, rfl⟩ | ⟨i, g, c, hf, rfl, rfl⟩
  · have hu : leftV L k = 0 := by unfold leftV; rw [(fidx_none hf).1]
    replace hu := Lib.hid hu
    clear hf
    go_wp2
    go_ret
    exact ⟨by rw [hu.out]; rfl, 0, rfl⟩
  · obtain ⟨hi, hki, hgi⟩ := fidx_some hf
    obtain ⟨-, hy1, hy2⟩ := H.out.at hi
    have hgd := H.out.good L[i] (List.getElem_mem hi)
    have hu : leftV L k = max (L[i].2.1 - L[i].2.2) 0 := by unfold leftV; rw [hgi]
    obtain ⟨hy1, -⟩ := hy1
    obtain ⟨hy2, -⟩ := hy2
    obtain ⟨a, ha⟩ : ∃ a, a = L[i].2.1 := ⟨_, rfl⟩
    obtain ⟨b, hb⟩ : ∃ b, b = L[i].2.2 := ⟨_, rfl⟩
    rw [← ha] at hy1 hu
    rw [← hb] at hy2 hu
    have hgd2 : 0 ≤ a ∧ a < 9223372036854775808 ∧ 0 ≤ b ∧ b < 9223372036854775808 := by rw [ha, hb]; exact hgd
    have hw : wrap64 (a - b) = a - b := by unfold wrap64; omega
    clear hgi hki hf hgd ha hb
    by_cases hab : 0 ≤ a - b
    · have hu2 : leftV L k = a - b := by rw [hu]; omega
      replace hu2 := Lib.hid hu2
      clear hu hgd2
      go_wp2
      go_quiet (fail)
      go_wp2
      all_goals go_ret
      all_goals exact ⟨by rw [hu2.out]; first | rfl | (congr 2; omega), nq, rfl⟩
    · have hu2 : leftV L k = 0 := by rw [hu]; omega
      replace hu2 := Lib.hid hu2
      clear hu hgd2
      go_wp2
      go_quiet (fail)
      go_wp2
      all_goals go_ret
      all_goals exact ⟨by rw [hu2.out]; first | rfl | (congr 2; omega), nq, rfl⟩
theorem left_i {w : World} {p : Nat} {v : Value} {L : List (Int × Int × Int)} (h : Bk_i w p v L) (hl : L.length ≤ 100000) (k : Int) :
    Calls Try.prog 28 #[.pointer (some ⟨p, 0, none⟩), .int .i64 (k)] w fun e w' => e = .returned (.int .i64 (leftV L k)) ∧ Below w.heap.size w w' :=
  (leftq_i h hl k).mono fun _ _ ⟨a, m, hm⟩ => ⟨a, by rw [hm]; exact belowDrew (Below.refl _ _) _⟩

set_option maxHeartbeats 4000000 in
theorem take_i {w : World} {p : Nat} {v : Value} {L : List (Int × Int × Int)} (h : Bk_i w p v L) (hl : L.length ≤ 100000) (k : Int) (n : Int) :
    Calls Try.prog 26 #[.pointer (some ⟨p, 0, none⟩), .int .i64 (k), .int .i64 n] w fun e w' => e = .returned (.bool (takeB L k n)) ∧ Bk_i w' p v (bTake L k n) ∧ FrB (bkS_i p v) w w' := by
  have H := Lib.hid h
  clear h
  go_enter Try.func26, Try.ntmps26
  go_wp2_with fail
  refine (find_i H.out hl k).mono ?_
  rintro e w1 ⟨q, rfl, hq, rfl⟩
  rcases hq with ⟨hf, rfl⟩ | ⟨i, g, c, hf, rfl, rfl⟩
  · have hb : takeB L k n = false := by unfold takeB; rw [(fidx_none hf).1]
    have hL : bTake L k n = L := by unfold bTake; rw [hb]; rfl
    replace hb := Lib.hid hb; replace hL := Lib.hid hL
    clear hf
    go_wp2
    go_quiet (fail)
    go_wp2
    go_ret
    exact ⟨by rw [hb.out]; rfl, by rw [hL.out]; exact H.out.drewN _, ⟨rfl, rfl, rfl, Nat.le_refl _, fun _ _ _ => rfl⟩⟩
  · obtain ⟨hi, hki, hgi⟩ := fidx_some hf
    obtain ⟨-, hy1, hy2⟩ := H.out.at hi
    have hgd := H.out.good L[i] (List.getElem_mem hi)
    have hu : usedV L k = L[i].2.2 := by unfold usedV; rw [hgi]
    have hlm : limV L k = L[i].2.1 := by unfold limV; rw [hgi]
    obtain ⟨hy1, -⟩ := hy1
    obtain ⟨hy2, hy2f⟩ := hy2
    obtain ⟨a, ha⟩ : ∃ a, a = L[i].2.1 := ⟨_, rfl⟩
    obtain ⟨b, hb⟩ : ∃ b, b = L[i].2.2 := ⟨_, rfl⟩
    have hbT : takeB L k n = (decide (0 ≤ n) && decide (n ≤ a - b)) := by unfold takeB; rw [hgi, ha, hb]
    have hset := fun (hq : okP (a, b + n)) => Bk_i.set (j := 2) (k := k) (q := (a, b + n)) (u := .int .i64 (b + n)) H.out hf (by decide) (fun hi => by rw [hki, ha]; rfl) hq
    rw [← ha] at hy1 hlm
    rw [← hb] at hy2 hu
    have hgd2 : 0 ≤ a ∧ a < 9223372036854775808 ∧ 0 ≤ b ∧ b < 9223372036854775808 := by rw [ha, hb]; exact hgd
    have hw : wrap64 (a - b) = a - b := by unfold wrap64; omega
    clear hgi hki hf hgd ha hb
    by_cases hT : 0 ≤ n ∧ n ≤ a - b
    · have hbT2 : takeB L k n = true := by rw [hbT]; simp; omega
      have hL : bTake L k n = bset L k (a, b + n) := by unfold bTake; rw [hbT2, hlm, hu]; rfl
      have hs := hset ⟨hgd2.1, hgd2.2.1, by simp only; omega, by simp only; omega⟩
      have hw2 : wrap64 (b + n) = b + n := by unfold wrap64; omega
      have t1 : decide (n < 0) = false := by simp; omega
      have t2 : decide (a - b < n) = false := by simp; omega
      replace hbT2 := Lib.hid hbT2; replace hL := Lib.hid hL; replace hs := Lib.hid hs
      clear hset hbT hlm hu hgd2 hT
      go_wp2
      go_quiet (fail)
      go_wp2
      go_ret
      refine ⟨by rw [hbT2.out]; rfl, ?_, ?_⟩
      · rw [hL.out]; exact hs.out.drewN _
      · exact ⟨rfl, rfl, rfl, by simp, fun bb hbb hns => Below.heap_setCell _ _ _ _ (fun e => hns (.inr (by first | (rw [e]; rfl) | (rw [← e]; rfl))))⟩
    · have hbT2 : takeB L k n = false := by rw [hbT]; simp; omega
      have hL : bTake L k n = L := by unfold bTake; rw [hbT2]; rfl
      have hT2 : n < 0 ∨ a - b < n := by omega
      replace hbT2 := Lib.hid hbT2; replace hL := Lib.hid hL
      clear hset hbT hlm hu hgd2 hT hy2f
      by_cases t1 : n < 0
      · have t1b : decide (n < 0) = true := by simp; omega
        clear hT2
        go_wp2
        go_quiet (fail)
        go_wp2
        all_goals go_ret
        all_goals exact ⟨by rw [hbT2.out]; rfl, by rw [hL.out]; exact H.out.drewN _, ⟨rfl, rfl, rfl, Nat.le_refl _, fun _ _ _ => rfl⟩⟩
      · have t2 : decide (a - b < n) = true := by simp; omega
        have t1b : decide (n < 0) = false := by simp; omega
        clear hT2
        go_wp2
        go_quiet (fail)
        go_wp2
        all_goals go_ret
        all_goals exact ⟨by rw [hbT2.out]; rfl, by rw [hL.out]; exact H.out.drewN _, ⟨rfl, rfl, rfl, Nat.le_refl _, fun _ _ _ => rfl⟩⟩

set_option maxHeartbeats 4000000 in
theorem give_i {w : World} {p : Nat} {v : Value} {L : List (Int × Int × Int)} (h : Bk_i w p v L) (hl : L.length ≤ 100000) (k : Int) (n : Int) :
    Calls Try.prog 27 #[.pointer (some ⟨p, 0, none⟩), .int .i64 (k), .int .i64 n] w fun e w' => e = .returned (.bool (giveB L k n)) ∧ Bk_i w' p v (bGive L k n) ∧ FrB (bkS_i p v) w w' := by
  have H := Lib.hid h
  clear h
  go_enter Try.func27, Try.ntmps27
  go_wp2_with fail
  refine (find_i H.out hl k).mono ?_
  rintro e w1 ⟨q, rfl, hq, rfl⟩
  rcases hq with ⟨hf, rfl⟩ | ⟨i, g, c, hf, rfl, rfl⟩
  · have hb : giveB L k n = false := by unfold giveB; rw [(fidx_none hf).1]
    have hL : bGive L k n = L := by unfold bGive; rw [hb]; rfl
    replace hb := Lib.hid hb; replace hL := Lib.hid hL
    clear hf
    go_wp2
    try (go_quiet (fail))
    try go_wp2
    go_ret
    exact ⟨by rw [hb.out]; rfl, by rw [hL.out]; first | exact H.out | exact H.out.drewN _, ⟨rfl, rfl, rfl, Nat.le_refl _, fun _ _ _ => rfl⟩⟩
  · obtain ⟨hi, hki, hgi⟩ := fidx_some hf
    obtain ⟨-, hy1, hy2⟩ := H.out.at hi
    have hgd := H.out.good L[i] (List.getElem_mem hi)
    have hu : usedV L k = L[i].2.2 := by unfold usedV; rw [hgi]
    have hlm : limV L k = L[i].2.1 := by unfold limV; rw [hgi]
    obtain ⟨hy1, -⟩ := hy1
    obtain ⟨hy2, hy2f⟩ := hy2
    obtain ⟨a, ha⟩ : ∃ a, a = L[i].2.1 := ⟨_, rfl⟩
    obtain ⟨b, hb⟩ : ∃ b, b = L[i].2.2 := ⟨_, rfl⟩
    have hbT : giveB L k n = (decide (0 ≤ n) && decide (n ≤ b)) := by unfold giveB; rw [hgi, hb]
    have hset := fun (hq : okP (a, b - n)) => Bk_i.set (j := 2) (k := k) (q := (a, b - n)) (u := .int .i64 (b - n)) H.out hf (by decide) (fun hi => by rw [hki, ha]; rfl) hq
    rw [← ha] at hy1 hlm
    rw [← hb] at hy2 hu
    have hgd2 : 0 ≤ a ∧ a < 9223372036854775808 ∧ 0 ≤ b ∧ b < 9223372036854775808 := by rw [ha, hb]; exact hgd
    clear hgi hki hf hgd ha hb
    by_cases hT : 0 ≤ n ∧ n ≤ b
    · have hbT2 : giveB L k n = true := by rw [hbT]; simp; omega
      have hL : bGive L k n = bset L k (a, b - n) := by unfold bGive; rw [hbT2, hlm, hu]; rfl
      have hs := hset ⟨hgd2.1, hgd2.2.1, by simp only; omega, by simp only; omega⟩
      have hw2 : wrap64 (b - n) = b - n := by unfold wrap64; omega
      have t1 : decide (n < 0) = false := by simp; omega
      have t2 : decide (b < n) = false := by simp; omega
      replace hbT2 := Lib.hid hbT2; replace hL := Lib.hid hL; replace hs := Lib.hid hs
      clear hset hbT hlm hu hgd2 hT
      go_wp2
      try (go_quiet (fail))
      try go_wp2
      go_ret
      refine ⟨by rw [hbT2.out]; rfl, ?_, ?_⟩
      · rw [hL.out]; first | exact hs.out | exact hs.out.drewN _
      · exact ⟨rfl, rfl, rfl, by simp, fun bb hbb hns => Below.heap_setCell _ _ _ _ (fun e => hns (.inr (by first | (rw [e]; rfl) | (rw [← e]; rfl))))⟩
    · have hbT2 : giveB L k n = false := by rw [hbT]; simp; omega
      have hL : bGive L k n = L := by unfold bGive; rw [hbT2]; rfl
      have hT2 : n < 0 ∨ b < n := by omega
      replace hbT2 := Lib.hid hbT2; replace hL := Lib.hid hL
      clear hset hbT hlm hu hgd2 hT hy2f
      by_cases t1 : n < 0
      · have t1b : decide (n < 0) = true := by simp; omega
        clear hT2
        go_wp2
        try (go_quiet (fail))
        try go_wp2
        all_goals go_ret
        all_goals exact ⟨by rw [hbT2.out]; rfl, by rw [hL.out]; first | exact H.out | exact H.out.drewN _, ⟨rfl, rfl, rfl, Nat.le_refl _, fun _ _ _ => rfl⟩⟩
      · have t2 : decide (b < n) = true := by simp; omega
        have t1b : decide (n < 0) = false := by simp; omega
        clear hT2
        go_wp2
        try (go_quiet (fail))
        try go_wp2
        all_goals go_ret
        all_goals exact ⟨by rw [hbT2.out]; rfl, by rw [hL.out]; first | exact H.out | exact H.out.drewN _, ⟨rfl, rfl, rfl, Nat.le_refl _, fun _ _ _ => rfl⟩⟩

def lnE_s : Enc (ByteArray × Int × Int) where
  t := 81
  sz := 3
  f := fun x => [.string (x.1), .int .i64 x.2.1, .int .i64 x.2.2]
  z := .agg #[.string ByteArray.empty, .int .i64 0, .int .i64 0]
  bytes := 32
  len := fun x => rfl
  one := fun x v h => by simp at h; rcases h with rfl | rfl | rfl <;> rfl
  info := by kernel_rfl
  zs := rfl
  pos := by decide
  small := by decide

/-- A book at p: its lines are L, in the slice value v. -/
structure Bk_s (w : World) (p : Nat) (v : Value) (L : List (ByteArray × Int × Int)) : Prop where
  cel : Cel w p 0 v
  own : OwnE lnE_s w 0 v L
  np : v.ownBlock ≠ some p
  good : Good L
  nd : (L.map (·.1)).Nodup

theorem Bk_s.fr {S : Nat → Prop} {w w' : World} {p : Nat} {v : Value} {L : List (ByteArray × Int × Int)} (h : Bk_s w p v L) (hF : FrB S w w') (hp : ¬ S p) (hv : ∀ k, v.ownBlock = some k → ¬ S k) : Bk_s w' p v L :=
  ⟨h.cel.frb hF hp, h.own.frb hF hv, h.np, h.good, h.nd⟩
theorem Bk_s.below {w w' : World} {p : Nat} {v : Value} {L : List (ByteArray × Int × Int)} (h : Bk_s w p v L) (hF : Below w.heap.size w w') : Bk_s w' p v L :=
  h.fr (FrB.of_below (S := fun _ => False) hF (Nat.le_refl _)) (fun h => h) (fun _ _ h => h)
theorem Bk_s.drewN {w : World} {p : Nat} {v : Value} {L : List (ByteArray × Int × Int)} (h : Bk_s w p v L) (n : Nat) : Bk_s (w.drewN n) p v L := ⟨h.cel, h.own, h.np, h.good, h.nd⟩
theorem Bk_s.new (w : World) (p : Nat) (h : Cel w p 0 (.slice none 0 0)) : Bk_s w p (.slice none 0 0) [] :=
  ⟨h, OwnE.nil _ _, by simp [Value.ownBlock], Good.nil, by simp⟩

def FindSpec_s (v : Value) (L : List (ByteArray × Int × Int)) (k : ByteArray) (q : Option Addr) : Prop :=
  (fidx L k = none ∧ q = none) ∨ (∃ i g c, fidx L k = some i ∧ v = .slice (some ⟨g, 0, none⟩) L.length c ∧ q = some ⟨g, i * 3, none⟩)

set_option maxHeartbeats 1000000 in
theorem find_s {w : World} {p : Nat} {v : Value} {L : List (ByteArray × Int × Int)} (h : Bk_s w p v L) (hl : L.length ≤ 100000) (k : ByteArray) :
    Calls Try.prog 46 #[.pointer (some ⟨p, 0, none⟩), .string (k)] w fun e w' => ∃ q, e = .returned (.pointer q) ∧ FindSpec_s v L k q ∧ w = w' := by
  obtain ⟨A, c, rfl, hc⟩ := h.own.slice
  have h0 := h.cel.1
  have H := Lib.hid h; have HC := Lib.hid hc
  clear h hc
  go_enter Try.func46, Try.ntmps46
  go_wp2_with fail
  go_loopw [11] (fun ii wr => ∃ n : Nat, ii = .int .i64 n ∧ wr = w ∧ Hid (n ≤ L.length) ∧ Hid (∀ j (h : j < L.length), j < n → L[j].1 ≠ k)) (fun ii _ => L.length - (intOf ii).toNat)
  case atStart => exact ⟨0, rfl, rfl, Lib.hid (Nat.zero_le _), Lib.hid fun j _ h => absurd h (by omega)⟩
  case round =>
    obtain ⟨n, rfl, rfl, hn, hno⟩ := hrel
    by_cases hlt : n < L.length
    · obtain ⟨g, c', e, _, hgs, _⟩ := H.out.own.pos (by omega)
      injection e with e1 e2 e3
      subst e1; subst e3
      obtain ⟨hc0, _⟩ := OwnE.cel (E := lnE_s) (j := 0) H.out.own hlt rfl
      have e3 : n * lnE_s.sz + 0 = n * 3 := rfl
      rw [e3] at hc0
      obtain ⟨z, hz⟩ : ∃ z, z = L[n].1 := ⟨_, rfl⟩
      rw [← hz] at hc0
      have hz' := Lib.hid hz
      clear hz
      by_cases he : z = k
      · have e1 : ((z).toList == (k).toList) = true := by rw [he]; simp
        have hf : fidx L k = some n := fidx_hit hlt (by rw [← hz'.out]; exact he) hno.out
        replace hf := Lib.hid hf; replace he := Lib.hid he
        clear hno
        go_wp2
        go_ret
        exact ⟨_, rfl, .inr ⟨n, g, c, hf.out, rfl, rfl⟩, rfl⟩
      · have e1 : ((z).toList == (k).toList) = false := by
          rw [toList_beq]; exact decide_eq_false he
        replace he := Lib.hid he
        go_wp2
        go_roundw
        case rel =>
          refine ⟨n + 1, by go_num, by first | trivial | rfl, Lib.hid (by omega), Lib.hid fun j hj hjn => ?_⟩
          rcases Nat.lt_or_ge j n with h | h
          · exact hno.out j hj h
          · obtain rfl : j = n := by omega
            rw [← hz'.out]; exact he.out
        case measure => simp [intOf]; omega
    · have hf : fidx L k = none := fidx_miss (fun j hj => hno.out j hj (by omega))
      replace hf := Lib.hid hf
      clear hn hno
      go_wp2
      go_ret
      exact ⟨_, rfl, .inl ⟨hf.out, rfl⟩, rfl⟩

def bkS_s (p : Nat) (v : Value) : Nat → Prop := fun k => k = p ∨ v.ownBlock = some k
/-- What a line of a book holds. -/
theorem Bk_s.at {w : World} {p g c i : Nat} {L : List (ByteArray × Int × Int)} (h : Bk_s w p (.slice (some ⟨g, 0, none⟩) L.length c) L) (hi : i < L.length) :
    Cel w g (i * 3) (.string (L[i].1)) ∧ Cel w g (i * 3 + 1) (.int .i64 L[i].2.1) ∧ Cel w g (i * 3 + 2) (.int .i64 L[i].2.2) :=
  ⟨OwnE.cel (E := lnE_s) (j := 0) h.own hi rfl, OwnE.cel (E := lnE_s) (j := 1) h.own hi rfl, OwnE.cel (E := lnE_s) (j := 2) h.own hi rfl⟩
theorem Bk_s.set {w : World} {p g c i j : Nat} {L : List (ByteArray × Int × Int)} {k : ByteArray} {q : Int × Int} {u : Value} (h : Bk_s w p (.slice (some ⟨g, 0, none⟩) L.length c) L) (hf : fidx L k = some i) (hj : j < 3)
    (hy : ∀ (hi : i < L.length), [.string (k), .int .i64 q.1, .int .i64 q.2] = [.string (L[i].1), .int .i64 L[i].2.1, .int .i64 L[i].2.2].set j u) (hq : okP q) :
    Bk_s (w.setCell ⟨g, i * 3 + j, none⟩ u) p (.slice (some ⟨g, 0, none⟩) L.length c) (bset L k q) := by
  obtain ⟨hi, hk, _⟩ := fidx_some hf
  have hgp : g ≠ p := fun e => h.np (by rw [e]; rfl)
  have ho : OwnE lnE_s (w.setCell ⟨g, i * 3 + j, none⟩ u) 0 (.slice (some ⟨g, 0, none⟩) L.length c) (bset L k q) := by
    rw [bset_some hf]
    exact OwnE.set (E := lnE_s) h.own hi hj (hy hi)
  exact ⟨h.cel.other (.inl hgp) _, ho, h.np, h.good.bset k hq, nodup_bset h.nd k q⟩

set_option maxHeartbeats 2000000 in
theorem limit_s {w : World} {p : Nat} {v : Value} {L : List (ByteArray × Int × Int)} (h : Bk_s w p v L) (hl : L.length ≤ 100000) (k : ByteArray) (n : Int) (hn : n < 9223372036854775808) :
    Calls Try.prog 13 #[.pointer (some ⟨p, 0, none⟩), .string (k), .int .i64 n] w fun e w' => e = .returned (.tuple #[]) ∧ ∃ v', Bk_s w' p v' (bLimit L k n) ∧ (v'.ownBlock = v.ownBlock ∨ ∃ b, v'.ownBlock = some b ∧ w.heap.size ≤ b) ∧ FrB (bkS_s p v) w w' := by
  have H := Lib.hid h
  have hgd : okP (max n 0, usedV L k) := ⟨by simp only; omega, by simp only; omega, (h.good.used k).1, (h.good.used k).2⟩
  obtain ⟨mx, hmx⟩ : ∃ mx, mx = max n 0 := ⟨_, rfl⟩
  have hL : bLimit L k n = bset L k (mx, usedV L k) := by rw [hmx]; rfl
  rw [hL]
  rw [← hmx] at hgd
  have hm2 : (0 ≤ n ∧ mx = n) ∨ (n < 0 ∧ mx = 0) := by omega
  replace hgd := Lib.hid hgd; replace hmx := Lib.hid hmx; replace hl := Lib.hid hl
  clear hL h
  rcases hm2 with ⟨hn0, rfl⟩ | ⟨hn0, rfl⟩
  · go_enter Try.func13, Try.ntmps13
    go_wp2_with fail
    refine (find_s H.out hl.out k).mono ?_
    rintro e w1 ⟨q, rfl, hq, rfl⟩
    rcases hq with ⟨hf, rfl⟩ | ⟨i, g, c, hf, rfl, rfl⟩
    · have hu : usedV L k = 0 := by unfold usedV; rw [(fidx_none hf).1]
      have hres : bset L k (mx, usedV L k) = L ++ [(k, mx, (0 : Int))] := by rw [hu, bset_none hf]
      replace hres := Lib.hid hres
      have hgd := hgd.out
      rw [hu] at hgd
      replace hgd := Lib.hid hgd
      have hnd := nodup_bset H.out.nd k (mx, (0 : Int))
      rw [bset_none hf] at hnd
      have hgo := H.out.good.bset k hgd.out
      rw [bset_none hf] at hgo
      replace hnd := Lib.hid hnd; replace hgo := Lib.hid hgo; replace hf := Lib.hid hf
      have hc := H.out.cel.1
      have hcf := H.out.cel.2
      have hpl := H.out.cel.lt
      go_wp2_with (first | (at_builtin; refine append_rowE (E := lnE_s) (ys := [(k, mx, (0 : Int))]) rfl rfl Try.underlying24 rfl (H.out.own.alloc _) rfl (rowAt_new1 (E := lnE_s) _ _ _ (k, mx, (0 : Int)) rfl rfl) rfl (Nat.le_trans hl.out (by decide)) (by simp) (Nat.zero_le _) ?_))
      intro v' w' G1 _ G2 G3
      have hpv : some p ≠ v.ownBlock := fun e => H.out.np e.symm
      have hcp : Cel w' p 0 v := ⟨(World.cell?_of_block (G2.5 p (by simp; omega) hpv)).trans (H.out.cel.alloc _).1, (World.frozen?_of_block (G2.5 p (by simp; omega) hpv)).trans (H.out.cel.alloc _).2⟩
      have hn' : v'.ownBlock ≠ some p := by
        rcases G3 with G3 | G3
        · rw [G3]; exact fun e => hpv e.symm
        · rw [G3]; intro e; injection e with e; first | omega | (simp at e; omega)
      have hown' := Lib.hid (show (v'.ownBlock = v.ownBlock ∨ ∃ b, v'.ownBlock = some b ∧ w.heap.size ≤ b) from G3.imp id (fun e => ⟨_, e, by simp⟩))
      have hFr := Lib.hid (show FrB (bkS_s p v) w w' from (FrB.alloc (bkS_s p v) w _).then_ (FrB.grown G2) (fun i _ e => .inr e))
      obtain ⟨hc1, hc2⟩ := hcp
      replace hn' := Lib.hid hn'; replace G1 := Lib.hid G1
      obtain ⟨A', c', rfl, _⟩ := G1.out.slice
      clear G2 G3 hc hcf
      go_wp2
      go_end0
      refine ⟨rfl, _, ?_, hown'.out, ?_⟩
      · rw [hres.out]
        refine ⟨?_, G1.out.other hn'.out _, hn'.out, hgo.out, hnd.out⟩
        have hh := Cel.same (v := v) (show Cel w' p 0 v from ⟨hc1, hc2⟩) (.slice A' (L.length + 1) c')
        rw [List.length_append]
        exact hh
      · exact hFr.out.then_ (FrB.set w' ⟨p, 0, none⟩ _) (fun b _ e => .inl e)
    · obtain ⟨hi, hki, hgi⟩ := fidx_some hf
      obtain ⟨hy0, hy1, hy2⟩ := H.out.at hi
      have hu : usedV L k = L[i].2.2 := by unfold usedV; rw [hgi]
      have hset := Bk_s.set (j := 1) (k := k) (q := (mx, usedV L k)) (u := .int .i64 (mx)) H.out hf (by decide) (fun hi => by rw [hu, hki]; rfl) hgd.out
      replace hset := Lib.hid hset; replace hgi := Lib.hid hgi; replace hki := Lib.hid hki; replace hu := Lib.hid hu
      obtain ⟨hc1, hc2⟩ := hy1
      have hc := H.out.cel.1
      clear hy0 hy2 hf
      go_wp2
      refine bodyPost_ret (results_none rfl _ _ _) rfl ?_
      exact ⟨rfl, _, hset.out, .inl rfl, (FrB.set w ⟨g, i * 3 + 1, none⟩ _).then_ (FrB.refl (fun _ => False) _) (fun _ _ h => h.elim) |> fun hh => ⟨hh.os, hh.tape, hh.output, hh.size, fun b hb hs => hh.block b hb (fun e => hs (.inr (by rw [e]; rfl)))⟩⟩
  · go_enter Try.func13, Try.ntmps13
    go_wp2_with fail
    refine (find_s H.out hl.out k).mono ?_
    rintro e w1 ⟨q, rfl, hq, rfl⟩
    rcases hq with ⟨hf, rfl⟩ | ⟨i, g, c, hf, rfl, rfl⟩
    · have hu : usedV L k = 0 := by unfold usedV; rw [(fidx_none hf).1]
      have hres : bset L k ((0 : Int), usedV L k) = L ++ [(k, (0 : Int), (0 : Int))] := by rw [hu, bset_none hf]
      replace hres := Lib.hid hres
      have hgd := hgd.out
      rw [hu] at hgd
      replace hgd := Lib.hid hgd
      have hnd := nodup_bset H.out.nd k ((0 : Int), (0 : Int))
      rw [bset_none hf] at hnd
      have hgo := H.out.good.bset k hgd.out
      rw [bset_none hf] at hgo
      replace hnd := Lib.hid hnd; replace hgo := Lib.hid hgo; replace hf := Lib.hid hf
      have hc := H.out.cel.1
      have hcf := H.out.cel.2
      have hpl := H.out.cel.lt
      go_wp2_with (first | (at_builtin; refine append_rowE (E := lnE_s) (ys := [(k, (0 : Int), (0 : Int))]) rfl rfl Try.underlying24 rfl (H.out.own.alloc _) rfl (rowAt_new1 (E := lnE_s) _ _ _ (k, (0 : Int), (0 : Int)) rfl rfl) rfl (Nat.le_trans hl.out (by decide)) (by simp) (Nat.zero_le _) ?_))
      intro v' w' G1 _ G2 G3
      have hpv : some p ≠ v.ownBlock := fun e => H.out.np e.symm
      have hcp : Cel w' p 0 v := ⟨(World.cell?_of_block (G2.5 p (by simp; omega) hpv)).trans (H.out.cel.alloc _).1, (World.frozen?_of_block (G2.5 p (by simp; omega) hpv)).trans (H.out.cel.alloc _).2⟩
      have hn' : v'.ownBlock ≠ some p := by
        rcases G3 with G3 | G3
        · rw [G3]; exact fun e => hpv e.symm
        · rw [G3]; intro e; injection e with e; first | omega | (simp at e; omega)
      have hown' := Lib.hid (show (v'.ownBlock = v.ownBlock ∨ ∃ b, v'.ownBlock = some b ∧ w.heap.size ≤ b) from G3.imp id (fun e => ⟨_, e, by simp⟩))
      have hFr := Lib.hid (show FrB (bkS_s p v) w w' from (FrB.alloc (bkS_s p v) w _).then_ (FrB.grown G2) (fun i _ e => .inr e))
      obtain ⟨hc1, hc2⟩ := hcp
      replace hn' := Lib.hid hn'; replace G1 := Lib.hid G1
      obtain ⟨A', c', rfl, _⟩ := G1.out.slice
      clear G2 G3 hc hcf
      go_wp2
      go_end0
      refine ⟨rfl, _, ?_, hown'.out, ?_⟩
      · rw [hres.out]
        refine ⟨?_, G1.out.other hn'.out _, hn'.out, hgo.out, hnd.out⟩
        have hh := Cel.same (v := v) (show Cel w' p 0 v from ⟨hc1, hc2⟩) (.slice A' (L.length + 1) c')
        rw [List.length_append]
        exact hh
      · exact hFr.out.then_ (FrB.set w' ⟨p, 0, none⟩ _) (fun b _ e => .inl e)
    · obtain ⟨hi, hki, hgi⟩ := fidx_some hf
      obtain ⟨hy0, hy1, hy2⟩ := H.out.at hi
      have hu : usedV L k = L[i].2.2 := by unfold usedV; rw [hgi]
      have hset := Bk_s.set (j := 1) (k := k) (q := ((0 : Int), usedV L k)) (u := .int .i64 ((0 : Int))) H.out hf (by decide) (fun hi => by rw [hu, hki]; rfl) hgd.out
      replace hset := Lib.hid hset; replace hgi := Lib.hid hgi; replace hki := Lib.hid hki; replace hu := Lib.hid hu
      obtain ⟨hc1, hc2⟩ := hy1
      have hc := H.out.cel.1
      clear hy0 hy2 hf
      go_wp2
      refine bodyPost_ret (results_none rfl _ _ _) rfl ?_
      exact ⟨rfl, _, hset.out, .inl rfl, (FrB.set w ⟨g, i * 3 + 1, none⟩ _).then_ (FrB.refl (fun _ => False) _) (fun _ _ h => h.elim) |> fun hh => ⟨hh.os, hh.tape, hh.output, hh.size, fun b hb hs => hh.block b hb (fun e => hs (.inr (by rw [e]; rfl)))⟩⟩

set_option maxHeartbeats 2000000 in
theorem used_s {w : World} {p : Nat} {v : Value} {L : List (ByteArray × Int × Int)} (h : Bk_s w p v L) (hl : L.length ≤ 100000) (k : ByteArray) :
    Calls Try.prog 19 #[.pointer (some ⟨p, 0, none⟩), .string (k)] w fun e w' => e = .returned (.int .i64 (usedV L k)) ∧ w = w' := by
  have H := Lib.hid h
  clear h
  go_enter Try.func19, Try.ntmps19
  go_wp2_with fail
  refine (find_s H.out hl k).mono ?_
  rintro e w1 ⟨q, rfl, hq, rfl⟩
  rcases hq with ⟨hf, rfl⟩ | ⟨i, g, c, hf, rfl, rfl⟩
  · have hu : usedV L k = 0 := by unfold usedV; rw [(fidx_none hf).1]
    replace hu := Lib.hid hu
    clear hf
    go_wp2
    go_ret
    exact ⟨by rw [hu.out]; rfl, rfl⟩
  · obtain ⟨hi, hki, hgi⟩ := fidx_some hf
    obtain ⟨-, -, hy2⟩ := H.out.at hi
    have hu : usedV L k = L[i].2.2 := by unfold usedV; rw [hgi]
    rw [← hu] at hy2
    obtain ⟨hy2, -⟩ := hy2
    clear hu hgi hki hf
    go_wp2
    go_ret
    exact ⟨rfl, rfl⟩

set_option maxHeartbeats 2000000 in
theorem leftq_s {w : World} {p : Nat} {v : Value} {L : List (ByteArray × Int × Int)} (h : Bk_s w p v L) (hl : L.length ≤ 100000) (k : ByteArray) :
    Calls Try.prog 21 #[.pointer (some ⟨p, 0, none⟩), .string (k)] w fun e w' => e = .returned (.int .i64 (leftV L k)) ∧ ∃ m, w' = w.drewN m := by
  have H := Lib.hid h
  clear h
  go_enter Try.func21, Try.ntmps21
  go_wp2_with fail
  refine (find_s H.out hl k).mono ?_
  rintro e w1 ⟨q, rfl, hq, rfl⟩
  rcases hq with ⟨hf, rfl⟩ | ⟨i, g, c, hf, rfl, rfl⟩
  · have hu : leftV L k = 0 := by unfold leftV; rw [(fidx_none hf).1]
    replace hu := Lib.hid hu
    clear hf
    go_wp2
    go_ret
    exact ⟨by rw [hu.out]; rfl, 0, rfl⟩
  · obtain ⟨hi, hki, hgi⟩ := fidx_some hf
    obtain ⟨-, hy1, hy2⟩ := H.out.at hi
    have hgd := H.out.good L[i] (List.getElem_mem hi)
    have hu : leftV L k = max (L[i].2.1 - L[i].2.2) 0 := by unfold leftV; rw [hgi]
    obtain ⟨hy1, -⟩ := hy1
    obtain ⟨hy2, -⟩ := hy2
    obtain ⟨a, ha⟩ : ∃ a, a = L[i].2.1 := ⟨_, rfl⟩
    obtain ⟨b, hb⟩ : ∃ b, b = L[i].2.2 := ⟨_, rfl⟩
    rw [← ha] at hy1 hu
    rw [← hb] at hy2 hu
    have hgd2 : 0 ≤ a ∧ a < 9223372036854775808 ∧ 0 ≤ b ∧ b < 9223372036854775808 := by rw [ha, hb]; exact hgd
    have hw : wrap64 (a - b) = a - b := by unfold wrap64; omega
    clear hgi hki hf hgd ha hb
    by_cases hab : 0 ≤ a - b
    · have hu2 : leftV L k = a - b := by rw [hu]; omega
      replace hu2 := Lib.hid hu2
      clear hu hgd2
      go_wp2
      go_quiet (fail)
      go_wp2
      all_goals go_ret
      all_goals exact ⟨by rw [hu2.out]; first | rfl | (congr 2; omega), nq, rfl⟩
    · have hu2 : leftV L k = 0 := by rw [hu]; omega
      replace hu2 := Lib.hid hu2
      clear hu hgd2
      go_wp2
      go_quiet (fail)
      go_wp2
      all_goals go_ret
      all_goals exact ⟨by rw [hu2.out]; first | rfl | (congr 2; omega), nq, rfl⟩
theorem left_s {w : World} {p : Nat} {v : Value} {L : List (ByteArray × Int × Int)} (h : Bk_s w p v L) (hl : L.length ≤ 100000) (k : ByteArray) :
    Calls Try.prog 21 #[.pointer (some ⟨p, 0, none⟩), .string (k)] w fun e w' => e = .returned (.int .i64 (leftV L k)) ∧ Below w.heap.size w w' :=
  (leftq_s h hl k).mono fun _ _ ⟨a, m, hm⟩ => ⟨a, by rw [hm]; exact belowDrew (Below.refl _ _) _⟩

set_option maxHeartbeats 4000000 in
theorem take_s {w : World} {p : Nat} {v : Value} {L : List (ByteArray × Int × Int)} (h : Bk_s w p v L) (hl : L.length ≤ 100000) (k : ByteArray) (n : Int) :
    Calls Try.prog 16 #[.pointer (some ⟨p, 0, none⟩), .string (k), .int .i64 n] w fun e w' => e = .returned (.bool (takeB L k n)) ∧ Bk_s w' p v (bTake L k n) ∧ FrB (bkS_s p v) w w' := by
  have H := Lib.hid h
  clear h
  go_enter Try.func16, Try.ntmps16
  go_wp2_with fail
  refine (find_s H.out hl k).mono ?_
  rintro e w1 ⟨q, rfl, hq, rfl⟩
  rcases hq with ⟨hf, rfl⟩ | ⟨i, g, c, hf, rfl, rfl⟩
  · have hb : takeB L k n = false := by unfold takeB; rw [(fidx_none hf).1]
    have hL : bTake L k n = L := by unfold bTake; rw [hb]; rfl
    replace hb := Lib.hid hb; replace hL := Lib.hid hL
    clear hf
    go_wp2
    go_quiet (fail)
    go_wp2
    go_ret
    exact ⟨by rw [hb.out]; rfl, by rw [hL.out]; exact H.out.drewN _, ⟨rfl, rfl, rfl, Nat.le_refl _, fun _ _ _ => rfl⟩⟩
  · obtain ⟨hi, hki, hgi⟩ := fidx_some hf
    obtain ⟨-, hy1, hy2⟩ := H.out.at hi
    have hgd := H.out.good L[i] (List.getElem_mem hi)
    have hu : usedV L k = L[i].2.2 := by unfold usedV; rw [hgi]
    have hlm : limV L k = L[i].2.1 := by unfold limV; rw [hgi]
    obtain ⟨hy1, -⟩ := hy1
    obtain ⟨hy2, hy2f⟩ := hy2
    obtain ⟨a, ha⟩ : ∃ a, a = L[i].2.1 := ⟨_, rfl⟩
    obtain ⟨b, hb⟩ : ∃ b, b = L[i].2.2 := ⟨_, rfl⟩
    have hbT : takeB L k n = (decide (0 ≤ n) && decide (n ≤ a - b)) := by unfold takeB; rw [hgi, ha, hb]
    have hset := fun (hq : okP (a, b + n)) => Bk_s.set (j := 2) (k := k) (q := (a, b + n)) (u := .int .i64 (b + n)) H.out hf (by decide) (fun hi => by rw [hki, ha]; rfl) hq
    rw [← ha] at hy1 hlm
    rw [← hb] at hy2 hu
    have hgd2 : 0 ≤ a ∧ a < 9223372036854775808 ∧ 0 ≤ b ∧ b < 9223372036854775808 := by rw [ha, hb]; exact hgd
    have hw : wrap64 (a - b) = a - b := by unfold wrap64; omega
    clear hgi hki hf hgd ha hb
    by_cases hT : 0 ≤ n ∧ n ≤ a - b
    · have hbT2 : takeB L k n = true := by rw [hbT]; simp; omega
      have hL : bTake L k n = bset L k (a, b + n) := by unfold bTake; rw [hbT2, hlm, hu]; rfl
      have hs := hset ⟨hgd2.1, hgd2.2.1, by simp only; omega, by simp only; omega⟩
      have hw2 : wrap64 (b + n) = b + n := by unfold wrap64; omega
      have t1 : decide (n < 0) = false := by simp; omega
      have t2 : decide (a - b < n) = false := by simp; omega
      replace hbT2 := Lib.hid hbT2; replace hL := Lib.hid hL; replace hs := Lib.hid hs
      clear hset hbT hlm hu hgd2 hT
      go_wp2
      go_quiet (fail)
      go_wp2
      go_ret
      refine ⟨by rw [hbT2.out]; rfl, ?_, ?_⟩
      · rw [hL.out]; exact hs.out.drewN _
      · exact ⟨rfl, rfl, rfl, by simp, fun bb hbb hns => Below.heap_setCell _ _ _ _ (fun e => hns (.inr (by first | (rw [e]; rfl) | (rw [← e]; rfl))))⟩
    · have hbT2 : takeB L k n = false := by rw [hbT]; simp; omega
      have hL : bTake L k n = L := by unfold bTake; rw [hbT2]; rfl
      have hT2 : n < 0 ∨ a - b < n := by omega
      replace hbT2 := Lib.hid hbT2; replace hL := Lib.hid hL
      clear hset hbT hlm hu hgd2 hT hy2f
      by_cases t1 : n < 0
      · have t1b : decide (n < 0) = true := by simp; omega
        clear hT2
        go_wp2
        go_quiet (fail)
        go_wp2
        all_goals go_ret
        all_goals exact ⟨by rw [hbT2.out]; rfl, by rw [hL.out]; exact H.out.drewN _, ⟨rfl, rfl, rfl, Nat.le_refl _, fun _ _ _ => rfl⟩⟩
      · have t2 : decide (a - b < n) = true := by simp; omega
        have t1b : decide (n < 0) = false := by simp; omega
        clear hT2
        go_wp2
        go_quiet (fail)
        go_wp2
        all_goals go_ret
        all_goals exact ⟨by rw [hbT2.out]; rfl, by rw [hL.out]; exact H.out.drewN _, ⟨rfl, rfl, rfl, Nat.le_refl _, fun _ _ _ => rfl⟩⟩

set_option maxHeartbeats 4000000 in
theorem give_s {w : World} {p : Nat} {v : Value} {L : List (ByteArray × Int × Int)} (h : Bk_s w p v L) (hl : L.length ≤ 100000) (k : ByteArray) (n : Int) :
    Calls Try.prog 18 #[.pointer (some ⟨p, 0, none⟩), .string (k), .int .i64 n] w fun e w' => e = .returned (.bool (giveB L k n)) ∧ Bk_s w' p v (bGive L k n) ∧ FrB (bkS_s p v) w w' := by
  have H := Lib.hid h
  clear h
  go_enter Try.func18, Try.ntmps18
  go_wp2_with fail
  refine (find_s H.out hl k).mono ?_
  rintro e w1 ⟨q, rfl, hq, rfl⟩
  rcases hq with ⟨hf, rfl⟩ | ⟨i, g, c, hf, rfl, rfl⟩
  · have hb : giveB L k n = false := by unfold giveB; rw [(fidx_none hf).1]
    have hL : bGive L k n = L := by unfold bGive; rw [hb]; rfl
    replace hb := Lib.hid hb; replace hL := Lib.hid hL
    clear hf
    go_wp2
    try (go_quiet (fail))
    try go_wp2
    go_ret
    exact ⟨by rw [hb.out]; rfl, by rw [hL.out]; first | exact H.out | exact H.out.drewN _, ⟨rfl, rfl, rfl, Nat.le_refl _, fun _ _ _ => rfl⟩⟩
  · obtain ⟨hi, hki, hgi⟩ := fidx_some hf
    obtain ⟨-, hy1, hy2⟩ := H.out.at hi
    have hgd := H.out.good L[i] (List.getElem_mem hi)
    have hu : usedV L k = L[i].2.2 := by unfold usedV; rw [hgi]
    have hlm : limV L k = L[i].2.1 := by unfold limV; rw [hgi]
    obtain ⟨hy1, -⟩ := hy1
    obtain ⟨hy2, hy2f⟩ := hy2
    obtain ⟨a, ha⟩ : ∃ a, a = L[i].2.1 := ⟨_, rfl⟩
    obtain ⟨b, hb⟩ : ∃ b, b = L[i].2.2 := ⟨_, rfl⟩
    have hbT : giveB L k n = (decide (0 ≤ n) && decide (n ≤ b)) := by unfold giveB; rw [hgi, hb]
    have hset := fun (hq : okP (a, b - n)) => Bk_s.set (j := 2) (k := k) (q := (a, b - n)) (u := .int .i64 (b - n)) H.out hf (by decide) (fun hi => by rw [hki, ha]; rfl) hq
    rw [← ha] at hy1 hlm
    rw [← hb] at hy2 hu
    have hgd2 : 0 ≤ a ∧ a < 9223372036854775808 ∧ 0 ≤ b ∧ b < 9223372036854775808 := by rw [ha, hb]; exact hgd
    clear hgi hki hf hgd ha hb
    by_cases hT : 0 ≤ n ∧ n ≤ b
    · have hbT2 : giveB L k n = true := by rw [hbT]; simp; omega
      have hL : bGive L k n = bset L k (a, b - n) := by unfold bGive; rw [hbT2, hlm, hu]; rfl
      have hs := hset ⟨hgd2.1, hgd2.2.1, by simp only; omega, by simp only; omega⟩
      have hw2 : wrap64 (b - n) = b - n := by unfold wrap64; omega
      have t1 : decide (n < 0) = false := by simp; omega
      have t2 : decide (b < n) = false := by simp; omega
      replace hbT2 := Lib.hid hbT2; replace hL := Lib.hid hL; replace hs := Lib.hid hs
      clear hset hbT hlm hu hgd2 hT
      go_wp2
      try (go_quiet (fail))
      try go_wp2
      go_ret
      refine ⟨by rw [hbT2.out]; rfl, ?_, ?_⟩
      · rw [hL.out]; first | exact hs.out | exact hs.out.drewN _
      · exact ⟨rfl, rfl, rfl, by simp, fun bb hbb hns => Below.heap_setCell _ _ _ _ (fun e => hns (.inr (by first | (rw [e]; rfl) | (rw [← e]; rfl))))⟩
    · have hbT2 : giveB L k n = false := by rw [hbT]; simp; omega
      have hL : bGive L k n = L := by unfold bGive; rw [hbT2]; rfl
      have hT2 : n < 0 ∨ b < n := by omega
      replace hbT2 := Lib.hid hbT2; replace hL := Lib.hid hL
      clear hset hbT hlm hu hgd2 hT hy2f
      by_cases t1 : n < 0
      · have t1b : decide (n < 0) = true := by simp; omega
        clear hT2
        go_wp2
        try (go_quiet (fail))
        try go_wp2
        all_goals go_ret
        all_goals exact ⟨by rw [hbT2.out]; rfl, by rw [hL.out]; first | exact H.out | exact H.out.drewN _, ⟨rfl, rfl, rfl, Nat.le_refl _, fun _ _ _ => rfl⟩⟩
      · have t2 : decide (b < n) = true := by simp; omega
        have t1b : decide (n < 0) = false := by simp; omega
        clear hT2
        go_wp2
        try (go_quiet (fail))
        try go_wp2
        all_goals go_ret
        all_goals exact ⟨by rw [hbT2.out]; rfl, by rw [hL.out]; first | exact H.out | exact H.out.drewN _, ⟨rfl, rfl, rfl, Nat.le_refl _, fun _ _ _ => rfl⟩⟩

end Go.Proofs.Ytdgcppglpmlgkaa
