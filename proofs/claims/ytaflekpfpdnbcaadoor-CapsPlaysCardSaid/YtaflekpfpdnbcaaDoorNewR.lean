/- New slabs of caps.Row, and their regions. -/
import Derived.Test.YtaflekpfpdnbcaaDoorRegR
import Derived.Test.YtaflekpfpdnbcaaDoorSlabN
import Derived.Test.YtaflekpfpdnbcaaDoorOwnES
import Derived.Test.YtaflekpfpdnbcaaDoorSeq
import Derived.Test.YtaflekpfpdnbcaaDoorSince
namespace Go.Proofs.YtaflekpfpdnbcaaDoor
open Go.RowKit
set_option linter.unusedVariables false
set_option linter.unusedSimpArgs false
set_option linter.unusedSectionVars false
set_option maxRecDepth 100000

def pRE : Enc Nat where
  t := 58
  sz := 1
  f := fun x => [.pointer (some ⟨x, 0, none⟩)]
  z := .pointer none
  bytes := 8
  len := fun x => rfl
  one := fun x v h => by simp at h; subst h; rfl
  info := by kernel_rfl
  zs := rfl
  pos := by decide
  small := by decide
theorem infoNR : (Tryd.prog.info? 56).map (fun i => (i.zero, i.size, i.bytes)) = some (some (rwE.z), 4, 32) := by kernel_rfl
theorem heldR_R (w : World) (a : Int) : Calls Tryd.prog 36 #[.int .i64 a] w fun e w' => e = .returned (.int .i64 (capR a)) ∧ w = w' := by
  have e1 : (if 0 < (if 256 < a then 256 else a) then (if 256 < a then 256 else a) else 0) = (capR a : Int) := by unfold capR; split <;> split <;> omega
  go_enter Tryd.func36, Tryd.ntmps36
  go_wp2
  all_goals go_ret
  all_goals exact ⟨by first | rfl | (unfold capR; congr 2; omega), rfl⟩

set_option maxHeartbeats 8000000 in
theorem new_R {w : World} {A : Option Addr} {cc : Nat} {cs : List Int} (hr : RowAt (fun x : Int => [.int .i64 x]) 1 w A cs) (hk : cs.length ≤ cc) (hm : cs.length ≤ 1000000000000) :
    Calls Tryd.prog 21 #[.slice A cs.length cc] w fun e w' => ∃ s b ds, e = .returned (.pointer (some ⟨s, 0, none⟩)) ∧ SlabS rwE pRE w' w.heap.size w'.heap.size s b ds (fresh Rw.zero ds) ∧ ds.map RD.n = capsR cs ∧ Below w.heap.size w w' := by
  obtain ⟨N, hN⟩ : ∃ N, N = cs.length := ⟨_, rfl⟩
  obtain ⟨m, hmm⟩ : ∃ m, m = min N 64 := ⟨_, rfl⟩
  obtain ⟨ns, hns⟩ : ∃ ns, ns = capsR cs := ⟨_, rfl⟩
  have hnl : ns.length = m := by rw [hns]; simp [capsR]; omega
  have hget : Hid (∀ (i : Nat), i < m → ns.getD i 0 = capR (cs.getD i 0)) := Lib.hid (fun i h => by
    have h1 : i < cs.length := by omega
    have h2 : i < ns.length := by omega
    subst hns; simp [capsR, h1, h2, show i < 64 by omega])
  have hb256 : Hid (∀ (i : Nat), ns.getD i 0 ≤ 256) := Lib.hid (fun i => by
    by_cases h : i < m
    · rw [hget.out i h]; exact capR_le _
    · rw [List.getD_eq_getElem?_getD, List.getElem?_eq_none (by omega)]; decide)
  have hsum : Hid (∀ k, (ns.take k).sum ≤ 256 * k) := Lib.hid (fun k => by
    induction k with
    | zero => simp
    | succ k ih =>
      by_cases hk : k < ns.length
      · rw [take_sum_succ hk]
        have := hb256.out k
        rw [List.getD_eq_getElem?_getD, List.getElem?_eq_getElem hk, Option.getD_some] at this
        omega
      · rw [List.take_of_length_le (by omega)] at ih ⊢; omega)
  have HR := Lib.hid hr
  have hm64 : m ≤ 64 := by omega
  have hmc : m ≤ cc := by omega
  have hmN : m ≤ N := by omega
  have e0 : (if (64 : Int) < (N : Int) then 64 else (N : Int)) = (m : Int) := by split <;> omega
  rw [← hN]
  replace hN := Lib.hid hN; replace hns := Lib.hid hns; replace hmm := Lib.hid hmm
  replace hnl := Lib.hid hnl
  clear hr hm hk
  go_enter Tryd.func21, Tryd.ntmps21
  go_wp2_with fail
  go_loop [3, 18] (fun t i => ∃ k : Nat, i = .int .i64 k ∧ t = .int .i64 ((ns.take k).sum : Nat) ∧ Hid (k ≤ m)) (fun _ i => m - (intOf i).toNat)
  case atStart => exact ⟨0, rfl, rfl, Lib.hid (Nat.zero_le _)⟩
  case round =>
    obtain ⟨k, rfl, rfl, hkm⟩ := hrel
    by_cases hlt : k < m
    · obtain ⟨bb, off, rfl, hbl, hc⟩ := HR.out k (by have := hN.out; omega)
      have c0 := hc 0 _ rfl
      obtain ⟨a, ha⟩ : ∃ a, a = cs[k]'(by have := hN.out; omega) := ⟨_, rfl⟩
      rw [← ha] at c0
      simp only [Nat.mul_one, Nat.add_zero] at c0
      have hs1 : ((ns.take k).sum : Int) + (capR a : Int) = ((ns.take (k + 1)).sum : Nat) ∧ ((ns.take k).sum : Int) ≤ 16384 ∧ (capR a : Int) ≤ 256 := by
        have h1 := hget.out k hlt
        have h2 := hN.out; have h3 := hnl.out
        rw [List.getD_eq_getElem?_getD, List.getElem?_eq_getElem (by omega), List.getD_eq_getElem?_getD, List.getElem?_eq_getElem (by omega), Option.getD_some, Option.getD_some, ← ha] at h1
        rw [take_sum_succ (by omega), h1]
        have := hsum.out k
        exact ⟨by omega, by omega, by have := capR_le a; omega⟩
      obtain ⟨S1, hS1⟩ : ∃ x : Nat, x = (ns.take (k + 1)).sum := ⟨_, rfl⟩
      obtain ⟨S0, hS0⟩ : ∃ x : Nat, x = (ns.take k).sum := ⟨_, rfl⟩
      obtain ⟨ca, hca⟩ : ∃ x : Nat, x = capR a := ⟨_, rfl⟩
      rw [← hS1, ← hS0, ← hca] at hs1
      rw [← hS0]
      obtain ⟨e3, e4, e5⟩ := hs1
      have ew : wrap64 ((S0 : Int) + (ca : Int)) = (S1 : Int) := by rw [e3]; unfold wrap64; omega
      replace hS1 := Lib.hid hS1; replace hca := Lib.hid hca; replace hkm := Lib.hid hlt
      have hkm2 : k < 64 := by omega
      replace ha := Lib.hid ha; replace hS0 := Lib.hid hS0
      have e3h := Lib.hid e3
      clear e3 hc hbl
      go_wp2_with fail
      refine (heldR_R w a).mono ?_
      rintro e w' ⟨rfl, rfl⟩
      rw [← hca.out]
      go_wp2
      go_round
      case rel => exact ⟨k + 1, by go_num, by first | (rw [← hS1.out]; done) | rw [← hS1.out, ← e3h.out], Lib.hid hkm.out⟩
      case measure => have := hkm.out; simp [intOf]; omega
    · obtain rfl : m = k := by have := hkm.out; omega
      have hT0 : (ns.take m).sum = ns.sum := by rw [List.take_of_length_le (by have := hnl.out; omega)]
      obtain ⟨T, hT⟩ : ∃ T : Nat, T = ns.sum := ⟨_, rfl⟩
      have hT16 : T ≤ 16384 := by rw [hT, ← hT0]; have := hsum.out m; omega
      rw [hT0, ← hT]
      obtain ⟨Z, s1, z1, k1⟩ := make_eq (t := 86) Tryd.underlying86 infoNR rfl rfl .i64 .i64 T (by omega) (by omega)
      replace hT := Lib.hid hT; replace s1 := Lib.hid s1; replace z1 := Lib.hid z1
      clear hlt hkm hT0
      have B1 := (Below.refl w.heap.size w).alloc (Nat.le_refl _) (.cells Z 56)
      have B2 := Lib.hid (B1.alloc B1.size (.cells #[.slice (some ⟨w.heap.size, 0, none⟩) T T, .slice none 0 0] 89))
      have N0 := Lib.hid (show NewS rwE pRE Rw.zero ((w.alloc (.cells Z 56)).alloc (.cells #[.slice (some ⟨w.heap.size, 0, none⟩) T T, .slice none 0 0] 89)) w.heap.size (w.heap.size + 1) w.heap.size T 0 ns (.slice none 0 0) [] from by
        have e1 : (w.alloc (.cells Z 56)).heap.size = w.heap.size + 1 := by simp
        have cc := fun i v hv => Cel.new (w.alloc (.cells Z 56)) #[.slice (some ⟨w.heap.size, 0, none⟩) T T, .slice none 0 0] 89 i v hv
        rw [e1] at cc
        refine ⟨cc 1 _ rfl, OwnE.nil _ _, fun q hq => (by cases hq), fun d hd => (by cases hd), List.Pairwise.nil, fun d hd => (by cases hd), ⟨by omega, by omega, by omega⟩, cc 0 _ rfl, fun i f u hi hu => ?_, hT.out, by simp, Nat.zero_le _, fun d hd => (by cases hd), fun d hd => (by cases hd), ⟨by simp, by simp; omega⟩⟩
        have hf : f < 4 := by
          have h := (List.getElem?_eq_some_iff.1 hu).1
          rwa [rwE.len] at h
        refine (Cel.new w Z 56 (i * 4 + f) u ?_).alloc _
        rw [z1.out i f hi hf]
        rw [← hu]
        rw [← Array.getElem?_toList]; rfl)
      clear B1
      go_wp2_with fail
      generalize ((w.alloc (.cells Z 56)).alloc (.cells #[.slice (some ⟨w.heap.size, 0, none⟩) T T, .slice none 0 0] 89)) = W2 at *
      generalize hb0 : w.heap.size = b0 at *
      replace hb0 := Lib.hid hb0
      go_loopw [7, 33] (fun fr ii wr => ∃ (k : Nat) (v : Value) (ds : List RD), ii = .int .i64 k ∧ fr = .int .i64 ((ns.take k).sum : Nat) ∧ Hid (k ≤ m) ∧ Hid (NewS rwE pRE Rw.zero wr b0 (b0 + 1) b0 T k ns v ds) ∧ Hid (Below b0 w wr)) (fun _ ii _ => m - (intOf ii).toNat)
      case atStart => exact ⟨0, _, _, rfl, rfl, Lib.hid (Nat.zero_le _), N0, B2⟩
      case round =>
        clear N0 B2
        obtain ⟨k, v, ds, rfl, rfl, hkm, N1, B1⟩ := hrel
        by_cases hlt : k < m
        · obtain ⟨bb, off, rfl, hbl, hc⟩ := HR.out k (by have := hN.out; omega)
          have c0 := hc 0 _ rfl
          obtain ⟨a, ha⟩ : ∃ a, a = cs[k]'(by have := hN.out; omega) := ⟨_, rfl⟩
          rw [← ha] at c0
          simp only [Nat.mul_one, Nat.add_zero] at c0
          replace c0 := (B1.out.cell (p := ⟨bb, off + k, none⟩) (by rw [← hb0.out]; exact hbl)).trans c0
          have hkn : k < ns.length := by have := hnl.out; omega
          have hs1 : ns[k] = capR a := by
            have h1 := hget.out k hlt
            have h2 := hN.out
            rwa [List.getD_eq_getElem?_getD, List.getElem?_eq_getElem hkn, List.getD_eq_getElem?_getD, List.getElem?_eq_getElem (by omega), Option.getD_some, Option.getD_some, ← ha] at h1
          have hs2 := take_sum_succ hkn
          have hs3 := take_sum_le ns (k + 1)
          have hs4 : (ns.take k).sum ≤ T ∧ ns[k] ≤ 256 := ⟨by have := hT.out; omega, by rw [hs1]; exact capR_le _⟩
          obtain ⟨S1, hS1⟩ : ∃ x : Nat, x = (ns.take (k + 1)).sum := ⟨_, rfl⟩
          obtain ⟨S0, hS0⟩ : ∃ x : Nat, x = (ns.take k).sum := ⟨_, rfl⟩
          obtain ⟨ca, hca⟩ : ∃ x : Nat, x = ns[k] := ⟨_, rfl⟩
          have hcap := Lib.hid (hca.trans hs1)
          rw [← hS1, ← hS0, ← hca] at hs2
          rw [← hS1, ← hT.out] at hs3
          rw [← hS0, ← hca] at hs4
          rw [← hS0]
          have ew : Hid ((S0 : Int) + (ca : Int) = (S1 : Int)) := Lib.hid (by omega)
          have eb : (S0 : Int) + (ca : Int) ≤ 16384 := by omega
          have ew2 : IntKind.i64.wrap ((S1 : Int) - (S0 : Int)) = (ca : Int) := by rw [IntKind.wrap_i64]; omega
          have b1 : S0 ≤ S1 := by omega
          have b2 : S1 ≤ T := by omega
          have b3 : ca ≤ 256 := by omega
          have eS : S1 - S0 = ca := by omega
          replace hS1 := Lib.hid hS1; replace hca := Lib.hid hca; replace hkm := Lib.hid hlt; replace ha := Lib.hid ha; replace hS0 := Lib.hid hS0; replace hs2 := Lib.hid hs2
          have hk64 : k < 64 := by omega
          have s0 := N1.out.room.1; have s1' := N1.out.vc.1
          clear hc hbl hs1 hs3 hs4
          go_wp2_with fail
          refine (heldR_R wr a).mono ?_
          rintro e w' ⟨rfl, rfl⟩
          rw [← hcap.out]
          go_wp2_with fail
          rw [ew.out]
          clear eb
          have hS0' : wr.drew.cell? ⟨b0 + 1, 0, none⟩ = some (.slice (some ⟨b0, 0, none⟩) T T) ∧ wr.drew.cell? ⟨b0 + 1, 1, none⟩ = some v := ⟨s0, s1'⟩
          refine seq_startM 23 [(0, true), (1, true), (2, true), (3, true), (4, true), (5, true), (6, true), (7, true), (8, true), (9, true), (10, true), (11, true), (12, true), (13, true), (14, true), (15, true), (16, false), (17, true), (18, false), (19, false), (20, false), (21, true), (22, true), (23, false)] (fun w' => w'.cell? ⟨b0 + 1, 0, none⟩ = some (.slice (some ⟨b0, 0, none⟩) T T) ∧ w'.cell? ⟨b0 + 1, 1, none⟩ = some v) (by kernel_rfl) (by kernel_rfl) rfl (by kernel_rfl) hS0' ?_
          obtain ⟨Q, hQ⟩ : ∃ Q : Option Addr, (if S1 = S0 then some ⟨b0, 0, none⟩ else some ⟨b0, S0 * 4, none⟩) = Q := ⟨_, rfl⟩
          have hQ2 : Hid (0 < ca → Q = some ⟨b0, S0 * 4, none⟩) := Lib.hid (fun h => by rw [← hQ, if_neg (by omega)])
          iterate 16 (refine seq_read rfl (by first | rfl | (go_simp; done)) (fun w' hw => by obtain ⟨s0, s1⟩ := hw; go_simp; with_reducible rfl) ?_; try simp only [Act.put, List.setIfInBounds_toArray, List.set_cons_zero, List.set_cons_succ])
          clear hQ s0 s1' hS0'
          replace N1 := Lib.hid N1.out.drew
          have B1' := Lib.hid (show Below b0 w wr.drew from ⟨B1.out.os, B1.out.tape, B1.out.output, B1.out.size, B1.out.block⟩)
          clear B1 c0
          generalize wr.drew = W1 at *
          refine seq_call rfl (fun K hK => ?_)
          go_simp
          refine (new_s W1 (ca : Int)).mono ?_
          rintro e w1 ⟨p, g, rfl, SB, hp, hg, BB⟩
          rw [hcap.out, capB_capR, ← hcap.out] at SB
          have M1 := Lib.hid (N1.out.below BB)
          refine hK.out _ _ ⟨M1.out.room.1, M1.out.vc.1⟩ ?_
          clear hK K
          try simp only [Act.put, List.setIfInBounds_toArray, List.set_cons_zero, List.set_cons_succ]
          replace SB := Lib.hid SB; replace BB := Lib.hid BB; replace hp := Lib.hid hp; replace hg := Lib.hid hg
          iterate 1 (refine seq_read rfl (by first | rfl | (go_simp; done)) (fun w' hw => by obtain ⟨s0, s1⟩ := hw; go_simp; with_reducible rfl) ?_; try simp only [Act.put, List.setIfInBounds_toArray, List.set_cons_zero, List.set_cons_succ])
          refine seq_call rfl (fun K hK => ?_)
          go_simp
          have M2 := Lib.hid (M1.out.below (blA (Below.refl w1.heap.size w1) (.cells #[.slice Q ca ca, .pointer (some ⟨p, 0, none⟩)] 93)))
          refine hK.out _ _ ⟨M2.out.room.1, M2.out.vc.1⟩ ?_
          clear hK K
          try simp only [Act.put, List.setIfInBounds_toArray, List.set_cons_zero, List.set_cons_succ]
          refine seq_call rfl (fun K hK => ?_)
          go_simp
          have M3 := Lib.hid (M2.out.below (blA (Below.refl _ _) (.cells #[.pointer (some ⟨w1.heap.size, 0, none⟩)] 58)))
          refine hK.out _ _ ⟨M3.out.room.1, M3.out.vc.1⟩ ?_
          clear hK K
          try simp only [Act.put, List.setIfInBounds_toArray, List.set_cons_zero, List.set_cons_succ]
          refine seq_call rfl (fun K hK => ?_)
          have hz1 : b0 ≤ w1.heap.size := by have k0 := hb0.out; have k1 := B1'.out.size; have k2 := BB.out.size; omega
          refine step_append_rowE (E := pRE) (base := b0) (v := v) (xs := ds.map RD.r) (ys := [w1.heap.size]) rfl rfl Tryd.underlying87 rfl M3.out.own rfl (rowAt_new1 _ _ _ _ (by simp) rfl) rfl (by have := congrArg List.length M1.out.nseq; simp at this ⊢; omega) (by simp) (by simp; omega) ?_
          intro v' w4 O G1 G2 G3
          obtain ⟨A4, k4, rfl, -⟩ := O.slice
          have c4 : Cel w4 (b0 + 1) 1 v := M3.out.vc.frb (FrB.grown G2) (fun e => (N1.out.q _ e).2.1 rfl)
          have c5 : Cel w4 (b0 + 1) 0 (.slice (some ⟨b0, 0, none⟩) T T) := M3.out.room.frb (FrB.grown G2) (fun e => (N1.out.q _ e).2.1 rfl)
          refine hK.out _ _ ⟨c5.1, c4.1⟩ ?_
          clear hK K
          try simp only [Act.put, List.setIfInBounds_toArray, List.set_cons_zero, List.set_cons_succ]
          obtain ⟨ds', N5⟩ := NewS.step N1.out (by have k0 := hb0.out; have := B1'.out.size; omega) hkn (by rw [← hca.out]; exact SB.out) hp.out hg.out BB.out (by rw [← hca.out, ← hS0.out]; exact hQ2.out) O (by rw [← hca.out]; exact G2) (by
            rcases G3 with e | e
            · exact .inl e
            · exact .inr (by rw [e]; simp))
          have B5 : Below b0 w (w4.setCell ⟨b0 + 1, 1, none⟩ (.slice A4 (ds.length + 1) k4)) := ((((B1'.out.trans (BB.out.mono (by have k0 := hb0.out; have := B1'.out.size; omega))).alloc hz1 _).alloc (by simp; omega) _).trans G1).setCell (p := ⟨b0 + 1, 1, none⟩) (Nat.le_succ _) _
          rw [show (ds.map RD.r ++ [w1.heap.size]).length = ds.length + 1 by simp] at N5
          replace N5 := Lib.hid N5; replace B5 := Lib.hid B5
          have c41 := c4.1; have c42 := c4.2; have c51 := c5.1
          clear O G1 G2 G3 M1 M2 M3 N1 c4 c5
          iterate 2 (refine seq_read rfl (by first | rfl | (go_simp; done)) (fun w' hw => by obtain ⟨s0, s1⟩ := hw; go_simp; with_reducible rfl) ?_; try simp only [Act.put, List.setIfInBounds_toArray, List.set_cons_zero, List.set_cons_succ])
          refine seq_last rfl (fun K hK => ?_)
          go_simp
          refine hK.out _ _ ?_
          clear hK K
          go_wp2
          go_roundw
          case rel => exact ⟨k + 1, _, ds', by go_num, by first | (rw [← hS1.out]; done) | rw [← hS1.out, ← ew.out], Lib.hid hkm.out, N5, B5⟩
          case measure => have := hkm.out; simp [intOf]; omega
        · obtain rfl : m = k := by have := hkm.out; omega
          have hnl2 := hnl.out
          clear hlt
          go_wp2
          go_ret
          exact ⟨b0 + 1, b0, ds, rfl, by rw [hb0.out]; exact N1.out.slab, by rw [N1.out.nseq, List.take_of_length_le (by omega), hns.out], by rw [hb0.out]; exact B1.out⟩

/-- A region that is there, .. -/
theorem region_R {w : World} {base top s b : Nat} {ds : List RD} {st : List (List (Rw) × List Bool)} (h : SlabS rwE pRE w base top s b ds st) {k : Nat} (hk : k < ds.length) :
    Calls Tryd.prog 23 #[.pointer (some ⟨s, 0, none⟩), .int .i64 k] w fun e w' => e = .returned (.pointer (some ⟨ds[k].r, 0, none⟩)) ∧ w = w' := by
  obtain ⟨v, hv, hO, -⟩ := h.cs
  obtain ⟨g, c, rfl, -⟩ := hO.pos (by rw [List.length_map]; omega)
  have hc := hO.cel (i := k) (j := 0) (u := .pointer (some ⟨ds[k].r, 0, none⟩)) (by rw [List.length_map]; exact hk) (by rw [List.getElem_map]; rfl)
  rw [List.length_map] at hv
  have a0 := hv.1
  have a1 : w.cell? ⟨g, k, none⟩ = some (.pointer (some ⟨ds[k].r, 0, none⟩)) := by
    have := hc.1
    rwa [show k * (pRE).sz + 0 = k by show k * 1 + 0 = k; omega] at this
  clear hv hO h hc
  obtain ⟨r, hr⟩ : ∃ r, r = ds[k].r := ⟨_, rfl⟩
  rw [← hr] at a1 ⊢
  clear hr
  generalize ds.length = n at *
  have d1 : decide ((k : Int) < 0) = false := decide_eq_false (by omega)
  have d2 : decide (n ≤ k) = false := decide_eq_false (by omega)
  have d3 : decide ((n : Int) ≤ (k : Int)) = false := decide_eq_false (by omega)
  go_enter Tryd.func23, Tryd.ntmps23
  go_wp2
  go_ret
  exact ⟨rfl, rfl⟩
/-- .. and one that isn't. -/
theorem region_no_R {w : World} {base top s b : Nat} {ds : List RD} {st : List (List (Rw) × List Bool)} (h : SlabS rwE pRE w base top s b ds st) {k : Int} (hk : k < 0 ∨ (ds.length : Int) ≤ k) :
    Calls Tryd.prog 23 #[.pointer (some ⟨s, 0, none⟩), .int .i64 k] w fun e w' => e = .returned (.pointer none) ∧ w = w' := by
  obtain ⟨v, hv, hO, -⟩ := h.cs
  obtain ⟨A, c, rfl, -⟩ := hO.slice
  rw [List.length_map] at hv
  have a0 := hv.1
  clear hv hO h
  rcases hk with hk | hk
  · have d1 : decide (k < 0) = true := decide_eq_true hk
    go_enter Tryd.func23, Tryd.ntmps23
    go_wp2
    go_ret
    exact ⟨rfl, rfl⟩
  · have d1 : decide (k < 0) = false := decide_eq_false (by omega)
    have d2 : decide ((ds.length : Int) ≤ k) = true := decide_eq_true hk
    go_enter Tryd.func23, Tryd.ntmps23
    go_wp2
    go_ret
    exact ⟨rfl, rfl⟩
end Go.Proofs.YtaflekpfpdnbcaaDoor
