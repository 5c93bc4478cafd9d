/- A region's iterator. -/
import Derived.RangeFuncNested
import Derived.RangeFuncBound
import Derived.RangeFuncCalls
import Derived.RangeFuncLeaves
import Derived.RangeFuncBox
import Derived.Shelf.Abstract
import Derived.Shelf.RegionOpen
import Derived.WalkKit
import Derived.OwnWalkIn
import Derived.TacticsInMore
import Derived.LoopNIn
import Derived.LoopIn
import Derived.Test.YtaflekpfpdnbcaaDoorRegR
import Derived.Test.YtaflekpfpdnbcaaDoorEntF
namespace Go.Proofs.YtaflekpfpdnbcaaDoor
open Go.RowKit Go.Shelf
set_option linter.unusedVariables false
set_option linter.unusedSimpArgs false
set_option linter.unusedSectionVars false
set_option maxRecDepth 100000
attribute [local go_sem] Oper.semAt_some

theorem all_R {w : World} (r : Nat) : Calls Tryd.prog 35 #[.pointer (some ⟨r, 0, none⟩)] w fun e w' => e = .returned (.func (.func 53) #[] #[.pointer (some ⟨w.heap.size, 0, none⟩)]) ∧ w' = w.alloc (.cells #[.pointer (some ⟨r, 0, none⟩)] 58) := by
  go_enter Tryd.func35, Tryd.ntmps35
  go_wp2
  go_ret
  exact ⟨rfl, rfl⟩
/-- What a round keeps: all that lay ahead of n0, and what stands in the block that the iterator has captured. -/
def KpB (n0 Bn : Nat) (A B : World) : Prop := Below n0 A B ∧ ∀ v, A.cell? ⟨Bn, 0, none⟩ = some v → B.cell? ⟨Bn, 0, none⟩ = some v
theorem kpB_t {n0 Bn : Nat} {A B C : World} (h : KpB n0 Bn A B) (k : KpB n0 Bn B C) : KpB n0 Bn A C := ⟨h.1.trans k.1, fun v hv => k.2 v (h.2 v hv)⟩
theorem kpB_b {n0 Bn : Nat} {w : World} (hn : n0 ≤ w.heap.size) (hb : Bn < w.heap.size) (W : World) (l : Nat) (o o' : Obj) (hl : w.heap.size ≤ l) (h : W.heap[l]? = some o) (h1 : o.isCells = false) (h2 : o.isWalk = false) : KpB n0 Bn W (W.putObj l o') :=
  ⟨belowK_b hn W l o o' hl h h1 h2, fun v hv => (World.cell?_of_block (World.putObj_heap_other (fun e => absurd hb (by have e' : l = Bn ∨ Bn = l := (by first | exact .inl e | exact .inr e); omega)))).trans hv⟩
def isT : Value → Bool | .bool b => b | _ => false

set_option maxHeartbeats 4000000 in
theorem iter_R {w0 : World} {r b off n p g : Nat} {vs : List Rw} {X : List Bool} (h : RegS rwE w0 r b off n p g vs X) (hT : Tab w0) (d l Bn : Nat) (hd : 1 ≤ d) (J Jx : List (Nat × Rw) → World → Prop) (W : World) (hJ : AbidesFrom W.heap.size J)
    (hY : ∀ pre x W, J pre W → pre.length < (entA Rw.zero vs X).length → YieldAt Fence.wide (d - 1) Tryd.prog l #[.int .i64 x.1, .agg #[.int .i64 x.2.gen, .int .i64 x.2.kind, .int .i64 x.2.index, .int .i64 x.2.rights]] W fun e W' =>
      (e = .returned (.bool true) ∧ J (pre ++ [x]) W' ∧ KpB w0.heap.size Bn W W') ∨ (e = .returned (.bool false) ∧ Jx (pre ++ [x]) W'))
    (hB : Below w0.heap.size w0 W) (hBn : W.cell? ⟨Bn, 0, none⟩ = some (.pointer (some ⟨r, 0, none⟩))) (h0 : J [] W) :
    CallsIn Fence.wide d Tryd.prog 53 #[.func (.yield l) #[] #[], .pointer (some ⟨Bn, 0, none⟩)] W fun e W' => (∃ v, e = .returned v) ∧
      ((∃ ys, ys = entA Rw.zero vs X ∧ J ys W') ∨ (∃ pre, pre <+: entA Rw.zero vs X ∧ Jx pre W')) := by
  have R0 := Lib.hid h
  have hTT := Lib.hid hT
  have hxl := h.set.lt.2.2.2
  have hxn := h.lx
  have hlv := h.lv
  have Jd : Hid (∀ s W1 m, J s W1 → Below w0.heap.size w0 W1 → W.heap.size ≤ W1.heap.size → J s (W1.drewN m)) := Lib.hid (fun s W1 m hs _ _ => hJ s W1 (W1.drewN m) none hs ⟨rfl, rfl, rfl, Nat.le_refl _, fun _ _ _ => rfl⟩ (fun r e => by cases e))
  have hBW := Lib.hid hB
  have a1 := (h.below hB).c1.1
  have TW := Lib.hid (hT.below hB)
  have RW := Lib.hid (h.below hB)
  have h0' := Lib.hid h0
  replace hY := Lib.hid hY
  clear h hT hB hJ h0
  refine callsIn_of_wp Tryd.func53 rfl trivial ?_ rfl
  simp only [Tryd.ntmps53, List.size_toArray, List.length_cons, List.length_nil, Nat.reduceAdd, Nat.reduceSub, Array.replicate_succ, Array.replicate_zero, List.push_toArray, List.append_toArray, List.nil_append, List.cons_append]
  gi_wp2_with fail
  refine ⟨trivial, (callsIn_wide.2 (next_s RW.out.set TW.out 0)).mono ?_⟩
  rintro e w1 ⟨rfl, m, rfl⟩
  have W0l := Lib.hid (Nat.le_refl W.heap.size)
  have J1 := Lib.hid (Jd.out [] W m h0'.out hBW.out (Nat.le_refl _))
  have B1 := Lib.hid (show Below w0.heap.size w0 (W.drewN m) from ⟨hBW.out.os, hBW.out.tape, hBW.out.output, hBW.out.size, hBW.out.block⟩)
  have L1 := Lib.hid (show W.heap.size ≤ (W.drewN m).heap.size from Nat.le_refl _)
  have b1 := Lib.hid (show (W.drewN m).cell? ⟨Bn, 0, none⟩ = some (.pointer (some ⟨r, 0, none⟩)) from hBn)
  generalize W.drewN m = W1 at *
  clear h0' hBW hBn a1 TW RW
  gi_wp2_with fail
  gi_loopw [3, 4] (fun kv ov wr => ∃ (K : Nat) (pre : List (Nat × Rw)), kv = .int .i64 (nextV X true K) ∧ ov = .bool (nextO X true K) ∧ Hid (entA Rw.zero vs X = pre ++ entF Rw.zero vs X K) ∧ Hid (J pre wr) ∧ Hid (Below w0.heap.size w0 wr) ∧ Hid (W.heap.size ≤ wr.heap.size) ∧ Hid (wr.cell? ⟨Bn, 0, none⟩ = some (.pointer (some ⟨r, 0, none⟩))) ∧ Hid (K ≤ X.length)) (fun kv ov _ => if isT ov = true then X.length + 1 - (intOf kv).toNat else 0)
  case atStart => exact ⟨0, [], rfl, rfl, Lib.hid rfl, J1, B1, L1, b1, Lib.hid (Nat.zero_le _)⟩
  case round =>
    clear J1 B1 L1 b1
    obtain ⟨K, pre, rfl, rfl, hx, J2, B2, L2, b2, hK⟩ := hrel
    have c0 := b2.out
    cases hn : nextB X true K with
    | none =>
      have e1 := nextO_none (X := X) (b := true) (k := (K : Int)) (by simpa using hn)
      have E0 := Lib.hid (entF_none Rw.zero vs hn)
      rw [e1.1, e1.2]
      clear e1 hn
      gi_wp2
      go_end0
      exact ⟨⟨_, rfl⟩, .inl ⟨pre, by rw [hx.out, E0.out, List.append_nil], J2.out⟩⟩
    | some j =>
      have e1 := nextO_some (X := X) (b := true) (k := (K : Int)) (by simpa using hn)
      obtain ⟨hj, hkj, -, -⟩ := nextB_of hn
      have E0 := Lib.hid (entF_some Rw.zero vs hn)
      have RW := Lib.hid (R0.out.below B2.out)
      have hjn : j < n := by rw [← hxn]; exact hj
      have hjv : j < vs.length := by rw [hlv]; exact hjn
      have hgd : vs.getD j Rw.zero = vs[j] := by rw [List.getD_eq_getElem?_getD, List.getElem?_eq_getElem hjv]; rfl
      obtain ⟨fn, tmps, assign, body, hy, hR⟩ := hY.out pre (j, vs.getD j Rw.zero) wr J2.out (by rw [hx.out, E0.out]; simp)
      dsimp only at hy hR
      rw [hgd] at hR hy
      obtain ⟨A', hA', hA2'⟩ := RW.out.c0
      obtain rfl := hA2' (by omega)
      have a0 := hA'.1
      have a1 := RW.out.c1.1
      obtain ⟨q0, q1, q2, q3⟩ := RW.out.atR hjv
      have u0 := q0.1; have u1 := q1.1; have u2 := q2.1; have u3 := q3.1
      clear q0 q1 q2 q3
      have hj4 : j < 4096 := by omega
      have eqj : IntKind.i64.wrap (j : Int) = (j : Int) := by rw [IntKind.wrap_i64]; omega
      replace hR := Lib.hid hR
      rw [e1.1, e1.2]
      clear e1 hn hA2' hA' 
      have ej1 : IntKind.i64.wrap ((j : Int) + 1) = ((j + 1 : Nat) : Int) := by rw [IntKind.wrap_i64]; omega
      have ej2 : wrap64 ((j : Int) + 1) = ((j + 1 : Nat) : Int) := by unfold wrap64; omega
      replace ej1 := Lib.hid ej1; replace ej2 := Lib.hid ej2
      gi_wp2_with fail
      refine hR.out.mono ?_
      rintro e W3 (⟨rfl, hJ3, hk3⟩ | ⟨rfl, hJx3⟩)
      · have hJ3' := Lib.hid hJ3
        have B3 := Lib.hid (B2.out.trans hk3.1)
        have L3 := Lib.hid (Nat.le_trans L2.out hk3.1.size)
        have b3 := hk3.2 _ b2.out
        have R3 := Lib.hid (R0.out.below B3.out)
        have T3 := Lib.hid (hTT.out.below B3.out)
        have a3 := R3.out.c1.1
        clear hJ3 hk3 a0 a1 RW hR hy u0 u1 u2 u3
        gi_wp2_with fail
        refine ⟨trivial, (callsIn_wide.2 (next_s R3.out.set T3.out _)).mono ?_⟩
        rintro e w1 ⟨rfl, m, rfl⟩
        have J4 := Lib.hid (Jd.out _ W3 m hJ3'.out B3.out L3.out)
        have B4 := Lib.hid (show Below w0.heap.size w0 (W3.drewN m) from ⟨B3.out.os, B3.out.tape, B3.out.output, B3.out.size, B3.out.block⟩)
        have L4 := Lib.hid (show W.heap.size ≤ (W3.drewN m).heap.size from L3.out)
        have b4 := Lib.hid (show (W3.drewN m).cell? ⟨Bn, 0, none⟩ = some (.pointer (some ⟨r, 0, none⟩)) from b3)
        generalize W3.drewN m = W4 at *
        clear hJ3' B3 L3 b3 R3 T3 a3
        gi_wp2
        refine ⟨⟨j + 1, pre ++ [(j, vs[j])], by rw [Int.natCast_add]; rfl, by rw [Int.natCast_add]; rfl, Lib.hid (by rw [hx.out, E0.out, hgd]; simp), J4, B4, L4, b4, Lib.hid hj⟩, ?_⟩
        have ec : ((j : Int) + 1).toNat = j + 1 := by omega
        cases hn2 : nextB X true (j + 1) with
        | none =>
          have e2 := nextO_none (X := X) (b := true) (k := (j : Int) + 1) (by rw [ec]; exact hn2)
          rw [e2.1]
          simp [isT, intOf]; omega
        | some j2 =>
          have e2 := nextO_some (X := X) (b := true) (k := (j : Int) + 1) (by rw [ec]; exact hn2)
          obtain ⟨hj2, hkj2, -, -⟩ := nextB_of hn2
          rw [e2.1, e2.2]
          simp [isT, intOf]; omega
      · gi_wp2
        refine bodyPost_ret (results_none rfl _ _ _) rfl ?_
        exact ⟨⟨_, rfl⟩, .inr ⟨pre ++ [(j, vs[j])], ⟨entF Rw.zero vs X (j + 1), by rw [hx.out, E0.out, hgd]; simp⟩, by rw [← hgd]; rw [hgd]; exact hJx3⟩⟩
theorem stops_R {w0 : World} {r b off n p g : Nat} {vs : List Rw} {X : List Bool} (h : RegS rwE w0 r b off n p g vs X) (hT : Tab w0) {d Bn : Nat} (hd : 1 ≤ d) {w : World} (hB : Below w0.heap.size w0 w) (hl : Bn < w.heap.size) (hBn : w.cell? ⟨Bn, 0, none⟩ = some (.pointer (some ⟨r, 0, none⟩))) :
    SeqStopsK Fence.wide d Tryd.prog 53 #[.pointer (some ⟨Bn, 0, none⟩)] (fun x : Nat × Rw => #[.int .i64 x.1, .agg #[.int .i64 x.2.gen, .int .i64 x.2.kind, .int .i64 x.2.index, .int .i64 x.2.rights]]) (KpB w0.heap.size Bn) (fun ys => ys = entA Rw.zero vs X) (fun pre => pre <+: entA Rw.zero vs X) (entA Rw.zero vs X).length w :=
  fun l J Jx W hW hJ _ hY h0 => iter_R h hT d l Bn hd J Jx W hJ hY (hB.trans (hW.mono hB.size)) ((hW.cell (p := ⟨Bn, 0, none⟩) hl).trans hBn) h0
end Go.Proofs.YtaflekpfpdnbcaaDoor
