/- The document's regions as they are made, and kept. -/
import Derived.Test.YtlkhpkdndmlnaaaDoorDs3
import Derived.Test.YtlkhpkdndmlnaaaDoorSlabS
namespace Go.Proofs.YtlkhpkdndmlnaaaDoor
open Go.RowKit
set_option linter.unusedVariables false
set_option linter.unusedSimpArgs false
set_option linter.unusedSectionVars false
set_option maxRecDepth 100000

abbrev SV := Option Addr × Nat × Nat
abbrev SV.v (x : SV) : Value := .slice x.1 x.2.1 x.2.2
def sE : Enc SV where
  t := 60
  sz := 1
  f := fun x => [.slice x.1 x.2.1 x.2.2]
  z := .slice none 0 0
  bytes := 24
  len := fun x => rfl
  one := fun x v h => by
    simp only [List.mem_cons, List.mem_nil_iff, or_false] at h
    subst h; rfl
  info := by kernel_rfl
  zs := rfl
  pos := by decide
  small := by decide
theorem infoPl : (Tryd.prog.info? 82).map (fun i => (i.zero, i.size, i.bytes)) = some (some (.agg #[.bool false, .int .i64 0]), 2, 16) := by kernel_rfl
theorem plZ {Z : Array Value} {n : Nat} (s1 : Z.size = n * 2) (z1 : ∀ k f, k < n → f < 2 → Z[k * 2 + f]? = (#[Value.bool false, Value.int .i64 0] : Array Value)[f]?) : Z = (plE.row (List.replicate n Pl.zero)).toArray := by
  have hl := Enc.row_length (E := plE) (List.replicate n Pl.zero)
  rw [List.length_replicate] at hl
  apply Array.ext
  · rw [s1]; simp only [List.size_toArray]; rw [hl]; rfl
  · intro i h1 h2
    have hi : i < n * 2 := by rw [← s1]; exact h1
    have e : i = (i / 2) * 2 + i % 2 := by omega
    have hf : i % 2 < 2 := Nat.mod_lt _ (by decide)
    have hk : i / 2 < n := by omega
    have a1 := z1 (i / 2) (i % 2) hk hf
    rw [← e, Array.getElem?_eq_getElem h1] at a1
    have a2 := Enc.row_at (E := plE) (List.replicate n Pl.zero) (i / 2) (i % 2) (by rw [List.length_replicate]; exact hk) hf
    rw [show i / 2 * plE.sz + i % 2 = i by show i / 2 * 2 + i % 2 = i; omega, List.getElem_replicate] at a2
    have a3 : (plE.row (List.replicate n Pl.zero)).toArray[i]? = some (plE.row (List.replicate n Pl.zero)).toArray[i] := Array.getElem?_eq_getElem h2
    rw [List.getElem?_toArray, a2] at a3
    have a4 : (plE.f Pl.zero)[i % 2]? = (#[Value.bool false, Value.int .i64 0] : Array Value)[i % 2]? := by
      have : i % 2 = 0 ∨ i % 2 = 1 := by omega
      rcases this with h | h <;> rw [h] <;> rfl
    rw [a4, ← a1] at a3
    injection a3
/-- Regions of places in a row of one's own. -/
structure OutR (wr : World) (base : Nat) (v : Value) (L : List SV) (Ps : List (List Pl)) : Prop where
  own : OwnE sE wr base v L
  len : L.length = Ps.length
  inn : ∀ (i : Nat) (x : SV) (P : List Pl), L[i]? = some x → Ps[i]? = some P → x.2.1 = P.length ∧ OwnE plE wr base (SV.v x) P ∧ ∀ q, (SV.v x).ownBlock = some q → v.ownBlock ≠ some q
section
variable {wr w' : World} {base : Nat} {v v' : Value} {L : List SV} {Ps : List (List Pl)}
theorem OutR.frc {S : Nat → Nat → Prop} (h : OutR wr base v L Ps) (F : FrC S wr w') (hS : ∀ q o, base ≤ q → ¬ S q o) : OutR w' base v L Ps :=
  ⟨h.own.block (fun q hq => F.block q (h.own.lt q hq).2 (fun o => hS q o (h.own.lt q hq).1)), h.len, fun i x P hx hP => by
    obtain ⟨a, b, c⟩ := h.inn i x P hx hP
    exact ⟨a, b.block (fun q hq => F.block q (b.lt q hq).2 (fun o => hS q o (b.lt q hq).1)), c⟩⟩
theorem OutR.below (h : OutR wr base v L Ps) (F : Below wr.heap.size wr w') : OutR w' base v L Ps := h.frc (FrC.of_below (S := fun _ _ => False) F (Nat.le_refl _)) (fun _ _ _ h => h)
theorem OutR.drew (h : OutR wr base v L Ps) : OutR wr.drew base v L Ps := h.below ⟨rfl, rfl, rfl, Nat.le_refl _, fun _ _ => rfl⟩
theorem OutR.cel (h : OutR wr base v L Ps) {k : Nat} (hk : k < L.length) : ∃ g c, v = .slice (some ⟨g, 0, none⟩) L.length c ∧ base ≤ g ∧ g < wr.heap.size ∧ Cel wr g k (SV.v L[k]) := by
  obtain ⟨g, c, e, h1, h2, -⟩ := h.own.pos (by omega)
  have hO := h.own
  rw [e] at hO
  have hc := hO.cel (i := k) (j := 0) (u := SV.v L[k]) hk rfl
  rw [show k * sE.sz + 0 = k by show k * 1 + 0 = k; omega] at hc
  exact ⟨g, c, e, h1, h2, hc⟩
/-- A region is put in another's place. -/
theorem OutR.put {g n c : Nat} {x : SV} {P : List Pl} (h : OutR wr base (.slice (some ⟨g, 0, none⟩) n c) L Ps) {k : Nat} (hk : k < L.length) (hx : x.2.1 = P.length) (hO : OwnE plE wr base (SV.v x) P) (hq : (SV.v x).ownBlock ≠ some g) :
    OutR (wr.setCell ⟨g, k, none⟩ (SV.v x)) base (.slice (some ⟨g, 0, none⟩) n c) (L.set k x) (Ps.set k P) := by
  have hs := h.own.set (i := k) (j := 0) (u := SV.v x) (y := x) hk (by decide) rfl
  rw [show k * sE.sz + 0 = k by show k * 1 + 0 = k; omega] at hs
  refine ⟨hs, by rw [List.length_set, List.length_set]; exact h.len, fun i y Q hy hQ => ?_⟩
  by_cases hik : i = k
  · subst hik
    rw [List.getElem?_set_self hk] at hy
    rw [List.getElem?_set_self (by rw [← h.len]; exact hk)] at hQ
    injection hy with hy; subst hy
    injection hQ with hQ; subst hQ
    exact ⟨hx, hO.other hq _, fun q e1 e2 => hq (e1.trans e2.symm)⟩
  · rw [List.getElem?_set_ne (fun e => hik e.symm)] at hy hQ
    obtain ⟨a, b, c'⟩ := h.inn i y Q hy hQ
    exact ⟨a, b.other (fun e => c' g e rfl) _, c'⟩
/-- One region more: it came since wr. -/
theorem OutR.add {w1 w4 : World} {x : SV} {P : List Pl} {t : TypeId} (h : OutR wr base v L Ps) (hb : base ≤ wr.heap.size) (B1 : Below wr.heap.size wr w1) (hx : x.2.1 = P.length) (hO : OwnE plE w1 wr.heap.size (SV.v x) P)
    (hN : OwnE sE w4 base v' (L ++ [x])) (hG : (w1.alloc (.cells #[SV.v x] t)).grownBy w4 v.ownBlock) (hv : v'.ownBlock = v.ownBlock ∨ v'.ownBlock = some (w1.heap.size + 1)) :
    OutR w4 base v' (L ++ [x]) (Ps ++ [P]) := by
  have sz : (w1.alloc (.cells #[SV.v x] t)).heap.size = w1.heap.size + 1 := by simp
  have FA := blA (Below.refl w1.heap.size w1) (.cells #[SV.v x] t)
  have F : FrC (fun k _ => v.ownBlock = some k) (w1.alloc (.cells #[SV.v x] t)) w4 := FrC.of_frb (FrB.grown hG)
  have h2 := (h.below B1).below FA
  have hs := B1.size
  have key : ∀ (y : SV) (Q : List Pl), OwnE plE (w1.alloc (.cells #[SV.v x] t)) base (SV.v y) Q → (∀ q, (SV.v y).ownBlock = some q → q < w1.heap.size ∧ v.ownBlock ≠ some q) → OwnE plE w4 base (SV.v y) Q ∧ ∀ q, (SV.v y).ownBlock = some q → v'.ownBlock ≠ some q := fun y Q hy hn => by
    refine ⟨hy.block (fun q hq => F.block q (hy.lt q hq).2 (fun _ => (hn q hq).2)), fun q hq => ?_⟩
    rcases hv with e | e
    · rw [e]; exact (hn q hq).2
    · rw [e]
      intro c
      injection c with c
      have := (hn q hq).1; omega
  refine ⟨hN, by simp [h.len], fun i y Q hy hQ => ?_⟩
  by_cases hi : i < L.length
  · rw [List.getElem?_append_left hi] at hy
    rw [List.getElem?_append_left (by rw [← h.len]; exact hi)] at hQ
    obtain ⟨a, b, c⟩ := h2.inn i y Q hy hQ
    obtain ⟨-, b0, -⟩ := (h.below B1).inn i y Q hy hQ
    exact ⟨a, key y Q b (fun q hq => ⟨(b0.lt q hq).2, c q hq⟩)⟩
  · rw [List.getElem?_append_right (by omega)] at hy
    rw [List.getElem?_append_right (by rw [← h.len]; omega)] at hQ
    have hk0 : i - L.length = 0 := by
      have := (List.getElem?_eq_some_iff.1 hy).1
      simp at this; omega
    rw [hk0] at hy
    rw [← h.len, hk0] at hQ
    injection hy with hy; subst hy
    injection hQ with hQ; subst hQ
    refine ⟨hx, key _ _ ((hO.mono hb).below FA) (fun q hq => ⟨(hO.lt q hq).2, fun e => ?_⟩)⟩
    have := (h.own.lt q e).2
    have := (hO.lt q hq).1
    omega
end

set_option maxHeartbeats 8000000 in
theorem new_r {w : World} {A : Option Addr} {cc : Nat} {cs : List Int} (hr : RowAt (fun x : Int => [.int .i64 x]) 1 w A cs) (hm : cs.length ≤ 8) :
    Calls Tryd.prog 27 #[.slice A cs.length cc] w fun e w' => ∃ v L, e = .returned v ∧ OutR w' w.heap.size v L (cs.map (fun c => List.replicate (capR c) Pl.zero)) ∧ Below w.heap.size w w' := by
  have HR := Lib.hid hr
  obtain ⟨M, hM⟩ : ∃ M, M = cs.length := ⟨_, rfl⟩
  rw [← hM] at hm ⊢
  replace hM := Lib.hid hM
  have O0 := Lib.hid (show OutR (w.alloc (.cells #[] 60)) w.heap.size (.slice (some ⟨w.heap.size, 0, none⟩) 0 0) [] [] from ⟨OwnE.lit (E := sE) w w.heap.size (Nat.le_refl _) [] #[] rfl (Nat.zero_le _), rfl, fun i x P hx => by simp at hx⟩)
  have B0 := Lib.hid (blA (Below.refl w.heap.size w) (.cells #[] 60))
  obtain ⟨Zb, hZb⟩ : ∃ z, z = w.heap.size := ⟨_, rfl⟩
  rw [← hZb] at O0 B0
  have hw := Lib.hid (show Zb ≤ w.heap.size from by omega)
  clear hr
  go_enter Tryd.func27, Tryd.ntmps27
  go_wp2_with fail
  rw [← hZb]
  replace hZb := Lib.hid hZb
  go_loopw [3, 4, 5] (fun vv ii nn wr => ∃ (k : Nat) (v : Value) (L : List SV), ii = .int .i64 k ∧ vv = v ∧ Hid (OutR wr Zb v L ((cs.take k).map (fun c => List.replicate (capR c) Pl.zero))) ∧ Hid (k ≤ M) ∧ Hid (Below Zb w wr)) (fun _ ii _ _ => M - (intOf ii).toNat)
  case atStart => exact ⟨0, _, [], rfl, rfl, O0, Lib.hid (Nat.zero_le _), B0⟩
  case round =>
    clear O0 B0
    obtain ⟨k, v, L, rfl, rfl, S, hk, B⟩ := hrel
    obtain ⟨AV, cV, rfl, hcV⟩ := S.out.own.slice
    have hLl : L.length = min k cs.length := by have := S.out.len; simpa using this
    rw [hLl, show min k cs.length = k by have := hk.out; have := hM.out; omega] at S ⊢
    by_cases hlt : k < M
    · obtain ⟨bb, off, rfl, hbl, hc⟩ := HR.out k (by have := hM.out; omega)
      have z0 := hc 0 _ rfl
      obtain ⟨c, hcc⟩ : ∃ a, a = cs[k]'(by have := hM.out; omega) := ⟨_, rfl⟩
      rw [← hcc] at z0
      simp only [Nat.mul_one, Nat.add_zero] at z0
      replace z0 := (B.out.cell (p := ⟨bb, off + k, none⟩) (by have := hZb.out; show bb < Zb; omega)).trans z0
      have hlH := Lib.hid hlt
      have hk9 : k < 9 := by omega
      have htk : (cs.take (k + 1)).map (fun c => List.replicate (capR c) Pl.zero) = (cs.take k).map (fun c => List.replicate (capR c) Pl.zero) ++ [List.replicate (capR c) Pl.zero] := by
        rw [List.take_succ_eq_append_getElem (by have := hM.out; omega), List.map_append, ← hcc]; rfl
      replace htk := Lib.hid htk
      replace hLl := Lib.hid (show L.length = k by rw [hLl]; have := hk.out; have := hM.out; omega)
      have dk : decide ((k : Int) < (M : Int)) = true := decide_eq_true (by omega)
      have dk1 : decide ((k : Int) < 64) = true := decide_eq_true (by omega)
      have hbW := Lib.hid (show Zb ≤ wr.heap.size from Nat.le_trans hw.out B.out.size)
      clear hc hbl hcc hcV
      have way : ∃ K : Nat, K = capR c ∧ K ≤ 256 ∧ ((decide (c < 0) = true ∧ decide ((256 : Int) < 0) = false ∧ (K : Int) = 0) ∨ (decide (c < 0) = false ∧ decide (256 < c) = true ∧ (K : Int) = 256) ∨ (decide (c < 0) = false ∧ decide (256 < c) = false ∧ c = (K : Int))) := by
        refine ⟨_, rfl, capR_le c, ?_⟩
        by_cases h1 : c < 0
        · exact .inl ⟨decide_eq_true h1, rfl, by unfold capR; omega⟩
        by_cases h2 : 256 < c
        · exact .inr (.inl ⟨decide_eq_false h1, decide_eq_true h2, by unfold capR; omega⟩)
        · exact .inr (.inr ⟨decide_eq_false h1, decide_eq_false h2, by unfold capR; omega⟩)
      obtain ⟨K, hK, hK2, way⟩ := way
      rw [← hK] at htk
      obtain ⟨Z, s1, z1, k1⟩ := make_eq (t := 60) Tryd.underlying60 infoPl rfl rfl .i64 .i64 K (by omega) (by omega)
      have hZ := plZ s1 z1
      replace k1 : ∀ w : World, (Instr.makeSlice 60 (.int .i64 (K : Int)) (.int .i64 (K : Int))).run Tryd.prog w = .ok (.slice (some ⟨w.heap.size, 0, none⟩) K K) (w.alloc (.cells Z 82)) := k1
      have OK := OwnE.lit (E := plE) wr wr.heap.size (Nat.le_refl _) (List.replicate K Pl.zero) Z hZ (by rw [List.length_replicate]; exact Nat.le_trans hK2 (by decide))
      rw [List.length_replicate] at OK
      have FK := blA (Below.refl wr.heap.size wr) (.cells Z 82)
      have szK : (wr.alloc (.cells Z 82)).heap.size = wr.heap.size + 1 := by simp
      replace OK : OwnE plE (wr.alloc (.cells Z 82)) wr.heap.size (.slice (some ⟨wr.heap.size, 0, none⟩) K K) (List.replicate K Pl.zero) := OK
      replace OK := Lib.hid OK; replace FK := Lib.hid FK; replace hK := Lib.hid hK
      clear s1 z1 hZ
      have hkM := Lib.hid (show Zb ≤ ((wr.alloc (.cells Z 82)).alloc (.cells #[.slice (some ⟨wr.heap.size, 0, none⟩) K K] 60)).heap.size by have := hbW.out; simp; omega)
      rcases way with ⟨d1, d2, e⟩ | ⟨d1, d2, e⟩ | ⟨d1, d2, rfl⟩
      · rw [e] at k1
        clear e
        go_wp2_with (at_builtin; refine append_rowE (E := sE) (base := Zb) (v := .slice AV k cV) (xs := L) (ys := [((some ⟨wr.heap.size, 0, none⟩, K, K) : SV)]) rfl rfl Tryd.underlying58 rfl ((S.out.below FK.out).own.alloc _) rfl (rowAt_new1 _ _ _ _ (by simp) rfl) rfl (by rw [hLl.out]; omega) (by simp) hkM.out ?_; intro v4 w4 O4 G1 G2 G3)
        have S4 := Lib.hid (S.out.add (x := ((some ⟨wr.heap.size, 0, none⟩, K, K) : SV)) (P := List.replicate K Pl.zero) hbW.out FK.out (by simp) OK.out O4 G2 (by
          rcases G3 with e | e
          · exact .inl e
          · exact .inr (by rw [e]; simp)))
        rw [← htk.out] at S4
        have B4 := Lib.hid (((B.out.alloc hbW.out (.cells Z 82)).alloc (by have := hbW.out; simp; omega) (.cells #[.slice (some ⟨wr.heap.size, 0, none⟩) K K] 60)).trans G1)
        clear O4 G1 G2 G3 OK FK S
        go_roundw
        case rel => exact ⟨k + 1, _, _, by go_num, rfl, S4, hlH, B4⟩
        case measure => have := hlH.out; simp [intOf]; omega
      · rw [e] at k1
        clear e
        go_wp2_with (at_builtin; refine append_rowE (E := sE) (base := Zb) (v := .slice AV k cV) (xs := L) (ys := [((some ⟨wr.heap.size, 0, none⟩, K, K) : SV)]) rfl rfl Tryd.underlying58 rfl ((S.out.below FK.out).own.alloc _) rfl (rowAt_new1 _ _ _ _ (by simp) rfl) rfl (by rw [hLl.out]; omega) (by simp) hkM.out ?_; intro v4 w4 O4 G1 G2 G3)
        have S4 := Lib.hid (S.out.add (x := ((some ⟨wr.heap.size, 0, none⟩, K, K) : SV)) (P := List.replicate K Pl.zero) hbW.out FK.out (by simp) OK.out O4 G2 (by
          rcases G3 with e | e
          · exact .inl e
          · exact .inr (by rw [e]; simp)))
        rw [← htk.out] at S4
        have B4 := Lib.hid (((B.out.alloc hbW.out (.cells Z 82)).alloc (by have := hbW.out; simp; omega) (.cells #[.slice (some ⟨wr.heap.size, 0, none⟩) K K] 60)).trans G1)
        clear O4 G1 G2 G3 OK FK S
        go_roundw
        case rel => exact ⟨k + 1, _, _, by go_num, rfl, S4, hlH, B4⟩
        case measure => have := hlH.out; simp [intOf]; omega
      · go_wp2_with (at_builtin; refine append_rowE (E := sE) (base := Zb) (v := .slice AV k cV) (xs := L) (ys := [((some ⟨wr.heap.size, 0, none⟩, K, K) : SV)]) rfl rfl Tryd.underlying58 rfl ((S.out.below FK.out).own.alloc _) rfl (rowAt_new1 _ _ _ _ (by simp) rfl) rfl (by rw [hLl.out]; omega) (by simp) hkM.out ?_; intro v4 w4 O4 G1 G2 G3)
        have S4 := Lib.hid (S.out.add (x := ((some ⟨wr.heap.size, 0, none⟩, K, K) : SV)) (P := List.replicate K Pl.zero) hbW.out FK.out (by simp) OK.out O4 G2 (by
          rcases G3 with e | e
          · exact .inl e
          · exact .inr (by rw [e]; simp)))
        rw [← htk.out] at S4
        have B4 := Lib.hid (((B.out.alloc hbW.out (.cells Z 82)).alloc (by have := hbW.out; simp; omega) (.cells #[.slice (some ⟨wr.heap.size, 0, none⟩) K K] 60)).trans G1)
        clear O4 G1 G2 G3 OK FK S
        go_roundw
        case rel => exact ⟨k + 1, _, _, by go_num, rfl, S4, hlH, B4⟩
        case measure => have := hlH.out; simp [intOf]; omega
    · obtain rfl : M = k := by have := hk.out; omega
      have htk := hM.out
      rw [List.take_of_length_le (by omega)] at S
      clear hlt hk htk
      have S1 := Lib.hid (show OutR wr w.heap.size (.slice AV M cV) L (cs.map (fun c => List.replicate (capR c) Pl.zero)) ∧ Below w.heap.size w wr by rw [← hZb.out]; exact ⟨S.out, B.out⟩)
      clear S B
      go_wp2
      go_ret
      exact ⟨_, L, rfl, S1.out.1, S1.out.2⟩
end Go.Proofs.YtlkhpkdndmlnaaaDoor
