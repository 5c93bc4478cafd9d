/- Queues: taking out, the first one, new ones, all things. -/
import Derived.Test.YtblapbnplflghaaQuP
import Derived.Test.YtblapbnplflghaaOwnE
import Derived.Test.YtblapbnplflghaaBits
namespace Go.Proofs.Ytblapbnplflghaa
open Go.RowKit
set_option linter.unusedVariables false
set_option linter.unusedSimpArgs false
set_option linter.unusedSectionVars false
set_option maxRecDepth 100000

theorem map_erase_node {t d : Nat} {x : Th} (hx : okB t d x = true) : ∀ {T : List Th}, (∀ y ∈ T, okB t d y = true) → (T.map (nodeN t)).erase (nodeN t x) = (T.erase x).map (nodeN t)
  | [], _ => rfl
  | y :: T, h => by
    by_cases e : y = x
    · subst e; simp
    · have hn : nodeN t y ≠ nodeN t x := fun e2 => e (node_inj (h y (by simp)) hx e2)
      rw [List.map_cons, List.erase_cons_tail (by simpa using hn), List.erase_cons_tail (by simpa using e), List.map_cons, map_erase_node hx (fun z hz => h z (by simp [hz]))]
theorem pull_row {t d : Nat} {T : List Th} {x : Th} {R : Nat → List Nat} (hR : R 0 = T.map (nodeN t)) (ho : ∀ y ∈ T, okB t d y = true) (h : okB t d x = true) : (pullR 1 R (nodeN t x : Int)) 0 = (T.erase x).map (nodeN t) := by
  unfold pullR
  rw [onB_node hR ho h]
  by_cases hx : x ∈ T
  · rw [decide_eq_true hx]; simp only [if_true, Int.toNat_natCast, hR]; exact map_erase_node h ho
  · rw [decide_eq_false hx, List.erase_of_not_mem hx]; simp [hR]
theorem heldT_erase {T : List Th} {x : Th} (hx : x ∈ T) : heldT (T.erase x) + (if x.1 = 2 then 1 else 0) = heldT T := by
  have := (List.perm_cons_erase hx).countP_eq (fun x => decide (x.1 = 2))
  unfold heldT
  rw [this, List.countP_cons]
  simp

set_option maxHeartbeats 8000000 in
theorem dropQ_c {w : World} {q p L M t d mo : Nat} {T : List Th} (h : QS w q p L M t d mo T) (x : Th) :
    Calls Try.prog 30 #[.pointer (some ⟨q, 0, none⟩), thV x] w fun e w' => e = .returned (.bool (decide (x ∈ T))) ∧ QS w' q p L M t d mo (T.erase x) ∧ Fr (quS q L M) w w' := by
  have hB := Below.alloc (Below.refl w.heap.size w) (Nat.le_refl _) (.cells #[.int .i64 x.1, .int .i64 x.2] 45)
  have H1 := Lib.hid (h.below hB)
  have hlt := Lib.hid h.lt
  obtain ⟨Z, hZ⟩ : ∃ Z, Z = w.heap.size := ⟨_, rfl⟩
  have z0 := Lib.hid (show Cel (w.alloc (.cells #[.int .i64 x.1, .int .i64 x.2] 45)) Z 0 (.int .i64 x.1) from hZ ▸ Cel.new w #[.int .i64 x.1, .int .i64 x.2] 45 0 _ rfl)
  replace hB := Lib.hid hB
  have hZ2 := Lib.hid hZ
  clear h
  go_enter Try.func30, Try.ntmps30
  go_wp2_with fail
  rw [← hZ]
  clear hZ
  generalize w.alloc (.cells #[.int .i64 x.1, .int .i64 x.2] 45) = W at *
  refine (node_c H1.out x).mono ?_
  rintro e w1 ⟨rfl, B⟩
  have H2 := Lib.hid (H1.out.below B)
  have B2 := Lib.hid (hB.out.trans (B.mono hB.out.size))
  have z2 := Lib.hid (z0.out.frb (FrB.of_below (S := fun _ => False) B (Nat.le_refl _)) (fun h => h))
  clear H1 B hB z0
  cases hx : okB t d x with
  | false =>
    have hn := Lib.hid (show decide (x ∈ T) = false from decide_eq_false (not_ok H2.out.ok hx))
    have hT := Lib.hid (show T.erase x = T from List.erase_of_not_mem (not_ok H2.out.ok hx))
    have hv := Lib.hid (show nodeV t d x = 0 by unfold nodeV; rw [hx]; rfl)
    clear hx
    go_wp2
    go_ret
    exact ⟨by rw [hn.out]; rfl, by rw [hT.out]; exact H2.out, Fr.of_below B2.out (Nat.le_refl _)⟩
  | true =>
    have hv : nodeV t d x = nodeN t x := by unfold nodeV; rw [hx]; rfl
    rw [hv]
    obtain ⟨R, h1, hR⟩ := H2.out.ch
    have hon := Lib.hid (onB_node hR H2.out.ok hx)
    have hrow := Lib.hid (pull_row hR H2.out.ok hx)
    have hlen := H2.out.len
    have hheld : heldT T ≤ 4096 := Nat.le_trans List.countP_le_length hlen
    have c0 := H2.out.c0.1
    have hx2 := Lib.hid hx
    have hqZ : Hid (Z ≠ q ∧ Z ≠ L ∧ Z ≠ M) := Lib.hid (by have := hlt.out; have := hZ2.out; omega)
    replace h1 := Lib.hid h1
    replace hheld := Lib.hid hheld
    clear hx hv hR hlen
    go_wp2_with fail
    refine (pull_i h1.out _).mono ?_
    rintro e w2 ⟨rfl, K, F⟩
    rw [hon.out]
    have hz : ∀ o, ¬ chS L M Z o := fun o hs => hs.elim (fun e => hqZ.out.2.1 e) (fun e => hqZ.out.2.2 e)
    have hq : ∀ o, ¬ chS L M q o := fun o hs => hs.elim (fun e => H2.out.qp.2.1 e) (fun e => H2.out.qp.2.2 e)
    have z3 := (z2.out.fr F (hz _)).1
    have ok2 := Lib.hid (show ∀ y ∈ T.erase x, okB t d y = true from fun y hy => H2.out.ok y (List.mem_of_mem_erase hy))
    have nd2 := Lib.hid (show (T.erase x).Nodup from H2.out.nd.erase x)
    have c4 := (H2.out.c4.fr F (hq _)).1
    have c4f := (H2.out.c4.fr F (hq _)).2
    replace F := Lib.hid F
    replace K := Lib.hid K
    clear c0 hz hq
    by_cases hxT : x ∈ T
    · have e0 : decide (x ∈ T) = true := decide_eq_true hxT
      rw [e0]
      have he0 := Lib.hid e0
      have hh := heldT_erase hxT
      by_cases hk : x.1 = 2
      · rw [if_pos hk] at hh
        have hQ := Lib.hid (H2.out.turn2 F.out K.out hrow.out ok2.out nd2.out)
        obtain ⟨n, hn⟩ : ∃ n, n = heldT T := ⟨_, rfl⟩
        obtain ⟨n', hn'⟩ : ∃ n', n' = heldT (T.erase x) := ⟨_, rfl⟩
        rw [← hn] at c4 hh hheld
        rw [← hn'] at hh hQ
        rw [hk] at z3
        have hw : wrap64 (n' : Int) = (n' : Int) := by have := hheld.out; unfold wrap64; omega
        replace hh := Lib.hid hh; replace hn := Lib.hid hn; replace hn' := Lib.hid hn'
        have e1 : (n : Int) - 1 = (n' : Int) := by have := hh.out; omega
        clear e0 hxT hk
        go_wp2
        go_ret
        exact ⟨by rw [he0.out]; rfl, hQ.out, (FrQ.call B2.out F.out).then_ ((Fr.refl (fun b o => b = q ∧ o = 4) _).setCell (fun _ => ⟨rfl, rfl⟩) _) (fun i o _ e => .inl e.1)⟩
      · rw [if_neg hk] at hh
        have hQ := Lib.hid (H2.out.turn F.out K.out hrow.out (by omega) ok2.out nd2.out)
        have hkb : (x.1 == 2) = false := beq_eq_false_iff_ne.mpr hk
        clear e0 hxT hk hh c4 c4f
        go_wp2
        go_ret
        exact ⟨by rw [he0.out]; rfl, hQ.out, FrQ.call B2.out F.out⟩
    · have e0 : decide (x ∈ T) = false := decide_eq_false hxT
      rw [e0]
      have he0 := Lib.hid e0
      have hT : T.erase x = T := List.erase_of_not_mem hxT
      have hQ := Lib.hid (H2.out.turn F.out K.out hrow.out (by rw [hT]) ok2.out nd2.out)
      clear e0 hxT hT c4 c4f
      go_wp2
      go_ret
      exact ⟨by rw [he0.out]; rfl, hQ.out, FrQ.call B2.out F.out⟩

theorem hd_nodes (t : Nat) (x : Th) (T : List Th) : hdOr 0 ((x :: T).map (nodeN t)) = (nodeN t x : Int) := rfl
set_option maxHeartbeats 8000000 in
theorem popQ_c {w : World} {q p L M t d mo : Nat} {T : List Th} (h : QS w q p L M t d mo T) :
    Calls Try.prog 17 #[.pointer (some ⟨q, 0, none⟩)] w fun e w' => e = .returned (.tuple #[thV (T.headD (0, 0)), .bool (decide (T ≠ []))]) ∧ QS w' q p L M t d mo T.tail ∧ Fr (quS q L M) w w' := by
  have hB := Below.alloc (Below.refl w.heap.size w) (Nat.le_refl _) (.cells #[.int .i64 0, .int .i64 0] 45)
  have H1 := Lib.hid (h.below hB)
  have hlt := Lib.hid h.lt
  obtain ⟨R, h1, hR⟩ := (h.below hB).ch
  have c0 := H1.out.c0.1
  have hrow : rowI R 0 = T.map (nodeN t) := by unfold rowI; rw [if_pos (by decide)]; exact hR
  obtain ⟨Z, hZ⟩ : ∃ Z, Z = w.heap.size := ⟨_, rfl⟩
  have y0 := Lib.hid (show Cel (w.alloc (.cells #[.int .i64 0, .int .i64 0] 45)) Z 0 (.int .i64 0) from hZ ▸ Cel.new w #[.int .i64 0, .int .i64 0] 45 0 _ rfl)
  have y1 := Lib.hid (show Cel (w.alloc (.cells #[.int .i64 0, .int .i64 0] 45)) Z 1 (.int .i64 0) from hZ ▸ Cel.new w #[.int .i64 0, .int .i64 0] 45 1 _ rfl)
  replace hB := Lib.hid hB
  have hZ2 := Lib.hid hZ
  replace h1 := Lib.hid h1; replace hrow := Lib.hid hrow
  clear h hR
  go_enter Try.func17, Try.ntmps17
  go_wp2_with fail
  rw [← hZ]
  clear hZ
  generalize w.alloc (.cells #[.int .i64 0, .int .i64 0] 45) = W at *
  refine (first_i h1.out 0).mono ?_
  rintro e w1 ⟨rfl, rfl⟩
  rw [hrow.out]
  cases T with
  | nil =>
    rw [show decide (([] : List Th).map (nodeN t) ≠ []) = false from rfl, show hdOr 0 (([] : List Th).map (nodeN t)) = 0 from rfl]
    have yc0 := y0.out.1; have yc1 := y1.out.1
    have yf0 := y0.out.2; have yf1 := y1.out.2
    go_wp2
    have z0 := ((y0.out.same (.int .i64 0)).other (b' := Z) (o' := 1) (.inr (by decide)) (.int .i64 0)).1
    have z1 := ((y1.out.other (b' := Z) (o' := 0) (.inr (by decide)) (.int .i64 0)).same (.int .i64 0)).1
    have FZ : Fr (cellsAt Z 0 2) W ((W.setCell ⟨Z, 0, none⟩ (.int .i64 0)).setCell ⟨Z, 1, none⟩ (.int .i64 0)) := ((Fr.refl _ W).setCell (fun _ => cellsAt_mk (by omega) (by omega)) _).setCell (fun _ => cellsAt_mk (by omega) (by omega)) _
    have hzz : ∀ b, b ≠ Z → ∀ o, ¬ cellsAt Z 0 2 b o := fun b hb o hs => hb hs.1
    refine bodyPost_ret (v := .tuple #[thV (0, 0), .bool false]) (by simp [results, Try.results17, go_sem, z0, z1, thV]) rfl ⟨rfl, H1.out.fr FZ (hzz _ (by have := hlt.out; have := hZ2.out; omega)) (hzz _ (by have := hlt.out; have := hZ2.out; omega)) (hzz _ (by have := hlt.out; have := hZ2.out; omega)) (hzz _ (by have := hlt.out; have := hZ2.out; omega)), ?_⟩
    exact (Fr.of_below (S := quS q L M) hB.out (Nat.le_refl _)).then_ FZ (fun i o hi hs => absurd hs.1 (by have := hZ2.out; omega))
  | cons x T =>
    rw [show decide ((x :: T).map (nodeN t) ≠ []) = true from rfl, hd_nodes]
    have hxo : okB t d x = true := H1.out.ok x (by simp)
    have hth := Lib.hid (thOf_node hxo)
    have hnl := Lib.hid (node_lt hxo)
    go_wp2_with fail
    refine (thing_c H1.out (nodeN t x) hnl.out).mono ?_
    rintro e w1 ⟨rfl, B⟩
    rw [hth.out]
    have H2 := H1.out.below B
    have y0' := Lib.hid (y0.out.frb (FrB.of_below (S := fun _ => False) B (Nat.le_refl _)) (fun h => h))
    have y1' := Lib.hid (y1.out.frb (FrB.of_below (S := fun _ => False) B (Nat.le_refl _)) (fun h => h))
    have B2 := hB.out.trans (B.mono hB.out.size)
    have B3 := Below.alloc (Below.refl w1.heap.size w1) (Nat.le_refl _) (.cells #[.int .i64 x.1, .int .i64 x.2] 45)
    have H3 := Lib.hid (H2.below B3)
    have B4 := Lib.hid (B2.trans (B3.mono B2.size))
    obtain ⟨Y, hY⟩ : ∃ Y, Y = w1.heap.size := ⟨_, rfl⟩
    have t0 := (show Cel (w1.alloc (.cells #[.int .i64 x.1, .int .i64 x.2] 45)) Y 0 (.int .i64 x.1) from hY ▸ Cel.new w1 #[.int .i64 x.1, .int .i64 x.2] 45 0 _ rfl)
    have t1 := (show Cel (w1.alloc (.cells #[.int .i64 x.1, .int .i64 x.2] 45)) Y 1 (.int .i64 x.2) from hY ▸ Cel.new w1 #[.int .i64 x.1, .int .i64 x.2] 45 1 _ rfl)
    have y0'' := Lib.hid (y0'.out.alloc (.cells #[.int .i64 x.1, .int .i64 x.2] 45))
    have y1'' := Lib.hid (y1'.out.alloc (.cells #[.int .i64 x.1, .int .i64 x.2] 45))
    have hZ1 := Lib.hid (show Z < Y from hY ▸ y0'.out.lt)
    have hltY := Lib.hid (show q < Y ∧ p < Y ∧ L < Y ∧ M < Y from hY ▸ H2.lt)
    have u0 := t0.1; have u1 := t1.1
    replace t0 := Lib.hid t0; replace t1 := Lib.hid t1
    have hY2 := Lib.hid hY
    clear B B2 B3 H2 y0' y1' H1 c0
    go_wp2_with fail
    rw [← hY]
    clear hY
    generalize w1.alloc (.cells #[.int .i64 x.1, .int .i64 x.2] 45) = w2 at *
    refine (dropQ_c H3.out x).mono ?_
    rintro e w3 ⟨rfl, Q, F⟩
    rw [List.erase_cons_head] at Q
    have hltq : q ≠ Z ∧ L ≠ Z ∧ M ≠ Z ∧ p ≠ Z ∧ q ≠ Y ∧ L ≠ Y ∧ M ≠ Y := by have := hlt.out; have := hZ2.out; have := hltY.out; omega
    have qz : ∀ o, ¬ quS q L M Z o := fun o hs => by rcases hs with h | h | h <;> omega
    have qy : ∀ o, ¬ quS q L M Y o := fun o hs => by rcases hs with h | h | h <;> omega
    have v0 := (t0.out.fr F (qy _)).1; have v1 := (t1.out.fr F (qy _)).1
    have a0 := y0''.out.fr F (qz _); have a1 := y1''.out.fr F (qz _)
    have yc0 := a0.1; have yc1 := a1.1; have yf0 := a0.2; have yf1 := a1.2
    have A0 := Lib.hid a0; have A1 := Lib.hid a1
    replace Q := Lib.hid Q; replace F := Lib.hid F; replace hltq := Lib.hid hltq
    clear u0 u1 qz qy a0 a1
    go_wp2
    have z0 := ((A0.out.same (.int .i64 x.1)).other (b' := Z) (o' := 1) (.inr (by decide)) (.int .i64 x.2)).1
    have z1 := ((A1.out.other (b' := Z) (o' := 0) (.inr (by decide)) (.int .i64 x.1)).same (.int .i64 x.2)).1
    have FZ : Fr (cellsAt Z 0 2) w3 ((w3.setCell ⟨Z, 0, none⟩ (.int .i64 x.1)).setCell ⟨Z, 1, none⟩ (.int .i64 x.2)) := ((Fr.refl _ w3).setCell (fun _ => cellsAt_mk (by omega) (by omega)) _).setCell (fun _ => cellsAt_mk (by omega) (by omega)) _
    have hzz : ∀ b, b ≠ Z → ∀ o, ¬ cellsAt Z 0 2 b o := fun b hb o hs => hb hs.1
    refine bodyPost_ret (v := .tuple #[thV x, .bool true]) (by simp [results, Try.results17, go_sem, z0, z1, thV]) rfl ⟨rfl, Q.out.fr FZ (hzz _ hltq.out.1) (hzz _ hltq.out.2.2.2.1) (hzz _ hltq.out.2.1) (hzz _ hltq.out.2.2.1), ?_⟩
    have F1 : Fr (quS q L M) w w3 := (Fr.of_below B4.out (Nat.le_refl _)).then_ F.out (fun i o _ hs => hs)
    exact F1.then_ FZ (fun i o hi hs => absurd hs.1 (by have := hZ2.out; omega))

def thE : Enc Th where
  t := 45
  sz := 2
  f := fun x => [.int .i64 x.1, .int .i64 x.2]
  z := .agg #[.int .i64 0, .int .i64 0]
  bytes := 16
  len := fun x => rfl
  one := fun x v h => by simp at h; rcases h with rfl | rfl <;> rfl
  info := by kernel_rfl
  zs := rfl
  pos := by decide
  small := by decide
theorem OwnE.atT {w : World} {base g n c i : Nat} {L : List Th} (h : OwnE thE w base (.slice (some ⟨g, 0, none⟩) n c) L) (hi : i < L.length) : Cel w g (i * 2) (.int .i64 L[i].1) ∧ Cel w g (i * 2 + 1) (.int .i64 L[i].2) :=
  ⟨OwnE.cel (E := thE) (j := 0) h hi rfl, OwnE.cel (E := thE) (j := 1) h hi rfl⟩
end Go.Proofs.Ytblapbnplflghaa
