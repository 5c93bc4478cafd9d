/- Queues: putting in, taking out. -/
import Derived.Test.YtblapbnplflghaaQuT
import Derived.StillTailTactics
import Derived.Deep.RegionWith
namespace Go.Proofs.Ytblapbnplflghaa
open Go.RowKit
set_option linter.unusedVariables false
set_option linter.unusedSimpArgs false
set_option linter.unusedSectionVars false
set_option maxRecDepth 100000

def pushB (t d mo : Nat) (T : List Th) (x : Th) : Bool := okB t d x && !(decide (x.1 = 2) && decide (mo ≤ heldT T)) && !decide (x ∈ T)
def pushT (t d mo : Nat) (T : List Th) (x : Th) : List Th := if pushB t d mo T x then T ++ [x] else T
theorem ChI.drewN {w : World} {p L M n m : Nat} {R : Nat → List Nat} (h : ChI w p L M n m R) (k : Nat) : ChI (w.drewN k) p L M n m R :=
  h.fr ((Fr.refl (fun _ _ => False) w).drewN k) (fun _ h => h) (fun _ h => h) (fun _ h => h)
theorem canPush_node {t d : Nat} {T : List Th} {x : Th} {R : Nat → List Nat} (hR : R 0 = T.map (nodeN t)) (ho : ∀ y ∈ T, okB t d y = true) (h : okB t d x = true) : canPush (t + d) 1 R 0 (nodeN t x : Int) = !decide (x ∈ T) := by
  have hl := node_lt h
  have e := onB_node hR ho h
  unfold onB at e
  simp only [Int.natCast_nonneg, decide_true, Bool.true_and] at e
  unfold canPush
  rw [e]
  simp [hl]
  intro _; exact_mod_cast hl
theorem push_row {t d : Nat} {T : List Th} {x : Th} {R : Nat → List Nat} (hR : R 0 = T.map (nodeN t)) (ho : ∀ y ∈ T, okB t d y = true) (h : okB t d x = true) (hx : x ∉ T) : (pushR (t + d) 1 R 0 (nodeN t x : Int)) 0 = (T ++ [x]).map (nodeN t) := by
  unfold pushR
  rw [canPush_node hR ho h, decide_eq_false hx]
  simp [updR, hR]
theorem push_same {t d : Nat} {T : List Th} {x : Th} {R : Nat → List Nat} (hR : R 0 = T.map (nodeN t)) (ho : ∀ y ∈ T, okB t d y = true) (h : okB t d x = true) (hx : x ∈ T) : (pushR (t + d) 1 R 0 (nodeN t x : Int)) 0 = T.map (nodeN t) := by
  unfold pushR
  rw [canPush_node hR ho h, decide_eq_true hx]
  simp [hR]
theorem heldT_snoc (T : List Th) (x : Th) : heldT (T ++ [x]) = heldT T + if x.1 = 2 then 1 else 0 := by
  unfold heldT; rw [List.countP_append, List.countP_singleton]; simp
/-- A queue whose chain has turned. -/
theorem QS.turn {w w' : World} {q p L M t d mo : Nat} {T T' : List Th} {R : Nat → List Nat} (h : QS w q p L M t d mo T) (F : Fr (chS L M) w w') (K : ChI w' p L M (t + d) 1 R) (hR : R 0 = T'.map (nodeN t)) (hh : heldT T' = heldT T) (ok : ∀ x ∈ T', okB t d x = true) (nd : T'.Nodup) : QS w' q p L M t d mo T' := by
  have hq : ∀ o, ¬ chS L M q o := fun o hs => hs.elim (fun e => h.qp.2.1 e) (fun e => h.qp.2.2 e)
  exact ⟨h.c0.fr F (hq _), h.c1.fr F (hq _), h.c2.fr F (hq _), h.c3.fr F (hq _), by rw [hh]; exact h.c4.fr F (hq _), ⟨R, K, hR⟩, h.qp, ok, nd, h.bd⟩
theorem QS.turn2 {w w' : World} {q p L M t d mo : Nat} {T T' : List Th} {R : Nat → List Nat} (h : QS w q p L M t d mo T) (F : Fr (chS L M) w w') (K : ChI w' p L M (t + d) 1 R) (hR : R 0 = T'.map (nodeN t)) (ok : ∀ x ∈ T', okB t d x = true) (nd : T'.Nodup) : QS (w'.setCell ⟨q, 4, none⟩ (.int .i64 (heldT T'))) q p L M t d mo T' := by
  have hq : ∀ o, ¬ chS L M q o := fun o hs => hs.elim (fun e => h.qp.2.1 e) (fun e => h.qp.2.2 e)
  have F2 : Fr (fun b o => b = q ∧ o = 4) w' (w'.setCell ⟨q, 4, none⟩ (.int .i64 (heldT T'))) := (Fr.refl _ w').setCell (fun _ => ⟨rfl, rfl⟩) _
  exact ⟨(h.c0.fr F (hq _)).fr F2 (fun e => by cases e.2), (h.c1.fr F (hq _)).fr F2 (fun e => by cases e.2), (h.c2.fr F (hq _)).fr F2 (fun e => by cases e.2), (h.c3.fr F (hq _)).fr F2 (fun e => by cases e.2), (h.c4.fr F (hq _)).same _,
    ⟨R, K.fr F2 (fun o e => h.qp.1 e.1.symm) (fun o e => h.qp.2.1 e.1.symm) (fun o e => h.qp.2.2 e.1.symm), hR⟩, h.qp, ok, nd, h.bd⟩
theorem FrQ.call {w W w' : World} {q L M : Nat} (hB : Below w.heap.size w W) (F : Fr (chS L M) W w') : Fr (quS q L M) w w' :=
  (Fr.of_below hB (Nat.le_refl _)).then_ F (fun i o _ hs => hs.elim (fun e => .inr (.inl e)) (fun e => .inr (.inr e)))

set_option maxHeartbeats 8000000 in
theorem pushQ_c {w : World} {q p L M t d mo : Nat} {T : List Th} (h : QS w q p L M t d mo T) (x : Th) :
    Calls Try.prog 41 #[.pointer (some ⟨q, 0, none⟩), thV x] w fun e w' => e = .returned (.bool (pushB t d mo T x)) ∧ QS w' q p L M t d mo (pushT t d mo T x) ∧ Fr (quS q L M) w w' := by
  have hB := Below.alloc (Below.refl w.heap.size w) (Nat.le_refl _) (.cells #[.int .i64 x.1, .int .i64 x.2] 45)
  have H1 := Lib.hid (h.below hB)
  have hlt := Lib.hid h.lt
  obtain ⟨Z, hZ⟩ : ∃ Z, Z = w.heap.size := ⟨_, rfl⟩
  have z0 := Lib.hid (show Cel (w.alloc (.cells #[.int .i64 x.1, .int .i64 x.2] 45)) Z 0 (.int .i64 x.1) from hZ ▸ Cel.new w #[.int .i64 x.1, .int .i64 x.2] 45 0 _ rfl)
  replace hB := Lib.hid hB
  have hZ2 := Lib.hid hZ
  clear h
  go_enter Try.func41, Try.ntmps41
  go_wp2_with fail
  rw [← hZ]
  clear hZ
  generalize w.alloc (.cells #[.int .i64 x.1, .int .i64 x.2] 45) = W at *
  refine (node_c H1.out x).mono ?_
  rintro e w1 ⟨rfl, B⟩
  have H2 := Lib.hid (H1.out.below B)
  have B2 := Lib.hid (hB.out.trans (B.mono hB.out.size))
  have z2 := z0.out.frb (FrB.of_below (S := fun _ => False) B (Nat.le_refl _)) (fun h => h)
  have zz0 := z2.1
  replace z2 := Lib.hid z2
  clear H1 B hB z0
  cases hx : okB t d x with
  | false =>
    have hp : pushB t d mo T x = false := by unfold pushB; rw [hx]; rfl
    have hT := Lib.hid (show pushT t d mo T x = T by unfold pushT; rw [hp]; rfl)
    replace hp := Lib.hid hp
    have hv := Lib.hid (show nodeV t d x = 0 by unfold nodeV; rw [hx]; rfl)
    clear hx
    go_wp2
    go_quiet (fail)
    go_wp2
    go_ret
    exact ⟨by rw [hp.out]; rfl, by rw [hT.out]; exact H2.out.drewN _, (Fr.of_below B2.out (Nat.le_refl _)).drewN _⟩
  | true =>
    have hv : nodeV t d x = nodeN t x := by unfold nodeV; rw [hx]; rfl
    rw [hv]
    obtain ⟨R, h1, hR⟩ := H2.out.ch
    have hcp := Lib.hid (canPush_node hR H2.out.ok hx)
    have hrow := Lib.hid (push_row hR H2.out.ok hx)
    have hsame := Lib.hid (push_same hR H2.out.ok hx)
    have hlen := H2.out.len
    have hheld : heldT T ≤ 4096 := Nat.le_trans List.countP_le_length hlen
    replace h1 := Lib.hid h1; replace hR := Lib.hid hR
    have c0 := H2.out.c0.1; have c3 := H2.out.c3.1; have c4 := H2.out.c4.1
    have hqZ : Hid (Z ≠ q ∧ Z ≠ L ∧ Z ≠ M) := Lib.hid (by have := hlt.out; have := hZ2.out; omega)
    have hx2 := Lib.hid hx
    obtain ⟨hn, hhn⟩ : ∃ hn, hn = heldT T := ⟨_, rfl⟩
    rw [← hhn] at c4 hheld
    obtain ⟨kd, hkd⟩ : ∃ kd, kd = x.1 := ⟨_, rfl⟩
    rw [← hkd] at zz0
    replace hhn := Lib.hid hhn
    clear hx hv hlen
    by_cases hk : kd = 2
    · subst hk
      by_cases hm : mo ≤ hn
      · have d1 : decide ((mo : Int) ≤ (hn : Int)) = true := by simp; omega
        have d1' : decide (mo ≤ hn) = true := by simp; omega
        have hp : pushB t d mo T x = false := by unfold pushB; rw [← hkd, ← hhn.out, decide_eq_true hm]; simp
        have hT := Lib.hid (show pushT t d mo T x = T by unfold pushT; rw [hp]; rfl)
        replace hp := Lib.hid hp
        replace hkd := Lib.hid hkd
        go_wp2_with fail
        go_quiet (fail)
        go_wp2
        go_ret
        exact ⟨by rw [hp.out]; rfl, by rw [hT.out]; exact H2.out.drewN _, (Fr.of_below B2.out (Nat.le_refl _)).drewN _⟩
      · have d1 : decide ((mo : Int) ≤ (hn : Int)) = false := by simp; omega
        have hp : pushB t d mo T x = !decide (x ∈ T) := by unfold pushB; rw [hx2.out, ← hhn.out, decide_eq_false hm]; simp
        have hk2 := Lib.hid hkd.symm
        replace hp := Lib.hid hp
        clear hkd
        have key : Hid (∀ X, Fr (chS L M) w1 X → X.cell? ⟨Z, 0, none⟩ = some (.int .i64 2) ∧ X.cell? ⟨q, 0, none⟩ = some (.pointer (some ⟨p, 0, none⟩)) ∧ X.cell? ⟨q, 3, none⟩ = some (.int .i64 mo) ∧ X.cell? ⟨q, 4, none⟩ = some (.int .i64 hn)) := Lib.hid fun X hX => by
          have hq : ∀ o, ¬ chS L M q o := fun o hs => hs.elim (fun e => H2.out.qp.2.1 e) (fun e => H2.out.qp.2.2 e)
          have hz : ∀ o, ¬ chS L M Z o := fun o hs => hs.elim (fun e => hqZ.out.2.1 e) (fun e => hqZ.out.2.2 e)
          refine ⟨?_, (H2.out.c0.fr hX (hq _)).1, (H2.out.c3.fr hX (hq _)).1, ?_⟩
          · rw [← hk2.out]; exact (z2.out.fr hX (hz _)).1
          · rw [hhn.out]; exact (H2.out.c4.fr hX (hq _)).1
        have d1' : decide (mo ≤ hn) = false := by simp; omega
        have hm2 : ¬ mo ≤ hn := by omega
        go_wp2_with fail
        refine wp_region_still_tail 24 (by kernel_rfl) (by kernel_rfl) ?_
        simp only [World.drew_eq, List.take_succ_cons, List.take_zero, List.drop_succ_cons, List.drop_zero]
        repeat still_step
        refine wpStill_nil ?_
        change wpList _ _ _ _ _ _
        have h1d := Lib.hid (show ChI w1.drew p L M (t + d) 1 R from h1.out.drewN 1)
        have F0 := Lib.hid (show Fr (chS L M) w1 w1.drew from (Fr.refl (chS L M) w1).drew)
        clear h1 hm2
        generalize w1.drew = wd at *
        obtain ⟨zz0, c0, c3, c4⟩ := key.out _ F0.out
        go_wp2_with fail
        refine (push_i h1d.out 0 _).mono ?_
        rintro e w3 ⟨rfl, K, F⟩
        have HX2 := Lib.hid (F0.out.trans F)
        replace K := Lib.hid K
        rw [hcp.out]
        clear F
        all_goals
          by_cases hxT : x ∈ T
          · have e0 : decide (x ∈ T) = true := decide_eq_true hxT
            rw [e0] at hp
            have hT := Lib.hid (show pushT t d mo T x = T by unfold pushT; rw [hp.out]; rfl)
            rw [e0]
            have hQ := Lib.hid (H2.out.turn HX2.out K.out (hsame.out hxT) rfl H2.out.ok H2.out.nd)
            clear e0 hxT
            go_wp2
            go_ret
            exact ⟨by rw [hp.out]; rfl, by rw [hT.out]; exact hQ.out, FrQ.call B2.out HX2.out⟩
          · have e0 : decide (x ∈ T) = false := decide_eq_false hxT
            rw [e0] at hp
            have hT := Lib.hid (show pushT t d mo T x = T ++ [x] by unfold pushT; rw [hp.out]; rfl)
            rw [e0]
            have hQ := H2.out.turn2 HX2.out K.out (hrow.out hxT) (fun y hy => (List.mem_append.1 hy).elim (fun h => H2.out.ok y h) (fun h => by simp at h; subst h; exact hx2.out)) (List.nodup_append.2 ⟨H2.out.nd, by simp, fun a ha b hb => by simp at hb; subst hb; intro e; subst e; exact hxT ha⟩)
            rw [heldT_snoc, hk2.out, ← hhn.out] at hQ
            replace hQ := Lib.hid hQ
            obtain ⟨k0, k1, k2, k3⟩ := key.out _ HX2.out
            have k3f := (H2.out.c4.fr HX2.out (fun hs => hs.elim (fun e => H2.out.qp.2.1 e) (fun e => H2.out.qp.2.2 e))).2
            have hw : wrap64 ((hn : Int) + 1) = (hn : Int) + 1 := by unfold wrap64; omega
            clear e0 hxT c0 c3 c4 zz0
            go_wp2
            go_ret
            exact ⟨by rw [hp.out]; rfl, by rw [hT.out]; exact hQ.out, (FrQ.call B2.out HX2.out).then_ ((Fr.refl (fun b o => b = q ∧ o = 4) _).setCell (fun _ => ⟨rfl, rfl⟩) _) (fun i o _ e => .inl e.1)⟩
    · have hp : pushB t d mo T x = !decide (x ∈ T) := by unfold pushB; rw [hx2.out, ← hkd, decide_eq_false hk]; simp
      have hk1 : kd = 1 := by
        rcases okB_iff.1 hx2.out with ⟨a1, _⟩ | ⟨a1, _⟩
        · rw [hkd]; exact a1
        · exact absurd (hkd.trans a1) hk
      subst hk1
      have hk2 := Lib.hid hkd.symm
      replace hp := Lib.hid hp
      clear hkd hk c3 c4
      have key : Hid (∀ X, Fr (chS L M) w1 X → X.cell? ⟨Z, 0, none⟩ = some (.int .i64 1) ∧ X.cell? ⟨q, 0, none⟩ = some (.pointer (some ⟨p, 0, none⟩))) := Lib.hid fun X hX => by
        have hq : ∀ o, ¬ chS L M q o := fun o hs => hs.elim (fun e => H2.out.qp.2.1 e) (fun e => H2.out.qp.2.2 e)
        have hz : ∀ o, ¬ chS L M Z o := fun o hs => hs.elim (fun e => hqZ.out.2.1 e) (fun e => hqZ.out.2.2 e)
        refine ⟨?_, (H2.out.c0.fr hX (hq _)).1⟩
        rw [← hk2.out]; exact (z2.out.fr hX (hz _)).1
      by_cases hxT : x ∈ T
      · have e0 : decide (x ∈ T) = true := decide_eq_true hxT
        rw [e0] at hp
        have hT := Lib.hid (show pushT t d mo T x = T by unfold pushT; rw [hp.out]; rfl)
        have hs2 := Lib.hid (hsame.out hxT)
        replace e0 := e0
        replace hxT := Lib.hid hxT
        go_wp2_with fail
        refine wp_region_still_tail 24 (by kernel_rfl) (by kernel_rfl) ?_
        simp only [World.drew_eq, List.take_succ_cons, List.take_zero, List.drop_succ_cons, List.drop_zero]
        repeat (with_reducible refine wpStill_step (fun K hK => ?_); go_simp; with_reducible refine hK _ ?_; clear hK K)
        refine wpStill_nil ?_
        change wpList _ _ _ _ _ _
        have h1d := Lib.hid (show ChI w1.drew p L M (t + d) 1 R from h1.out.drewN 1)
        have F0 := Lib.hid (show Fr (chS L M) w1 w1.drew from (Fr.refl (chS L M) w1).drew)
        clear h1 zz0 c0
        generalize w1.drew = wd at *
        obtain ⟨zz0, c0⟩ := key.out _ F0.out
        go_wp2_with fail
        refine (push_i h1d.out 0 _).mono ?_
        rintro e w3 ⟨rfl, K, F⟩
        have HX2 := Lib.hid (F0.out.trans F)
        replace K := Lib.hid K
        rw [hcp.out, e0]
        clear F
        all_goals
          have hQ := Lib.hid (H2.out.turn HX2.out K.out hs2.out rfl H2.out.ok H2.out.nd)
          obtain ⟨k0, k1⟩ := key.out _ HX2.out
          clear e0 c0 zz0
          go_wp2
          go_ret
          exact ⟨by rw [hp.out]; rfl, by rw [hT.out]; exact hQ.out, FrQ.call B2.out HX2.out⟩
      · have e0 : decide (x ∈ T) = false := decide_eq_false hxT
        rw [e0] at hp
        have hT := Lib.hid (show pushT t d mo T x = T ++ [x] by unfold pushT; rw [hp.out]; rfl)
        have hh : heldT (T ++ [x]) = heldT T := by rw [heldT_snoc, hk2.out, if_neg (by decide)]; rfl
        have hr2 := Lib.hid (hrow.out hxT)
        have hnd2 := Lib.hid (show (T ++ [x]).Nodup from List.nodup_append.2 ⟨H2.out.nd, by simp, fun a ha b hb => by simp at hb; subst hb; intro e; subst e; exact hxT ha⟩)
        replace hh := Lib.hid hh
        replace hxT := Lib.hid hxT
        go_wp2_with fail
        refine wp_region_still_tail 24 (by kernel_rfl) (by kernel_rfl) ?_
        simp only [World.drew_eq, List.take_succ_cons, List.take_zero, List.drop_succ_cons, List.drop_zero]
        repeat (with_reducible refine wpStill_step (fun K hK => ?_); go_simp; with_reducible refine hK _ ?_; clear hK K)
        refine wpStill_nil ?_
        change wpList _ _ _ _ _ _
        have h1d := Lib.hid (show ChI w1.drew p L M (t + d) 1 R from h1.out.drewN 1)
        have F0 := Lib.hid (show Fr (chS L M) w1 w1.drew from (Fr.refl (chS L M) w1).drew)
        clear h1 zz0 c0
        generalize w1.drew = wd at *
        obtain ⟨zz0, c0⟩ := key.out _ F0.out
        go_wp2_with fail
        refine (push_i h1d.out 0 _).mono ?_
        rintro e w3 ⟨rfl, K, F⟩
        have HX2 := Lib.hid (F0.out.trans F)
        replace K := Lib.hid K
        rw [hcp.out, e0]
        clear F
        all_goals
          have hQ := Lib.hid (H2.out.turn HX2.out K.out hr2.out hh.out (fun y hy => (List.mem_append.1 hy).elim (fun h => H2.out.ok y h) (fun h => by simp at h; subst h; exact hx2.out)) hnd2.out)
          obtain ⟨k0, k1⟩ := key.out _ HX2.out
          clear e0 c0 zz0
          go_wp2
          go_ret
          exact ⟨by rw [hp.out]; rfl, by rw [hT.out]; exact hQ.out, FrQ.call B2.out HX2.out⟩
end Go.Proofs.Ytblapbnplflghaa
