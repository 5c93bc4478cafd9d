/- All of package chain, and Same. -/
import Derived.Test.YthapdlgaccfbfaaChainC
import Derived.Test.YthapdlgaccfbfaaOwn
import Derived.Deep.LoopGhost
namespace Go.Proofs.Ythapdlgaccfbfaa
open Go.RowKit
set_option linter.unusedVariables false
set_option linter.unusedSimpArgs false

/-- From number h on, by next, come the numbers ks. -/
def Ch.Seq (s : Ch) : Int → List Nat → Prop
  | h, [] => h = -1
  | h, x :: t => h = x ∧ x < s.n ∧ Ch.Seq s (s.lk x 2) t

/-- The list j is the numbers ks. -/
def Ch.Row (s : Ch) (j : Int) (ks : List Nat) : Prop := (s.firstB j = false ∧ ks = []) ∨ (s.firstB j = true ∧ ks ≠ [] ∧ s.Seq (s.firstV j) ks)

def natsI (ks : List Nat) : List Int := ks.map Int.ofNat

set_option maxRecDepth 100000 in
set_option maxHeartbeats 1000000 in
theorem all_c {w : World} {p L M : Nat} {s : Ch} (h : ChC w p L M s) (j : Int) (ks : List Nat) (hr : s.Row j ks) (hlen : ks.length ≤ 1000000) :
    Calls Try.prog 30 #[.pointer (some ⟨p, 0, none⟩), .int .i64 j] w fun e w' => ∃ v, e = .returned v ∧ OwnI w' w.heap.size v (natsI ks) ∧ Below w.heap.size w w' := by
  obtain ⟨i0, hi, hz0, hz1, hz2⟩ := info_parts info3
  have Hi := Lib.hid hi; have Hz0 := Lib.hid hz0; have Hz1 := Lib.hid hz1; have Hz2 := Lib.hid hz2
  clear hi hz0 hz1 hz2
  rcases hr with ⟨hB, rfl⟩ | ⟨hB, hne, hs⟩
  · go_enter Try.func30, Try.ntmps30
    go_wp2_with fail
    refine (first_c h j).mono ?_
    rintro e w' ⟨rfl, rfl⟩
    rw [hB]
    clear hB h
    go_wp2
    refine wp_loop_rounds 1 ?_
    rw [rounds_succ]
    go_wp2
    go_ret
    exact ⟨_, rfl, OwnI.nil _ _, Below.refl _ _⟩
  · go_enter Try.func30, Try.ntmps30
    go_wp2_with fail
    refine (first_c h j).mono ?_
    rintro e w' ⟨rfl, rfl⟩
    rw [hB]
    have HS := Lib.hid hs
    have H := Lib.hid h
    clear hB hne hs h
    go_wp2_with fail
    go_loopg [5, 6] ks.length (fun g v k wr => ∃ (dn rs : List Nat) (kv : Int), ks = dn ++ rs ∧ g = rs.length ∧ k = .int .i64 kv ∧ Hid (s.Seq kv rs) ∧ Hid (OwnI wr w.heap.size v (natsI dn)) ∧ Hid (Below w.heap.size w wr))
    case atStart => exact ⟨[], ks, _, rfl, rfl, rfl, HS, OwnI.nil _ _, Below.refl _ _⟩
    case round =>
      obtain ⟨dn, rs, kv, e1, e2, e3, H1, H2, H3⟩ := hrel
      subst e3
      have H4 := Lib.hid (H.out.fr (Fr.of_below (S := fun _ _ => False) H3.out (Nat.le_refl _)) (fun _ h => h) (fun _ h => h) (fun _ h => h))
      rcases rs with _ | ⟨x, t⟩
      · have e5 : kv = -1 := H1.out
        subst e5
        go_wp2
        go_ret
        refine ⟨_, rfl, ?_, H3.out⟩
        have := H2.out
        rw [e1, List.append_nil]
        exact this
      · obtain ⟨e5, e6, H6⟩ := H1.out
        subst e5
        have H7 := Lib.hid H6
        clear H6
        obtain ⟨h5, f5⟩ := H4.out.pl
        obtain ⟨h6, f6⟩ := H4.out.hl x 2 e6 (by omega)
        have E1 := Lib.hid e1; have E2 := Lib.hid e2; have HL := Lib.hid hlen
        clear e1 e2 hlen
        have e7 : (((x : Nat) : Int) != -1) = true := by rw [bne_iff_ne]; omega
        have hdn : (natsI dn).length ≤ 100000000 := by
          have a1 := HL.out
          rw [E1.out] at a1
          simp only [natsI, List.length_map]
          simp only [List.length_append] at a1
          omega
        have hsz : w.heap.size ≤ (wr.alloc (.cells #[.int .i64 x] 3)).heap.size := by
          have := H3.out.size
          simp
          omega
        go_wp2_with (first | (at_builtin; refine append_int rfl rfl Try.underlying61 rfl (H2.out.alloc _) rfl (cell_new1 _ _ _) hdn hsz ?_))
        intro v' w1 G1 G2 _ _
        have G3 := H3.out.trans ((Below.alloc (Below.refl w.heap.size wr) (by have := H3.out.size; omega) _).trans G2)
        have G4 := Lib.hid (H.out.fr (Fr.of_below (S := fun _ _ => False) G3 (Nat.le_refl _)) (fun _ h => h) (fun _ h => h) (fun _ h => h))
        replace G1 := Lib.hid G1
        replace G3 := Lib.hid G3
        clear hdn hsz G2 h5 f5 h6 f6 H4
        obtain ⟨h5, f5⟩ := G4.out.pl
        obtain ⟨h6, f6⟩ := G4.out.hl x 2 e6 (by omega)
        have hb := G4.out.bn
        clear f5 f6
        go_wp2
        go_roundg t.length
        case measure => rw [E2.out]; simp
        case rel =>
          refine ⟨dn ++ [x], t, _, by rw [E1.out]; simp, rfl, rfl, H7, ?_, G3⟩
          have := G1.out
          refine Lib.hid ?_
          simpa [natsI] using this
end Go.Proofs.Ythapdlgaccfbfaa
