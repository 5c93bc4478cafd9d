/- Contracts of Keys: all things, rising. -/
import Derived.Test.YtdgcppglpmlgkaaBook
import Derived.Deep.RegionHeld3
namespace Go.Proofs.Ytdgcppglpmlgkaa
open Go.RowKit
set_option linter.unusedVariables false
set_option linter.unusedSimpArgs false
set_option maxRecDepth 100000

theorem key_fresh {κ : Type} {L : List (κ × Int × Int)} (h : (L.map (·.1)).Nodup) {i : Nat} (hi : i < L.length) : L[i].1 ∉ (L.take i).map (·.1) := by
  intro hm
  rw [List.map_take] at hm
  obtain ⟨j, hj, e⟩ := List.getElem_of_mem hm
  rw [List.length_take, List.length_map] at hj
  rw [List.getElem_take, List.getElem_map] at e
  have hp := List.pairwise_iff_getElem.1 h j i (by simp; omega) (by simpa using hi) (by omega)
  simp only [List.getElem_map] at hp
  exact hp e
theorem perm_insert {κ : Type} {L : List (κ × Int × Int)} {S : List κ} {k : κ} {i : Nat} (hp : S.Perm ((L.take i).map (·.1))) (hi : i < L.length) (hk : k = L[i].1) {at_ : Nat} (ha : at_ ≤ S.length) : (S.take at_ ++ k :: S.drop at_).Perm ((L.take (i + 1)).map (·.1)) := by
  have h1 : (S.take at_ ++ k :: S.drop at_).Perm (k :: S) := by
    have := List.perm_middle (a := k) (l₁ := S.take at_) (l₂ := S.drop at_)
    rw [List.take_append_drop] at this
    exact this
  have h2 : (L.take (i + 1)).map (·.1) = (L.take i).map (·.1) ++ [k] := by
    rw [List.take_add_one, List.getElem?_eq_getElem hi, List.map_append, hk]; rfl
  rw [h2]
  exact h1.trans ((hp.cons k).trans (List.perm_append_singleton k _).symm)
def kE_i : Enc Int where
  t := 3
  sz := 1
  f := fun x => [.int .i64 (x)]
  z := .int .i64 0
  bytes := 8
  len := fun x => rfl
  one := fun x v h => by simp at h; subst h; rfl
  info := by kernel_rfl
  zs := rfl
  pos := by decide
  small := by decide

theorem nan_i (w : World) (a : Int) : Calls Try.prog 54 #[.int .i64 (a)] w fun e w' => e = .returned (.bool false) ∧ w = w' := by
  go_enter Try.func54, Try.ntmps54
  go_wp2
  go_ret
  exact ⟨by simp, rfl⟩
theorem less_i (w : World) (a b : Int) : Calls Try.prog 50 #[.int .i64 (a), .int .i64 (b)] w fun e w' => e = .returned (.bool ((fun a b : Int => decide (a < b)) a b)) ∧ w = w' := by
  go_enter Try.func50, Try.ntmps50
  go_wp2_with fail
  refine (nan_i w a).mono ?_
  rintro e w1 ⟨rfl, rfl⟩
  go_wp2
  go_ret
  exact ⟨rfl, rfl⟩

set_option maxHeartbeats 4000000 in
theorem keys_i {w : World} {p : Nat} {v : Value} {L : List (Int × Int × Int)} (h : Bk_i w p v L) (hl : L.length ≤ 100000) :
    Calls Try.prog 30 #[.pointer (some ⟨p, 0, none⟩)] w fun e w' => ∃ v' S, e = .returned v' ∧ OwnE kE_i w' w.heap.size v' S ∧ Sorted (fun a b : Int => decide (a < b)) S ∧ S.Perm (L.map (·.1)) ∧ Below w.heap.size w w' := by
  obtain ⟨A, c, rfl, hc⟩ := h.own.slice
  have H := Lib.hid h
  have h0 := h.cel.1
  replace hl := Lib.hid hl
  clear h hc
  go_enter Try.func30, Try.ntmps30
  go_wp2_with fail
  go_loopw [3, 12] (fun v ii wr => ∃ (i : Nat) (S : List Int), ii = .int .i64 i ∧ Hid (OwnE kE_i wr w.heap.size v S) ∧ Hid (Sorted (fun a b : Int => decide (a < b)) S) ∧ Hid (S.Perm ((L.take i).map (·.1))) ∧ Hid (i ≤ L.length) ∧ Hid (Below w.heap.size w wr)) (fun _ ii _ => L.length - (intOf ii).toNat)
  case atStart => exact ⟨0, [], rfl, Lib.hid (OwnE.nil _ _), Lib.hid List.Pairwise.nil, Lib.hid (by simp), Lib.hid (Nat.zero_le _), Lib.hid (Below.refl _ _)⟩
  case round =>
    obtain ⟨i, S, rfl, hO, hSo, hPm, hi, hB⟩ := hrel
    by_cases hlt : i < L.length
    · obtain ⟨g, c', e, _, hgs, _⟩ := H.out.own.pos (by omega)
      injection e with e1 e2 e3
      subst e1; subst e3
      obtain ⟨⟨y0, -⟩, ⟨y1, -⟩, ⟨y2, -⟩⟩ := (H.out.below hB.out).at hlt
      have hi5 : i < 100000 := by have := hl.out; omega
      have hkn := key_fresh H.out.nd hlt
      have hkS : L[i].1 ∉ S := fun hm => hkn (hPm.out.mem_iff.1 hm)
      have hSl : S.length ≤ 100000 := by have := hPm.out.length_eq; have := hl.out; simp at *; omega
      obtain ⟨k, hk⟩ : ∃ k, k = L[i].1 := ⟨_, rfl⟩
      rw [← hk] at y0 hkS
      replace hk := Lib.hid hk; replace hkS := Lib.hid hkS; replace hSl := Lib.hid hSl
      clear hkn hgs
      generalize L[i].2.1 = lim at *
      generalize L[i].2.2 = us at *
      obtain ⟨Av, cv, rfl, _⟩ := hO.out.slice
      go_wp2_with (first | (at_builtin; refine append_rowE (E := kE_i) (ys := [k]) rfl rfl Try.underlying40 rfl ((hO.out.alloc _).alloc _) rfl (rowAt_new1 (E := kE_i) _ _ _ k (by simp) rfl) rfl (Nat.le_trans hSl.out (by decide)) (by simp) (by have := hB.out.size; simp; omega) ?_))
      intro v' w7 G1 G2 G3 G4
      have hne0 : wr.heap.size < (wr.alloc (.cells #[.int .i64 (k), .int .i64 lim, .int .i64 us] 90)).heap.size := by simp
      have hB7 := Lib.hid (hB.out.trans ((Below.alloc (Below.alloc (Below.refl w.heap.size wr) hB.out.size (.cells #[.int .i64 (k), .int .i64 lim, .int .i64 us] 90)) (by have := hB.out.size; simp; omega) (.cells #[.int .i64 (k)] 3)).trans G2))
      have hv0 : ∀ b, (Value.slice Av S.length cv).ownBlock = some b → b < wr.heap.size := fun b hb => (hO.out.lt b hb).2
      have hlc := ((Cel.new wr #[.int .i64 (k), .int .i64 lim, .int .i64 us] 90 0 _ rfl).alloc (.cells #[.int .i64 (k)] 3)).frb (FrB.grown G3) (fun e => absurd (hv0 _ e) (Nat.lt_irrefl _))
      obtain ⟨g2, c2, rfl, hg2, hg2s, hc2⟩ := G1.pos (by simp)
      have hg2n : g2 ≠ wr.heap.size := by
        rcases G4 with e | e
        · exact Nat.ne_of_lt (hv0 g2 (e.symm.trans rfl))
        · injection e with e; simp at e; omega
      have hsn : (S ++ [k]).length = S.length + 1 := by simp
      rw [hsn] at G1 hc2
      try simp only [hsn]
      replace hg2 := Lib.hid hg2; replace hc2 := Lib.hid hc2; replace hg2n := Lib.hid hg2n
      have hlc7 := Lib.hid hlc
      have hD0 := Lib.hid (Down.start S k)
      replace G1 := Lib.hid G1
      clear G2 G3 G4 hv0 hne0 hlc hg2s hO hB hsn y0 y1 y2
      generalize hB0e : wr.heap.size = B0 at *
      replace hB0e := Lib.hid hB0e
      go_wp2_with fail
      go_loopw [6] (fun aa wr2 => ∃ (a : Nat) (M : List Int), aa = .int .i64 a ∧ Hid (OwnE kE_i wr2 w.heap.size (.slice (some ⟨g2, 0, none⟩) (S.length + 1) c2) M) ∧ Hid (Down S M a) ∧ Hid (∀ x ∈ S.drop a, (fun a b : Int => decide (a < b)) k x = true) ∧ Hid (FrB (fun b => b = g2) w7 wr2)) (fun aa _ => (intOf aa).toNat)
      case atStart => exact ⟨S.length, S ++ [k], rfl, G1, hD0, Lib.hid (by rw [List.drop_length]; simp), Lib.hid (FrB.refl _ _)⟩
      case round =>
        obtain ⟨a, M, rfl, hO2, hD, hAll, hF2⟩ := hrel
        have hlc2 := (hlc7.out.frb hF2.out (fun e => hg2n.out e.symm)).1
        have hMl := hD.out.1
        have hAl := hD.out.2.1
        cases a with
        | zero =>
          have hdn := hD.out.done k
          have hsi := sorted_insert kord_int hSo.out (k := k) (at_ := 0) hD.out.2.1 hAll.out (fun h => absurd h (by omega)) hkS.out
          have hpm := perm_insert (k := k) hPm.out hlt hk.out (at_ := 0) hD.out.2.1
          have hlM2 : 0 < M.length := by omega
          have hst : OwnE kE_i (wr.setCell ⟨g2, 0, none⟩ (.int .i64 (k))) w.heap.size (.slice (some ⟨g2, 0, none⟩) (S.length + 1) c2) (M.set (0) k) := by
            have h9 := OwnE.set (E := kE_i) (i := 0) (j := 0) (u := .int .i64 (k)) (y := k) hO2.out hlM2 (by decide) rfl
            rw [show (0) * kE_i.sz + 0 = 0 by show (0) * 1 + 0 = 0; omega] at h9
            exact h9
          rw [hdn] at hst
          obtain ⟨hcl, hfz⟩ := OwnE.cel (E := kE_i) (j := 0) hO2.out hlM2 rfl
          rw [show (0) * kE_i.sz + 0 = 0 by show (0) * 1 + 0 = 0; omega] at hcl hfz
          have hB9 := Lib.hid (Below.trans hB7.out (hF2.out.below hB7.out.size (fun b hb e => by have := hg2.out; omega)))
          have hl2 : ((0 : Nat) : Int) < (S.length : Int) + 1 := by omega
          replace hsi := Lib.hid hsi; replace hpm := Lib.hid hpm; replace hst := Lib.hid hst
          clear hO2 hdn
          go_wp2_with fail
          go_quiet (fail)
          go_wp2
          exact ⟨⟨i + 1, _, by go_num, Lib.hid (OwnE.block hst.out (fun b hb => rfl)), hsi, hpm, Lib.hid (by omega), Lib.hid (Below.trans hB9.out ⟨rfl, rfl, rfl, by simp, fun b hb => Below.heap_setCell _ _ _ _ (by have := hg2.out; simp only; omega)⟩)⟩, by simp [intOf]; omega⟩
        | succ a' =>
          obtain ⟨hb1, hb2, hMS⟩ := hD.out.below (Nat.succ_pos a')
          simp only [Nat.add_sub_cancel] at hMS hb1 hb2
          have hw : wrap64 (((a' + 1 : Nat) : Int) - 1) = (a' : Int) := by have := hSl.out; unfold wrap64; omega
          have hw' : wrap64 ((a' : Int) + 1 - 1) = (a' : Int) := by have := hSl.out; unfold wrap64; omega
          have hw3 : IntKind.i64.wrap (a' : Int) = (a' : Int) := by have := hSl.out; rw [IntKind.wrap_i64]; omega
          obtain ⟨hxc, -⟩ := OwnE.cel (E := kE_i) (j := 0) hO2.out hb1 rfl
          rw [show a' * kE_i.sz + 0 = a' by show a' * 1 + 0 = a'; omega] at hxc
          obtain ⟨x, hx⟩ : ∃ x, x = M[a'] := ⟨_, rfl⟩
          rw [← hx] at hxc hMS
          have hi1 : (a' : Int) < (S.length : Int) + 1 := by omega
          have hi2 : (a' : Int) + 1 < (S.length : Int) + 1 := by omega
          replace hx := Lib.hid hx; replace hMS := Lib.hid hMS
          cases hlt2 : (fun a b : Int => decide (a < b)) k x
          · have hltS : (fun a b : Int => decide (a < b)) k S[a'] = false := by rw [← hMS.out]; exact hlt2
            have hdn := hD.out.done k
            have hsi := sorted_insert kord_int hSo.out (k := k) (at_ := (a' + 1)) hD.out.2.1 hAll.out (fun _ _ => by simpa using hltS) hkS.out
            have hpm := perm_insert (k := k) hPm.out hlt hk.out (at_ := (a' + 1)) hD.out.2.1
            have hlM2 : (a' + 1) < M.length := by omega
            have hst : OwnE kE_i (wr.setCell ⟨g2, (a' + 1), none⟩ (.int .i64 (k))) w.heap.size (.slice (some ⟨g2, 0, none⟩) (S.length + 1) c2) (M.set ((a' + 1)) k) := by
              have h9 := OwnE.set (E := kE_i) (i := (a' + 1)) (j := 0) (u := .int .i64 (k)) (y := k) hO2.out hlM2 (by decide) rfl
              rw [show ((a' + 1)) * kE_i.sz + 0 = (a' + 1) by show ((a' + 1)) * 1 + 0 = (a' + 1); omega] at h9
              exact h9
            rw [hdn] at hst
            obtain ⟨hcl, hfz⟩ := OwnE.cel (E := kE_i) (j := 0) hO2.out hlM2 rfl
            rw [show ((a' + 1)) * kE_i.sz + 0 = (a' + 1) by show ((a' + 1)) * 1 + 0 = (a' + 1); omega] at hcl hfz
            have hB9 := Lib.hid (Below.trans hB7.out (hF2.out.below hB7.out.size (fun b hb e => by have := hg2.out; omega)))
            have hl2 : (((a' + 1) : Nat) : Int) < (S.length : Int) + 1 := by omega
            replace hsi := Lib.hid hsi; replace hpm := Lib.hid hpm; replace hst := Lib.hid hst
            clear hO2 hdn
            replace hlt2 := Lib.hid hlt2
            go_wp2_with fail
            go_quiet (first | (go_at_call 50; refine Calls.quiet_of_same ((less_i (wr.drewN _) k x).mono fun _ _ h => ⟨h.1, h.2.symm⟩)))
            rw [hlt2.out]
            go_wp2
            exact ⟨⟨i + 1, _, by go_num, Lib.hid (OwnE.block hst.out (fun b hb => rfl)), hsi, hpm, Lib.hid (by omega), Lib.hid (Below.trans hB9.out ⟨rfl, rfl, rfl, by simp, fun b hb => Below.heap_setCell _ _ _ _ (by have := hg2.out; simp only; omega)⟩)⟩, by simp [intOf]; omega⟩
          · have hltS : (fun a b : Int => decide (a < b)) k S[a'] = true := by rw [← hMS.out]; exact hlt2
            have hlM3 : a' + 1 < M.length := by omega
            obtain ⟨hc9, hf9⟩ := OwnE.cel (E := kE_i) (i := a' + 1) (j := 0) hO2.out hlM3 rfl
            rw [show (a' + 1) * kE_i.sz + 0 = a' + 1 by show (a' + 1) * 1 + 0 = a' + 1; omega] at hc9 hf9
            have hst : OwnE kE_i (wr.setCell ⟨g2, a' + 1, none⟩ (.int .i64 (x))) w.heap.size (.slice (some ⟨g2, 0, none⟩) (S.length + 1) c2) (M.set (a' + 1) x) := by
              have h9 := OwnE.set (E := kE_i) (i := a' + 1) (j := 0) (u := .int .i64 (x)) (y := x) hO2.out hlM3 (by decide) rfl
              rw [show (a' + 1) * kE_i.sz + 0 = a' + 1 by show (a' + 1) * 1 + 0 = a' + 1; omega] at h9
              exact h9
            have hD2 := hD.out.step (Nat.succ_pos a') (x := x) (fun _ => hMS.out)
            have hAll2 : ∀ y ∈ S.drop a', (fun a b : Int => decide (a < b)) k y = true := by
              intro y hy
              rw [List.drop_eq_getElem_cons (show a' < S.length by omega)] at hy
              rcases List.mem_cons.1 hy with rfl | hy
              · exact hltS
              · exact hAll.out y hy
            replace hst := Lib.hid hst; replace hD2 := Lib.hid hD2; replace hAll2 := Lib.hid hAll2
            replace hlt2 := Lib.hid hlt2; replace hltS := Lib.hid hltS
            clear hO2
            go_wp2_with fail
            go_quiet (first | (go_at_call 50; refine Calls.quiet_of_same ((less_i (wr.drewN _) k x).mono fun _ _ h => ⟨h.1, h.2.symm⟩)))
            rw [hlt2.out]
            go_wp2
            exact ⟨⟨a', _, by go_num, Lib.hid (OwnE.block hst.out (fun b hb => rfl)), hD2, hAll2, Lib.hid (hF2.out.then_ (S2 := fun b => b = g2) ⟨rfl, rfl, rfl, by simp, fun b hb hn => Below.heap_setCell _ _ _ _ (fun e => hn (by first | exact e | exact e.symm))⟩ (fun _ _ h => h))⟩, by first | (simp [intOf]; done) | (simp [intOf]; omega)⟩
    · have he : L.take i = L := List.take_of_length_le (by omega)
      rw [he] at hPm
      clear he
      go_wp2
      go_ret
      exact ⟨_, S, rfl, hO.out, hSo.out, hPm.out, hB.out⟩
def kE_s : Enc ByteArray where
  t := 9
  sz := 1
  f := fun x => [.string (x)]
  z := .string ByteArray.empty
  bytes := 16
  len := fun x => rfl
  one := fun x v h => by simp at h; subst h; rfl
  info := by kernel_rfl
  zs := rfl
  pos := by decide
  small := by decide

theorem nan_s (w : World) (a : ByteArray) : Calls Try.prog 53 #[.string (a)] w fun e w' => e = .returned (.bool false) ∧ w = w' := by
  go_enter Try.func53, Try.ntmps53
  go_wp2
  go_ret
  exact ⟨by simp, rfl⟩
theorem less_s (w : World) (a b : ByteArray) : Calls Try.prog 48 #[.string (a), .string (b)] w fun e w' => e = .returned (.bool (sLt a b)) ∧ w = w' := by
  go_enter Try.func48, Try.ntmps48
  go_wp2_with fail
  refine (nan_s w a).mono ?_
  rintro e w1 ⟨rfl, rfl⟩
  go_wp2
  go_ret
  exact ⟨rfl, rfl⟩

set_option maxHeartbeats 4000000 in
theorem keys_s {w : World} {p : Nat} {v : Value} {L : List (ByteArray × Int × Int)} (h : Bk_s w p v L) (hl : L.length ≤ 100000) :
    Calls Try.prog 23 #[.pointer (some ⟨p, 0, none⟩)] w fun e w' => ∃ v' S, e = .returned v' ∧ OwnE kE_s w' w.heap.size v' S ∧ Sorted sLt S ∧ S.Perm (L.map (·.1)) ∧ Below w.heap.size w w' := by
  obtain ⟨A, c, rfl, hc⟩ := h.own.slice
  have H := Lib.hid h
  have h0 := h.cel.1
  replace hl := Lib.hid hl
  clear h hc
  go_enter Try.func23, Try.ntmps23
  go_wp2_with fail
  go_loopw [3, 12] (fun v ii wr => ∃ (i : Nat) (S : List ByteArray), ii = .int .i64 i ∧ Hid (OwnE kE_s wr w.heap.size v S) ∧ Hid (Sorted sLt S) ∧ Hid (S.Perm ((L.take i).map (·.1))) ∧ Hid (i ≤ L.length) ∧ Hid (Below w.heap.size w wr)) (fun _ ii _ => L.length - (intOf ii).toNat)
  case atStart => exact ⟨0, [], rfl, Lib.hid (OwnE.nil _ _), Lib.hid List.Pairwise.nil, Lib.hid (by simp), Lib.hid (Nat.zero_le _), Lib.hid (Below.refl _ _)⟩
  case round =>
    obtain ⟨i, S, rfl, hO, hSo, hPm, hi, hB⟩ := hrel
    by_cases hlt : i < L.length
    · obtain ⟨g, c', e, _, hgs, _⟩ := H.out.own.pos (by omega)
      injection e with e1 e2 e3
      subst e1; subst e3
      obtain ⟨⟨y0, -⟩, ⟨y1, -⟩, ⟨y2, -⟩⟩ := (H.out.below hB.out).at hlt
      have hi5 : i < 100000 := by have := hl.out; omega
      have hkn := key_fresh H.out.nd hlt
      have hkS : L[i].1 ∉ S := fun hm => hkn (hPm.out.mem_iff.1 hm)
      have hSl : S.length ≤ 100000 := by have := hPm.out.length_eq; have := hl.out; simp at *; omega
      obtain ⟨k, hk⟩ : ∃ k, k = L[i].1 := ⟨_, rfl⟩
      rw [← hk] at y0 hkS
      replace hk := Lib.hid hk; replace hkS := Lib.hid hkS; replace hSl := Lib.hid hSl
      clear hkn hgs
      generalize L[i].2.1 = lim at *
      generalize L[i].2.2 = us at *
      obtain ⟨Av, cv, rfl, _⟩ := hO.out.slice
      go_wp2_with (first | (at_builtin; refine append_rowE (E := kE_s) (ys := [k]) rfl rfl Try.underlying35 rfl ((hO.out.alloc _).alloc _) rfl (rowAt_new1 (E := kE_s) _ _ _ k (by simp) rfl) rfl (Nat.le_trans hSl.out (by decide)) (by simp) (by have := hB.out.size; simp; omega) ?_))
      intro v' w7 G1 G2 G3 G4
      have hne0 : wr.heap.size < (wr.alloc (.cells #[.string (k), .int .i64 lim, .int .i64 us] 81)).heap.size := by simp
      have hB7 := Lib.hid (hB.out.trans ((Below.alloc (Below.alloc (Below.refl w.heap.size wr) hB.out.size (.cells #[.string (k), .int .i64 lim, .int .i64 us] 81)) (by have := hB.out.size; simp; omega) (.cells #[.string (k)] 9)).trans G2))
      have hv0 : ∀ b, (Value.slice Av S.length cv).ownBlock = some b → b < wr.heap.size := fun b hb => (hO.out.lt b hb).2
      have hlc := ((Cel.new wr #[.string (k), .int .i64 lim, .int .i64 us] 81 0 _ rfl).alloc (.cells #[.string (k)] 9)).frb (FrB.grown G3) (fun e => absurd (hv0 _ e) (Nat.lt_irrefl _))
      obtain ⟨g2, c2, rfl, hg2, hg2s, hc2⟩ := G1.pos (by simp)
      have hg2n : g2 ≠ wr.heap.size := by
        rcases G4 with e | e
        · exact Nat.ne_of_lt (hv0 g2 (e.symm.trans rfl))
        · injection e with e; simp at e; omega
      have hsn : (S ++ [k]).length = S.length + 1 := by simp
      rw [hsn] at G1 hc2
      try simp only [hsn]
      replace hg2 := Lib.hid hg2; replace hc2 := Lib.hid hc2; replace hg2n := Lib.hid hg2n
      have hlc7 := Lib.hid hlc
      have hD0 := Lib.hid (Down.start S k)
      replace G1 := Lib.hid G1
      clear G2 G3 G4 hv0 hne0 hlc hg2s hO hB hsn y0 y1 y2
      generalize hB0e : wr.heap.size = B0 at *
      replace hB0e := Lib.hid hB0e
      go_wp2_with fail
      go_loopw [6] (fun aa wr2 => ∃ (a : Nat) (M : List ByteArray), aa = .int .i64 a ∧ Hid (OwnE kE_s wr2 w.heap.size (.slice (some ⟨g2, 0, none⟩) (S.length + 1) c2) M) ∧ Hid (Down S M a) ∧ Hid (∀ x ∈ S.drop a, sLt k x = true) ∧ Hid (FrB (fun b => b = g2) w7 wr2)) (fun aa _ => (intOf aa).toNat)
      case atStart => exact ⟨S.length, S ++ [k], rfl, G1, hD0, Lib.hid (by rw [List.drop_length]; simp), Lib.hid (FrB.refl _ _)⟩
      case round =>
        obtain ⟨a, M, rfl, hO2, hD, hAll, hF2⟩ := hrel
        have hlc2 := (hlc7.out.frb hF2.out (fun e => hg2n.out e.symm)).1
        have hMl := hD.out.1
        have hAl := hD.out.2.1
        cases a with
        | zero =>
          have hdn := hD.out.done k
          have hsi := sorted_insert kord_str hSo.out (k := k) (at_ := 0) hD.out.2.1 hAll.out (fun h => absurd h (by omega)) hkS.out
          have hpm := perm_insert (k := k) hPm.out hlt hk.out (at_ := 0) hD.out.2.1
          have hlM2 : 0 < M.length := by omega
          have hst : OwnE kE_s (wr.setCell ⟨g2, 0, none⟩ (.string (k))) w.heap.size (.slice (some ⟨g2, 0, none⟩) (S.length + 1) c2) (M.set (0) k) := by
            have h9 := OwnE.set (E := kE_s) (i := 0) (j := 0) (u := .string (k)) (y := k) hO2.out hlM2 (by decide) rfl
            rw [show (0) * kE_s.sz + 0 = 0 by show (0) * 1 + 0 = 0; omega] at h9
            exact h9
          rw [hdn] at hst
          obtain ⟨hcl, hfz⟩ := OwnE.cel (E := kE_s) (j := 0) hO2.out hlM2 rfl
          rw [show (0) * kE_s.sz + 0 = 0 by show (0) * 1 + 0 = 0; omega] at hcl hfz
          have hB9 := Lib.hid (Below.trans hB7.out (hF2.out.below hB7.out.size (fun b hb e => by have := hg2.out; omega)))
          have hl2 : ((0 : Nat) : Int) < (S.length : Int) + 1 := by omega
          replace hsi := Lib.hid hsi; replace hpm := Lib.hid hpm; replace hst := Lib.hid hst
          clear hO2 hdn
          go_wp2_with fail
          go_quiet (fail)
          go_wp2
          exact ⟨⟨i + 1, _, by go_num, Lib.hid (OwnE.block hst.out (fun b hb => rfl)), hsi, hpm, Lib.hid (by omega), Lib.hid (Below.trans hB9.out ⟨rfl, rfl, rfl, by simp, fun b hb => Below.heap_setCell _ _ _ _ (by have := hg2.out; simp only; omega)⟩)⟩, by simp [intOf]; omega⟩
        | succ a' =>
          obtain ⟨hb1, hb2, hMS⟩ := hD.out.below (Nat.succ_pos a')
          simp only [Nat.add_sub_cancel] at hMS hb1 hb2
          have hw : wrap64 (((a' + 1 : Nat) : Int) - 1) = (a' : Int) := by have := hSl.out; unfold wrap64; omega
          have hw' : wrap64 ((a' : Int) + 1 - 1) = (a' : Int) := by have := hSl.out; unfold wrap64; omega
          have hw3 : IntKind.i64.wrap (a' : Int) = (a' : Int) := by have := hSl.out; rw [IntKind.wrap_i64]; omega
          obtain ⟨hxc, -⟩ := OwnE.cel (E := kE_s) (j := 0) hO2.out hb1 rfl
          rw [show a' * kE_s.sz + 0 = a' by show a' * 1 + 0 = a'; omega] at hxc
          obtain ⟨x, hx⟩ : ∃ x, x = M[a'] := ⟨_, rfl⟩
          rw [← hx] at hxc hMS
          have hi1 : (a' : Int) < (S.length : Int) + 1 := by omega
          have hi2 : (a' : Int) + 1 < (S.length : Int) + 1 := by omega
          replace hx := Lib.hid hx; replace hMS := Lib.hid hMS
          cases hlt2 : sLt k x
          · have hltS : sLt k S[a'] = false := by rw [← hMS.out]; exact hlt2
            have hdn := hD.out.done k
            have hsi := sorted_insert kord_str hSo.out (k := k) (at_ := (a' + 1)) hD.out.2.1 hAll.out (fun _ _ => by simpa using hltS) hkS.out
            have hpm := perm_insert (k := k) hPm.out hlt hk.out (at_ := (a' + 1)) hD.out.2.1
            have hlM2 : (a' + 1) < M.length := by omega
            have hst : OwnE kE_s (wr.setCell ⟨g2, (a' + 1), none⟩ (.string (k))) w.heap.size (.slice (some ⟨g2, 0, none⟩) (S.length + 1) c2) (M.set ((a' + 1)) k) := by
              have h9 := OwnE.set (E := kE_s) (i := (a' + 1)) (j := 0) (u := .string (k)) (y := k) hO2.out hlM2 (by decide) rfl
              rw [show ((a' + 1)) * kE_s.sz + 0 = (a' + 1) by show ((a' + 1)) * 1 + 0 = (a' + 1); omega] at h9
              exact h9
            rw [hdn] at hst
            obtain ⟨hcl, hfz⟩ := OwnE.cel (E := kE_s) (j := 0) hO2.out hlM2 rfl
            rw [show ((a' + 1)) * kE_s.sz + 0 = (a' + 1) by show ((a' + 1)) * 1 + 0 = (a' + 1); omega] at hcl hfz
            have hB9 := Lib.hid (Below.trans hB7.out (hF2.out.below hB7.out.size (fun b hb e => by have := hg2.out; omega)))
            have hl2 : (((a' + 1) : Nat) : Int) < (S.length : Int) + 1 := by omega
            replace hsi := Lib.hid hsi; replace hpm := Lib.hid hpm; replace hst := Lib.hid hst
            clear hO2 hdn
            replace hlt2 := Lib.hid hlt2
            go_wp2_with fail
            go_quiet (first | (go_at_call 48; refine Calls.quiet_of_same ((less_s (wr.drewN _) k x).mono fun _ _ h => ⟨h.1, h.2.symm⟩)))
            rw [hlt2.out]
            go_wp2
            exact ⟨⟨i + 1, _, by go_num, Lib.hid (OwnE.block hst.out (fun b hb => rfl)), hsi, hpm, Lib.hid (by omega), Lib.hid (Below.trans hB9.out ⟨rfl, rfl, rfl, by simp, fun b hb => Below.heap_setCell _ _ _ _ (by have := hg2.out; simp only; omega)⟩)⟩, by simp [intOf]; omega⟩
          · have hltS : sLt k S[a'] = true := by rw [← hMS.out]; exact hlt2
            have hlM3 : a' + 1 < M.length := by omega
            obtain ⟨hc9, hf9⟩ := OwnE.cel (E := kE_s) (i := a' + 1) (j := 0) hO2.out hlM3 rfl
            rw [show (a' + 1) * kE_s.sz + 0 = a' + 1 by show (a' + 1) * 1 + 0 = a' + 1; omega] at hc9 hf9
            have hst : OwnE kE_s (wr.setCell ⟨g2, a' + 1, none⟩ (.string (x))) w.heap.size (.slice (some ⟨g2, 0, none⟩) (S.length + 1) c2) (M.set (a' + 1) x) := by
              have h9 := OwnE.set (E := kE_s) (i := a' + 1) (j := 0) (u := .string (x)) (y := x) hO2.out hlM3 (by decide) rfl
              rw [show (a' + 1) * kE_s.sz + 0 = a' + 1 by show (a' + 1) * 1 + 0 = a' + 1; omega] at h9
              exact h9
            have hD2 := hD.out.step (Nat.succ_pos a') (x := x) (fun _ => hMS.out)
            have hAll2 : ∀ y ∈ S.drop a', sLt k y = true := by
              intro y hy
              rw [List.drop_eq_getElem_cons (show a' < S.length by omega)] at hy
              rcases List.mem_cons.1 hy with rfl | hy
              · exact hltS
              · exact hAll.out y hy
            replace hst := Lib.hid hst; replace hD2 := Lib.hid hD2; replace hAll2 := Lib.hid hAll2
            replace hlt2 := Lib.hid hlt2; replace hltS := Lib.hid hltS
            clear hO2
            go_wp2_with fail
            go_quiet (first | (go_at_call 48; refine Calls.quiet_of_same ((less_s (wr.drewN _) k x).mono fun _ _ h => ⟨h.1, h.2.symm⟩)))
            rw [hlt2.out]
            go_wp2
            exact ⟨⟨a', _, by go_num, Lib.hid (OwnE.block hst.out (fun b hb => rfl)), hD2, hAll2, Lib.hid (hF2.out.then_ (S2 := fun b => b = g2) ⟨rfl, rfl, rfl, by simp, fun b hb hn => Below.heap_setCell _ _ _ _ (fun e => hn (by first | exact e | exact e.symm))⟩ (fun _ _ h => h))⟩, by first | (simp [intOf]; done) | (simp [intOf]; omega)⟩
    · have he : L.take i = L := List.take_of_length_le (by omega)
      rw [he] at hPm
      clear he
      go_wp2
      go_ret
      exact ⟨_, S, rfl, hO.out, hSo.out, hPm.out, hB.out⟩
end Go.Proofs.Ytdgcppglpmlgkaa
