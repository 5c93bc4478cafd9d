/- Contracts of the document's answer for ledgers. -/
import Derived.Test.YtdgcppglpmlgkaaAl6
import Derived.Test.YtdgcppglpmlgkaaOwnES
import Derived.Deep.RegionHeld3
namespace Go.Proofs.Ytdgcppglpmlgkaa
open Go.RowKit
set_option linter.unusedVariables false
set_option linter.unusedSimpArgs false
set_option linter.unusedSectionVars false
set_option maxRecDepth 100000

def lnR : Enc (ByteArray × Int × Int) where
  t := 83
  sz := 3
  f := fun x => [.string x.1, .int .i64 x.2.1, .int .i64 x.2.2]
  z := .agg #[.string ByteArray.empty, .int .i64 0, .int .i64 0]
  bytes := 32
  len := fun x => rfl
  one := fun x v h => by simp at h; rcases h with rfl | rfl | rfl <;> rfl
  info := by kernel_rfl
  zs := rfl
  pos := by decide
  small := by decide

def fI (L : List (ByteArray × Int × Int)) (k : ByteArray) : Int := match fidx L k with | none => -1 | some i => (i : Int)
theorem fI_none {L : List (ByteArray × Int × Int)} {k : ByteArray} (h : fidx L k = none) : fI L k = -1 := by unfold fI; rw [h]
theorem fI_some {L : List (ByteArray × Int × Int)} {k : ByteArray} {i : Nat} (h : fidx L k = some i) : fI L k = i := by unfold fI; rw [h]
theorem OwnE.at3 {w : World} {base g n c i : Nat} {L : List (ByteArray × Int × Int)} (h : OwnE lnR w base (.slice (some ⟨g, 0, none⟩) n c) L) (hi : i < L.length) :
    Cel w g (i * 3) (.string L[i].1) ∧ Cel w g (i * 3 + 1) (.int .i64 L[i].2.1) ∧ Cel w g (i * 3 + 2) (.int .i64 L[i].2.2) :=
  ⟨OwnE.cel (E := lnR) (j := 0) h hi rfl, OwnE.cel (E := lnR) (j := 1) h hi rfl, OwnE.cel (E := lnR) (j := 2) h hi rfl⟩

set_option maxHeartbeats 1000000 in
theorem find6 {w : World} {base c : Nat} {A : Option Addr} {L : List (ByteArray × Int × Int)} (h : OwnE lnR w base (.slice A L.length c) L) (hl : L.length ≤ 100000) (k : ByteArray) :
    Calls Try.prog 24 #[.slice A L.length c, .string k] w fun e w' => e = .returned (.int .i64 (fI L k)) ∧ w = w' := by
  have H := Lib.hid h
  clear h
  go_enter Try.func24, Try.ntmps24
  go_wp2_with fail
  go_loopw [5] (fun ii wr => ∃ n : Nat, ii = .int .i64 n ∧ wr = w ∧ Hid (n ≤ L.length) ∧ Hid (∀ j (h : j < L.length), j < n → L[j].1 ≠ k)) (fun ii _ => L.length - (intOf ii).toNat)
  case atStart => exact ⟨0, rfl, rfl, Lib.hid (Nat.zero_le _), Lib.hid fun j _ h => absurd h (by omega)⟩
  case round =>
    obtain ⟨n, rfl, rfl, hn, hno⟩ := hrel
    by_cases hlt : n < L.length
    · obtain ⟨g, c', e, _, hgs, _⟩ := H.out.pos (by omega)
      injection e with e1 e2 e3
      subst e1; subst e3
      obtain ⟨⟨hc0, _⟩, -, -⟩ := H.out.at3 hlt
      obtain ⟨z, hz⟩ : ∃ z, z = L[n].1 := ⟨_, rfl⟩
      rw [← hz] at hc0
      have hz' := Lib.hid hz
      clear hz
      by_cases he : z = k
      · have e1 : (z.toList == k.toList) = true := by rw [he]; simp
        have hf : fidx L k = some n := fidx_hit hlt (by rw [← hz'.out]; exact he) hno.out
        have hfi := Lib.hid (fI_some hf)
        replace he := Lib.hid he
        clear hno hf
        go_wp2
        go_ret
        exact ⟨by rw [hfi.out]; rfl, rfl⟩
      · have e1 : (z.toList == k.toList) = false := by rw [toList_beq]; exact decide_eq_false he
        replace he := Lib.hid he
        go_wp2
        go_roundw
        case rel =>
          refine ⟨n + 1, by go_num, by first | trivial | rfl, Lib.hid (by omega), Lib.hid fun j hj hjn => ?_⟩
          rcases Nat.lt_or_ge j n with h | h
          · exact hno.out j hj h
          · obtain rfl : j = n := by omega
            rw [← hz'.out]; exact he.out
        case measure => simp [intOf]; omega
    · have hf : fidx L k = none := fidx_miss (fun j hj => hno.out j hj (by omega))
      have hfi := Lib.hid (fI_none hf)
      clear hn hno hf
      go_wp2
      go_ret
      exact ⟨by rw [hfi.out]; rfl, rfl⟩

/-- A row that was made, or that was there. -/
abbrev NewE (w : World) (v v' : Value) : Prop := ∀ b, v'.ownBlock = some b → v.ownBlock = some b ∨ w.heap.size ≤ b

theorem emptyE (w : World) (base : Nat) (hb : base ≤ w.heap.size) : OwnE lnR (w.alloc (.cells #[] 83)) base (.slice (some ⟨w.heap.size, 0, none⟩) 0 0) [] := OwnE.lit (E := lnR) w base hb [] #[] rfl (by simp)

theorem OwnE.set3 {w : World} {base g n c i : Nat} {L : List (ByteArray × Int × Int)} (h : OwnE lnR w base (.slice (some ⟨g, 0, none⟩) n c) L) (hi : i < L.length) (k : ByteArray) (a b : Int) :
    OwnE lnR (((w.setCell ⟨g, i * 3, none⟩ (.string k)).setCell ⟨g, i * 3 + 1, none⟩ (.int .i64 a)).setCell ⟨g, i * 3 + 2, none⟩ (.int .i64 b)) base (.slice (some ⟨g, 0, none⟩) n c) (L.set i (k, a, b)) := by
  have h1 := OwnE.set (E := lnR) (j := 0) (u := .string k) (y := (k, L[i].2.1, L[i].2.2)) h hi (by decide) rfl
  have h2 := OwnE.set (E := lnR) (j := 1) (u := .int .i64 a) (y := (k, a, L[i].2.2)) h1 (by rw [List.length_set]; exact hi) (by decide) (by rw [List.getElem_set_self]; rfl)
  have h3 := OwnE.set (E := lnR) (j := 2) (u := .int .i64 b) (y := (k, a, b)) h2 (by rw [List.length_set, List.length_set]; exact hi) (by decide) (by rw [List.getElem_set_self]; rfl)
  rw [List.set_set, List.set_set] at h3
  exact h3

set_option maxHeartbeats 2000000 in
theorem with6 {w : World} {base c : Nat} {A : Option Addr} {L : List (ByteArray × Int × Int)} (h : OwnE lnR w base (.slice A L.length c) L) (hl : L.length ≤ 100000) {i : Nat} (hi : i < L.length) (k : ByteArray) (a b : Int) :
    Calls Try.prog 47 #[.slice A L.length c, .int .i64 i, .agg #[.string k, .int .i64 a, .int .i64 b]] w fun e w' => ∃ v', e = .returned v' ∧ OwnE lnR w' w.heap.size v' (L.set i (k, a, b)) ∧ Below w.heap.size w w' := by
  have E0 : OwnE lnR ((w.alloc (.cells #[.string k, .int .i64 a, .int .i64 b] 83)).alloc (.cells #[] 83)) w.heap.size (.slice (some ⟨w.heap.size + 1, 0, none⟩) 0 0) [] := by
    have := emptyE (w.alloc (.cells #[.string k, .int .i64 a, .int .i64 b] 83)) w.heap.size (by simp)
    simpa using this
  have HR := Lib.hid ((h.alloc (.cells #[.string k, .int .i64 a, .int .i64 b] 83)).alloc (.cells #[] 83)).row.1
  replace E0 := Lib.hid E0
  have C0 := Lib.hid ((Cel.new w #[.string k, .int .i64 a, .int .i64 b] 83 0 _ rfl).alloc (.cells #[] 83))
  have C1 := Lib.hid ((Cel.new w #[.string k, .int .i64 a, .int .i64 b] 83 1 _ rfl).alloc (.cells #[] 83))
  have C2 := Lib.hid ((Cel.new w #[.string k, .int .i64 a, .int .i64 b] 83 2 _ rfl).alloc (.cells #[] 83))
  have HB := Lib.hid (Below.alloc (Below.alloc (Below.refl w.heap.size w) (Nat.le_refl _) (.cells #[.string k, .int .i64 a, .int .i64 b] 83)) (by simp) (.cells #[] 83))
  clear h
  go_enter Try.func47, Try.ntmps47
  go_wp2_with (first | (at_builtin; refine append_rowE (E := lnR) (ys := L) (xs := []) rfl rfl Try.underlying27 rfl E0.out rfl HR.out rfl (by simp) (by omega) (by simp; omega) ?_))
  intro v' w1 G1 G2 G3 G4
  replace G1 : OwnE lnR w1 w.heap.size v' L := G1
  obtain ⟨g, c1, rfl, hg, hgs, _⟩ := G1.pos (by omega)
  have hne : g ≠ w.heap.size := by
    rcases G4 with e | e
    · replace e : some g = some (w.heap.size + 1) := e
      injection e with e; omega
    · replace e : some g = some _ := e
      injection e with e; first | omega | (simp at e; omega)
  have F := FrB.grown G3
  have hz : ¬ some (w.heap.size + 1) = some w.heap.size := fun e => by injection e with e; omega
  have c0 := C0.out.frb F hz
  have c1' := C1.out.frb F hz
  have c2 := C2.out.frb F hz
  obtain ⟨c0, -⟩ := c0; obtain ⟨c1', -⟩ := c1'; obtain ⟨c2, -⟩ := c2
  obtain ⟨⟨y0, f0⟩, ⟨y1, f1⟩, ⟨y2, f2⟩⟩ := G1.at3 hi
  have HB1 := Lib.hid (HB.out.trans G2)
  replace G1 := Lib.hid G1
  replace hg := Lib.hid hg
  clear G2 G3 G4 F hz C0 C1 C2 E0 HR HB
  go_wp2
  go_ret
  refine ⟨_, rfl, G1.out.set3 hi k a b, HB1.out.trans ⟨rfl, rfl, rfl, by simp, fun q hq => ?_⟩⟩
  have hg := hg.out
  rw [Below.heap_setCell _ _ _ _ (by simp only; omega), Below.heap_setCell _ _ _ _ (by simp only; omega), Below.heap_setCell _ _ _ _ (by simp only; omega)]

set_option maxHeartbeats 2000000 in
theorem used6 {w : World} {base c : Nat} {A : Option Addr} {L : List (ByteArray × Int × Int)} (h : OwnE lnR w base (.slice A L.length c) L) (hl : L.length ≤ 100000) (k : ByteArray) :
    Calls Try.prog 20 #[.slice A L.length c, .string k] w fun e w' => e = .returned (.int .i64 (usedV L k)) ∧ w = w' := by
  have H := Lib.hid h
  clear h
  go_enter Try.func20, Try.ntmps20
  go_wp2_with fail
  refine (find6 H.out hl k).mono ?_
  rintro e w1 ⟨rfl, rfl⟩
  cases hf : fidx L k with
  | none =>
    rw [fI_none hf]
    have hu : usedV L k = 0 := by unfold usedV; rw [(fidx_none hf).1]
    replace hu := Lib.hid hu
    clear hf
    go_wp2
    go_ret
    exact ⟨by rw [hu.out]; rfl, rfl⟩
  | some i =>
    rw [fI_some hf]
    obtain ⟨hi, hki, hgi⟩ := fidx_some hf
    obtain ⟨g, c', e, _, hgs, _⟩ := H.out.pos (by omega)
    injection e with e1 e2 e3
    subst e1; subst e3
    obtain ⟨-, -, ⟨hy2, -⟩⟩ := H.out.at3 hi
    have hu : usedV L k = L[i].2.2 := by unfold usedV; rw [hgi]
    rw [← hu] at hy2
    have hi5 : decide ((i : Int) < 0) = false := by simp
    have hl := Lib.hid hl
    clear hu hgi hki hf hgs e2
    go_wp2
    go_ret
    exact ⟨rfl, rfl⟩

set_option maxHeartbeats 2000000 in
theorem left6q {w : World} {base c : Nat} {A : Option Addr} {L : List (ByteArray × Int × Int)} (h : OwnE lnR w base (.slice A L.length c) L) (hl : L.length ≤ 100000) (hgd : Good L) (k : ByteArray) :
    Calls Try.prog 22 #[.slice A L.length c, .string k] w fun e w' => e = .returned (.int .i64 (leftV L k)) ∧ ∃ m, w' = w.drewN m := by
  have H := Lib.hid h
  replace hgd := Lib.hid hgd
  clear h
  go_enter Try.func22, Try.ntmps22
  go_wp2_with fail
  refine (find6 H.out hl k).mono ?_
  rintro e w1 ⟨rfl, rfl⟩
  cases hf : fidx L k with
  | none =>
    rw [fI_none hf]
    have hu : leftV L k = 0 := by unfold leftV; rw [(fidx_none hf).1]
    replace hu := Lib.hid hu
    clear hf
    go_wp2
    go_quiet (fail)
    go_wp2
    go_ret
    exact ⟨by rw [hu.out]; rfl, nq, rfl⟩
  | some i =>
    rw [fI_some hf]
    obtain ⟨hi, hki, hgi⟩ := fidx_some hf
    obtain ⟨g, c', e, _, hgs, _⟩ := H.out.pos (by omega)
    injection e with e1 e2 e3
    subst e1; subst e3
    obtain ⟨-, ⟨hy1, -⟩, ⟨hy2, -⟩⟩ := H.out.at3 hi
    have hg2 := hgd.out L[i] (List.getElem_mem hi)
    have hu : leftV L k = max (L[i].2.1 - L[i].2.2) 0 := by unfold leftV; rw [hgi]
    have hi5 : decide ((i : Int) < 0) = false := by simp
    have hl := Lib.hid hl
    obtain ⟨a, ha⟩ : ∃ a, a = L[i].2.1 := ⟨_, rfl⟩
    obtain ⟨b, hb⟩ : ∃ b, b = L[i].2.2 := ⟨_, rfl⟩
    rw [← ha] at hy1 hu
    rw [← hb] at hy2 hu
    have hgd2 : 0 ≤ a ∧ a < 9223372036854775808 ∧ 0 ≤ b ∧ b < 9223372036854775808 := by rw [ha, hb]; exact hg2
    have hw : wrap64 (a - b) = a - b := by unfold wrap64; omega
    clear hgi hki hf hg2 ha hb hgs
    by_cases hab : 0 ≤ a - b
    · have hu2 : leftV L k = a - b := by rw [hu]; omega
      have d1 : decide (a < b) = false := by simp; omega
      replace hu2 := Lib.hid hu2
      clear hu hgd2
      go_wp2
      go_quiet (fail)
      go_wp2
      go_quiet (fail)
      go_wp2
      go_ret
      exact ⟨by rw [hu2.out]; show Ending.returned (Value.int .i64 (wrap64 (a - b))) = Ending.returned (Value.int .i64 (a - b)); rw [hw], _, World.drewN_drewN _ _ _⟩
    · have hu2 : leftV L k = 0 := by rw [hu]; omega
      have d1 : decide (a < b) = true := by simp; omega
      replace hu2 := Lib.hid hu2
      clear hu hgd2
      go_wp2
      go_quiet (fail)
      go_wp2
      go_ret
      exact ⟨by rw [hu2.out]; first | rfl | (congr 2; omega), nq, rfl⟩

def HitR (w : World) (g i : Nat) (a b : Int) (w' : World) : Prop := w'.cell? ⟨g, i * 3 + 1, none⟩ = some (.int .i64 a) ∧ w'.cell? ⟨g, i * 3 + 2, none⟩ = some (.int .i64 b)

end Go.Proofs.Ytdgcppglpmlgkaa
