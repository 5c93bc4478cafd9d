/- SplitAll. -/
import Derived.Test.YtamnibfaoikdbaaKe
import Derived.Test.YtamnibfaoikdbaaMapII
import Derived.Maps.RangeWalk
namespace Go.Proofs.Ytamnibfaoikdbaa
open Go.RowKit Go.Maps
set_option linter.unusedVariables false
set_option linter.unusedSimpArgs false
set_option maxRecDepth 100000

def isT (e : En) : Bool := e.kind == 0
def isW (x : Int) (e : En) : Bool := !(e.kind == 0) && (e.who == x)
/-- Entries that are no ticks, of which the tenant was met. -/
def metN (left : Lit → Bool) (xs : List En) : Nat := (xs.filter (fun e => !(e.kind == 0) && !left (.int .i64 e.who))).length
theorem sees_len (x : Int) : ∀ (xs : List En), (xs.filter (seesB x)).length = (xs.filter isT).length + (xs.filter (isW x)).length
  | [] => rfl
  | e :: t => by
    have ih := sees_len x t
    by_cases h0 : e.kind = 0
    · rw [List.filter_cons_of_pos (by simp [seesB, h0]), List.filter_cons_of_pos (by simp [isT, h0]), List.filter_cons_of_neg (by simp [isW, h0]), List.length_cons, List.length_cons, ih]; omega
    · by_cases h1 : e.who = x
      · rw [List.filter_cons_of_pos (by simp [seesB, h1]), List.filter_cons_of_neg (by simp [isT, h0]), List.filter_cons_of_pos (by simp [isW, h0, h1]), List.length_cons, List.length_cons, ih]; omega
      · rw [List.filter_cons_of_neg (by simp [seesB, h0, h1]), List.filter_cons_of_neg (by simp [isT, h0]), List.filter_cons_of_neg (by simp [isW, h0, h1]), ih]
theorem both_len (x : Int) : ∀ (xs : List En), (xs.filter (seesB x)).length + (xs.filter (blindB x)).length = xs.length
  | [] => rfl
  | e :: t => by
    have ih := both_len x t
    cases hs : seesB x e
    · rw [List.filter_cons_of_neg (by simp [hs]), List.filter_cons_of_pos (by simp [blindB, hs]), List.length_cons, List.length_cons]; omega
    · rw [List.filter_cons_of_pos hs, List.filter_cons_of_neg (by simp [blindB, hs]), List.length_cons, List.length_cons]; omega
theorem sees_blind (x : Int) (xs : List En) : (xs.filter (blindB x)).filter (seesB x) = [] := by
  rw [List.filter_eq_nil_iff]
  intro e he
  have := (List.mem_filter.1 he).2
  simp [blindB] at this
  simp [this]
theorem met_step (left : Lit → Bool) (x : Int) (hl : left (.int .i64 x) = true) : ∀ (xs : List En), metN (fun z => left z && !z.sameKey (.int .i64 x)) xs = metN left xs + (xs.filter (isW x)).length
  | [] => rfl
  | e :: t => by
    have ih := met_step left x hl t
    unfold metN at *
    by_cases h0 : e.kind = 0
    · rw [List.filter_cons_of_neg (by simp [h0]), List.filter_cons_of_neg (by simp [h0]), List.filter_cons_of_neg (by simp [isW, h0]), ih]
    · by_cases h1 : e.who = x
      · subst h1
        have hsk : (Lit.int .i64 e.who).sameKey (.int .i64 e.who) = true := WideAt.sameKey_self trivial
        rw [List.filter_cons_of_pos (by simp [h0, hsk]), List.filter_cons_of_neg (by simp [h0, hl]), List.filter_cons_of_pos (by simp [isW, h0]), List.length_cons, List.length_cons, ih]; omega
      · have hsk : (Lit.int .i64 e.who).sameKey (.int .i64 x) = false := sameKey_ne (fun e2 => h1 (by injection e2))
        cases hle : left (.int .i64 e.who)
        · rw [List.filter_cons_of_pos (by simp [h0, hle]), List.filter_cons_of_pos (by simp [h0, hle]), List.filter_cons_of_neg (by simp [isW, h0, h1]), List.length_cons, List.length_cons, ih]; omega
        · rw [List.filter_cons_of_neg (by simp [h0, hle, hsk]), List.filter_cons_of_neg (by simp [h0, hle]), List.filter_cons_of_neg (by simp [isW, h0, h1]), ih]
theorem met_zero (left : Lit → Bool) (xs : List En) (h : ∀ e ∈ xs, e.kind ≠ 0 → left (.int .i64 e.who) = true) : metN left xs = 0 := by
  unfold metN
  rw [List.length_eq_zero_iff, List.filter_eq_nil_iff]
  intro e he hh
  simp at hh
  rw [h e he hh.1] at hh
  exact absurd hh.2 (by simp)
theorem met_all (left : Lit → Bool) (h : ∀ z, left z = false) (xs : List En) : metN left xs + (xs.filter isT).length = xs.length := by
  unfold metN
  induction xs with
  | nil => rfl
  | cons e t ih =>
    by_cases h0 : e.kind = 0
    · rw [List.filter_cons_of_neg (by simp [h0]), List.filter_cons_of_pos (by simp [isT, h0]), List.length_cons, List.length_cons]; omega
    · rw [List.filter_cons_of_pos (by simp [h0, h]), List.filter_cons_of_neg (by simp [isT, h0]), List.length_cons, List.length_cons]; omega
theorem met_le (left : Lit → Bool) (xs : List En) : metN left xs ≤ xs.length := List.length_filter_le _ _
theorem sees256 {xs : List En} (h : ∀ e ∈ xs, rightE e = true) : (xs.filter (isW 256)).length = 0 := by
  rw [List.length_eq_zero_iff, List.filter_eq_nil_iff]
  intro e he hw
  have hr := h e he
  simp [isW] at hw
  unfold rightE at hr
  rw [if_neg hw.1] at hr
  split at hr
  · simp only [Bool.and_eq_true, decide_eq_true_eq] at hr; omega
  · simp only [Bool.and_eq_true, decide_eq_true_eq] at hr; omega
theorem right_who {e : En} (h : rightE e = true) : 0 ≤ e.who ∧ e.who < 256 := by
  unfold rightE at h
  split at h
  · simp only [Bool.and_eq_true, beq_iff_eq] at h; omega
  · split at h
    · simp only [Bool.and_eq_true, decide_eq_true_eq] at h; omega
    · simp only [Bool.and_eq_true, decide_eq_true_eq] at h; omega
theorem cntW_snoc (x : Int) (l : List En) (e : En) : ((l ++ [e]).filter (isW x)).length = (l.filter (isW x)).length + (if isW x e = true then 1 else 0) := by
  rw [List.filter_append, List.length_append]
  congr 1
  by_cases h : isW x e = true
  · rw [List.filter_cons_of_pos h, if_pos h]; rfl
  · rw [List.filter_cons_of_neg h, if_neg h]; rfl
theorem cntT_snoc (l : List En) (e : En) : ((l ++ [e]).filter isT).length = (l.filter isT).length + (if e.kind = 0 then 1 else 0) := by
  rw [List.filter_append, List.length_append]
  congr 1
  by_cases h : e.kind = 0
  · rw [List.filter_cons_of_pos (by simp [isT, h]), if_pos h]; rfl
  · rw [List.filter_cons_of_neg (by simp [isT, h]), if_neg h]; rfl

theorem wf_small {x : Int} (h : -1000000 ≤ x ∧ x ≤ 1000000) : (Lit.int .i64 x).wf = true := by
  simp [Lit.wf, IntKind.min, IntKind.max, IntKind.bits, IntKind.signed]; omega
theorem wrap_len {n : Nat} (h : n ≤ 60) : wrap64 (n : Int) = (n : Int) := by unfold wrap64; omega
theorem IsM.more {w : World} {b n : Nat} {f : Int → Int} (h : IsM w b n f) : IsM w b (n + 1) f := by
  obtain ⟨D, h1, h2⟩ := h
  exact ⟨D, h1.mono (by omega), h2⟩
set_option maxHeartbeats 8000000 in
theorem all_walk (A : Option Addr) (c : Nat) (xs : List En) (w : World) (hr : RowAt En.cells 9 w A xs) (hz : xs.length * 72 ≤ 140737488351232) :
    Calls Try.prog 9 #[.slice A xs.length c] w fun r w' => r = .returned (.bool true) ∧ Below w.heap.size w w' := by
  have HR := Lib.hid hr
  have HRw := Lib.hid hr
  have hl : Hid (xs.length ≤ 10000000000000) := Lib.hid (by omega)
  clear hr hz
  go_enter Try.func9, Try.ntmps9
  go_wp2_with fail
  refine (alive18_c w).mono ?_
  rintro r w1 ⟨rfl, B1⟩
  replace HR := Lib.hid (HR.out.below B1)
  replace B1 := Lib.hid B1
  go_wp2_with fail
  refine (right18_c HR.out hl.out).mono ?_
  rintro r w2 ⟨rfl, F2⟩
  replace HR := Lib.hid (HR.out.below F2)
  have B2 := Lib.hid (B1.out.trans (F2.mono B1.out.size))
  clear F2
  cases hR : (decide (xs.length ≤ 60) && xs.all rightE)
  · go_wp2
    go_ret
    exact ⟨rfl, B2.out⟩
  · have h60 : xs.length ≤ 60 := by simp at hR; exact hR.1
    have hall : ∀ e ∈ xs, rightE e = true := by simp at hR; exact hR.2
    have h601 : Hid (xs.length ≤ 100000) := Lib.hid (by omega)
    replace h60 := Lib.hid h60; replace hR := Lib.hid hR; replace hall := Lib.hid hall
    have M0 := Lib.hid (IsM.made w2)
    have HB0 := Lib.hid (Below.alloc B2.out B2.out.size (.map #[] 0))
    have HR0 := Lib.hid (HR.out.below (Below.alloc (Below.refl w2.heap.size w2) (Nat.le_refl _) (.map #[] 0)))
    have hge := Lib.hid (show w.heap.size ≤ w2.heap.size from B2.out.size)
    clear HR B1 B2
    have hmm := @run_makeMap Try.prog
    go_wp2_with fail
    clear hmm
    generalize w2.alloc (.map #[] 0) = W at *
    generalize w2.heap.size = S at *
    go_loopw [4, 20] (fun tt ii wr => ∃ (k : Nat) (f : Int → Int), ii = .int .i64 k ∧ tt = .int .i64 (((xs.take k).filter isT).length : Nat) ∧ Hid (IsM wr S k f) ∧ Hid (∀ x, f x = (((xs.take k).filter (isW x)).length : Nat)) ∧ Hid (k ≤ xs.length) ∧ Hid (Below w.heap.size w wr)) (fun _ ii _ => xs.length - (intOf ii).toNat)
    case atStart => exact ⟨0, _, rfl, rfl, M0, Lib.hid (fun x => rfl), Lib.hid (Nat.zero_le _), HB0⟩
    case round =>
      clear M0 HB0 HR0
      obtain ⟨k, f, rfl, rfl, M, hf, hk, HB⟩ := hrel
      have HRr := Lib.hid (HRw.out.below HB.out)
      by_cases hlt : k < xs.length
      · have hk60 : k < 60 := by have := h60.out; omega
        obtain ⟨b, off, rfl, hbl, c0, c1, c2, c3, c4, c5, c6, c7, c8⟩ := HRr.out.en hlt
        have hT := cntT_snoc (xs.take k) xs[k]
        rw [← take_snoc hlt] at hT
        have hWs := fun x => cntW_snoc x (xs.take k) xs[k]
        simp only [← take_snoc hlt] at hWs
        have hri := hall.out xs[k] (List.getElem_mem hlt)
        obtain ⟨e, he⟩ : ∃ e, e = xs[k] := ⟨_, rfl⟩
        rw [← he] at c0 c1 c2 c3 c4 c5 c6 c7 c8 hT hWs hri
        have hbt : ((((xs.take k).filter isT).length : Nat) : Int) ≤ 60 := by
          have h1 := List.length_filter_le isT (xs.take k)
          rw [List.length_take] at h1; omega
        have hw0 := right_who hri
        replace he := Lib.hid he; replace hT := Lib.hid hT; replace hWs := Lib.hid hWs; replace hri := Lib.hid hri
        clear hbl
        by_cases k0 : e.kind = 0
        · have e1 : (e.kind == 0) = true := beq_iff_eq.mpr k0
          have hT2 := hT.out
          rw [if_pos k0] at hT2
          have hW2 : ∀ x, (((xs.take (k + 1)).filter (isW x)).length : Nat) = ((xs.take k).filter (isW x)).length := fun x => by
            rw [hWs.out x, if_neg (by simp [isW, k0])]; rfl
          generalize ((xs.take k).filter isT).length = tn at *
          replace k0 := Lib.hid k0; replace hT2 := Lib.hid hT2; replace hW2 := Lib.hid hW2
          go_wp2
          exact ⟨⟨k + 1, f, by go_num, by rw [hT2.out]; go_num, Lib.hid ((IsM.more M.out).alloc _), Lib.hid (fun x => by rw [hf.out x, hW2.out x]), Lib.hid (by omega), Lib.hid (Below.alloc HB.out HB.out.size _)⟩, by simp [intOf]; omega⟩
        · have e1 : (e.kind == 0) = false := beq_eq_false_iff_ne.mpr k0
          have hT2 := hT.out
          rw [if_neg k0, Nat.add_zero] at hT2
          have hW2 : ∀ x, (((xs.take (k + 1)).filter (isW x)).length : Nat) = ((xs.take k).filter (isW x)).length + (if e.who = x then 1 else 0) := fun x => by
            rw [hWs.out x]
            congr 1
            by_cases h : e.who = x
            · rw [if_pos (by simp [isW, k0, h]), if_pos h]
            · rw [if_neg (by simp [isW, h]), if_neg h]
          have hfe := hf.out e.who
          have hfb : 0 ≤ f e.who ∧ f e.who ≤ 60 := by
            rw [hfe]
            have h1 := List.length_filter_le (isW e.who) (xs.take k)
            rw [List.length_take] at h1; omega
          have hwk := Lib.hid (show (Lit.int .i64 e.who).wf = true from wf_small (by omega))
          have hwv := Lib.hid (show (Lit.int .i64 (f e.who + 1)).wf = true from wf_small (by omega))
          replace k0 := Lib.hid k0; replace hT2 := Lib.hid hT2; replace hW2 := Lib.hid hW2; replace hfe := Lib.hid hfe
          have Ma := Lib.hid (M.out.alloc (.cells #[.int .i64 e.kind, .int .i64 e.who, .int .i64 e.n, .int .i64 e.call_Op, .int .u64 e.call_A, .int .u64 e.call_B, .int .u64 e.call_C, .int .i64 e.dev, .int .i64 e.mask] 47))
          have HBa := Lib.hid (Below.alloc HB.out HB.out.size (.cells #[.int .i64 e.kind, .int .i64 e.who, .int .i64 e.n, .int .i64 e.call_Op, .int .u64 e.call_A, .int .u64 e.call_B, .int .u64 e.call_C, .int .i64 e.dev, .int .i64 e.mask] 47))
          have HRa := Lib.hid (rowAt_alloc (E := enE) HRr.out (.cells #[.int .i64 e.kind, .int .i64 e.who, .int .i64 e.n, .int .i64 e.call_Op, .int .u64 e.call_A, .int .u64 e.call_B, .int .u64 e.call_C, .int .i64 e.dev, .int .i64 e.mask] 47))
          go_wp2_with (first | (at_lookup; refine look_m rfl rfl Try.underlying58 rfl Ma.out rfl hwk.out ?_) | (at_mapUpdate; refine upd_m rfl rfl Try.underlying58 rfl Ma.out (by omega) rfl hwk.out rfl hwv.out ?_))
          intro w6 P1 P2
          have hg6 := Lib.hid (HBa.out.trans (⟨P2.1, P2.2, P2.3, P2.4, fun bb hbb => P2.5 bb (by have := HBa.out.size; omega) (fun e => by injection e with e; have := hge.out; omega)⟩))
          replace P1 := Lib.hid P1
          clear P2 HBa Ma HRa HRr HB M
          go_wp2
          refine ⟨⟨k + 1, _, by go_num, by rw [hT2.out]; first | done | rfl, P1, Lib.hid (fun x => ?_), Lib.hid (by omega), hg6⟩, by simp [intOf]; omega⟩
          unfold updF
          rw [hW2.out x]
          by_cases hx : x = e.who
          · rw [if_pos hx, if_pos hx.symm, hfe.out, hx]; omega
          · rw [if_neg hx, if_neg (fun h => hx h.symm), hf.out x]; omega
      · have he : xs.take k = xs := List.take_of_length_le (by omega)
        rw [he] at hf
        have hTt : ((((xs.take k).filter isT).length : Nat) : Int) = ((xs.filter isT).length : Nat) := by rw [he]
        clear he
        obtain ⟨tn, htn⟩ : ∃ tn, tn = (xs.filter isT).length := ⟨_, rfl⟩
        rw [← htn] at hTt
        rw [hTt]
        clear hTt
        have htl : tn ≤ 60 := by rw [htn]; exact Nat.le_trans (List.length_filter_le _ _) h60.out
        replace htn := Lib.hid htn
        obtain ⟨D, hD1, hD2⟩ := M.out
        have hst : metN (Maps.has D) xs = 0 := met_zero _ xs (fun e he hk0 => by
          cases hh : Maps.has D (.int .i64 e.who) with
          | true => rfl
          | false =>
            have h1 := atKey_of_not_has hh (.lit (.int .i64 0))
            rw [hD2] at h1
            injection h1 with h1
            injection h1 with _ h1
            rw [hf.out] at h1
            have h2 : 0 < (xs.filter (isW e.who)).length := List.length_pos_of_mem (List.mem_filter.2 ⟨he, by simp [isW, hk0]⟩)
            omega)
        have hD1' := Lib.hid hD1; have hD2' := Lib.hid hD2; replace hst := Lib.hid hst
        have hSlt := Lib.hid hD1.lt
        clear hD1 hD2 M hk
        go_wp2_with (first
          | (at_range; refine wpList_range_own _ rfl _ 58 rfl 3 3 mapLaw Try.underlying58 _ S k D rfl hD1'.out ?_; intro w7 hrg0 hg0 hs0))
        go_frame
        have hB7 : Hid (Below w.heap.size w w7) := Lib.hid (HB.out.trans ⟨hg0.1, hg0.2, hg0.3, hg0.4, fun bb hbb => hg0.5 bb (by have := HB.out.size; omega) (by simp)⟩)
        have hSr := Lib.hid (show S < wr.heap.size from hSlt.out)
        have hrw := Lib.hid (show w.heap.size ≤ wr.heap.size from HB.out.size)
        have hst2 : (0 : Int) = ((metN (Maps.has D) xs : Nat) : Int) := by rw [hst.out]; rfl
        replace hrg0 := Lib.hid hrg0; replace hst2 := Lib.hid hst2
        clear hg0 hs0 HB HRr hD1' hSlt hlt
        generalize wr.heap.size = rr at *
        go_loopw [3] (fun nn wr2 => ∃ (left : Lit → Bool) (cnt : Nat), nn = .int .i64 ((metN left xs : Nat) : Int) ∧ Hid (wr2.ranges Try.prog 3 (plainElem Try.prog 3) S rr k D left cnt) ∧ Hid (Below w.heap.size w wr2)) (fun _ wr2 => wr2.rangeLeft S rr)
        case atStart => exact ⟨_, _, by rw [← hst2.out], hrg0, hB7⟩
        case round =>
          clear hrg0 hB7 hst2
          obtain ⟨left, cnt, rfl, hrg, hB8⟩ := hrel
          have hml : metN left xs ≤ 60 := Nat.le_trans (met_le left xs) h60.out
          go_wp2_with (first
            | (at_next; refine wpList_next_ranges_ii _ rfl _ rfl 3 3 .i64 .i64 mapLaw Try.underlying3 Try.underlying3 S rr k _ _ _ rfl hrg.out ?_ ?_))
          · intro _ hl0
            have hma := met_all left hl0 xs
            rw [← htn.out] at hma
            have HR9 := Lib.hid (HRw.out.below hB8.out)
            have hsum : wrap64 ((metN left xs : Nat) + (tn : Nat) : Int) = (xs.length : Int) := by unfold wrap64; omega
            have hp := sees_len 256 xs
            rw [sees256 hall.out, ← htn.out, Nat.add_zero] at hp
            have ho := both_len 256 xs
            rw [hp] at ho
            have ho2 : (xs.filter (blindB 256)).length = metN left xs := by omega
            have hma2 : ((metN left xs : Nat) : Int) + (tn : Int) = (xs.length : Int) := by omega
            replace hp := Lib.hid hp; replace ho2 := Lib.hid ho2; replace hma := Lib.hid hma
            clear hl0 ho
            go_wp2_with fail
            refine (project_c HR9.out h601.out 256).mono ?_
            rintro r w9 ⟨v9, rfl, P9, F9⟩
            obtain ⟨A9, k9, rfl, _⟩ := P9.slice
            rw [hp.out]
            have HR10 := Lib.hid (HR9.out.below F9)
            have hB10 := Lib.hid (hB8.out.trans (F9.mono hB8.out.size))
            clear P9 F9 HR9 hB8
            go_wp2_with fail
            refine (others_c HR10.out h601.out 256).mono ?_
            rintro r w10 ⟨v10, rfl, P10, F10⟩
            obtain ⟨A10, k10, rfl, _⟩ := P10.slice
            rw [ho2.out]
            have hB11 := Lib.hid (hB10.out.trans (F10.mono hB10.out.size))
            clear P10 F10 HR10 hB10
            go_wp2
            go_ret
            exact ⟨by simp, hB11.out⟩
          · intro x cv w8 cnt1 hwx hwc hlx hat hrg1 hlt1 hg1 hs1 hen
            have hcv : cv = (((xs.filter (isW x)).length : Nat) : Int) := by
              have h1 := hat (.lit (.int .i64 0))
              rw [hD2'.out x, hf.out x] at h1
              injection h1 with h1
              injection h1 with _ h1
              exact h1.symm
            have hms := met_step left x hlx xs
            have hp := sees_len x xs
            rw [← htn.out] at hp
            have ho := both_len x xs
            have hso := sees_blind x xs
            have hB9 := Lib.hid (hB8.out.trans ⟨hg1.1, hg1.2, hg1.3, hg1.4, fun bb hbb => hg1.5 bb (by have := hB8.out.size; omega) (fun e => by injection e with e; have := hrw.out; omega)⟩)
            have HR9 := Lib.hid (HRw.out.below hB9.out)
            have hwl : (xs.filter (isW x)).length ≤ 60 := Nat.le_trans (List.length_filter_le _ _) h60.out
            generalize hwn : (xs.filter (isW x)).length = wn at *
            subst hcv
            obtain ⟨pw, hpw⟩ : ∃ pw, pw = tn + wn := ⟨_, rfl⟩
            rw [← hpw] at hp
            have hmeas : w8.rangeLeft S rr < wr.rangeLeft S rr := by rw [hrg1.left_eq, hrg.out.left_eq]; exact hlt1
            have hrg1_eq := Lib.hid hrg1.left_eq
            have hms61 : metN left xs + wn ≤ 60 := by rw [← hms]; exact Nat.le_trans (met_le _ xs) h60.out
            generalize hmn : metN left xs = mn at *
            replace hmn := Lib.hid hmn
            obtain ⟨mw, hmw⟩ : ∃ mw, mw = mn + wn := ⟨_, rfl⟩
            have hw9 : wrap64 ((mn : Int) + (wn : Int)) = (mw : Int) := by rw [hmw]; unfold wrap64; omega
            rw [← hmw] at hms
            replace hmw := Lib.hid hmw
            replace hms := Lib.hid hms; replace hp := Lib.hid hp; replace ho := Lib.hid ho; replace hso := Lib.hid hso; replace hrg1 := Lib.hid hrg1; replace hmeas := Lib.hid hmeas
            clear hwn hat hlx hg1 hs1 hB8 hrg hlt1
            go_wp2_with fail
            refine (project_c HR9.out h601.out x).mono ?_
            rintro r w9 ⟨v9, rfl, P9, F9⟩
            obtain ⟨A9, k9, rfl, _⟩ := P9.slice
            rw [hp.out]
            have HR10 := Lib.hid (HR9.out.below F9)
            have hB10 := Lib.hid (hB9.out.trans (F9.mono hB9.out.size))
            obtain ⟨ob, hob⟩ : ∃ ob, ob = xs.filter (blindB x) := ⟨_, rfl⟩
            have hol : pw + ob.length = xs.length := by rw [hob, ← hp.out]; exact ho.out
            have hso2 : ob.filter (seesB x) = [] := by rw [hob]; exact hso.out
            have hol2 : ob.length ≤ 100000 := by have := h60.out; omega
            have hR8 := Lib.hid (World.ranges.kept hrg1.out (show w8.grownBy w9 none from ⟨F9.os, F9.tape, F9.output, F9.size, fun bb hbb _ => F9.block bb hbb⟩) (by simp) (by simp))
            have hw1 : wrap64 ((tn : Int) + (wn : Int)) = (pw : Int) := by rw [hpw]; unfold wrap64; omega
            have he9 : (pw : Int) + (ob.length : Int) = (xs.length : Int) := by rw [← hol]; exact (Int.natCast_add pw ob.length).symm
            have hw2 : wrap64 ((pw : Int) + (ob.length : Int)) = (xs.length : Int) := by rw [he9]; exact wrap_len h60.out
            clear he9
            replace hpw := Lib.hid hpw; skip
            clear htl hwl hms61 hml hwc hwx
            replace hob := Lib.hid hob; replace hol := Lib.hid hol; replace hso2 := Lib.hid hso2; replace hol2 := Lib.hid hol2
            clear P9 F9 HR9 hB9 hrg1
            go_wp2_with fail
            refine (others_c HR10.out h601.out x).mono ?_
            rintro r w10 ⟨v10, rfl, P10, F10⟩
            rw [← hob.out] at P10
            obtain ⟨A10, k10, rfl, _⟩ := P10.slice
            have RO := Lib.hid P10.row.1
            have hB11 := Lib.hid (hB10.out.trans (F10.mono hB10.out.size))
            have hR9 := Lib.hid (World.ranges.kept hR8.out (show w9.grownBy w10 none from ⟨F10.os, F10.tape, F10.output, F10.size, fun bb hbb _ => F10.block bb hbb⟩) (by simp) (by simp))
            clear P10 F10 hB10 hR8 HR10
            go_wp2_with fail
            refine (project_c RO.out hol2.out x).mono ?_
            rintro r w11 ⟨v11, rfl, P11, F11⟩
            rw [hso2.out] at P11
            obtain ⟨A11, k11, rfl, _⟩ := P11.slice
            have hB12 := Lib.hid (hB11.out.trans (F11.mono hB11.out.size))
            have hR10 := Lib.hid (World.ranges.kept hR9.out (show w10.grownBy w11 none from ⟨F11.os, F11.tape, F11.output, F11.size, fun bb hbb _ => F11.block bb hbb⟩) (by simp) (by simp))
            have hme2 : Hid (w11.rangeLeft S rr < wr.rangeLeft S rr) := Lib.hid (by rw [hR10.out.left_eq]; have := hmeas.out; rw [hrg1_eq.out] at this; exact this)
            clear P11 F11 hB11 hR9 RO
            go_wp2
            first
              | exact ⟨⟨_, cnt1, by rw [hms.out]; first | done | exact congrArg (Value.int .i64) hw9, hR10, hB12⟩, hme2.out⟩
              | (go_roundw
                 case rel => exact ⟨_, cnt1, by rw [hms.out]; first | done | exact congrArg (Value.int .i64) hw9, hR10, hB12⟩
                 case measure => exact hme2.out)
end Go.Proofs.Ytamnibfaoikdbaa
