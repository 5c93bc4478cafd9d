/- Package chain by what its lists are. -/
import Derived.Test.YtblapbnplflghaaChainP
import Derived.Test.YtblapbnplflghaaChainE
namespace Go.Proofs.Ytblapbnplflghaa
open Go.RowKit
set_option linter.unusedVariables false
set_option linter.unusedSimpArgs false

def ChI (w : World) (p L M n m : Nat) (R : Nat → List Nat) : Prop := ∃ s, ChC w p L M s ∧ s.n = n ∧ s.m = m ∧ s.WF R

theorem ChI.fr {S : Nat → Nat → Prop} {w w' : World} {p L M n m : Nat} {R : Nat → List Nat} (h : ChI w p L M n m R) (hF : Fr S w w') (hp : ∀ o, ¬ S p o) (hL : ∀ o, ¬ S L o) (hM : ∀ o, ¬ S M o) : ChI w' p L M n m R := by
  obtain ⟨s, h1, h2⟩ := h
  exact ⟨s, h1.fr hF hp hL hM, h2⟩
theorem ChI.lt {w : World} {p L M n m : Nat} {R : Nat → List Nat} (h : ChI w p L M n m R) : p < w.heap.size ∧ L < w.heap.size ∧ M < w.heap.size ∧ p ≠ L ∧ p ≠ M := by
  obtain ⟨s, h1, h2⟩ := h
  exact ⟨h1.pl.lt, h1.lL, h1.lM, h1.dpl, h1.dpm⟩
theorem ChI.below {B : Nat} {w w' : World} {p L M n m : Nat} {R : Nat → List Nat} (h : ChI w p L M n m R) (hb : Below B w w') (hB : w.heap.size ≤ B) : ChI w' p L M n m R :=
  h.fr (Fr.of_below (S := fun _ _ => False) hb hB) (fun _ h => h) (fun _ h => h) (fun _ h => h)

def isOn (m : Nat) (R : Nat → List Nat) (k : Nat) : Bool := (List.range m).any fun i => decide (k ∈ R i)
def onAt (m : Nat) (R : Nat → List Nat) (k : Nat) : Nat := ((List.range m).find? fun i => decide (k ∈ R i)).getD 0
def onB (m : Nat) (R : Nat → List Nat) (k : Int) : Bool := decide (0 ≤ k) && isOn m R k.toNat
def onV (m : Nat) (R : Nat → List Nat) (k : Int) : Int := if onB m R k then onAt m R k.toNat else 0
def canPush (n m : Nat) (R : Nat → List Nat) (j k : Int) : Bool := decide (0 ≤ j) && decide (j < m) && (decide (0 ≤ k) && decide (k < n)) && !isOn m R k.toNat
def pushR (n m : Nat) (R : Nat → List Nat) (j k : Int) : Nat → List Nat := if canPush n m R j k then updR R j.toNat (R j.toNat ++ [k.toNat]) else R
def pullR (m : Nat) (R : Nat → List Nat) (k : Int) : Nat → List Nat := if onB m R k then fun i => (R i).erase k.toNat else R
def rowI (R : Nat → List Nat) (j : Int) : List Nat := if 0 ≤ j then R j.toNat else []

theorem isOn_iff {m : Nat} {R : Nat → List Nat} {k : Nat} : isOn m R k = true ↔ ∃ i, i < m ∧ k ∈ R i := by simp [isOn]
theorem Ch.WF.on {s : Ch} {R : Nat → List Nat} (h : s.WF R) {k : Nat} : isOn s.m R k = true ↔ k < s.n ∧ s.lk k 0 ≠ -1 := by
  rw [isOn_iff]
  constructor
  · rintro ⟨i, hi, hk⟩
    have := h.mem i hi k hk
    exact ⟨this.1, by omega⟩
  · rintro ⟨hk, h0⟩
    rcases h.off k hk with h1 | h1
    · exact absurd h1 h0
    · exact h1
theorem Ch.WF.onAt {s : Ch} {R : Nat → List Nat} (h : s.WF R) {i k : Nat} (hi : i < s.m) (hk : k ∈ R i) : onAt s.m R k = i := by
  unfold Go.Proofs.Ytblapbnplflghaa.onAt
  cases hf : (List.range s.m).find? fun i => decide (k ∈ R i) with
  | none =>
    rw [List.find?_eq_none] at hf
    have := hf i (by simpa using hi)
    simp [hk] at this
  | some a =>
    have h1 := List.find?_some hf
    have h2 := List.mem_of_find?_eq_some hf
    simp at h1 h2
    have a1 := (h.mem i hi k hk).2
    have a2 := (h.mem a h2 k h1).2
    simp; omega
theorem Ch.WF.onB_eq {s : Ch} {R : Nat → List Nat} (h : s.WF R) (k : Int) : s.onB k = Go.Proofs.Ytblapbnplflghaa.onB s.m R k := by
  unfold Ch.onB Ch.okK Go.Proofs.Ytblapbnplflghaa.onB
  by_cases k0 : 0 ≤ k
  · obtain ⟨kn, rfl⟩ := Int.eq_ofNat_of_zero_le k0
    simp only [Int.toNat_natCast]
    by_cases ho : isOn s.m R kn = true
    · have := h.on.1 ho
      simp [ho, this.1, this.2]
    · have h2 : ¬ (kn < s.n ∧ s.lk kn 0 ≠ -1) := fun hh => ho (h.on.2 hh)
      simp only [Bool.not_eq_true] at ho
      rw [ho]
      by_cases hk : kn < s.n
      · have : s.lk kn 0 = -1 := by
          apply Classical.byContradiction
          intro hc
          exact h2 ⟨hk, hc⟩
        simp [this]
      · simp [hk]
  · simp [k0]
theorem Ch.WF.onV_eq {s : Ch} {R : Nat → List Nat} (h : s.WF R) (k : Int) : s.onV k = Go.Proofs.Ytblapbnplflghaa.onV s.m R k := by
  unfold Ch.onV Go.Proofs.Ytblapbnplflghaa.onV
  rw [h.onB_eq k]
  by_cases hb : Go.Proofs.Ytblapbnplflghaa.onB s.m R k = true
  · rw [if_pos hb, if_pos hb]
    unfold Go.Proofs.Ytblapbnplflghaa.onB at hb
    simp only [Bool.and_eq_true] at hb
    obtain ⟨i, hi, hk⟩ := isOn_iff.1 hb.2
    rw [h.onAt hi hk, (h.mem i hi _ hk).2]
  · rw [if_neg hb, if_neg hb]

theorem on_i {w : World} {p L M n m : Nat} {R : Nat → List Nat} (h : ChI w p L M n m R) (k : Int) :
    Calls Try.prog 50 #[.pointer (some ⟨p, 0, none⟩), .int .i64 k] w fun e w' => e = .returned (.tuple #[.int .i64 (onV m R k), .bool (onB m R k)]) ∧ w = w' := by
  obtain ⟨s, h1, rfl, rfl, h2⟩ := h
  rw [← h2.onB_eq, ← h2.onV_eq]
  exact on_c h1 k

theorem Ch.WF.lenV {s : Ch} {R : Nat → List Nat} (h : s.WF R) (j : Int) : s.lenV j = (rowI R j).length := by
  unfold Ch.lenV Ch.okL rowI
  by_cases h0 : 0 ≤ j
  · obtain ⟨jn, rfl⟩ := Int.eq_ofNat_of_zero_le h0
    simp only [Int.toNat_natCast]
    rw [if_pos h0]
    by_cases h1 : jn < s.m
    · rw [if_pos (by simp [h1]), h.len jn h1]
    · rw [if_neg (by simp; omega), h.none jn (by omega)]; rfl
  · rw [if_neg (by simp [h0]), if_neg h0]; rfl
theorem len_i {w : World} {p L M n m : Nat} {R : Nat → List Nat} (h : ChI w p L M n m R) (j : Int) :
    Calls Try.prog 46 #[.pointer (some ⟨p, 0, none⟩), .int .i64 j] w fun e w' => e = .returned (.int .i64 (rowI R j).length) ∧ w = w' := by
  obtain ⟨s, h1, rfl, rfl, h2⟩ := h
  rw [← h2.lenV]
  exact len_c h1 j

theorem Ch.WF.firstB {s : Ch} {R : Nat → List Nat} (h : s.WF R) (j : Int) : s.firstB j = decide (rowI R j ≠ []) := by
  unfold Ch.firstB
  rw [h.lenV]
  cases rowI R j <;> simp <;> omega
theorem Ch.WF.firstV {s : Ch} {R : Nat → List Nat} (h : s.WF R) (j : Int) : s.firstV j = hdOr 0 (rowI R j) := by
  unfold Ch.firstV
  rw [h.firstB]
  by_cases hr : rowI R j = []
  · simp [hr, hdOr]
  · rw [if_pos (by simp [hr])]
    unfold rowI at hr ⊢
    by_cases h0 : 0 ≤ j
    · rw [if_pos h0] at hr ⊢
      have hj : j.toNat < s.m := by
        apply Classical.byContradiction
        intro hc
        exact hr (h.none _ (by omega))
      rw [h.hd _ hj]
      revert hr
      cases R j.toNat with
      | nil => intro h; exact absurd rfl h
      | cons => intro _; rfl
    · rw [if_neg h0] at hr; exact absurd rfl hr
theorem first_i {w : World} {p L M n m : Nat} {R : Nat → List Nat} (h : ChI w p L M n m R) (j : Int) :
    Calls Try.prog 43 #[.pointer (some ⟨p, 0, none⟩), .int .i64 j] w fun e w' => e = .returned (.tuple #[.int .i64 (hdOr 0 (rowI R j)), .bool (decide (rowI R j ≠ []))]) ∧ w = w' := by
  obtain ⟨s, h1, rfl, rfl, h2⟩ := h
  rw [← h2.firstV, ← h2.firstB]
  exact first_c h1 j

theorem Ch.WF.seq {s : Ch} {R : Nat → List Nat} (h : s.WF R) : ∀ (l : List Nat) (p : Int), (∀ x ∈ l, x < s.n) → Seg s.lk p l (-1) → s.Seq (hdOr (-1) l) l
  | [], _, _, _ => rfl
  | x :: t, p, hm, hs => ⟨rfl, hm x (by simp), by rw [hs.2.1]; exact h.seq t x (fun y hy => hm y (by simp [hy])) hs.2.2⟩
theorem Ch.WF.row {s : Ch} {R : Nat → List Nat} (h : s.WF R) (j : Int) : s.Row j (rowI R j) := by
  by_cases hr : rowI R j = []
  · exact .inl ⟨by rw [h.firstB]; simp [hr], hr⟩
  · refine .inr ⟨by rw [h.firstB]; simp [hr], hr, ?_⟩
    rw [h.firstV]
    have h0 : 0 ≤ j := by
      apply Classical.byContradiction
      intro hc
      exact hr (by unfold rowI; rw [if_neg hc])
    have e : rowI R j = R j.toNat := by unfold rowI; rw [if_pos h0]
    rw [e] at hr ⊢
    have hj : j.toNat < s.m := by
      apply Classical.byContradiction
      intro hc
      exact hr (h.none _ (by omega))
    have := h.seq (R j.toNat) (-1) (fun x hx => (h.mem _ hj x hx).1) (h.seg _ hj)
    revert this hr
    cases R j.toNat with
    | nil => intro h; exact absurd rfl h
    | cons => intro _ h; exact h
theorem Ch.WF.rowLen {s : Ch} {R : Nat → List Nat} (h : s.WF R) (j : Int) : (rowI R j).length ≤ s.n := by
  unfold rowI
  split
  · by_cases hj : j.toNat < s.m
    · exact h.lenle hj
    · rw [h.none _ (by omega)]; simp
  · simp
theorem push_i {w : World} {p L M n m : Nat} {R : Nat → List Nat} (h : ChI w p L M n m R) (j k : Int) :
    Calls Try.prog 52 #[.pointer (some ⟨p, 0, none⟩), .int .i64 j, .int .i64 k] w fun e w' => e = .returned (.bool (canPush n m R j k)) ∧ ChI w' p L M n m (pushR n m R j k) ∧ Fr (chS L M) w w' := by
  obtain ⟨s, h1, rfl, rfl, h2⟩ := h
  unfold pushR
  by_cases hc : canPush s.n s.m R j k = true
  · rw [hc, if_pos rfl]
    unfold canPush at hc
    simp only [Bool.and_eq_true, decide_eq_true_eq, Bool.not_eq_true'] at hc
    obtain ⟨⟨⟨j0, j1⟩, k0, k1⟩, ho⟩ := hc
    obtain ⟨jn, rfl⟩ := Int.eq_ofNat_of_zero_le j0
    obtain ⟨kn, rfl⟩ := Int.eq_ofNat_of_zero_le k0
    simp only [Int.toNat_natCast] at ho ⊢
    have hj : jn < s.m := by omega
    have hk : kn < s.n := by omega
    have hx : s.lk kn 0 = -1 := by
      apply Classical.byContradiction
      intro hc
      have := h2.on.2 ⟨hk, hc⟩
      rw [ho] at this; cases this
    have hlen := h2.len jn hj
    have hle := h2.lenle hj
    have hb := h1.bn
    by_cases he : R jn = []
    · refine (push_empty h1 jn kn hj hk hx (by rw [h2.lst jn hj, he]; rfl) (by omega)).mono ?_
      rintro e w' ⟨rfl, g1, g2⟩
      refine ⟨rfl, ⟨_, g1, ?_, ?_, h2.push hj hk hx⟩, g2⟩ <;> (unfold Ch.push Ch.push2 Ch.push1; split <;> rfl)
    · obtain ⟨z, hz, e⟩ := lastOr_mem (d := -1) he
      refine (push_behind h1 jn kn z hj hk hx (by rw [h2.lst jn hj, e]) (h2.mem jn hj z hz).1 (by omega)).mono ?_
      rintro e w' ⟨rfl, g1, g2⟩
      refine ⟨rfl, ⟨_, g1, ?_, ?_, h2.push hj hk hx⟩, g2⟩ <;> (unfold Ch.push Ch.push2 Ch.push1; split <;> rfl)
  · simp only [Bool.not_eq_true] at hc
    rw [hc, if_neg (by simp)]
    refine (push_no h1 j k ?_).mono ?_
    · unfold canPush at hc
      unfold Ch.pushB Ch.okL Ch.okK
      by_cases j0 : 0 ≤ j
      · by_cases j1 : j < s.m
        · by_cases k0 : 0 ≤ k
          · by_cases k1 : k < s.n
            · simp [j0, j1, k0, k1] at hc ⊢
              obtain ⟨kn, rfl⟩ := Int.eq_ofNat_of_zero_le k0
              simp only [Int.toNat_natCast] at hc ⊢
              exact (h2.on.1 hc).2
            · simp [k1]
          · simp [k0]
        · simp [j1]
      · simp [j0]
    · rintro e w' ⟨rfl, rfl⟩
      exact ⟨rfl, ⟨s, h1, rfl, rfl, h2⟩, Fr.refl _ _⟩

theorem pull_i {w : World} {p L M n m : Nat} {R : Nat → List Nat} (h : ChI w p L M n m R) (k : Int) :
    Calls Try.prog 51 #[.pointer (some ⟨p, 0, none⟩), .int .i64 k] w fun e w' => e = .returned (.bool (onB m R k)) ∧ ChI w' p L M n m (pullR m R k) ∧ Fr (chS L M) w w' := by
  obtain ⟨s, h1, rfl, rfl, h2⟩ := h
  unfold pullR
  by_cases hc : onB s.m R k = true
  · rw [hc, if_pos rfl]
    unfold onB at hc
    simp only [Bool.and_eq_true, decide_eq_true_eq] at hc
    obtain ⟨k0, ho⟩ := hc
    obtain ⟨kn, rfl⟩ := Int.eq_ofNat_of_zero_le k0
    simp only [Int.toNat_natCast] at ho ⊢
    obtain ⟨jn, hj, hm⟩ := isOn_iff.1 ho
    have hk := (h2.mem jn hj kn hm).1
    have hx := (h2.mem jn hj kn hm).2
    have hlen := h2.len jn hj
    have hle := h2.lenle hj
    have hb := h1.bn
    have hpos : 0 < (R jn).length := List.length_pos_of_mem hm
    have hR : (fun i => (R i).erase kn) = updR R jn ((R jn).erase kn) := by
      funext i
      by_cases hi : i = jn
      · subst hi; rw [updR_same]
      · rw [updR_other hi]
        apply List.erase_of_not_mem
        intro hmi
        by_cases him : i < s.m
        · have := (h2.mem i him kn hmi).2
          omega
        · rw [h2.none i (by omega)] at hmi; cases hmi
    rw [hR]
    have hfin : ∀ w' : World, ∀ e : Ending, (e = .returned (.bool true) ∧ ChC w' p L M (s.pull jn kn) ∧ Fr (chS L M) w w') → (e = .returned (.bool true) ∧ ChI w' p L M s.n s.m (updR R jn ((R jn).erase kn)) ∧ Fr (chS L M) w w') := by
      rintro w' e ⟨rfl, g1, g2⟩
      refine ⟨rfl, ⟨_, g1, ?_, ?_, h2.pull hj hk hm⟩, g2⟩ <;> (unfold Ch.pull Ch.pull2 Ch.pull1; split <;> split <;> rfl)
    obtain ⟨a, b, hab⟩ := List.append_of_mem hm
    have hseg := h2.seg jn hj
    rw [hab, seg_append] at hseg
    obtain ⟨sa, hP, hN, sb⟩ := hseg
    have hnd := h2.nodup jn hj
    rw [hab] at hnd
    obtain ⟨na, nkb, hdis⟩ := List.nodup_append.1 hnd
    obtain ⟨hkb, nb⟩ := List.nodup_cons.1 nkb
    have mA : ∀ x ∈ a, x < s.n ∧ x ≠ kn := fun x hx => ⟨(h2.mem jn hj x (by rw [hab]; simp [hx])).1, fun e => hdis x hx kn (by simp) e⟩
    have mB : ∀ x ∈ b, x < s.n ∧ x ≠ kn := fun x hx => ⟨(h2.mem jn hj x (by rw [hab]; simp [hx])).1, fun e => hkb (e ▸ hx)⟩
    by_cases ha : a = []
    · have hp1 : s.lk kn 1 = -1 := by rw [hP, ha]; rfl
      cases b with
      | nil => exact (pull_nn h1 jn kn hj hk hx hp1 hN (by omega)).mono fun e w' g => hfin w' e g
      | cons y t => exact (pull_nq h1 jn kn y hj hk hx hp1 hN (mB y (by simp)).1 (mB y (by simp)).2 (by omega)).mono fun e w' g => hfin w' e g
    · obtain ⟨z, hz, e⟩ := lastOr_mem (d := -1) ha
      have hp1 : s.lk kn 1 = z := by rw [hP, e]
      cases b with
      | nil => exact (pull_qn h1 jn kn z hj hk hx hp1 hN (mA z hz).1 (mA z hz).2 (by omega)).mono fun e w' g => hfin w' e g
      | cons y t => exact (pull_qq h1 jn kn z y hj hk hx hp1 hN (mA z hz).1 (mA z hz).2 (mB y (by simp)).1 (mB y (by simp)).2 (by omega)).mono fun e w' g => hfin w' e g
  · simp only [Bool.not_eq_true] at hc
    rw [hc, if_neg (by simp)]
    refine (pull_no h1 k (by rw [h2.onB_eq]; exact hc)).mono ?_
    rintro e w' ⟨rfl, rfl⟩
    exact ⟨rfl, ⟨s, h1, rfl, rfl, h2⟩, Fr.refl _ _⟩

theorem fresh_wf (n m : Nat) : (Ch.fresh n m).WF (fun _ => []) :=
  ⟨fun _ _ => trivial, fun _ _ => rfl, fun _ _ => rfl, fun _ _ => rfl, fun _ _ => List.nodup_nil, (fun _ _ _ h => by cases h), fun _ _ => Or.inl rfl, fun _ _ => rfl⟩
theorem new_i (w : World) (a b : Int) (n m : Nat) (hn : capI a = n) (hm : capI b = m) :
    Calls Try.prog 24 #[.int .i64 a, .int .i64 b] w fun e w' => ∃ p L M, e = .returned (.pointer (some ⟨p, 0, none⟩)) ∧ ChI w' p L M n m (fun _ => []) ∧ w.heap.size ≤ p ∧ w.heap.size ≤ L ∧ w.heap.size ≤ M ∧ Below w.heap.size w w' := by
  refine (new_c w a b n m hn hm).mono ?_
  rintro e w' ⟨p, L, M, rfl, h1, h2⟩
  exact ⟨p, L, M, rfl, ⟨_, h1, rfl, rfl, fresh_wf n m⟩, h2⟩
end Go.Proofs.Ytblapbnplflghaa
