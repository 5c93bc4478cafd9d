/- Plain: what the lists are, row by row. -/
import Derived.Test.YtblapbnplflghaaChain
import Derived.Test.YtblapbnplflghaaChainC
namespace Go.Proofs.Ytblapbnplflghaa
open Go.RowKit
set_option linter.unusedVariables false
set_option linter.unusedSimpArgs false

def hdOr (d : Int) : List Nat → Int
  | [] => d
  | x :: _ => x
def lastOr (d : Int) : List Nat → Int
  | [] => d
  | x :: t => lastOr x t
/-- Row a hangs together: ahead of it stands p, behind it q. -/
def Seg (lk : Nat → Nat → Int) : Int → List Nat → Int → Prop
  | _, [], _ => True
  | p, x :: t, q => lk x 1 = p ∧ lk x 2 = hdOr q t ∧ Seg lk x t q

theorem hdOr_append (d : Int) (a b : List Nat) : hdOr d (a ++ b) = hdOr (hdOr d b) a := by cases a <;> rfl
theorem lastOr_append (d : Int) (a b : List Nat) : lastOr d (a ++ b) = lastOr (lastOr d a) b := by
  induction a generalizing d with
  | nil => rfl
  | cons x t ih => exact ih x
theorem seg_append {lk : Nat → Nat → Int} {p q : Int} {a b : List Nat} : Seg lk p (a ++ b) q ↔ Seg lk p a (hdOr q b) ∧ Seg lk (lastOr p a) b q := by
  induction a generalizing p with
  | nil => simp [Seg, lastOr]
  | cons x t ih => simp [Seg, lastOr, ih, hdOr_append, and_assoc]
theorem seg_congr {lk lk' : Nat → Nat → Int} {p q : Int} {a : List Nat} (h : Seg lk p a q) (hc : ∀ x ∈ a, lk' x 1 = lk x 1 ∧ lk' x 2 = lk x 2) : Seg lk' p a q := by
  induction a generalizing p with
  | nil => trivial
  | cons x t ih =>
    obtain ⟨h1, h2, h3⟩ := h
    have := hc x (by simp)
    exact ⟨this.1.trans h1, this.2.trans h2, ih h3 fun y hy => hc y (by simp [hy])⟩
/-- The last one's next is turned. -/
theorem seg_last {lk lk' : Nat → Nat → Int} {p q q' : Int} {a : List Nat} (h : Seg lk p a q) (hn : a.Nodup) (hc : ∀ x ∈ a, lk' x 1 = lk x 1 ∧ ((x : Int) ≠ lastOr p a → lk' x 2 = lk x 2)) (hl : ∀ x ∈ a, (x : Int) = lastOr p a → lk' x 2 = q') : Seg lk' p a q' := by
  induction a generalizing p with
  | nil => trivial
  | cons x t ih =>
    obtain ⟨h1, h2, h3⟩ := h
    have hx := hc x (by simp)
    have hnt := (List.nodup_cons.1 hn)
    refine ⟨hx.1.trans h1, ?_, ih h3 hnt.2 (fun y hy => hc y (by simp [hy])) (fun y hy => hl y (by simp [hy]))⟩
    cases t with
    | nil => exact hl x (by simp) rfl
    | cons y u =>
      rw [hx.2 ?_, h2]; rfl
      intro e
      have : ∀ (d : Int) (l : List Nat), l ≠ [] → ∃ z ∈ l, lastOr d l = z := by
        intro d l
        induction l generalizing d with
        | nil => intro h; exact absurd rfl h
        | cons a b ih2 =>
          intro _
          cases b with
          | nil => exact ⟨a, by simp, rfl⟩
          | cons c d' =>
            obtain ⟨z, hz, e⟩ := ih2 a (by simp)
            exact ⟨z, by simp [hz], e⟩
      obtain ⟨z, hz, e2⟩ := this x (y :: u) (by simp)
      have e3 : (x : Int) = z := e.trans e2
      have : x = z := by omega
      subst this
      exact hnt.1 hz
theorem lastOr_mem {d : Int} {l : List Nat} (h : l ≠ []) : ∃ z ∈ l, ∀ d' , lastOr d' l = z := by
  induction l with
  | nil => exact absurd rfl h
  | cons a b ih2 =>
    cases b with
    | nil => exact ⟨a, by simp, fun _ => rfl⟩
    | cons c d' =>
      obtain ⟨z, hz, e⟩ := ih2 (by simp)
      exact ⟨z, by simp [hz], fun d' => e a⟩
theorem nodup_lt_length : ∀ (n : Nat) (l : List Nat), l.Nodup → (∀ x ∈ l, x < n) → l.length ≤ n
  | 0, [], _, _ => Nat.le_refl _
  | 0, x :: _, _, h => absurd (h x (by simp)) (by omega)
  | n + 1, l, hn, h => by
    by_cases hm : n ∈ l
    · have h1 := nodup_lt_length n (l.erase n) (hn.erase n) fun x hx => by
        have h2 := (List.Nodup.mem_erase_iff hn).1 hx
        have h3 := h x h2.2
        omega
      rw [List.length_erase_of_mem hm] at h1
      omega
    · have h1 := nodup_lt_length n l hn fun x hx => by
        have h3 := h x hx
        have : x ≠ n := fun e => hm (e ▸ hx)
        omega
      omega

structure Ch.WF (s : Ch) (R : Nat → List Nat) : Prop where
  seg : ∀ j, j < s.m → Seg s.lk (-1) (R j) (-1)
  hd : ∀ j, j < s.m → s.en j 0 = hdOr (-1) (R j)
  lst : ∀ j, j < s.m → s.en j 1 = lastOr (-1) (R j)
  len : ∀ j, j < s.m → s.en j 2 = (R j).length
  nodup : ∀ j, j < s.m → (R j).Nodup
  mem : ∀ j, j < s.m → ∀ x ∈ R j, x < s.n ∧ s.lk x 0 = j
  off : ∀ k, k < s.n → s.lk k 0 = -1 ∨ ∃ j, j < s.m ∧ k ∈ R j
  none : ∀ j, s.m ≤ j → R j = []

def updR (R : Nat → List Nat) (j : Nat) (l : List Nat) : Nat → List Nat := fun i => if i = j then l else R i
theorem updR_same {R : Nat → List Nat} {j : Nat} {l : List Nat} : updR R j l j = l := by simp [updR]
theorem updR_other {R : Nat → List Nat} {j i : Nat} {l : List Nat} (h : i ≠ j) : updR R j l i = R i := by simp [updR, h]

theorem Ch.WF.off' {s : Ch} {R : Nat → List Nat} (h : s.WF R) {k j : Nat} (hk : s.lk k 0 = -1) (hj : j < s.m) : k ∉ R j := fun hm => by
  have := (h.mem j hj k hm).2
  omega
theorem Ch.WF.lenle {s : Ch} {R : Nat → List Nat} (h : s.WF R) {j : Nat} (hj : j < s.m) : (R j).length ≤ s.n := nodup_lt_length _ _ (h.nodup j hj) fun x hx => (h.mem j hj x hx).1

theorem Ch.WF.push {s : Ch} {R : Nat → List Nat} (h : s.WF R) {j k : Nat} (hj : j < s.m) (hk : k < s.n) (h0 : s.lk k 0 = -1) : (s.push j k).WF (updR R j (R j ++ [k])) := by
  have hnot : ∀ i, i < s.m → k ∉ R i := fun i hi => h.off' h0 hi
  have hlast := h.lst j hj
  -- what push turns
  have hm : (s.push j k).m = s.m := by unfold Ch.push Ch.push2 Ch.push1; split <;> rfl
  have hn : (s.push j k).n = s.n := by unfold Ch.push Ch.push2 Ch.push1; split <;> rfl
  have l0 : ∀ x, (s.push j k).lk x 0 = if x = k then (j : Int) else s.lk x 0 := by
    intro x; unfold Ch.push Ch.push2 Ch.push1; split <;> simp [Ch.setE, Ch.setL]
  have l1 : ∀ x, (s.push j k).lk x 1 = if x = k then s.en j 1 else s.lk x 1 := by
    intro x; unfold Ch.push Ch.push2 Ch.push1; split <;> simp [Ch.setE, Ch.setL]
  have e0 : ∀ i, i ≠ j → ∀ f, (s.push j k).en i f = s.en i f := by
    intro i hi f; unfold Ch.push Ch.push2 Ch.push1; split <;> simp [Ch.setE, Ch.setL, hi]
  have e1 : (s.push j k).en j 1 = k := by unfold Ch.push Ch.push2 Ch.push1; split <;> simp [Ch.setE, Ch.setL]
  have e2 : (s.push j k).en j 2 = s.en j 2 + 1 := by unfold Ch.push Ch.push2 Ch.push1; split <;> simp [Ch.setE, Ch.setL]
  have e00 : (s.push j k).en j 0 = if s.en j 1 = -1 then (k : Int) else s.en j 0 := by unfold Ch.push Ch.push2 Ch.push1; split <;> simp [Ch.setE, Ch.setL]
  have l2 : ∀ x, x ≠ k → (s.en j 1 = -1 ∨ (x : Int) ≠ s.en j 1) → (s.push j k).lk x 2 = s.lk x 2 := by
    intro x hx hh; unfold Ch.push Ch.push2 Ch.push1; split
    · simp [Ch.setE, Ch.setL, hx]
    · rename_i hne
      have : x ≠ (s.en j 1).toNat := by
        intro e
        rcases hh with hh | hh
        · exact hne hh
        · rcases List.eq_nil_or_concat (R j) with he | ⟨_, _, he⟩
          · rw [he] at hlast; exact hne hlast
          · obtain ⟨z, _, hz⟩ := lastOr_mem (d := -1) (l := R j) (by rw [he]; simp)
            have := hlast.trans (hz _)
            omega
      simp [Ch.setE, Ch.setL, hx, this]
  have hneg : R j ≠ [] → ∃ z : Nat, z ∈ R j ∧ s.en j 1 = z := by
    intro hne
    obtain ⟨z, hz1, hz⟩ := lastOr_mem (d := -1) hne
    exact ⟨z, hz1, hlast.trans (hz _)⟩
  have l2k : (s.push j k).lk k 2 = -1 := by
    unfold Ch.push Ch.push2 Ch.push1; split
    · simp [Ch.setE, Ch.setL]
    · rename_i hne
      have : R j ≠ [] := fun he => by rw [he] at hlast; exact hne hlast
      obtain ⟨z, hz1, hz⟩ := hneg this
      have : k ≠ (s.en j 1).toNat := by
        intro e
        have : z = k := by omega
        exact hnot j hj (this ▸ hz1)
      simp [Ch.setE, Ch.setL, this]
  have l2q : ∀ x : Nat, (x : Int) = s.en j 1 → (s.push j k).lk x 2 = k := by
    intro x hx
    unfold Ch.push Ch.push2 Ch.push1; rw [if_neg (by omega)]
    have : x = (s.en j 1).toNat := by omega
    simp [Ch.setE, Ch.setL, ← this]
  have keep : ∀ i, i < s.m → i ≠ j → Seg (s.push j k).lk (-1) (R i) (-1) := by
    intro i hi hij
    refine seg_congr (h.seg i hi) fun x hx => ?_
    have hxk : x ≠ k := fun e => hnot i hi (e ▸ hx)
    refine ⟨by rw [l1, if_neg hxk], l2 x hxk ?_⟩
    by_cases he : R j = []
    · left; rw [hlast, he]; rfl
    · obtain ⟨z, hz1, hz⟩ := hneg he
      right
      intro e
      have : x = z := by omega
      have a1 := (h.mem i hi x hx).2
      have a2 := (h.mem j hj z hz1).2
      rw [← this, a1] at a2
      omega
  refine ⟨?_, ?_, ?_, ?_, ?_, ?_, ?_, ?_⟩
  · intro i hi
    rw [hm] at hi
    by_cases hij : i = j
    · subst hij
      rw [updR_same, seg_append]
      refine ⟨?_, ?_, ?_, trivial⟩
      · refine seg_last (h.seg i hj) (h.nodup i hj) (fun x hx => ?_) (fun x hx e => l2q x (by rw [hlast]; exact e))
        have hxk : x ≠ k := fun e => hnot i hj (e ▸ hx)
        exact ⟨by rw [l1, if_neg hxk], fun e => l2 x hxk (.inr (by rw [hlast]; exact e))⟩
      · rw [l1, if_pos rfl, hlast]
      · rw [l2k]; rfl
    · rw [updR_other hij]; exact keep i hi hij
  · intro i hi
    rw [hm] at hi
    by_cases hij : i = j
    · subst hij
      rw [updR_same, hdOr_append, e00]
      by_cases he : R i = []
      · rw [he, if_pos (by rw [hlast, he]; rfl)]; rfl
      · obtain ⟨z, hz1, hz⟩ := hneg he
        rw [if_neg (by omega), h.hd i hj]
        cases hr : R i with
        | nil => exact absurd hr he
        | cons => rfl
    · rw [updR_other hij, e0 i hij]; exact h.hd i hi
  · intro i hi
    rw [hm] at hi
    by_cases hij : i = j
    · subst hij
      rw [updR_same, lastOr_append, e1]; rfl
    · rw [updR_other hij, e0 i hij]; exact h.lst i hi
  · intro i hi
    rw [hm] at hi
    by_cases hij : i = j
    · subst hij
      rw [updR_same, e2, h.len i hj]; simp
    · rw [updR_other hij, e0 i hij]; exact h.len i hi
  · intro i hi
    rw [hm] at hi
    by_cases hij : i = j
    · subst hij
      rw [updR_same, List.nodup_append]
      exact ⟨h.nodup i hj, by simp, fun a ha b hb e => by simp at hb; exact hnot i hj (by rw [← hb, ← e]; exact ha)⟩
    · rw [updR_other hij]; exact h.nodup i hi
  · intro i hi x hx
    rw [hm] at hi
    rw [hn, l0]
    by_cases hij : i = j
    · subst hij
      rw [updR_same] at hx
      rcases List.mem_append.1 hx with hx | hx
      · rw [if_neg (show ¬ x = k from fun e => hnot i hj (e ▸ hx))]; exact h.mem i hj x hx
      · simp at hx; subst hx; simp [hk]
    · rw [updR_other hij] at hx
      rw [if_neg (show ¬ x = k from fun e => hnot i hi (e ▸ hx))]; exact h.mem i hi x hx
  · intro x hx
    rw [hn] at hx
    rw [l0]
    by_cases hxk : x = k
    · right; exact ⟨j, by rw [hm]; exact hj, by rw [updR_same, hxk]; simp⟩
    · rw [if_neg hxk]
      rcases h.off x hx with h1 | ⟨i, hi, hm2⟩
      · exact .inl h1
      · right
        refine ⟨i, by rw [hm]; exact hi, ?_⟩
        by_cases hij : i = j
        · subst hij; rw [updR_same]; simp [hm2]
        · rw [updR_other hij]; exact hm2
  · intro i hi
    rw [hm] at hi
    rw [updR_other (by omega)]; exact h.none i hi

theorem Ch.pull_l1 (s : Ch) (j k x : Nat) : (s.pull j k).lk x 1 = if x = k then (-1 : Int) else if s.lk k 2 ≠ -1 ∧ x = (s.lk k 2).toNat then s.lk k 1 else s.lk x 1 := by
  unfold Ch.pull Ch.pull2 Ch.pull1
  by_cases h1 : s.lk k 1 = -1 <;> by_cases h2 : s.lk k 2 = -1 <;> simp [h1, h2, Ch.setE, Ch.setL]
theorem Ch.pull_l2 (s : Ch) (j k x : Nat) : (s.pull j k).lk x 2 = if x = k then (-1 : Int) else if s.lk k 1 ≠ -1 ∧ x = (s.lk k 1).toNat then s.lk k 2 else s.lk x 2 := by
  unfold Ch.pull Ch.pull2 Ch.pull1
  by_cases h1 : s.lk k 1 = -1 <;> by_cases h2 : s.lk k 2 = -1 <;> simp [h1, h2, Ch.setE, Ch.setL]
theorem Ch.pull_e0 (s : Ch) (j k x : Nat) : (s.pull j k).en x 0 = if x = j ∧ s.lk k 1 = -1 then s.lk k 2 else s.en x 0 := by
  unfold Ch.pull Ch.pull2 Ch.pull1
  by_cases h1 : s.lk k 1 = -1 <;> by_cases h2 : s.lk k 2 = -1 <;> simp [h1, h2, Ch.setE, Ch.setL]
theorem Ch.pull_e1 (s : Ch) (j k x : Nat) : (s.pull j k).en x 1 = if x = j ∧ s.lk k 2 = -1 then s.lk k 1 else s.en x 1 := by
  unfold Ch.pull Ch.pull2 Ch.pull1
  by_cases h1 : s.lk k 1 = -1 <;> by_cases h2 : s.lk k 2 = -1 <;> simp [h1, h2, Ch.setE, Ch.setL]
theorem Ch.pull_e2 (s : Ch) (j k x : Nat) : (s.pull j k).en x 2 = if x = j then s.en j 2 - 1 else s.en x 2 := by
  unfold Ch.pull Ch.pull2 Ch.pull1
  by_cases h1 : s.lk k 1 = -1 <;> by_cases h2 : s.lk k 2 = -1 <;> simp [h1, h2, Ch.setE, Ch.setL]
theorem Ch.WF.pull {s : Ch} {R : Nat → List Nat} (h : s.WF R) {j k : Nat} (hj : j < s.m) (hk : k < s.n) (h0 : k ∈ R j) : (s.pull j k).WF (updR R j ((R j).erase k)) := by
  obtain ⟨a, b, hab⟩ := List.append_of_mem h0
  have hnd := h.nodup j hj
  rw [hab] at hnd
  obtain ⟨na, nkb, hdis⟩ := List.nodup_append.1 hnd
  obtain ⟨hkb, nb⟩ := List.nodup_cons.1 nkb
  have hka : k ∉ a := fun hm => hdis k hm k (by simp) rfl
  have hdab : ∀ x ∈ a, x ∉ b := fun x hx hb => hdis x hx x (by simp [hb]) rfl
  have her : (R j).erase k = a ++ b := by rw [hab, List.erase_append_right _ hka, List.erase_cons_head]
  have hseg := h.seg j hj
  rw [hab, seg_append] at hseg
  obtain ⟨sa, hP, hN, sb⟩ := hseg
  have hmk : s.lk k 0 = j := (h.mem j hj k h0).2
  have hm : (s.pull j k).m = s.m := by unfold Ch.pull Ch.pull2 Ch.pull1; split <;> split <;> rfl
  have hn : (s.pull j k).n = s.n := by unfold Ch.pull Ch.pull2 Ch.pull1; split <;> split <;> rfl
  have l0 : ∀ x, (s.pull j k).lk x 0 = if x = k then (-1 : Int) else s.lk x 0 := by
    intro x; unfold Ch.pull Ch.pull2 Ch.pull1; split <;> split <;> simp [Ch.setE, Ch.setL]
  have l1 : ∀ x, (s.pull j k).lk x 1 = if x = k then (-1 : Int) else if s.lk k 2 ≠ -1 ∧ x = (s.lk k 2).toNat then s.lk k 1 else s.lk x 1 := by
    intro x; exact Ch.pull_l1 s j k x
  have l2 : ∀ x, (s.pull j k).lk x 2 = if x = k then (-1 : Int) else if s.lk k 1 ≠ -1 ∧ x = (s.lk k 1).toNat then s.lk k 2 else s.lk x 2 := by
    intro x; exact Ch.pull_l2 s j k x
  have e0 : ∀ i, (s.pull j k).en i 0 = if i = j ∧ s.lk k 1 = -1 then s.lk k 2 else s.en i 0 := by
    intro x; exact Ch.pull_e0 s j k x
  have e1 : ∀ i, (s.pull j k).en i 1 = if i = j ∧ s.lk k 2 = -1 then s.lk k 1 else s.en i 1 := by
    intro x; exact Ch.pull_e1 s j k x
  have e2 : ∀ i, (s.pull j k).en i 2 = if i = j then s.en j 2 - 1 else s.en i 2 := by
    intro x; exact Ch.pull_e2 s j k x
  generalize s.pull j k = s' at *
  have hother : ∀ i, i < s.m → i ≠ j → ∀ x ∈ R i, x ∉ R j := fun i hi hij x hx hx2 => by
    have a1 := (h.mem i hi x hx).2
    have a2 := (h.mem j hj x hx2).2
    omega
  have hPm : s.lk k 1 ≠ -1 → a ≠ [] ∧ (s.lk k 1).toNat ∈ a ∧ ((s.lk k 1).toNat : Int) = s.lk k 1 := by
    intro hne
    have ha : a ≠ [] := fun e => by rw [e] at hP; exact hne hP
    obtain ⟨z, hz, e⟩ := lastOr_mem (d := -1) ha
    have := hP.trans (e _)
    rw [this]
    exact ⟨ha, by simpa using hz, by simp⟩
  have hNm : s.lk k 2 ≠ -1 → ∃ y t, b = y :: t ∧ (s.lk k 2).toNat = y ∧ s.lk k 2 = y := by
    intro hne
    cases b with
    | nil => exact absurd hN hne
    | cons y t => exact ⟨y, t, rfl, by rw [hN]; rfl, hN⟩
  have keep : ∀ i, i < s.m → i ≠ j → Seg s'.lk (-1) (R i) (-1) := by
    intro i hi hij
    refine seg_congr (h.seg i hi) fun x hx => ?_
    have hxj := hother i hi hij x hx
    have hxk : x ≠ k := fun e => hxj (e ▸ h0)
    rw [hab] at hxj
    refine ⟨?_, ?_⟩
    · rw [l1, if_neg hxk, if_neg]
      rintro ⟨h1, h2⟩
      obtain ⟨y, t, e, e2, _⟩ := hNm h1
      exact hxj (by rw [e]; simp; right; right; left; omega)
    · rw [l2, if_neg hxk, if_neg]
      rintro ⟨h1, h2⟩
      have := (hPm h1).2.1
      rw [← h2] at this
      exact hxj (by simp [this])
  have sa' : Seg s'.lk (-1) a (hdOr (-1) b) := by
    refine seg_last sa na (fun x hx => ?_) (fun x hx e => ?_)
    · have hxk : x ≠ k := fun e => hka (e ▸ hx)
      refine ⟨?_, fun hne => ?_⟩
      · rw [l1, if_neg hxk, if_neg]
        rintro ⟨h1, h2⟩
        obtain ⟨y, t, e, e2, _⟩ := hNm h1
        exact hdab x hx (by rw [e, h2, e2]; simp)
      · rw [l2, if_neg hxk, if_neg]
        rintro ⟨h1, h2⟩
        apply hne
        rw [← hP, h2, (hPm h1).2.2]
    · have hxk : x ≠ k := fun e => hka (e ▸ hx)
      have h1 : s.lk k 1 ≠ -1 := by rw [hP]; omega
      rw [l2, if_neg hxk, if_pos ⟨h1, by rw [hP]; omega⟩, hN]
  have sb' : Seg s'.lk (lastOr (-1) a) b (-1) := by
    cases b with
    | nil => trivial
    | cons y t =>
      obtain ⟨q1, q2, q3⟩ := sb
      have hyk : y ≠ k := fun e => hkb (by rw [← e]; simp)
      have hya : y ∉ a := fun hm => hdab y hm (by simp)
      have hty := (List.nodup_cons.1 nb)
      have notP : ∀ x ∈ y :: t, ¬ (s.lk k 1 ≠ -1 ∧ x = (s.lk k 1).toNat) := by
        rintro x hx ⟨h1, h2⟩
        have := (hPm h1).2.1
        rw [← h2] at this
        exact hdab x this hx
      have hN2 : s.lk k 2 = y := hN
      refine ⟨?_, ?_, seg_congr q3 fun x hx => ?_⟩
      · rw [l1, if_neg hyk, if_pos ⟨by omega, by omega⟩, hP]
      · rw [l2, if_neg hyk, if_neg (notP y (by simp)), q2]
      · have hxk : x ≠ k := fun e => hkb (by rw [← e]; simp [hx])
        refine ⟨?_, by rw [l2, if_neg hxk, if_neg (notP x (by simp [hx]))]⟩
        rw [l1, if_neg hxk, if_neg]
        rintro ⟨_, h2⟩
        have : x = y := by omega
        exact hty.1 (this ▸ hx)
  rw [her]
  refine ⟨?_, ?_, ?_, ?_, ?_, ?_, ?_, ?_⟩
  · intro i hi
    rw [hm] at hi
    by_cases hij : i = j
    · subst hij
      rw [updR_same, seg_append]
      exact ⟨sa', sb'⟩
    · rw [updR_other hij]; exact keep i hi hij
  · intro i hi
    rw [hm] at hi
    by_cases hij : i = j
    · subst hij
      rw [updR_same, hdOr_append, e0]
      by_cases ha : a = []
      · rw [if_pos ⟨rfl, by rw [hP, ha]; rfl⟩, ha, hN]; rfl
      · obtain ⟨z, hz, e⟩ := lastOr_mem (d := -1) ha
        rw [if_neg (by rintro ⟨_, h1⟩; rw [hP, e] at h1; omega), h.hd i hj, hab]
        cases a with
        | nil => exact absurd rfl ha
        | cons => rfl
    · rw [updR_other hij, e0, if_neg (by rintro ⟨h1, _⟩; exact hij h1)]; exact h.hd i hi
  · intro i hi
    rw [hm] at hi
    by_cases hij : i = j
    · subst hij
      rw [updR_same, lastOr_append, e1]
      cases b with
      | nil => rw [if_pos ⟨rfl, hN⟩, hP]; rfl
      | cons y t =>
        have hN2 : s.lk k 2 = y := hN
        rw [if_neg (by rintro ⟨_, h1⟩; omega), h.lst i hj, hab, lastOr_append]
        rfl
    · rw [updR_other hij, e1, if_neg (by rintro ⟨h1, _⟩; exact hij h1)]; exact h.lst i hi
  · intro i hi
    rw [hm] at hi
    by_cases hij : i = j
    · subst hij
      rw [updR_same, e2, if_pos rfl, h.len i hj, hab]; simp; omega
    · rw [updR_other hij, e2, if_neg hij]; exact h.len i hi
  · intro i hi
    rw [hm] at hi
    by_cases hij : i = j
    · subst hij
      rw [updR_same, List.nodup_append]
      exact ⟨na, nb, fun x hx y hy e => hdab x hx (e ▸ hy)⟩
    · rw [updR_other hij]; exact h.nodup i hi
  · intro i hi x hx
    rw [hm] at hi
    rw [hn, l0]
    by_cases hij : i = j
    · subst hij
      rw [updR_same] at hx
      have hxk : ¬ x = k := by
        rintro rfl
        rcases List.mem_append.1 hx with h1 | h1
        · exact hka h1
        · exact hkb h1
      rw [if_neg hxk]
      refine h.mem i hj x ?_
      rw [hab]
      rcases List.mem_append.1 hx with h1 | h1 <;> simp [h1]
    · rw [updR_other hij] at hx
      have hxk : ¬ x = k := fun e => hother i hi hij x hx (e ▸ h0)
      rw [if_neg hxk]; exact h.mem i hi x hx
  · intro x hx
    rw [hn] at hx
    rw [l0]
    by_cases hxk : x = k
    · left; rw [if_pos hxk]
    · rw [if_neg hxk]
      rcases h.off x hx with h1 | ⟨i, hi, hm2⟩
      · exact .inl h1
      · right
        refine ⟨i, by rw [hm]; exact hi, ?_⟩
        by_cases hij : i = j
        · subst hij; rw [updR_same]
          rw [hab] at hm2
          rcases List.mem_append.1 hm2 with h1 | h1
          · simp [h1]
          · rcases List.mem_cons.1 h1 with h2 | h2
            · exact absurd h2 hxk
            · simp [h2]
        · rw [updR_other hij]; exact hm2
  · intro i hi
    rw [hm] at hi
    rw [updR_other (by omega)]; exact h.none i hi
end Go.Proofs.Ytblapbnplflghaa
