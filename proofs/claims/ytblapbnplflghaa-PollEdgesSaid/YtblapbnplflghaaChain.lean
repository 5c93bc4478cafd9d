/- Contracts of package chain's functions. -/
import Derived.Test.YtblapbnplflghaaProg
import Derived.Test.YtblapbnplflghaaMem
import Derived.StillTailTactics
import Derived.BigQuiet
import Derived.Deep.QuietTactic
namespace Go.Proofs.Ytblapbnplflghaa
open Go.RowKit
set_option linter.unusedVariables false
set_option linter.unusedSimpArgs false

/-- Lists of numbers, as they lie in memory: so many numbers (list, prev, next), so many lists (first, last, count). -/
structure Ch where
  n : Nat
  m : Nat
  lk : Nat → Nat → Int
  en : Nat → Nat → Int

def Ch.setL (s : Ch) (k f : Nat) (v : Int) : Ch := { s with lk := fun a b => if a = k ∧ b = f then v else s.lk a b }
def Ch.setE (s : Ch) (k f : Nat) (v : Int) : Ch := { s with en := fun a b => if a = k ∧ b = f then v else s.en a b }

structure ChC (w : World) (p L M : Nat) (s : Ch) : Prop where
  pl : Cel w p 0 (.slice (some ⟨L, 0, none⟩) s.n s.n)
  pm : Cel w p 1 (.slice (some ⟨M, 0, none⟩) s.m s.m)
  hl : ∀ k f, k < s.n → f < 3 → Cel w L (k * 3 + f) (.int .i64 (s.lk k f))
  he : ∀ k f, k < s.m → f < 3 → Cel w M (k * 3 + f) (.int .i64 (s.en k f))
  lL : L < w.heap.size
  lM : M < w.heap.size
  dpl : p ≠ L
  dpm : p ≠ M
  dlm : L ≠ M
  bn : s.n ≤ 8192
  bm : s.m ≤ 8192

def chS (L M : Nat) : Nat → Nat → Prop := fun b _ => b = L ∨ b = M

theorem ChC.fr {S : Nat → Nat → Prop} {w w' : World} {p L M : Nat} {s : Ch} (h : ChC w p L M s) (hF : Fr S w w') (hp : ∀ o, ¬ S p o) (hL : ∀ o, ¬ S L o) (hM : ∀ o, ¬ S M o) : ChC w' p L M s :=
  ⟨h.pl.fr hF (hp _), h.pm.fr hF (hp _), fun k f hk hf => (h.hl k f hk hf).fr hF (hL _), fun k f hk hf => (h.he k f hk hf).fr hF (hM _), Nat.lt_of_lt_of_le h.lL hF.size, Nat.lt_of_lt_of_le h.lM hF.size, h.dpl, h.dpm, h.dlm, h.bn, h.bm⟩
theorem ChC.alloc {w : World} {p L M : Nat} {s : Ch} (h : ChC w p L M s) (o : Obj) : ChC (w.alloc o) p L M s :=
  h.fr ((Fr.refl (fun _ _ => False) w).alloc o) (fun _ h => h) (fun _ h => h) (fun _ h => h)
theorem ChC.drewN {w : World} {p L M : Nat} {s : Ch} (h : ChC w p L M s) (n : Nat) : ChC (w.drewN n) p L M s :=
  h.fr ((Fr.refl (fun _ _ => False) w).drewN n) (fun _ h => h) (fun _ h => h) (fun _ h => h)
theorem ChC.drew {w : World} {p L M : Nat} {s : Ch} (h : ChC w p L M s) : ChC w.drew p L M s :=
  h.fr ((Fr.refl (fun _ _ => False) w).drew) (fun _ h => h) (fun _ h => h) (fun _ h => h)

theorem ChC.setL {w : World} {p L M : Nat} {s : Ch} (h : ChC w p L M s) {k f o : Nat} (hk : k < s.n) (hf : f < 3) (ho : o = k * 3 + f) (v : Int) : ChC (w.setCell ⟨L, o, none⟩ (.int .i64 v)) p L M (s.setL k f v) := by
  subst ho
  refine ⟨h.pl.other (.inl h.dpl.symm) _, h.pm.other (.inl h.dpl.symm) _, fun a b ha hb => ?_, fun a b ha hb => (h.he a b ha hb).other (.inl h.dlm) _, by simpa using h.lL, by simpa using h.lM, h.dpl, h.dpm, h.dlm, h.bn, h.bm⟩
  by_cases e : a = k ∧ b = f
  · obtain ⟨rfl, rfl⟩ := e
    have := (h.hl a b ha hb).same (.int .i64 v)
    simpa [Ch.setL] using this
  · have := (h.hl a b ha hb).other (b' := L) (o' := k * 3 + f) (.inr (by omega)) (.int .i64 v)
    simpa [Ch.setL, e] using this
theorem ChC.setE {w : World} {p L M : Nat} {s : Ch} (h : ChC w p L M s) {k f o : Nat} (hk : k < s.m) (hf : f < 3) (ho : o = k * 3 + f) (v : Int) : ChC (w.setCell ⟨M, o, none⟩ (.int .i64 v)) p L M (s.setE k f v) := by
  subst ho
  refine ⟨h.pl.other (.inl h.dpm.symm) _, h.pm.other (.inl h.dpm.symm) _, fun a b ha hb => (h.hl a b ha hb).other (.inl h.dlm.symm) _, fun a b ha hb => ?_, by simpa using h.lL, by simpa using h.lM, h.dpl, h.dpm, h.dlm, h.bn, h.bm⟩
  by_cases e : a = k ∧ b = f
  · obtain ⟨rfl, rfl⟩ := e
    have := (h.he a b ha hb).same (.int .i64 v)
    simpa [Ch.setE] using this
  · have := (h.he a b ha hb).other (b' := M) (o' := k * 3 + f) (.inr (by omega)) (.int .i64 v)
    simpa [Ch.setE, e] using this
theorem frL {L M o : Nat} {a w : World} (h : Fr (chS L M) a w) (v : Value) : Fr (chS L M) a (w.setCell ⟨L, o, none⟩ v) := h.setCell (fun _ => .inl rfl) v
theorem frM {L M o : Nat} {a w : World} (h : Fr (chS L M) a w) (v : Value) : Fr (chS L M) a (w.setCell ⟨M, o, none⟩ v) := h.setCell (fun _ => .inr rfl) v

def Ch.okK (s : Ch) (k : Int) : Bool := decide (0 ≤ k) && decide (k < s.n)
def Ch.okL (s : Ch) (k : Int) : Bool := decide (0 ≤ k) && decide (k < s.m)
def Ch.onB (s : Ch) (k : Int) : Bool := s.okK k && (s.lk k.toNat 0 != -1)
def Ch.onV (s : Ch) (k : Int) : Int := if s.onB k then s.lk k.toNat 0 else 0

theorem on_c {w : World} {p L M : Nat} {s : Ch} (h : ChC w p L M s) (k : Int) :
    Calls Try.prog 50 #[.pointer (some ⟨p, 0, none⟩), .int .i64 k] w fun e w' => e = .returned (.tuple #[.int .i64 (s.onV k), .bool (s.onB k)]) ∧ w = w' := by
  obtain ⟨h0, f0⟩ := h.pl
  have hb := h.bn
  by_cases k0 : 0 ≤ k
  · obtain ⟨kn, rfl⟩ := Int.eq_ofNat_of_zero_le k0
    by_cases k1 : kn < s.n
    · obtain ⟨h1, f1⟩ := h.hl kn 0 k1 (by omega)
      rw [Nat.add_zero] at h1 f1
      by_cases k2 : s.lk kn 0 = -1
      · have hB : s.onB kn = false := by unfold Ch.onB; simp [k2]
        have hV : s.onV kn = 0 := by unfold Ch.onV; rw [hB]; rfl
        rw [hB, hV]
        have e1 : (s.lk kn 0 == -1) = true := beq_iff_eq.mpr k2
        clear h hB hV
        have K2 := Lib.hid k2
        clear k2
        go_enter Try.func50, Try.ntmps50
        go_wp2
        go_ret2
        exact ⟨rfl, rfl⟩
      · have hB : s.onB kn = true := by unfold Ch.onB Ch.okK; simp [k2, k1]
        have hV : s.onV kn = s.lk kn 0 := by unfold Ch.onV; rw [hB]; rfl
        rw [hB, hV]
        have e1 : (s.lk kn 0 == -1) = false := beq_eq_false_iff_ne.mpr k2
        clear h hB hV k2
        go_enter Try.func50, Try.ntmps50
        go_wp2
        go_ret2
        exact ⟨rfl, rfl⟩
    · have hB : s.onB kn = false := by unfold Ch.onB Ch.okK; simp; omega
      have hV : s.onV kn = 0 := by unfold Ch.onV; rw [hB]; rfl
      rw [hB, hV]
      clear h hB hV
      go_enter Try.func50, Try.ntmps50
      go_wp2
      go_ret2
      exact ⟨rfl, rfl⟩
  · have hB : s.onB k = false := by unfold Ch.onB Ch.okK; simp; omega
    have hV : s.onV k = 0 := by unfold Ch.onV; rw [hB]; rfl
    rw [hB, hV]
    clear h hB hV
    go_enter Try.func50, Try.ntmps50
    go_wp2
    go_ret2
    exact ⟨rfl, rfl⟩

def Ch.lenV (s : Ch) (j : Int) : Int := if s.okL j then s.en j.toNat 2 else 0
theorem len_c {w : World} {p L M : Nat} {s : Ch} (h : ChC w p L M s) (j : Int) :
    Calls Try.prog 46 #[.pointer (some ⟨p, 0, none⟩), .int .i64 j] w fun e w' => e = .returned (.int .i64 (s.lenV j)) ∧ w = w' := by
  obtain ⟨h0, f0⟩ := h.pm
  have hb := h.bm
  by_cases k0 : 0 ≤ j
  · obtain ⟨jn, rfl⟩ := Int.eq_ofNat_of_zero_le k0
    by_cases k1 : jn < s.m
    · obtain ⟨h1, f1⟩ := h.he jn 2 k1 (by omega)
      have hV : s.lenV jn = s.en jn 2 := by unfold Ch.lenV Ch.okL; simp [k1]
      rw [hV]
      clear h hV
      go_enter Try.func46, Try.ntmps46
      go_wp2
      go_ret
      exact ⟨rfl, rfl⟩
    · have hV : s.lenV jn = 0 := by unfold Ch.lenV Ch.okL; simp [k1]
      rw [hV]
      clear h hV
      go_enter Try.func46, Try.ntmps46
      go_wp2
      go_ret
      exact ⟨rfl, rfl⟩
  · have hV : s.lenV j = 0 := by unfold Ch.lenV Ch.okL; simp [k0]
    rw [hV]
    clear h hV
    go_enter Try.func46, Try.ntmps46
    go_wp2
    go_ret
    exact ⟨rfl, rfl⟩

def Ch.firstB (s : Ch) (j : Int) : Bool := s.lenV j != 0
def Ch.firstV (s : Ch) (j : Int) : Int := if s.firstB j then s.en j.toNat 0 else 0
theorem first_c {w : World} {p L M : Nat} {s : Ch} (h : ChC w p L M s) (j : Int) :
    Calls Try.prog 43 #[.pointer (some ⟨p, 0, none⟩), .int .i64 j] w fun e w' => e = .returned (.tuple #[.int .i64 (s.firstV j), .bool (s.firstB j)]) ∧ w = w' := by
  by_cases h1 : s.lenV j = 0
  · have hB : s.firstB j = false := by unfold Ch.firstB; simp [h1]
    have hV : s.firstV j = 0 := by unfold Ch.firstV; rw [hB]; rfl
    rw [hB, hV]
    go_enter Try.func43, Try.ntmps43
    go_wp2_with fail
    refine (len_c h j).mono ?_
    rintro e w' ⟨rfl, rfl⟩
    rw [h1]
    clear h hB hV h1
    go_wp2
    go_ret2
    exact ⟨rfl, rfl⟩
  · have hB : s.firstB j = true := by unfold Ch.firstB; simp [h1]
    have hV : s.firstV j = s.en j.toNat 0 := by unfold Ch.firstV; rw [hB]; rfl
    rw [hB, hV]
    have hj : 0 ≤ j ∧ j < s.m := by
      unfold Ch.lenV Ch.okL at h1
      by_cases hh : 0 ≤ j ∧ j < s.m
      · exact hh
      · exfalso; apply h1; rw [if_neg (by simp; omega)]
    obtain ⟨jn, rfl⟩ := Int.eq_ofNat_of_zero_le hj.1
    have k1 : jn < s.m := by omega
    obtain ⟨h2, f2⟩ := h.he jn 0 k1 (by omega)
    rw [Nat.add_zero] at h2 f2
    obtain ⟨h0, f0⟩ := h.pm
    have hb := h.bm
    have e1 : (s.lenV (jn : Int) == 0) = false := beq_eq_false_iff_ne.mpr h1
    go_enter Try.func43, Try.ntmps43
    go_wp2_with fail
    refine (len_c h _).mono ?_
    rintro e w' ⟨rfl, rfl⟩
    clear h hB hV h1
    go_wp2
    go_ret2
    exact ⟨rfl, rfl⟩

def Ch.pushB (s : Ch) (j k : Int) : Bool := s.okL j && s.okK k && (s.lk k.toNat 0 == -1)
def Ch.push1 (s : Ch) (j k : Nat) : Ch := ((s.setL k 0 j).setL k 1 (s.en j 1)).setL k 2 (-1)
def Ch.push2 (s : Ch) (j k : Nat) : Ch := if s.en j 1 = -1 then (s.push1 j k).setE j 0 k else (s.push1 j k).setL (s.en j 1).toNat 2 k
def Ch.push (s : Ch) (j k : Nat) : Ch := ((s.push2 j k).setE j 1 k).setE j 2 (s.en j 2 + 1)
def Ch.pushS (s : Ch) (j k : Int) : Ch := if s.pushB j k then s.push j.toNat k.toNat else s

set_option maxHeartbeats 2000000 in
theorem push_no {w : World} {p L M : Nat} {s : Ch} (h : ChC w p L M s) (j k : Int) (hB : s.pushB j k = false) :
    Calls Try.prog 52 #[.pointer (some ⟨p, 0, none⟩), .int .i64 j, .int .i64 k] w fun e w' => e = .returned (.bool false) ∧ w = w' := by
  obtain ⟨h0, f0⟩ := h.pl
  obtain ⟨h1, f1⟩ := h.pm
  have hb := h.bn
  have hb2 := h.bm
  by_cases a0 : 0 ≤ j
  · by_cases a1 : j < s.m
    · by_cases a2 : 0 ≤ k
      · by_cases a3 : k < s.n
        · obtain ⟨kn, rfl⟩ := Int.eq_ofNat_of_zero_le a2
          obtain ⟨jn, rfl⟩ := Int.eq_ofNat_of_zero_le a0
          have b1 : kn < s.n := by omega
          have b2 : jn < s.m := by omega
          obtain ⟨h2, f2⟩ := h.hl kn 0 b1 (by omega)
          rw [Nat.add_zero] at h2 f2
          have hx : (s.lk kn 0 != -1) = true := by
            unfold Ch.pushB Ch.okL Ch.okK at hB
            simp [b1, b2] at hB
            simpa using hB
          clear h hB
          go_enter Try.func52, Try.ntmps52
          go_wp2
          go_ret
          exact ⟨rfl, rfl⟩
        · clear h hB
          go_enter Try.func52, Try.ntmps52
          go_wp2
          go_ret
          exact ⟨rfl, rfl⟩
      · clear h hB
        go_enter Try.func52, Try.ntmps52
        go_wp2
        go_ret
        exact ⟨rfl, rfl⟩
    · clear h hB
      go_enter Try.func52, Try.ntmps52
      go_wp2
      go_ret
      exact ⟨rfl, rfl⟩
  · clear h hB
    go_enter Try.func52, Try.ntmps52
    go_wp2
    go_ret
    exact ⟨rfl, rfl⟩

end Go.Proofs.Ytblapbnplflghaa
