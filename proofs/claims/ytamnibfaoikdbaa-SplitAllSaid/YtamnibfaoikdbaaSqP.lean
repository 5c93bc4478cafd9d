/- Ticks together, in plain Lean. -/
import Derived.Test.YtamnibfaoikdbaaEn
namespace Go.Proofs.Ytamnibfaoikdbaa
open Go
set_option linter.unusedVariables false
set_option linter.unusedSimpArgs false

/-- So many ticks at once. -/
def tk (n : Int) : En := ⟨0, 0, n, 0, 0, 0, 0, 0, 0⟩
/-- Ticks, so many at once as may. -/
def stepsN : Nat → List En
  | n => if h : 100 < n then tk 100 :: stepsN (n - 100) else if 0 < n then [tk n] else []
termination_by n => n
decreasing_by omega
theorem steps_big {n : Nat} (h : 100 < n) : stepsN n = tk 100 :: stepsN (n - 100) := by rw [stepsN, dif_pos h]
theorem steps_small {n : Nat} (h : ¬ 100 < n) (h0 : 0 < n) : stepsN n = [tk n] := by rw [stepsN, dif_neg h, if_pos h0]
theorem steps_zero : stepsN 0 = [] := by rw [stepsN]; simp

/-- Ticks together, with r ticks ahead. -/
def sqGo : Nat → List En → List En
  | r, [] => stepsN r
  | r, e :: t => if e.kind = 0 then sqGo (r + e.n.toNat) t else stepsN r ++ e :: sqGo 0 t
theorem sqGo_steps : ∀ (n r : Nat) (t : List En), sqGo r (stepsN n ++ t) = sqGo (r + n) t := by
  intro n
  induction n using Nat.strongRecOn with
  | _ n ih =>
    intro r t
    by_cases h : 100 < n
    · rw [steps_big h, List.cons_append, sqGo, if_pos (show (tk 100).kind = 0 from rfl)]
      have e : (tk 100).n.toNat = 100 := rfl
      rw [e, ih (n - 100) (by omega)]
      congr 1; omega
    · by_cases h0 : 0 < n
      · rw [steps_small h h0, List.cons_append, sqGo, if_pos (show (tk n).kind = 0 from rfl), List.nil_append]
        have e : (tk n).n.toNat = n := by simp [tk]
        rw [e]
      · have : n = 0 := by omega
        subst this
        rw [steps_zero, List.nil_append, Nat.add_zero]
theorem sqGo_nil (r : Nat) : sqGo r [] = stepsN r := rfl
theorem steps_kind : ∀ (n : Nat), ∀ e ∈ stepsN n, e.kind = 0 ∧ e = tk e.n ∧ 1 ≤ e.n ∧ e.n ≤ 100 := by
  intro n
  induction n using Nat.strongRecOn with
  | _ n ih =>
    intro e he
    by_cases h : 100 < n
    · rw [steps_big h] at he
      rcases List.mem_cons.1 he with rfl | he
      · exact ⟨rfl, rfl, by decide, by decide⟩
      · exact ih (n - 100) (by omega) e he
    · by_cases h0 : 0 < n
      · rw [steps_small h h0] at he
        rw [List.mem_singleton.1 he]
        exact ⟨rfl, rfl, by simp [tk]; omega, by simp [tk]; omega⟩
      · have : n = 0 := by omega
        subst this
        rw [steps_zero] at he; simp at he
theorem filter_steps (p : En → Bool) (hp : ∀ e : En, e.kind = 0 → p e = true) (n : Nat) : (stepsN n).filter p = stepsN n :=
  List.filter_eq_self.2 fun e he => hp e (steps_kind n e he).1

/-- What is left of ticks together, together again, is what is left, together. -/
theorem sqGo_filter (p : En → Bool) (hp : ∀ e : En, e.kind = 0 → p e = true) : ∀ (xs : List En) (r q : Nat), sqGo r ((sqGo q xs).filter p) = sqGo (r + q) (xs.filter p)
  | [], r, q => by
    have := sqGo_steps q r []
    rw [List.append_nil] at this
    rw [sqGo_nil, filter_steps p hp, List.filter_nil, this]
  | e :: t, r, q => by
    by_cases hk : e.kind = 0
    · rw [sqGo, if_pos hk, sqGo_filter p hp t, List.filter_cons_of_pos (hp e hk), sqGo, if_pos hk]
      congr 1; omega
    · rw [sqGo, if_neg hk, List.filter_append, filter_steps p hp, sqGo_steps]
      by_cases hs : p e = true
      · rw [List.filter_cons_of_pos hs, List.filter_cons_of_pos hs, sqGo, sqGo, if_neg hk, if_neg hk, sqGo_filter p hp t]
      · rw [List.filter_cons_of_neg hs, List.filter_cons_of_neg hs, sqGo_filter p hp t]
        congr 1
theorem sqGo_idem (xs : List En) : sqGo 0 (sqGo 0 xs) = sqGo 0 xs := by
  have := sqGo_filter (fun _ => true) (fun _ _ => rfl) xs 0 0
  have hf : ∀ l : List En, l.filter (fun _ => true) = l := fun l => List.filter_eq_self.2 (by simp)
  rw [hf, hf] at this
  exact this

theorem ticks_steps : ∀ (n : Nat), ticksV (stepsN n) = n := by
  intro n
  induction n using Nat.strongRecOn with
  | _ n ih =>
    by_cases h : 100 < n
    · rw [steps_big h, ticksV_cons, ih (n - 100) (by omega)]
      have : tick1 (tk 100) = 100 := rfl
      rw [this]; omega
    · by_cases h0 : 0 < n
      · rw [steps_small h h0, ticksV_cons, ticksV_nil]
        unfold tick1 tk
        rw [if_pos ⟨rfl, by simp only; omega, by simp only; omega⟩]
        simp
      · have : n = 0 := by omega
        subst this
        rw [steps_zero]; rfl
def okT (xs : List En) : Prop := ∀ e ∈ xs, e.kind = 0 → 1 ≤ e.n ∧ e.n ≤ 100
theorem tick1_ok {e : En} (h : e.kind = 0) (hn : 1 ≤ e.n ∧ e.n ≤ 100) : tick1 e = e.n := by unfold tick1; rw [if_pos ⟨h, hn⟩]
theorem tick1_no {e : En} (h : ¬ e.kind = 0) : tick1 e = 0 := by unfold tick1; rw [if_neg (fun hh => h hh.1)]
theorem ticks_sq : ∀ (xs : List En) (r : Nat), okT xs → ticksV (sqGo r xs) = r + ticksV xs
  | [], r, h => by rw [sqGo_nil, ticks_steps, ticksV_nil]; omega
  | e :: t, r, h => by
    have ht : okT t := fun x hx => h x (List.mem_cons_of_mem _ hx)
    by_cases hk : e.kind = 0
    · have hn := h e (by simp) hk
      rw [sqGo, if_pos hk, ticks_sq t _ ht, ticksV_cons, tick1_ok hk hn]
      omega
    · rw [sqGo, if_neg hk, ticksV_append, ticks_steps, ticksV_cons, ticksV_cons, ticks_sq t 0 ht]
      omega
theorem ticks_filter (p : En → Bool) (hp : ∀ e : En, e.kind = 0 → p e = true) (xs : List En) : ticksV (xs.filter p) = ticksV xs := by
  induction xs with
  | nil => rfl
  | cons e t ih =>
    by_cases hs : p e = true
    · rw [List.filter_cons_of_pos hs, ticksV_cons, ticksV_cons, ih]
    · rw [List.filter_cons_of_neg hs, ih, ticksV_cons, tick1_no (fun hk => hs (hp e hk))]; omega

/-- Of two entries in a row that are ticks the first one has as many as may be. -/
def Full : List En → Prop
  | e :: f :: t => (e.kind = 0 → f.kind = 0 → e.n = 100) ∧ Full (f :: t)
  | _ => True
theorem full_steps : ∀ (n : Nat) (t : List En), Full t → (∀ f ∈ t.head?, f.kind ≠ 0) → Full (stepsN n ++ t) := by
  intro n
  induction n using Nat.strongRecOn with
  | _ n ih =>
    intro t ht hh
    by_cases h : 100 < n
    · have := ih (n - 100) (by omega) t ht hh
      rw [steps_big h, List.cons_append]
      cases hs : stepsN (n - 100) ++ t with
      | nil => trivial
      | cons f s => rw [hs] at this; exact ⟨fun _ _ => rfl, this⟩
    · by_cases h0 : 0 < n
      · rw [steps_small h h0, List.cons_append, List.nil_append]
        cases t with
        | nil => trivial
        | cons f s => exact ⟨fun _ hf => absurd hf (hh f (by simp)), ht⟩
      · have : n = 0 := by omega
        subst this
        rw [steps_zero, List.nil_append]; exact ht
theorem full_sq : ∀ (xs : List En) (r : Nat), Full (sqGo r xs)
  | [], r => by
    have := full_steps r [] trivial (by simp)
    rw [List.append_nil] at this
    exact this
  | e :: t, r => by
    by_cases hk : e.kind = 0
    · rw [sqGo, if_pos hk]; exact full_sq t _
    · rw [sqGo, if_neg hk]
      have h1 := full_sq t 0
      refine full_steps r _ ?_ (by simpa using hk)
      cases hs : sqGo 0 t with
      | nil => trivial
      | cons f s => rw [hs] at h1; exact ⟨fun h => absurd h hk, h1⟩
theorem full_at : ∀ {xs : List En}, Full xs → ∀ k (h : k + 1 < xs.length), xs[k].kind = 0 → xs[k + 1].kind = 0 → xs[k].n = 100
  | [], _, k, h => absurd h (by simp)
  | [e], _, k, h => absurd h (by simp)
  | e :: f :: t, hf, 0, h => hf.1
  | e :: f :: t, hf, k + 1, h => full_at hf.2 k (by simpa using h)
theorem sq_right (P : En → Prop) (hP : ∀ n, 1 ≤ n → n ≤ 100 → P (tk n)) : ∀ (xs : List En) (r : Nat), (∀ e ∈ xs, P e) → ∀ e ∈ sqGo r xs, P e
  | [], r, h, e, he => by
    obtain ⟨_, h1, h2, h3⟩ := steps_kind r e he
    rw [h1]; exact hP _ h2 h3
  | x :: t, r, h, e, he => by
    have ht : ∀ e ∈ t, P e := fun y hy => h y (List.mem_cons_of_mem _ hy)
    by_cases hk : x.kind = 0
    · rw [sqGo, if_pos hk] at he; exact sq_right P hP t _ ht e he
    · rw [sqGo, if_neg hk] at he
      rcases List.mem_append.1 he with he | he
      · obtain ⟨_, h1, h2, h3⟩ := steps_kind r e he
        rw [h1]; exact hP _ h2 h3
      · rcases List.mem_cons.1 he with rfl | he
        · exact h e (by simp)
        · exact sq_right P hP t 0 ht e he
theorem steps_len : ∀ n, (stepsN n).length ≤ n := by
  intro n
  induction n using Nat.strongRecOn with
  | _ n ih =>
    by_cases h : 100 < n
    · rw [steps_big h, List.length_cons]
      have := ih (n - 100) (by omega); omega
    · by_cases h0 : 0 < n
      · rw [steps_small h h0]; simp; omega
      · have : n = 0 := by omega
        subst this; rw [steps_zero]; simp
theorem sq_len : ∀ (xs : List En) (r : Nat), okT xs → (sqGo r xs).length ≤ r + 100 * xs.length
  | [], r, _ => by rw [sqGo_nil]; have := steps_len r; simp; exact this
  | e :: t, r, h => by
    have ht : okT t := fun x hx => h x (List.mem_cons_of_mem _ hx)
    by_cases hk : e.kind = 0
    · have hn := h e (by simp) hk
      rw [sqGo, if_pos hk]
      have := sq_len t (r + e.n.toNat) ht
      rw [List.length_cons]; omega
    · rw [sqGo, if_neg hk, List.length_append, List.length_cons, List.length_cons]
      have h1 := steps_len r
      have h2 := sq_len t 0 ht
      omega

/-! What the program does: it goes on from what is there. -/
/-- The last entry's ticks, and those that stand ahead of it. -/
def pSt (out : List En) (e : En) : List En :=
  if e.kind ≠ 0 then out ++ [e]
  else match out.getLast? with
    | some l => if l.kind = 0 then (if l.n + e.n ≤ 100 then out.set (out.length - 1) { l with n := l.n + e.n } else out.set (out.length - 1) { l with n := 100 } ++ [tk (l.n + e.n - 100)]) else out ++ [tk e.n]
    | none => out ++ [tk e.n]
theorem steps_last : ∀ (r : Nat), 0 < r → ∃ (s : List En) (m : Nat), stepsN r = s ++ [tk m] ∧ 1 ≤ m ∧ m ≤ 100 ∧ ∀ n : Nat, 1 ≤ n → n ≤ 100 → stepsN (r + n) = if m + n ≤ 100 then s ++ [tk ((m + n : Nat) : Int)] else s ++ [tk 100] ++ [tk ((m + n - 100 : Nat) : Int)] := by
  intro r
  induction r using Nat.strongRecOn with
  | _ r ih =>
    intro h0
    by_cases h : 100 < r
    · obtain ⟨s, m, e, h1, h2, h3⟩ := ih (r - 100) (by omega) (by omega)
      refine ⟨tk 100 :: s, m, by rw [steps_big h, e]; rfl, h1, h2, fun n hn1 hn2 => ?_⟩
      have e2 : r + n - 100 = r - 100 + n := by omega
      rw [steps_big (show 100 < r + n by omega), e2, h3 n hn1 hn2]
      split <;> rfl
    · refine ⟨[], r, by rw [steps_small h h0]; rfl, h0, by omega, fun n hn1 hn2 => ?_⟩
      by_cases hh : r + n ≤ 100
      · rw [if_pos hh, steps_small (by omega) (by omega)]; rfl
      · rw [if_neg hh, steps_big (by omega), steps_small (by omega) (by omega)]
        rfl
/-- Behind some entries: what the document has, and the ticks that are to come. -/
def SqR (out : List En) (rest : List En) (all : List En) : Prop := ∃ (done : List En) (r : Nat), out = done ++ stepsN r ∧ (∀ l ∈ done.getLast?, l.kind ≠ 0) ∧ sqGo 0 all = done ++ sqGo r rest
theorem SqR.start (xs : List En) : SqR [] xs xs := ⟨[], 0, by rw [steps_zero]; rfl, by simp, by simp⟩
theorem SqR.finish {out all : List En} (h : SqR out [] all) : out = sqGo 0 all := by
  obtain ⟨d, r, e, _, h2⟩ := h
  rw [h2, sqGo_nil, e]
theorem SqR.step {out t all : List En} {e : En} (h : SqR out (e :: t) all) (hn : e.kind = 0 → 1 ≤ e.n ∧ e.n ≤ 100) : SqR (pSt out e) t all := by
  obtain ⟨d, r, ho, hl, ha⟩ := h
  by_cases hk : e.kind = 0
  · obtain ⟨n1, n2⟩ := hn hk
    obtain ⟨n, hne⟩ : ∃ n : Nat, e.n = n := ⟨e.n.toNat, by omega⟩
    rw [sqGo, if_pos hk, hne, Int.toNat_natCast] at ha
    refine ⟨d, r + n, ?_, hl, ha⟩
    unfold pSt
    rw [if_neg (by simpa using hk)]
    by_cases hr : 0 < r
    · obtain ⟨s, m, hs, m1, m2, hm⟩ := steps_last r hr
      have hm := hm n (by omega) (by omega)
      rw [ho, hs]
      have hg : (d ++ (s ++ [tk m])).getLast? = some (tk m) := by rw [← List.append_assoc]; simp
      rw [hg, hm]
      simp only
      rw [if_pos (show (tk m).kind = 0 from rfl)]
      have e1 : (tk m).n + e.n = ((m + n : Nat) : Int) := by rw [hne]; simp [tk]
      have e3 : (d ++ (s ++ [tk m])).length - 1 = (d ++ s).length := by simp
      have e4 : ∀ x : En, (d ++ (s ++ [tk m])).set (d ++ s).length x = d ++ s ++ [x] := by
        intro x
        rw [← List.append_assoc, List.set_append_right _ _ (Nat.le_refl _)]; simp
      rw [e1, e3, e4, e4]
      by_cases hh : m + n ≤ 100
      · rw [if_pos (by omega), if_pos hh]
        simp [tk]
      · rw [if_neg (by omega), if_neg hh]
        have e5 : ((m + n : Nat) : Int) - 100 = ((m + n - 100 : Nat) : Int) := by omega
        rw [e5]
        simp [tk]
    · have hr0 : r = 0 := by omega
      subst hr0
      rw [steps_zero, List.append_nil] at ho
      subst ho
      rw [Nat.zero_add, steps_small (by omega) (by omega), ← hne]
      cases hg : out.getLast? with
      | none => rfl
      | some l =>
        simp only
        rw [if_neg (hl l (by rw [hg]; rfl))]
  · rw [sqGo, if_neg hk] at ha
    refine ⟨out ++ [e], 0, ?_, ?_, ?_⟩
    · unfold pSt; rw [if_pos hk, steps_zero, List.append_nil]
    · simp [hk]
    · rw [ha, ho]; simp
/-- The document goes so: what it has, and the ticks that are to come. -/
def SqD (out : List En) (r : Nat) (rest all : List En) : Prop := sqGo 0 all = out ++ sqGo r rest
end Go.Proofs.Ytamnibfaoikdbaa
