/- PollApart: the plain law. -/
import Derived.Test.YtblapbnplflghaaPt
namespace Go.Proofs.Ytblapbnplflghaa
open Go.RowKit
set_option linter.unusedVariables false
set_option linter.unusedSimpArgs false
set_option linter.unusedSectionVars false
set_option maxRecDepth 100000

/-- What is noted of device 0. -/
def of0 (ns : List (Int × Int)) : List (Int × Int) := ns.filter (fun x => x.1 == 0)
def Q2 (T : List Th) : Prop := T.Nodup ∧ ∀ y ∈ T, y = (2, 0) ∨ y = (2, 1)
theorem Q2.erase {T : List Th} (h : Q2 T) (x : Th) : Q2 (T.erase x) := ⟨h.1.erase _, fun y hy => h.2 y (List.mem_of_mem_erase hy)⟩
theorem Q2.held {T : List Th} (h : Q2 T) {x : Th} (hx : x = (2, 0) ∨ x = (2, 1)) (hn : x ∉ T) : T.length ≤ 1 := by
  match T, h, hn with
  | [], _, _ => simp
  | [a], _, _ => simp
  | a :: b :: r, h, hn =>
    exfalso
    have ha := h.2 a (by simp)
    have hb := h.2 b (by simp)
    have hab : a ≠ b := by have := h.1; simp at this; exact this.1.1
    have h1 : x ≠ a := fun e => hn (by simp [e])
    have h2 : x ≠ b := fun e => hn (by simp [e])
    rcases ha with rfl | rfl <;> rcases hb with rfl | rfl <;> rcases hx with rfl | rfl <;> simp at hab h1 h2
theorem heldT_le (T : List Th) : heldT T ≤ T.length := List.countP_le_length
theorem push2 {T : List Th} (h : Q2 T) {k : Nat} (hk : k < 2) : pushB 0 2 2 T (2, (k : Int)) = !decide ((2, (k : Int)) ∈ T) := by
  unfold pushB
  have hok : okB 0 2 (2, (k : Int)) = true := okB_iff.2 (.inr ⟨rfl, by simp only; omega, by simp only; omega⟩)
  rw [hok]
  by_cases hm : (2, (k : Int)) ∈ T
  · simp [hm]
  · have hx : ((2, (k : Int)) : Th) = (2, 0) ∨ ((2, (k : Int)) : Th) = (2, 1) := by
      have : k = 0 ∨ k = 1 := by omega
      rcases this with rfl | rfl
      · exact .inl rfl
      · exact .inr rfl
    have := h.held hx hm
    have := heldT_le T
    have h2 : decide (2 ≤ heldT T) = false := decide_eq_false (by omega)
    simp [hm, h2]
theorem setStep2 (gs : List G) (fr : Nat) (st : List Th × Nat) (i : Nat) (h : Q2 st.1) : Q2 (setStep gs 0 2 2 fr st i).1 ∧ ∀ d : Nat, d < 2 → ((2, (d : Int)) ∈ (setStep gs 0 2 2 fr st i).1 ↔ (2, (d : Int)) ∈ st.1 ∨ ((fr + i) % 2 = d ∧ (gs.getD d noG).told ≠ 0)) := by
  have hk : (fr + i) % 2 < 2 := Nat.mod_lt _ (by decide)
  unfold setStep
  rw [push2 h hk]
  generalize (fr + i) % 2 = k at *
  by_cases hm : (2, (k : Int)) ∈ st.1
  · rw [if_neg (by simp [hm])]
    refine ⟨h, fun d hd => ⟨.inl, fun e => ?_⟩⟩
    rcases e with e | ⟨rfl, -⟩
    · exact e
    · exact hm
  · by_cases ht : (gs.getD k noG).told ≠ 0
    · rw [if_pos ⟨ht, by simp [hm]⟩]
      refine ⟨⟨?_, fun y hy => ?_⟩, fun d hd => ?_⟩
      · show (st.1 ++ [(2, (k : Int))]).Nodup
        rw [List.nodup_append]
        refine ⟨h.1, by simp, fun a ha b hb e => ?_⟩
        simp at hb
        subst hb; subst e
        exact hm ha
      · rcases List.mem_append.1 hy with hy | hy
        · exact h.2 y hy
        · simp at hy
          subst hy
          have : k = 0 ∨ k = 1 := by omega
          rcases this with rfl | rfl
          · exact .inl rfl
          · exact .inr rfl
      · show (2, (d : Int)) ∈ st.1 ++ [(2, (k : Int))] ↔ _
        rw [List.mem_append]
        constructor
        · rintro (e | e)
          · exact .inl e
          · simp at e
            obtain rfl : d = k := by omega
            exact .inr ⟨rfl, ht⟩
        · rintro (e | ⟨rfl, -⟩)
          · exact .inl e
          · exact .inr (by simp)
    · rw [if_neg (fun e => ht e.1)]
      refine ⟨h, fun d hd => ⟨.inl, fun e => ?_⟩⟩
      rcases e with e | ⟨rfl, e⟩
      · exact e
      · exact absurd e ht
theorem setQ2 (gs : List G) (fr : Nat) {T : List Th} (h : Q2 T) (f : Nat) : Q2 (setQ gs 0 2 2 fr 2 (T, f)).1 ∧ ((2, 0) ∈ (setQ gs 0 2 2 fr 2 (T, f)).1 ↔ (2, 0) ∈ T ∨ (gs.getD 0 noG).told ≠ 0) := by
  rw [show (2 : Nat) = 1 + 1 from rfl, setQ_succ, show (1 : Nat) = 0 + 1 from rfl, setQ_succ, setQ_zero]
  simp only [Nat.zero_add, Nat.reduceAdd]
  have a := setStep2 gs fr (T, f) 0 h
  have b := setStep2 gs fr _ 1 a.1
  have a2 : ((2, 0) : Th) ∈ _ ↔ ((2, 0) : Th) ∈ T ∨ (fr % 2 = 0 ∧ (gs.getD 0 noG).told ≠ 0) := a.2 0 (by decide)
  have b2 : ((2, 0) : Th) ∈ _ ↔ ((2, 0) : Th) ∈ _ ∨ ((fr + 1) % 2 = 0 ∧ (gs.getD 0 noG).told ≠ 0) := b.2 0 (by decide)
  refine ⟨b.1, ?_⟩
  rw [b2, a2]
  have : (fr % 2 = 0 ∨ (fr + 1) % 2 = 0) := by omega
  constructor
  · rintro ((e | e) | e)
    · exact .inl e
    · exact .inr e.2
    · exact .inr e.2
  · rintro (e | e)
    · exact .inl (.inl e)
    · rcases this with t | t
      · exact .inl (.inr ⟨t, e⟩)
      · exact .inr ⟨t, e⟩
/-- Two polls that are the same on device 0. -/
structure Ap (gs gs' : List G) (ns ns' : List (Int × Int)) (T T' : List Th) (i : Nat) : Prop where
  len : gs.length = 2 ∧ gs'.length = 2
  g0 : gs.getD 0 noG = gs'.getD 0 noG
  n0 : of0 ns = of0 ns'
  no : ∀ x ∈ ns, 0 ≤ x.1
  no' : ∀ x ∈ ns', 0 ≤ x.1
  le : ns.length ≤ i ∧ ns'.length ≤ i
  q : Q2 T
  q' : Q2 T'
  t0 : (2, 0) ∈ T ↔ (2, 0) ∈ T'
section
variable {gs gs' : List G} {ns ns' : List (Int × Int)} {T T' : List Th} {i : Nat}
theorem Ap.start : Ap (List.replicate 2 noG) (List.replicate 2 noG) [] [] [] [] 0 :=
  ⟨⟨rfl, rfl⟩, rfl, rfl, by simp, by simp, ⟨Nat.le_refl _, Nat.le_refl _⟩, ⟨List.nodup_nil, by simp⟩, ⟨List.nodup_nil, by simp⟩, Iff.rfl⟩
theorem Ap.up (h : Ap gs gs' ns ns' T T' i) : Ap gs gs' ns ns' T T' (i + 1) := { h with le := ⟨by have := h.le.1; omega, by have := h.le.2; omega⟩ }
theorem set0 {gs : List G} (hl : gs.length = 2) (x : G) : (gs.set 0 x).getD 0 noG = x := by
  match gs, hl with
  | [a, b], _ => rfl
theorem set1 {gs : List G} (hl : gs.length = 2) (x : G) : (gs.set 1 x).getD 0 noG = gs.getD 0 noG := by
  match gs, hl with
  | [a, b], _ => rfl
theorem mem_er {T : List Th} (h : Q2 T) : ((2, 0) : Th) ∉ T.erase (2, 0) := fun e => by
  have := (h.1.mem_erase_iff).1 e
  exact this.1 rfl
theorem mem_er1 {T : List Th} (h : Q2 T) : ((2, 0) : Th) ∈ T.erase (2, 1) ↔ (2, 0) ∈ T := by
  rw [h.1.mem_erase_iff]; simp
/-- A step on gate 0 of both, that may take it out of the queue. -/
theorem Ap.both (h : Ap gs gs' ns ns' T T' i) (x : G → G) (b : G → Bool) :
    Ap (gs.set 0 (x (gs.getD 0 noG))) (gs'.set 0 (x (gs'.getD 0 noG))) ns ns' (if b (gs.getD 0 noG) then T.erase (2, 0) else T) (if b (gs'.getD 0 noG) then T'.erase (2, 0) else T') i := by
  rw [← h.g0]
  refine ⟨⟨by rw [List.length_set]; exact h.len.1, by rw [List.length_set]; exact h.len.2⟩, by rw [set0 h.len.1, set0 h.len.2], h.n0, h.no, h.no', h.le, ?_, ?_, ?_⟩
  · split
    · exact h.q.erase _
    · exact h.q
  · split
    · exact h.q'.erase _
    · exact h.q'
  · split
    · exact ⟨fun e => absurd e (mem_er h.q), fun e => absurd e (mem_er h.q')⟩
    · exact h.t0
/-- A step on gate 1 of the first. -/
theorem Ap.one (h : Ap gs gs' ns ns' T T' i) (x : G) (b : Bool) : Ap (gs.set 1 x) gs' ns ns' (if b then T.erase (2, 1) else T) T' i := by
  refine ⟨⟨by rw [List.length_set]; exact h.len.1, h.len.2⟩, by rw [set1 h.len.1]; exact h.g0, h.n0, h.no, h.no', h.le, ?_, h.q', ?_⟩
  · split
    · exact h.q.erase _
    · exact h.q
  · split
    · rw [mem_er1 h.q]; exact h.t0
    · exact h.t0
/-- Other notes, of device 0 the same. -/
theorem Ap.notes (h : Ap gs gs' ns ns' T T' i) {m m' : List (Int × Int)} {j : Nat} (e : of0 m = of0 m') (a : ∀ x ∈ m, 0 ≤ x.1) (a' : ∀ x ∈ m', 0 ≤ x.1) (hl : m.length ≤ j ∧ m'.length ≤ j) : Ap gs gs' m m' T T' j :=
  ⟨h.len, h.g0, e, a, a', hl, h.q, h.q', h.t0⟩
theorem of0_app (ns : List (Int × Int)) (x : Int × Int) : of0 (ns ++ [x]) = of0 ns ++ (if x.1 == 0 then [x] else []) := by
  unfold of0
  rw [List.filter_append]
  congr 1
  simp only [List.filter_cons, List.filter_nil]
theorem of0_sift0 (ns : List (Int × Int)) : of0 (ns.filter (fun x => x.1 != ((0 : Nat) : Int))) = [] := by
  unfold of0
  rw [List.filter_eq_nil_iff]
  intro x hx
  have := (List.mem_filter.1 hx).2
  simpa using this
theorem of0_sift1 (ns : List (Int × Int)) : of0 (ns.filter (fun x => x.1 != ((1 : Nat) : Int))) = of0 ns := by
  unfold of0
  rw [List.filter_filter]
  apply List.filter_congr
  intro x _
  by_cases e : x.1 = 0 <;> simp [e]
theorem meets0 : ∀ (ns : List (Int × Int)) (gs : List G), gs.length = 2 → (∀ x ∈ ns, 0 ≤ x.1) → (meetsG gs ns).getD 0 noG = (of0 ns).foldl (fun g x => meetG g x.2) (gs.getD 0 noG)
  | [], gs, hl, _ => rfl
  | x :: r, gs, hl, hn => by
    have hx := hn x (List.mem_cons_self ..)
    rw [meetsG_cons, meets0 r _ (by rw [List.length_set]; exact hl) (fun y hy => hn y (List.mem_cons_of_mem _ hy))]
    obtain ⟨xd, xm⟩ := x
    by_cases e : xd = 0
    · subst e
      rw [show of0 ((0, xm) :: r) = (0, xm) :: of0 r from by simp [of0]]
      rw [List.foldl_cons]
      congr 1
      exact set0 hl _
    · rw [show of0 ((xd, xm) :: r) = of0 r from by simp [of0, e]]
      congr 1
      simp only at hx ⊢
      have : xd.toNat ≠ 0 := by omega
      match gs, hl with
      | [a, b], _ =>
        match hq : xd.toNat, this with
        | k + 1, _ => simp
theorem Ap.settle2 (h : Ap gs gs' ns ns' T T' i) (f f' : Nat) :
    Ap ((meetsG gs ns).map flushG) ((meetsG gs' ns').map flushG) [] [] (setQ ((meetsG gs ns).map flushG) 0 2 2 f 2 (T, f)).1 (setQ ((meetsG gs' ns').map flushG) 0 2 2 f' 2 (T', f')).1 (i + 1) := by
  have k0 : ∀ (l : List G), l.length = 2 → (l.map flushG).getD 0 noG = flushG (l.getD 0 noG) := fun l hl => by
    match l, hl with
    | [a, b], _ => rfl
  have e1 : (meetsG gs ns).getD 0 noG = (meetsG gs' ns').getD 0 noG := by rw [meets0 _ _ h.len.1 h.no, meets0 _ _ h.len.2 h.no', h.n0, h.g0]
  have e2 : ((meetsG gs ns).map flushG).getD 0 noG = ((meetsG gs' ns').map flushG).getD 0 noG := by
    rw [k0 _ (by rw [meetsG_len]; exact h.len.1), k0 _ (by rw [meetsG_len]; exact h.len.2), e1]
  have q1 := setQ2 ((meetsG gs ns).map flushG) f h.q f
  have q2 := setQ2 ((meetsG gs' ns').map flushG) f' h.q' f'
  refine ⟨⟨by rw [List.length_map, meetsG_len]; exact h.len.1, by rw [List.length_map, meetsG_len]; exact h.len.2⟩, e2, rfl, by simp, by simp, ⟨by simp, by simp⟩, q1.1, q2.1, ?_⟩
  rw [q1.2, q2.2, h.t0, e2]
end
end Go.Proofs.Ytblapbnplflghaa
