/- PollKeeps: the plain law. -/
import Derived.Test.YtblapbnplflghaaPt
namespace Go.Proofs.Ytblapbnplflghaa
open Go.RowKit
set_option linter.unusedVariables false
set_option linter.unusedSimpArgs false
set_option linter.unusedSectionVars false
set_option maxRecDepth 100000

theorem or8 {a b : Nat} (ha : a < 8) (hb : b < 8) : bits .or .i64 (a : Int) (b : Int) = ((a ||| b : Nat) : Int) ∧ (a ||| b) < 8 := by
  have h : ∀ x y : Fin 8, bits .or .i64 ((x : Nat) : Int) ((y : Nat) : Int) = (((x : Nat) ||| (y : Nat) : Nat) : Int) ∧ ((x : Nat) ||| (y : Nat)) < 8 := by decide
  exact h ⟨a, ha⟩ ⟨b, hb⟩
theorem and8 {a : Nat} (ha : a < 8) : bits .and .i64 (a : Int) 7 = (a : Int) := by
  have h : ∀ x : Fin 8, bits .and .i64 ((x : Nat) : Int) 7 = ((x : Nat) : Int) := by decide
  exact h ⟨a, ha⟩
/-- What is noted of a device. -/
def pendN (k : Nat) (ns : List (Int × Int)) : Nat := ns.foldr (fun x acc => if x.1 = (k : Int) then x.2.toNat ||| acc else acc) 0
def NtOk (n : Nat) (ns : List (Int × Int)) : Prop := ∀ x ∈ ns, (0 ≤ x.1 ∧ x.1 < n) ∧ 0 ≤ x.2 ∧ x.2 < 8
theorem pend_lt {n k : Nat} {ns : List (Int × Int)} (h : NtOk n ns) : pendN k ns < 8 := by
  induction ns with
  | nil => show 0 < 8; omega
  | cons x t ih =>
    have h1 := ih (fun y hy => h y (List.mem_cons_of_mem _ hy))
    have h2 := (h x (List.mem_cons_self ..)).2
    show (if x.1 = (k : Int) then x.2.toNat ||| pendN k t else pendN k t) < 8
    split
    · exact (or8 (by omega) h1).2
    · exact h1
theorem pend_none {k : Nat} {ns : List (Int × Int)} (h : ∀ x ∈ ns, x.1 ≠ (k : Int)) : pendN k ns = 0 := by
  induction ns with
  | nil => rfl
  | cons x t ih =>
    show (if x.1 = (k : Int) then x.2.toNat ||| pendN k t else pendN k t) = 0
    rw [if_neg (h x (List.mem_cons_self ..))]
    exact ih (fun y hy => h y (List.mem_cons_of_mem _ hy))
theorem pend_snoc (k : Nat) (ns : List (Int × Int)) (x : Int × Int) : pendN k (ns ++ [x]) = if x.1 = (k : Int) then pendN k ns ||| x.2.toNat else pendN k ns := by
  induction ns with
  | nil =>
    show (if x.1 = (k : Int) then x.2.toNat ||| 0 else 0) = _
    split <;> simp [pendN]
  | cons y t ih =>
    show (if y.1 = (k : Int) then y.2.toNat ||| pendN k (t ++ [x]) else pendN k (t ++ [x])) = if x.1 = (k : Int) then (if y.1 = (k : Int) then y.2.toNat ||| pendN k t else pendN k t) ||| x.2.toNat else (if y.1 = (k : Int) then y.2.toNat ||| pendN k t else pendN k t)
    rw [ih]
    split <;> split <;> simp [Nat.or_assoc]
theorem pend_filter {k K : Nat} (hk : k ≠ K) (ns : List (Int × Int)) : pendN k (ns.filter (fun x => x.1 != (K : Int))) = pendN k ns := by
  induction ns with
  | nil => rfl
  | cons x t ih =>
    by_cases h : x.1 = (K : Int)
    · rw [List.filter_cons_of_neg (by simp [h]), ih]
      show _ = if x.1 = (k : Int) then x.2.toNat ||| pendN k t else pendN k t
      rw [if_neg (by omega)]
    · rw [List.filter_cons_of_pos (by simpa using h)]
      show (if x.1 = (k : Int) then x.2.toNat ||| pendN k _ else pendN k _) = if x.1 = (k : Int) then x.2.toNat ||| pendN k t else pendN k t
      rw [ih]
/-- A gate behind what was noted. -/
theorem meets_at {k : Nat} : ∀ (ns : List (Int × Int)) (gs : List G) (hk : k < gs.length) (hk2 : k < (meetsG gs ns).length), NtOk gs.length ns →
    ((meetsG gs ns)[k].op = gs[k].op ∧ (meetsG gs ns)[k].late = gs[k].late) ∧ (gs[k].op = true → ∀ a : Nat, a < 8 → gs[k].ready = (a : Int) → (meetsG gs ns)[k].ready = ((a ||| pendN k ns : Nat) : Int)) ∧ (gs[k].op = false → (meetsG gs ns)[k].ready = gs[k].ready)
  | [], gs, hk, hk2, h => ⟨⟨rfl, rfl⟩, fun _ a _ ha => by simpa [pendN, meetsG] using ha, fun _ => rfl⟩
  | x :: t, gs, hk, hk2, h => by
    obtain ⟨⟨x1, x2⟩, x3, x4⟩ := h x (List.mem_cons_self ..)
    obtain ⟨xd, xm⟩ := x
    obtain ⟨d, rfl⟩ := Int.eq_ofNat_of_zero_le x1
    obtain ⟨m, rfl⟩ := Int.eq_ofNat_of_zero_le x3
    simp only at x2 x4
    have hd : d < gs.length := by omega
    have hgd : gs.getD d noG = gs[d] := by simp [hd]
    have hl : (gs.set d (meetG gs[d] (m : Int))).length = gs.length := List.length_set
    have e : meetsG gs (((d : Int), (m : Int)) :: t) = meetsG (gs.set d (meetG gs[d] (m : Int))) t := by
      rw [meetsG_cons]; simp only [Int.toNat_natCast, hgd]
    have ht : NtOk (gs.set d (meetG gs[d] (m : Int))).length t := by rw [hl]; exact fun y hy => h y (List.mem_cons_of_mem _ hy)
    have ih := meets_at (k := k) t (gs.set d (meetG gs[d] (m : Int))) (by rw [hl]; exact hk) (by rw [meetsG_len, hl]; exact hk) ht
    have hp : pendN k (((d : Int), (m : Int)) :: t) = if (d : Int) = (k : Int) then m ||| pendN k t else pendN k t := by
      show (if ((d : Int), (m : Int)).1 = (k : Int) then ((d : Int), (m : Int)).2.toNat ||| pendN k t else pendN k t) = _
      simp
    simp only [e]
    rw [hp]
    by_cases hdk : d = k
    · subst hdk
      simp only [List.getElem_set_self] at ih
      rw [if_pos rfl]
      cases hop : gs[d].op with
      | false =>
        have hmg : meetG gs[d] (m : Int) = gs[d] := by unfold meetG; rw [hop]; rfl
        have k0 := congrArg G.op hmg
        have k1 := congrArg G.late hmg
        have k2 := congrArg G.ready hmg
        exact ⟨⟨ih.1.1.trans (k0.trans hop), ih.1.2.trans k1⟩, (fun h => by cases h), fun _ => (ih.2.2 (k0.trans hop)).trans k2⟩
      | true =>
        have hmo : (meetG gs[d] (m : Int)).op = true := by unfold meetG; rw [hop]; simp [hop]
        have hml : (meetG gs[d] (m : Int)).late = gs[d].late := by unfold meetG; rw [hop]; simp
        rw [hmo, hml] at ih
        refine ⟨ih.1, fun _ a ha hra => ?_, (fun h => by cases h)⟩
        have hmr : (meetG gs[d] (m : Int)).ready = ((a ||| m : Nat) : Int) := by
          unfold meetG; rw [hop]
          simp only [if_true]
          rw [hra, and8 (by omega)]
          exact (or8 ha (by omega)).1
        have := ih.2.1 rfl (a ||| m) ((or8 ha (by omega)).2) hmr
        rw [this, Nat.or_assoc]
    · simp only [List.getElem_set_ne hdk] at ih
      rw [if_neg (by omega)]
      exact ih
/-- What the law's own rows say of the poll. -/
structure KI (gs : List G) (ns : List (Int × Int)) (R : Nat → Int) (Op : Nat → Bool) : Prop where
  len : gs.length = 8
  nt : NtOk 8 ns
  op : ∀ k (h : k < gs.length), gs[k].op = Op k
  on : ∀ k (h : k < gs.length), Op k = true → ∃ a b : Nat, a < 8 ∧ b < 8 ∧ gs[k].ready = a ∧ gs[k].late = b ∧ R k = ((a ||| pendN k ns ||| b : Nat) : Int)
  off : ∀ k (h : k < gs.length), Op k = false → gs[k].ready = 0 ∧ gs[k].late = 0 ∧ R k = 0 ∧ ∀ x ∈ ns, x.1 ≠ (k : Int)
def upF {α : Type} (f : Nat → α) (K : Nat) (v : α) : Nat → α := fun k => if k = K then v else f k
section
variable {gs : List G} {ns : List (Int × Int)} {R : Nat → Int} {Op : Nat → Bool}
theorem KI.start : KI (List.replicate 8 noG) [] (fun _ => 0) (fun _ => false) :=
  ⟨by simp, fun x hx => by simp at hx, fun k h => by rw [List.getElem_replicate]; rfl, (fun k h e => by cases e), fun k h _ => by rw [List.getElem_replicate]; exact ⟨rfl, rfl, rfl, fun x hx => by simp at hx⟩⟩
theorem KI.open (h : KI gs ns R Op) {K : Nat} (hK : K < gs.length) : KI (gs.set K (openG gs[K])) ns R (upF Op K true) := by
  cases ho : Op K with
  | true =>
    have e1 : openG gs[K] = gs[K] := by unfold openG; rw [h.op K hK, ho]; rfl
    have e2 : upF Op K true = Op := by funext k; unfold upF; split <;> simp_all
    rw [e1, e2, List.set_getElem_self]; exact h
  | false =>
    have e1 : openG gs[K] = { noG with op := true } := by unfold openG; rw [h.op K hK, ho]; rfl
    obtain ⟨z1, z2, z3, z4⟩ := h.off K hK ho
    rw [e1]
    refine ⟨by rw [List.length_set]; exact h.len, h.nt, fun k hk => ?_, fun k hk hop => ?_, fun k hk hop => ?_⟩
    all_goals
      rw [List.length_set] at hk
      by_cases e : k = K
    · subst e; rw [List.getElem_set_self]; simp [upF]
    · rw [List.getElem_set_ne (fun h => e h.symm)]; simp only [upF, if_neg e]; exact h.op k hk
    · subst e
      rw [List.getElem_set_self]
      exact ⟨0, 0, by omega, by omega, rfl, rfl, by rw [z3, pend_none z4]; rfl⟩
    · rw [List.getElem_set_ne (fun h => e h.symm)]
      simp only [upF, if_neg e] at hop
      exact h.on k hk hop
    · subst e; simp [upF] at hop
    · rw [List.getElem_set_ne (fun h => e h.symm)]
      simp only [upF, if_neg e] at hop
      exact h.off k hk hop
theorem KI.close (h : KI gs ns R Op) {K : Nat} (hK : K < gs.length) : KI (gs.set K noG) (if gs[K].op then ns.filter (fun x => x.1 != (K : Int)) else ns) (upF R K 0) (upF Op K false) := by
  have e0 : (if gs[K].op then ns.filter (fun x => x.1 != (K : Int)) else ns) = ns.filter (fun x => x.1 != (K : Int)) := by
    split
    · rfl
    · rename_i ho
      have := (h.off K hK (by rw [← h.op K hK]; simpa using ho)).2.2.2
      rw [eq_comm, List.filter_eq_self]
      intro x hx
      simpa using this x hx
  rw [e0]
  refine ⟨by rw [List.length_set]; exact h.len, fun x hx => h.nt x (List.mem_filter.1 hx).1, fun k hk => ?_, fun k hk hop => ?_, fun k hk hop => ?_⟩
  all_goals
    rw [List.length_set] at hk
    by_cases e : k = K
  · subst e; rw [List.getElem_set_self]; simp [upF, noG]
  · rw [List.getElem_set_ne (fun h => e h.symm)]; simp only [upF, if_neg e]; exact h.op k hk
  · subst e; simp [upF] at hop
  · rw [List.getElem_set_ne (fun h => e h.symm)]
    simp only [upF, if_neg e] at hop ⊢
    rw [pend_filter e]
    exact h.on k hk hop
  · subst e
    rw [List.getElem_set_self]
    exact ⟨rfl, rfl, by simp [upF], fun x hx => by have := (List.mem_filter.1 hx).2; simpa using this⟩
  · rw [List.getElem_set_ne (fun h => e h.symm)]
    simp only [upF, if_neg e] at hop ⊢
    obtain ⟨z1, z2, z3, z4⟩ := h.off k hk hop
    exact ⟨z1, z2, z3, fun x hx => z4 x (List.mem_filter.1 hx).1⟩
theorem KI.post (h : KI gs ns R Op) {D : PoD} {K : Nat} (hK : K < gs.length) {m : Int} {M : Nat} (hm : bits .and .i64 m 7 = (M : Int)) (hM : M < 8) :
    postB gs K m = (Op K && decide (M ≠ 0)) ∧ KI (postG D gs ns K m) (postN D gs ns K m) (if Op K then upF R K (bits .or .i64 (R K) (M : Int)) else R) Op := by
  have hgd : gs.getD K noG = gs[K] := by simp [hK]
  have eb : postB gs K m = (Op K && decide (M ≠ 0)) := by
    unfold postB
    rw [hgd, h.op K hK, hm, Bool.and_comm]
    congr 1
    rw [decide_eq_decide]; omega
  refine ⟨eb, ?_⟩
  cases ho : Op K with
  | false =>
    have e1 : postG D gs ns K m = gs := by unfold postG; rw [eb, ho]; rfl
    have e2 : postN D gs ns K m = ns := by unfold postN; rw [eb, ho]; rfl
    rw [e1, e2]; exact h
  | true =>
    obtain ⟨a, b, ha, hb, z1, z2, z3⟩ := h.on K hK ho
    have hpl := pend_lt (k := K) h.nt
    have h1 := or8 ha hpl
    have h2 := or8 h1.2 hb
    have hR : bits .or .i64 (R K) (M : Int) = ((a ||| pendN K ns ||| b ||| M : Nat) : Int) := by rw [z3]; exact (or8 h2.2 hM).1
    rw [if_pos rfl, hR]
    by_cases hM0 : M = 0
    · have eb2 : postB gs K m = false := by rw [eb, hM0]; simp
      have e1 : postG D gs ns K m = gs := by unfold postG; rw [eb2]; rfl
      have e2 : postN D gs ns K m = ns := by unfold postN; rw [eb2]; rfl
      have e3 : upF R K (((a ||| pendN K ns ||| b ||| M : Nat) : Int)) = R := by
        funext k; unfold upF; split
        · rename_i e; subst e; rw [z3, hM0]; simp
        · rfl
      rw [e1, e2, e3]; exact h
    · have eb2 : postB gs K m = true := by rw [eb, ho]; simpa using hM0
      by_cases hl : ns.length < D.cap
      · have e1 : postG D gs ns K m = gs := by unfold postG; rw [if_neg (fun e => e.2 hl)]
        have e2 : postN D gs ns K m = ns ++ [((K : Int), (M : Int))] := by unfold postN; rw [if_pos ⟨eb2, hl⟩, hm]
        rw [e1, e2]
        refine ⟨h.len, fun x hx => ?_, h.op, fun k hk hop => ?_, fun k hk hop => ?_⟩
        · rcases List.mem_append.1 hx with hx | hx
          · exact h.nt x hx
          · obtain rfl : x = ((K : Int), (M : Int)) := by simpa using hx
            have := h.len
            exact ⟨⟨by simp only; omega, by simp only; omega⟩, by simp only; omega, by simp only; omega⟩
        · by_cases e : k = K
          · subst e
            refine ⟨a, b, ha, hb, z1, z2, ?_⟩
            simp only [upF, if_true]
            rw [pend_snoc]
            simp only [if_true, Int.toNat_natCast]
            congr 1
            ac_rfl
          · obtain ⟨a', b', q1, q2, q3, q4, q5⟩ := h.on k hk hop
            refine ⟨a', b', q1, q2, q3, q4, ?_⟩
            simp only [upF, if_neg e]
            rw [pend_snoc, if_neg (by simp only; omega)]
            exact q5
        · have hkK : k ≠ K := fun e => by subst e; rw [ho] at hop; cases hop
          obtain ⟨q1, q2, q3, q4⟩ := h.off k hk hop
          refine ⟨q1, q2, by simp only [upF, if_neg hkK]; exact q3, fun x hx => ?_⟩
          rcases List.mem_append.1 hx with hx | hx
          · exact q4 x hx
          · obtain rfl : x = ((K : Int), (M : Int)) := by simpa using hx
            simp only; omega
      · have e1 : postG D gs ns K m = gs.set K (keepG gs[K] (M : Int)) := by unfold postG; rw [if_pos ⟨eb2, hl⟩, hm, hgd]
        have e2 : postN D gs ns K m = ns := by unfold postN; rw [if_neg (fun e => hl e.2)]
        have k0 : (keepG gs[K] (M : Int)).op = Op K := by unfold keepG; rw [h.op K hK, ho]; simp [h.op K hK, ho]
        have k1 : (keepG gs[K] (M : Int)).ready = (a : Int) := by unfold keepG; rw [h.op K hK, ho]; simpa using z1
        have k2 : (keepG gs[K] (M : Int)).late = ((b ||| M : Nat) : Int) := by
          unfold keepG
          rw [if_pos (by rw [h.op K hK, ho])]
          show bits .or .i64 gs[K].late (bits .and .i64 (M : Int) 7) = _
          rw [z2, and8 hM, (or8 hb hM).1]
        rw [e1, e2]
        generalize keepG gs[K] (M : Int) = g2 at *
        refine ⟨by rw [List.length_set]; exact h.len, h.nt, fun k hk => ?_, fun k hk hop => ?_, fun k hk hop => ?_⟩
        all_goals
          rw [List.length_set] at hk
          by_cases e : k = K
        · subst e; rw [List.getElem_set_self]; exact k0
        · rw [List.getElem_set_ne (fun h => e h.symm)]; exact h.op k hk
        · subst e
          rw [List.getElem_set_self]
          refine ⟨a, b ||| M, ha, (or8 hb hM).2, k1, k2, ?_⟩
          simp only [upF, if_true]
          congr 1
          ac_rfl
        · rw [List.getElem_set_ne (fun h => e h.symm)]
          simp only [upF, if_neg e]
          exact h.on k hk hop
        · subst e; rw [ho] at hop; cases hop
        · rw [List.getElem_set_ne (fun h => e h.symm)]
          simp only [upF, if_neg e]
          exact h.off k hk hop
/-- Settled, all is as the law's rows say. -/
theorem KI.settle (h : KI gs ns R Op) {k : Nat} (hk : k < ((meetsG gs ns).map flushG).length) : ((meetsG gs ns).map flushG)[k].ready = R k ∧ ((meetsG gs ns).map flushG)[k].late = 0 ∧ ((meetsG gs ns).map flushG)[k].op = Op k := by
  have hl : ((meetsG gs ns).map flushG).length = gs.length := by rw [List.length_map, meetsG_len]
  have hk1 : k < gs.length := by omega
  have hk2 : k < (meetsG gs ns).length := by rw [meetsG_len]; exact hk1
  obtain ⟨⟨m1, m2⟩, m3, m4⟩ := meets_at ns gs hk1 hk2 (by rw [h.len]; exact h.nt)
  rw [List.getElem_map]
  cases ho : Op k with
  | false =>
    obtain ⟨z1, z2, z3, -⟩ := h.off k hk1 ho
    have mo : (meetsG gs ns)[k].op = false := by rw [m1, h.op k hk1, ho]
    have mr := m4 (by rw [h.op k hk1, ho])
    generalize (meetsG gs ns)[k] = g at *
    unfold flushG meetG
    simp only [mo, Bool.false_eq_true, if_false]
    exact ⟨by rw [mr, z1, z3], trivial, trivial⟩
  | true =>
    obtain ⟨a, b, ha, hb, z1, z2, z3⟩ := h.on k hk1 ho
    have mo : (meetsG gs ns)[k].op = true := by rw [m1, h.op k hk1, ho]
    have mr := m3 (by rw [h.op k hk1, ho]) a ha z1
    have ml : (meetsG gs ns)[k].late = (b : Int) := by rw [m2, z2]
    have hpl := pend_lt (k := k) h.nt
    generalize (meetsG gs ns)[k] = g at *
    unfold flushG meetG
    simp only [mo, if_true]
    refine ⟨?_, trivial, trivial⟩
    rw [ml, mr, and8 hb, z3]
    exact (or8 (or8 ha hpl).2 hb).1
end
end Go.Proofs.Ytblapbnplflghaa
