/- PollEdges: the plain law. -/
import Derived.Test.YtblapbnplflghaaKp
import Derived.Test.YtblapbnplflghaaChainP
namespace Go.Proofs.Ytblapbnplflghaa
open Go.RowKit
set_option linter.unusedVariables false
set_option linter.unusedSimpArgs false
set_option linter.unusedSectionVars false
set_option maxRecDepth 100000

/-- A gate that is watched for all by its edges: ready, late, told. -/
def gE (k a b t : Nat) : G := ⟨true, a, b, (k : Int) + 1, 7, 1, t⟩
theorem meet_gE (k : Nat) {a b t m : Nat} (ha : a < 8) (ht : t < 8) (hm : m < 8) : meetG (gE k a b t) (m : Int) = gE k (a ||| m) b (t ||| m) := by
  unfold meetG gE
  simp only [if_true]
  rw [and8 hm, (or8 ha hm).1, (or8 ht hm).1]
theorem meet_noG (m : Int) : meetG noG m = noG := rfl
theorem flush_gE (k : Nat) {a b t : Nat} (ha : a < 8) (ht : t < 8) (hb : b < 8) : flushG (gE k a b t) = gE k (a ||| b) 0 (t ||| b) := by
  unfold flushG
  have : ({ gE k a b t with late := 0 } : G) = gE k a 0 t := rfl
  rw [this]
  exact meet_gE k ha ht hb
theorem flush_noG : flushG noG = noG := rfl
theorem keep_gE (k : Nat) {a b t m : Nat} (hb : b < 8) (hm : m < 8) : keepG (gE k a b t) (m : Int) = gE k a (b ||| m) t := by
  unfold keepG gE
  simp only [if_true]
  rw [and8 hm, (or8 hb hm).1]
theorem tell_gE (k : Nat) {a t : Nat} (ht : 0 < t) : tellG (gE k a 0 t) = gE k a 0 0 ∧ maskG (gE k a 0 t) = (t : Int) ∧ whoG (gE k a 0 t) = (k : Int) + 1 := by
  have h1 : maskG (gE k a 0 t) = (t : Int) := rfl
  refine ⟨rfl, h1, ?_⟩
  unfold whoG
  rw [h1, if_neg (by omega)]
  rfl
theorem meets_gE {k : Nat} : ∀ (ns : List (Int × Int)) (gs : List G) (hk : k < gs.length) (hk2 : k < (meetsG gs ns).length), NtOk gs.length ns →
    (∀ a b t : Nat, a < 8 → t < 8 → gs[k] = gE k a b t → (meetsG gs ns)[k] = gE k (a ||| pendN k ns) b (t ||| pendN k ns)) ∧ (gs[k] = noG → (meetsG gs ns)[k] = noG)
  | [], gs, hk, hk2, h => ⟨fun a b t _ _ e => by simpa [pendN, meetsG] using e, fun e => e⟩
  | x :: r, gs, hk, hk2, h => by
    obtain ⟨⟨x1, x2⟩, x3, x4⟩ := h x (List.mem_cons_self ..)
    obtain ⟨xd, xm⟩ := x
    obtain ⟨d, rfl⟩ := Int.eq_ofNat_of_zero_le x1
    obtain ⟨m, rfl⟩ := Int.eq_ofNat_of_zero_le x3
    simp only at x2 x4
    have hd : d < gs.length := by omega
    have hgd : gs.getD d noG = gs[d] := by simp [hd]
    have hl : (gs.set d (meetG gs[d] (m : Int))).length = gs.length := List.length_set
    have e : meetsG gs (((d : Int), (m : Int)) :: r) = meetsG (gs.set d (meetG gs[d] (m : Int))) r := by
      rw [meetsG_cons]; simp only [Int.toNat_natCast, hgd]
    have ih := meets_gE (k := k) r (gs.set d (meetG gs[d] (m : Int))) (by rw [hl]; exact hk) (by rw [meetsG_len, hl]; exact hk) (by rw [hl]; exact fun y hy => h y (List.mem_cons_of_mem _ hy))
    have hp : pendN k (((d : Int), (m : Int)) :: r) = if (d : Int) = (k : Int) then m ||| pendN k r else pendN k r := by
      show (if ((d : Int), (m : Int)).1 = (k : Int) then ((d : Int), (m : Int)).2.toNat ||| pendN k r else pendN k r) = _
      simp
    simp only [e]
    rw [hp]
    have hm8 : m < 8 := by omega
    by_cases hdk : d = k
    · subst hdk
      simp only [List.getElem_set_self] at ih
      rw [if_pos rfl]
      refine ⟨fun a b t ha ht hg => ?_, fun hg => ?_⟩
      · have := ih.1 (a ||| m) b (t ||| m) (or8 ha hm8).2 (or8 ht hm8).2 (by rw [hg]; exact meet_gE d ha ht hm8)
        rw [Nat.or_assoc, Nat.or_assoc] at this
        exact this
      · exact ih.2 (by rw [hg]; exact meet_noG _)
    · simp only [List.getElem_set_ne hdk] at ih
      rw [if_neg (by omega)]
      exact ih
/-- What the law's own row says of the gates. -/
structure EI (gs : List G) (ns : List (Int × Int)) (O : Nat → Int) : Prop where
  len : gs.length = 4
  nt : NtOk 4 ns
  at_ : ∀ k (h : k < gs.length), (∃ a b t : Nat, a < 8 ∧ b < 8 ∧ t < 8 ∧ gs[k] = gE k a b t ∧ O k = ((t ||| pendN k ns ||| b : Nat) : Int)) ∨ (gs[k] = noG ∧ O k = 0 ∧ ∀ x ∈ ns, x.1 ≠ (k : Int))
/-- All of them are open. -/
structure EO (gs : List G) (ns : List (Int × Int)) (O : Nat → Int) : Prop where
  len : gs.length = 4
  nt : NtOk 4 ns
  at_ : ∀ k (h : k < gs.length), ∃ b : Nat, b < 8 ∧ gs[k] = gE k 0 b 0 ∧ O k = ((pendN k ns ||| b : Nat) : Int)
section
variable {gs : List G} {ns : List (Int × Int)} {O : Nat → Int}
theorem EO.start : EO [gE 0 0 0 0, gE 1 0 0 0, gE 2 0 0 0, gE 3 0 0 0] [] (fun _ => 0) :=
  ⟨rfl, fun x hx => by simp at hx, fun k hk => by
    have : k = 0 ∨ k = 1 ∨ k = 2 ∨ k = 3 := by simp at hk; omega
    rcases this with rfl | rfl | rfl | rfl <;> exact ⟨0, by omega, rfl, rfl⟩⟩
theorem EO.toI (h : EO gs ns O) : EI gs ns O := ⟨h.len, h.nt, fun k hk => by
  obtain ⟨b, hb, e, o⟩ := h.at_ k hk
  exact .inl ⟨0, b, 0, by omega, hb, by omega, e, by rw [o]; simp⟩⟩
theorem EO.post (h : EO gs ns O) {D : PoD} {K : Nat} (hK : K < gs.length) {m : Int} {M : Nat} (hm : bits .and .i64 m 7 = (M : Int)) (hM : M < 8) :
    EO (postG D gs ns K m) (postN D gs ns K m) (upF O K (bits .or .i64 (O K) (M : Int))) := by
  obtain ⟨b, hb, z1, z2⟩ := h.at_ K hK
  have hgd : gs.getD K noG = gs[K] := by simp [hK]
  have eb : postB gs K m = decide (M ≠ 0) := by
    unfold postB
    rw [hgd, hm, z1, show (gE K 0 b 0).op = true from rfl, Bool.and_true, decide_eq_decide]; omega
  have hpl := pend_lt (k := K) h.nt
  have h1 := or8 hpl hb
  have hR : bits .or .i64 (O K) (M : Int) = ((pendN K ns ||| b ||| M : Nat) : Int) := by rw [z2]; exact (or8 h1.2 hM).1
  rw [hR]
  by_cases hM0 : M = 0
  · have eb2 : postB gs K m = false := by rw [eb, hM0]; simp
    have e1 : postG D gs ns K m = gs := by unfold postG; rw [eb2]; rfl
    have e2 : postN D gs ns K m = ns := by unfold postN; rw [eb2]; rfl
    have e3 : upF O K (((pendN K ns ||| b ||| M : Nat) : Int)) = O := by
      funext k; unfold upF; split
      · rename_i e; subst e; rw [z2, hM0]; simp
      · rfl
    rw [e1, e2, e3]; exact h
  · have eb2 : postB gs K m = true := by rw [eb]; simpa using hM0
    by_cases hl : ns.length < D.cap
    · have e1 : postG D gs ns K m = gs := by unfold postG; rw [if_neg (fun e => e.2 hl)]
      have e2 : postN D gs ns K m = ns ++ [((K : Int), (M : Int))] := by unfold postN; rw [if_pos ⟨eb2, hl⟩, hm]
      rw [e1, e2]
      refine ⟨h.len, fun x hx => ?_, fun k hk => ?_⟩
      · rcases List.mem_append.1 hx with hx | hx
        · exact h.nt x hx
        · obtain rfl : x = ((K : Int), (M : Int)) := by simpa using hx
          have := h.len
          exact ⟨⟨by simp only; omega, by simp only; omega⟩, by simp only; omega, by simp only; omega⟩
      · by_cases e : k = K
        · subst e
          refine ⟨b, hb, z1, ?_⟩
          simp only [upF, if_true]
          rw [pend_snoc]
          simp only [if_true, Int.toNat_natCast]
          congr 1
          ac_rfl
        · obtain ⟨b', q1, q2, q3⟩ := h.at_ k hk
          refine ⟨b', q1, q2, ?_⟩
          simp only [upF, if_neg e]
          rw [pend_snoc, if_neg (by simp only; omega)]
          exact q3
    · have e1 : postG D gs ns K m = gs.set K (gE K 0 (b ||| M) 0) := by unfold postG; rw [if_pos ⟨eb2, hl⟩, hm, hgd, z1, keep_gE K hb hM]
      have e2 : postN D gs ns K m = ns := by unfold postN; rw [if_neg (fun e => hl e.2)]
      rw [e1, e2]
      refine ⟨by rw [List.length_set]; exact h.len, h.nt, fun k hk => ?_⟩
      rw [List.length_set] at hk
      by_cases e : k = K
      · subst e
        rw [List.getElem_set_self]
        refine ⟨b ||| M, (or8 hb hM).2, rfl, ?_⟩
        simp only [upF, if_true]
        congr 1
        ac_rfl
      · rw [List.getElem_set_ne (fun h => e h.symm)]
        simp only [upF, if_neg e]
        exact h.at_ k hk
theorem EO.close (h : EO gs ns O) {K : Nat} (hK : K < gs.length) : gs[K].op = true ∧ EI (gs.set K noG) (ns.filter (fun x => x.1 != (K : Int))) (upF O K 0) := by
  obtain ⟨b, hb, z1, z2⟩ := h.at_ K hK
  refine ⟨by rw [z1]; rfl, by rw [List.length_set]; exact h.len, fun x hx => h.nt x (List.mem_filter.1 hx).1, fun k hk => ?_⟩
  rw [List.length_set] at hk
  by_cases e : k = K
  · subst e
    rw [List.getElem_set_self]
    exact .inr ⟨rfl, by simp [upF], fun x hx => by have := (List.mem_filter.1 hx).2; simpa using this⟩
  · rw [List.getElem_set_ne (fun h => e h.symm)]
    obtain ⟨b', q1, q2, q3⟩ := h.at_ k hk
    refine .inl ⟨0, b', 0, by omega, q1, by omega, q2, ?_⟩
    simp only [upF, if_neg e]
    rw [pend_filter e, q3]; simp
/-- Settled. -/
structure ES (gs : List G) (O : Nat → Int) : Prop where
  len : gs.length = 4
  at_ : ∀ k (h : k < gs.length), (∃ a t : Nat, a < 8 ∧ t < 8 ∧ gs[k] = gE k a 0 t ∧ O k = (t : Int)) ∨ (gs[k] = noG ∧ O k = 0)
theorem EI.settle (h : EI gs ns O) : ES ((meetsG gs ns).map flushG) O := by
  refine ⟨by rw [List.length_map, meetsG_len]; exact h.len, fun k hk => ?_⟩
  have hl : ((meetsG gs ns).map flushG).length = gs.length := by rw [List.length_map, meetsG_len]
  have hk1 : k < gs.length := by omega
  have hk2 : k < (meetsG gs ns).length := by rw [meetsG_len]; exact hk1
  have hm := meets_gE (k := k) ns gs hk1 hk2 (by rw [h.len]; exact h.nt)
  have hpl := pend_lt (k := k) h.nt
  rw [List.getElem_map]
  rcases h.at_ k hk1 with ⟨a, b, t, ha, hb, ht, hg, ho⟩ | ⟨hg, ho, -⟩
  · refine .inl ⟨a ||| pendN k ns ||| b, t ||| pendN k ns ||| b, (or8 (or8 ha hpl).2 hb).2, (or8 (or8 ht hpl).2 hb).2, ?_, ho⟩
    rw [hm.1 a b t ha ht hg, flush_gE k (or8 ha hpl).2 (or8 ht hpl).2 hb]
  · exact .inr ⟨by rw [hm.2 hg, flush_noG], ho⟩
end
/-- Of n devices those that wait, each once. -/
def Qn (n : Nat) (T : List Th) : Prop := T.Nodup ∧ ∀ y ∈ T, ∃ k : Nat, k < n ∧ y = (2, (k : Int))
theorem Qn.len {n : Nat} {T : List Th} (h : Qn n T) : T.length ≤ n := by
  have hi : ∀ T : List Th, (∀ y ∈ T, ∃ k : Nat, k < n ∧ y = (2, (k : Int))) → T.Nodup → (T.map (fun y => y.2.toNat)).Nodup := by
    intro T hT hn
    induction T with
    | nil => simp
    | cons x r ih =>
      rw [List.nodup_cons] at hn
      rw [List.map_cons, List.nodup_cons]
      refine ⟨fun hm => ?_, ih (fun y hy => hT y (List.mem_cons_of_mem _ hy)) hn.2⟩
      obtain ⟨y, hy, e⟩ := List.mem_map.1 hm
      obtain ⟨k, -, rfl⟩ := hT x (List.mem_cons_self ..)
      obtain ⟨k', -, rfl⟩ := hT y (List.mem_cons_of_mem _ hy)
      simp at e
      subst e
      exact hn.1 hy
  have := nodup_lt_length n _ (hi T h.2 h.1) (fun x hx => by
    obtain ⟨y, hy, rfl⟩ := List.mem_map.1 hx
    obtain ⟨k, hk, rfl⟩ := h.2 y hy
    simpa using hk)
  simpa using this
theorem Qn.snoc {n k : Nat} {T : List Th} (h : Qn n T) (hk : k < n) (hm : (2, (k : Int)) ∉ T) : Qn n (T ++ [(2, (k : Int))]) := by
  refine ⟨?_, fun y hy => ?_⟩
  · rw [List.nodup_append]
    refine ⟨h.1, by simp, fun a ha b hb e => ?_⟩
    simp at hb
    subst hb; subst e
    exact hm ha
  · rcases List.mem_append.1 hy with hy | hy
    · exact h.2 y hy
    · simp at hy; exact ⟨k, hk, hy⟩
theorem pushN {n mo k : Nat} {T : List Th} (h : Qn n T) (hk : k < n) (hmo : n ≤ mo) : pushB 0 n mo T (2, (k : Int)) = !decide ((2, (k : Int)) ∈ T) := by
  unfold pushB
  have hok : okB 0 n (2, (k : Int)) = true := okB_iff.2 (.inr ⟨rfl, by simp only; omega, by simp only; omega⟩)
  rw [hok]
  by_cases hm : (2, (k : Int)) ∈ T
  · simp [hm]
  · have hl := (h.snoc hk hm).len
    rw [List.length_append] at hl
    have hh : heldT T ≤ T.length := List.countP_le_length
    have h2 : decide (mo ≤ heldT T) = false := decide_eq_false (by simp at hl; omega)
    simp [hm, h2]
theorem setStepN {n mo : Nat} (gs : List G) (fr : Nat) (st : List Th × Nat) (i : Nat) (hn : 0 < n) (hmo : n ≤ mo) (h : Qn n st.1) : Qn n (setStep gs 0 n mo fr st i).1 ∧ ∀ d : Nat, d < n → ((2, (d : Int)) ∈ (setStep gs 0 n mo fr st i).1 ↔ (2, (d : Int)) ∈ st.1 ∨ ((fr + i) % n = d ∧ (gs.getD d noG).told ≠ 0)) := by
  have hk : (fr + i) % n < n := Nat.mod_lt _ hn
  unfold setStep
  rw [pushN h hk hmo]
  generalize (fr + i) % n = k at *
  by_cases hm : (2, (k : Int)) ∈ st.1
  · rw [if_neg (by simp [hm])]
    refine ⟨h, fun d hd => ⟨.inl, fun e => ?_⟩⟩
    rcases e with e | ⟨rfl, -⟩
    · exact e
    · exact hm
  · by_cases ht : (gs.getD k noG).told ≠ 0
    · rw [if_pos ⟨ht, by simp [hm]⟩]
      refine ⟨h.snoc hk hm, fun d hd => ?_⟩
      show (2, (d : Int)) ∈ st.1 ++ [(2, (k : Int))] ↔ _
      rw [List.mem_append]
      constructor
      · rintro (e | e)
        · exact .inl e
        · simp at e
          obtain rfl : d = k := by omega
          exact .inr ⟨rfl, ht⟩
      · rintro (e | ⟨rfl, -⟩)
        · exact .inl e
        · exact .inr (by simp)
    · rw [if_neg (fun e => ht e.1)]
      refine ⟨h, fun d hd => ⟨.inl, fun e => ?_⟩⟩
      rcases e with e | ⟨rfl, e⟩
      · exact e
      · exact absurd e ht
theorem setQN {n mo : Nat} (gs : List G) (fr : Nat) (T : List Th) (f : Nat) (hn : 0 < n) (hmo : n ≤ mo) (h : Qn n T) : ∀ i, Qn n (setQ gs 0 n mo fr i (T, f)).1 ∧ ∀ d : Nat, d < n → ((2, (d : Int)) ∈ (setQ gs 0 n mo fr i (T, f)).1 ↔ (2, (d : Int)) ∈ T ∨ ((∃ j, j < i ∧ (fr + j) % n = d) ∧ (gs.getD d noG).told ≠ 0))
  | 0 => ⟨h, fun d _ => ⟨.inl, fun e => by
      rcases e with e | ⟨⟨j, hj, -⟩, -⟩
      · exact e
      · omega⟩⟩
  | i + 1 => by
    have ih := setQN gs fr T f hn hmo h i
    have st := setStepN gs fr _ i hn hmo ih.1
    rw [setQ_succ]
    refine ⟨st.1, fun d hd => ?_⟩
    rw [st.2 d hd, ih.2 d hd]
    constructor
    · rintro ((e | ⟨⟨j, hj, hjd⟩, e⟩) | ⟨hjd, e⟩)
      · exact .inl e
      · exact .inr ⟨⟨j, by omega, hjd⟩, e⟩
      · exact .inr ⟨⟨i, by omega, hjd⟩, e⟩
    · rintro (e | ⟨⟨j, hj, hjd⟩, e⟩)
      · exact .inl (.inl e)
      · rcases Nat.lt_succ_iff_lt_or_eq.1 hj with hj | rfl
        · exact .inl (.inr ⟨⟨j, hj, hjd⟩, e⟩)
        · exact .inr ⟨hjd, e⟩
theorem round_n {n d fr : Nat} (hd : d < n) : ∃ j, j < n ∧ (fr + j) % n = d := by
  have hn : 0 < n := by omega
  have hm := Nat.mod_lt fr hn
  have hdm := Nat.div_add_mod fr n
  by_cases h : fr % n ≤ d
  · refine ⟨d - fr % n, by omega, ?_⟩
    rw [show fr + (d - fr % n) = d + n * (fr / n) by omega, Nat.add_mul_mod_self_left, Nat.mod_eq_of_lt hd]
  · refine ⟨d + n - fr % n, by omega, ?_⟩
    rw [show fr + (d + n - fr % n) = d + n * (fr / n + 1) by rw [Nat.mul_add]; omega, Nat.add_mul_mod_self_left, Nat.mod_eq_of_lt hd]
/-- Settled with an empty queue: those wait that have something to tell. -/
theorem setQN_all {n mo : Nat} (gs : List G) (fr f : Nat) (hn : 0 < n) (hmo : n ≤ mo) : Qn n (setQ gs 0 n mo fr n ([], f)).1 ∧ ∀ d : Nat, d < n → ((2, (d : Int)) ∈ (setQ gs 0 n mo fr n ([], f)).1 ↔ (gs.getD d noG).told ≠ 0) := by
  have h := setQN gs fr [] f hn hmo ⟨List.nodup_nil, by simp⟩ n
  refine ⟨h.1, fun d hd => ?_⟩
  rw [h.2 d hd]
  constructor
  · rintro (e | ⟨-, e⟩)
    · simp at e
    · exact e
  · exact fun e => .inr ⟨round_n hd, e⟩
/-- While the queue is gone through: what is told so far. -/
structure EQ (gs : List G) (T : List Th) (O L : Nat → Int) : Prop where
  len : gs.length = 4
  q : Qn 4 T
  on : ∀ k (h : k < gs.length), (2, (k : Int)) ∈ T → ∃ a t : Nat, a < 8 ∧ 0 < t ∧ t < 8 ∧ gs[k] = gE k a 0 t ∧ O k = (t : Int) ∧ L k = 0
  off : ∀ k (h : k < gs.length), (2, (k : Int)) ∉ T → L k = O k ∧ ((∃ a : Nat, a < 8 ∧ gs[k] = gE k a 0 0) ∨ gs[k] = noG)
section
variable {gs : List G} {ns : List (Int × Int)} {O L : Nat → Int} {T : List Th}
theorem ES.start (h : ES gs O) (fr f : Nat) : EQ gs (setQ gs 0 4 4 fr 4 ([], f)).1 O (fun _ => 0) := by
  have s := setQN_all (n := 4) (mo := 4) gs fr f (by decide) (by decide)
  refine ⟨h.len, s.1, fun k hk hm => ?_, fun k hk hm => ?_⟩
  all_goals
    have hk4 : k < 4 := by have := h.len; omega
    have hgd : gs.getD k noG = gs[k] := by simp [hk]
    rw [s.2 k hk4, hgd] at hm
  · rcases h.at_ k hk with ⟨a, t, ha, ht, hg, ho⟩ | ⟨hg, ho⟩
    · rw [hg] at hm
      have : (t : Int) ≠ 0 := hm
      exact ⟨a, t, ha, by omega, ht, hg, ho, rfl⟩
    · rw [hg] at hm; exact absurd rfl hm
  · rcases h.at_ k hk with ⟨a, t, ha, ht, hg, ho⟩ | ⟨hg, ho⟩
    · rw [hg] at hm
      have : (t : Int) = 0 := by
        apply Classical.byContradiction
        intro e
        exact hm e
      obtain rfl : t = 0 := by omega
      exact ⟨ho.symm, .inl ⟨a, ha, hg⟩⟩
    · exact ⟨ho.symm, .inr hg⟩
/-- The first one is told. -/
theorem EQ.pop (h : EQ gs T O L) (hT : T ≠ []) : ∃ k t : Nat, ∃ hk : k < gs.length, k < 4 ∧ T.headD (0, 0) = (2, (k : Int)) ∧ 0 < t ∧ t < 8 ∧ maskG gs[k] = (t : Int) ∧ whoG gs[k] = (k : Int) + 1 ∧ L k = 0 ∧ EQ (gs.set k (tellG gs[k])) T.tail O (upF L k (t : Int)) := by
  match T, hT, h with
  | y :: r, _, h =>
    obtain ⟨k, hk4, rfl⟩ := h.q.2 y (List.mem_cons_self ..)
    have hk : k < gs.length := by have := h.len; omega
    obtain ⟨a, t, ha, ht0, ht, hg, ho, hL⟩ := h.on k hk (List.mem_cons_self ..)
    have tg := tell_gE k (a := a) ht0
    have hnd := List.nodup_cons.1 h.q.1
    refine ⟨k, t, hk, hk4, rfl, ht0, ht, by rw [hg]; exact tg.2.1, by rw [hg]; exact tg.2.2, hL, ?_⟩
    rw [hg, tg.1]
    show EQ _ r O _
    refine ⟨by rw [List.length_set]; exact h.len, ⟨hnd.2, fun y hy => h.q.2 y (List.mem_cons_of_mem _ hy)⟩, fun j hj hm => ?_, fun j hj hm => ?_⟩
    all_goals
      rw [List.length_set] at hj
      by_cases e : j = k
    · subst e; exact absurd hm hnd.1
    · rw [List.getElem_set_ne (fun h => e h.symm)]
      simp only [upF, if_neg e]
      exact h.on j hj (List.mem_cons_of_mem _ hm)
    · subst e
      rw [List.getElem_set_self]
      exact ⟨by simp only [upF, if_true]; exact ho.symm, .inl ⟨a, ha, rfl⟩⟩
    · rw [List.getElem_set_ne (fun h => e h.symm)]
      simp only [upF, if_neg e]
      refine h.off j hj (fun hm2 => ?_)
      rcases List.mem_cons.1 hm2 with hm2 | hm2
      · simp at hm2; omega
      · exact hm hm2
theorem EQ.end (h : EQ gs [] O L) : (∀ k, k < 4 → L k = O k) ∧ EI gs [] (fun _ => 0) := by
  refine ⟨fun k hk => (h.off k (by rw [h.len]; exact hk) (by simp)).1, h.len, fun x hx => by simp at hx, fun k hk => ?_⟩
  rcases (h.off k hk (by simp)).2 with ⟨a, ha, hg⟩ | hg
  · exact .inl ⟨a, 0, 0, ha, by omega, by omega, hg, by simp [pendN]⟩
  · exact .inr ⟨hg, rfl, by simp⟩
end
end Go.Proofs.Ytblapbnplflghaa
