/- PollTurns: the gates, and the state. -/
import Derived.Test.YtblapbnplflghaaKt2
import Derived.Test.YtblapbnplflghaaPv
namespace Go.Proofs.Ytblapbnplflghaa
open Go.RowKit
set_option linter.unusedVariables false
set_option linter.unusedSimpArgs false
set_option linter.unusedSectionVars false
set_option maxRecDepth 100000

/-- A gate that is watched for one thing by its level; is it ready? -/
def gT (r : Int) (d : Nat) : G := ⟨true, r, 0, d, 1, 0, r⟩
def tuG (n k : Nat) : List G := (List.range n).map (fun d => if d < k then gT 0 d else noG)
def tuG1 (n k : Nat) : List G := (tuG n k).set k ⟨true, 0, 0, 0, 0, 0, 0⟩
def tuN (k : Nat) : List (Int × Int) := (List.range k).map (fun (i : Nat) => ((i : Int), (1 : Int)))
def tuA (n : Nat) : List G := (List.range n).map (gT 1)
theorem tuG_len (n k : Nat) : (tuG n k).length = n := by simp [tuG]
theorem tuG1_len (n k : Nat) : (tuG1 n k).length = n := by simp [tuG1, tuG_len]
theorem tuA_len (n : Nat) : (tuA n).length = n := by simp [tuA]
theorem tuN_len (n : Nat) : (tuN n).length = n := by simp [tuN]
theorem tuG_zero (n : Nat) : tuG n 0 = List.replicate n noG := by
  apply List.ext_getElem
  · simp [tuG]
  · intro i h1 h2; simp [tuG]
theorem tuG_at {n k : Nat} (h : k < (tuG n k).length) : (tuG n k)[k] = noG := by simp [tuG]
theorem tu_open {n k : Nat} (h : k < (tuG n k).length) : (tuG n k).set k (openG (tuG n k)[k]) = tuG1 n k ∧ (!(tuG n k)[k].op) = true := by
  rw [tuG_at h]; exact ⟨rfl, rfl⟩
theorem and01 : bits .and .i64 0 1 = 0 := by decide
theorem tu_watch {n k : Nat} (h : k < (tuG1 n k).length) : (tuG1 n k).set k (watchG (tuG1 n k)[k] (k : Int) 1 0) = tuG n (k + 1) ∧ watchB (tuG1 n k)[k] 1 0 = true := by
  have e : (tuG1 n k)[k] = ⟨true, 0, 0, 0, 0, 0, 0⟩ := by simp [tuG1]
  have hb : watchB ⟨true, 0, 0, 0, 0, 0, 0⟩ 1 0 = true := by decide
  rw [e]
  refine ⟨?_, hb⟩
  have hw : watchG ⟨true, 0, 0, 0, 0, 0, 0⟩ (k : Int) 1 0 = gT 0 k := by unfold watchG; rw [if_pos hb, and01]; rfl
  rw [hw]
  apply List.ext_getElem
  · simp [tuG1, tuG]
  · intro i h1 h2
    rw [List.getElem_set]
    by_cases hik : k = i
    · subst hik; simp [tuG]
    · rw [if_neg hik]
      simp only [tuG1, List.getElem_set_ne hik]
      simp only [tuG, List.getElem_map, List.getElem_range]
      by_cases hlt : i < k
      · rw [if_pos hlt, if_pos (by omega)]
      · rw [if_neg hlt, if_neg (by omega)]
theorem and17 : bits .and .i64 1 7 = 1 := by decide
theorem tu_post {D : PoD} {n k : Nat} (hk : k < n) (hc : D.cap = n) : postB (tuG n (k + 1)) k 1 = true ∧ postG D (tuG n (k + 1)) (tuN k) k 1 = tuG n (k + 1) ∧ postN D (tuG n (k + 1)) (tuN k) k 1 = tuN (k + 1) := by
  have e : (tuG n (k + 1)).getD k noG = gT 0 k := by simp [tuG, hk]
  have eb : postB (tuG n (k + 1)) k 1 = true := by unfold postB; rw [e, and17]; rfl
  have hl : (tuN k).length < D.cap := by rw [tuN_len, hc]; exact hk
  refine ⟨eb, ?_, ?_⟩
  · unfold postG; rw [if_neg (fun h => h.2 hl)]
  · unfold postN; rw [if_pos ⟨eb, hl⟩, and17]; simp [tuN, List.range_succ]
theorem tu_first {n : Nat} (h : n ≤ 8) : (meetsG (tuG n n) (tuN n)).map flushG = tuA n := by
  have h9 : ∀ n : Fin 9, (meetsG (tuG n n) (tuN n)).map flushG = tuA n := by decide
  exact h9 ⟨n, by omega⟩
theorem and07t : bits .and .i64 0 7 = 0 := by decide
theorem or10 : bits .or .i64 1 0 = 1 := by decide
theorem and11 : bits .and .i64 1 1 = 1 := by decide
theorem flush_gT (d : Nat) : flushG (gT 1 d) = gT 1 d := by
  unfold flushG meetG gT
  simp only [if_true]
  rw [and07t, and01, or10]
theorem tu_again (n : Nat) : (meetsG (tuA n) []).map flushG = tuA n := by
  show (tuA n).map flushG = tuA n
  unfold tuA
  rw [List.map_map]
  exact List.map_congr_left (fun d _ => flush_gT d)
theorem tu_tell {n d : Nat} (h : d < (tuA n).length) : maskG (tuA n)[d] = 1 ∧ (tuA n).set d (tellG (tuA n)[d]) = tuA n := by
  have e : (tuA n)[d] = gT 1 d := by simp [tuA]
  have e2 : tellG (gT 1 d) = gT 1 d := by
    unfold tellG gT
    simp only [if_true]
    rw [and11]
  refine ⟨by rw [e]; unfold maskG gT; simp only [if_true]; exact and11, ?_⟩
  have : tellG (tuA n)[d] = (tuA n)[d] := by rw [e, e2]
  rw [this, List.set_getElem_self]
/-- Where the turns stand, ahead of Settle. -/
structure TuI (n mo t : Nat) (gs : List G) (ns : List (Int × Int)) (T : List Th) (f : Nat) : Prop where
  g : (meetsG gs ns).map flushG = tuA n
  q : ∃ len, len ≤ min n mo ∧ T = cyc n t len ∧ f = (t + len) % n
section
variable {n mo t : Nat} {gs : List G} {ns : List (Int × Int)} {T : List Th} {f : Nat}
theorem TuI.start (hn : n ≤ 8) : TuI n mo 0 (tuG n n) (tuN n) [] 0 := ⟨tu_first hn, 0, Nat.zero_le _, rfl, by simp⟩
theorem TuI.settle (h : TuI n mo t gs ns T f) (hn : 0 < n) : setQ (tuA n) 0 n mo f n (T, f) = (cyc n t (min n mo), (t + min n mo) % n) := by
  obtain ⟨len, hl, rfl, rfl⟩ := h.q
  rw [setQ_cyc hn (fun d hd => ?_) hl n, show min (len + n) (min n mo) = min n mo by omega]
  have e : (tuA n).getD d noG = gT 1 d := by simp [tuA, hd]
  rw [e]
  show (1 : Int) ≠ 0
  decide
theorem TuI.next (hn : 0 < n) (hm : 0 < mo) : TuI n mo (t + 1) (tuA n) [] (cyc n t (min n mo)).tail ((t + min n mo) % n) :=
  ⟨tu_again n, min n mo - 1, by omega, (cyc_tail (by omega)).2, by congr 1; omega⟩
end
theorem cntT_zero (n d : Nat) : cntT n 0 d = 0 := rfl
theorem cntT_le (n t d : Nat) : cntT n t d ≤ t := by
  unfold cntT
  exact Nat.le_trans List.countP_le_length (by simp)
/-- The least, and the greatest, of some of the counts. -/
def mmI (n t i : Nat) (lv gv : Nat) : Prop := (lv = t ∨ ∃ j, j < n ∧ lv = cntT n t j) ∧ (gv = 0 ∨ ∃ j, j < n ∧ gv = cntT n t j)
theorem mmI.end {n t i lv gv : Nat} (hn : 0 < n) (h : mmI n t i lv gv) : gv ≤ lv + 1 := by
  obtain ⟨h1, h2⟩ := h
  rcases h2 with rfl | ⟨j, hj, rfl⟩
  · omega
  · rcases h1 with rfl | ⟨e, he, rfl⟩
    · have := cntT_le n lv j; omega
    · exact cntT_near hn hj he t
theorem mmI.step {n t i lv gv v : Nat} (h : mmI n t i lv gv) (hi : i < n) (hv : v = cntT n t i) : mmI n t (i + 1) (if v < lv then v else lv) (if gv < v then v else gv) := by
  refine ⟨?_, ?_⟩
  · split
    · exact .inr ⟨i, hi, hv⟩
    · exact h.1
  · split
    · exact .inr ⟨i, hi, hv⟩
    · exact h.2
/-- A poll made since a world, and the counts beside it. -/
structure TuS (w wr : World) (D : PoD) (n t : Nat) (gs : List G) (ns : List (Int × Int)) (T : List Th) (f Y : Nat) : Prop where
  S : StP w wr D gs ns T f
  c : ∀ j, j < n → Cel wr Y j (.int .i64 (cntT n t j : Nat))
  ny : ∀ k, D.own k → k ≠ Y
  lo : w.heap.size ≤ Y
section
variable {w wr w2 : World} {D : PoD} {n t : Nat} {gs gs' : List G} {ns ns' : List (Int × Int)} {T T' : List Th} {f f' Y : Nat}
theorem TuS.op (h : TuS w wr D n t gs ns T f Y) (K : PoS w2 D gs' ns' T' f') (F : FrB D.F wr w2) : TuS w w2 D n t gs' ns' T' f' Y :=
  ⟨h.S.op K F, fun j hj => (h.c j hj).frb F (fun e => h.ny _ (PoD.F_own e) rfl), h.ny, h.lo⟩
theorem TuS.que (h : TuS w wr D n t gs ns T f Y) (Q : QS w2 D.q D.l D.L D.M D.t D.n D.mo T') (F : Fr (quS D.q D.L D.M) wr w2) : TuS w w2 D n t gs ns T' f Y :=
  h.op (h.S.S.que Q F) (PoD.F_que F)
theorem TuS.below (h : TuS w wr D n t gs ns T f Y) (F : Below wr.heap.size wr w2) : TuS w w2 D n t gs ns T f Y :=
  ⟨h.S.below F, fun j hj => (h.c j hj).frb (FrB.of_below (S := fun _ => False) F (Nat.le_refl _)) (fun h => h), h.ny, h.lo⟩
/-- One more turn is counted. -/
theorem TuS.count (h : TuS w wr D n t gs ns T f Y) {d : Nat} (hd : t % n = d) : TuS w (wr.setCell ⟨Y, d, none⟩ (.int .i64 ((cntT n t d + 1 : Nat) : Int))) D n (t + 1) gs ns T f Y := by
  have F : FrB (fun k => k = Y) wr (wr.setCell ⟨Y, d, none⟩ (.int .i64 ((cntT n t d + 1 : Nat) : Int))) := FrB.set wr ⟨Y, d, none⟩ _
  refine ⟨⟨h.S.S.fr F (fun k hk e => h.ny k hk e), h.S.B.trans (F.below h.S.B.size (fun k hk e => by have := h.lo; omega)), h.S.lo⟩, fun j hj => ?_, h.ny, h.lo⟩
  by_cases e : j = d
  · subst e
    rw [cntT_succ, if_pos hd]
    exact (h.c j hj).same _
  · rw [cntT_succ, if_neg (by omega), Nat.add_zero]
    exact (h.c j hj).other (.inr (fun h => e h.symm)) _
end
end Go.Proofs.Ytblapbnplflghaa
