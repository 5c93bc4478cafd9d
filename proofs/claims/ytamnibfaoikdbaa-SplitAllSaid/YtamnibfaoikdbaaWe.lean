/- Two scripts woven. -/
import Derived.Test.YtamnibfaoikdbaaSq2
namespace Go.Proofs.Ytamnibfaoikdbaa
open Go.RowKit
set_option linter.unusedVariables false
set_option linter.unusedSimpArgs false
set_option maxRecDepth 100000

def weaveGo : List Bool → List En → List En → List En
  | [], a, b => a ++ b
  | true :: t, x :: a, b => x :: weaveGo t a b
  | true :: t, [], b => weaveGo t [] b
  | false :: t, a, y :: b => y :: weaveGo t a b
  | false :: t, a, [] => weaveGo t a []
theorem weave_len : ∀ (t : List Bool) (a b : List En), (weaveGo t a b).length = a.length + b.length
  | [], a, b => by simp [weaveGo]
  | true :: t, x :: a, b => by simp [weaveGo, weave_len t a b]; omega
  | true :: t, [], b => by simp [weaveGo, weave_len t [] b]
  | false :: t, a, y :: b => by simp [weaveGo, weave_len t a b]; omega
  | false :: t, a, [] => by simp [weaveGo, weave_len t a []]
theorem RowAt.tail {w : World} {b off : Nat} {x : En} {xs : List En} (h : RowAt En.cells 9 w (some ⟨b, off, none⟩) (x :: xs)) : RowAt En.cells 9 w (some ⟨b, off + 9, none⟩) xs := by
  have := rowAt_drop (E := enE) h 1
  have e : off + 1 * enE.sz = off + 9 := by show off + 1 * 9 = off + 9; omega
  rw [e] at this
  exact this
theorem RowAt.head {w : World} {A : Option Addr} {x : En} {xs : List En} (h : RowAt En.cells 9 w A (x :: xs)) : ∃ b off, A = some ⟨b, off, none⟩ := by
  obtain ⟨b, off, e, _⟩ := h 0 (by simp)
  exact ⟨b, off, e⟩

set_option maxHeartbeats 4000000 in
theorem weave_c {w : World} {A B T : Option Addr} {ca cb ct : Nat} {al bl : List En} {ts : List Bool} (hra : RowAt En.cells 9 w A al) (hrb : RowAt En.cells 9 w B bl) (hrt : RowAt (fun x : Bool => [Value.bool x]) 1 w T ts)
    (hca : al.length ≤ ca) (hcb : bl.length ≤ cb) (hla : al.length ≤ 10000) (hlb : bl.length ≤ 10000) (hlt : ts.length ≤ 10000) :
    Calls Try.prog 31 #[.slice A al.length ca, .slice B bl.length cb, .slice T ts.length ct] w fun r w' => ∃ v, r = .returned v ∧ OwnE enE w' w.heap.size v (weaveGo ts al bl) ∧ Below w.heap.size w w' := by
  have HT := Lib.hid hrt
  have HA := Lib.hid hra; have HB := Lib.hid hrb; have hca' := Lib.hid hca; have hcb' := Lib.hid hcb; have hla' := Lib.hid hla; have hlb' := Lib.hid hlb
  clear hra hrb hrt hca hcb hla hlb
  go_enter Try.func31, Try.ntmps31
  go_wp2_with fail
  go_loopw [0, 1, 7, 12] (fun va vb v ii wr => ∃ (i : Nat) (A' B' : Option Addr) (ca' cb' : Nat) (a b out : List En), ii = .int .i64 i ∧ va = .slice A' a.length ca' ∧ vb = .slice B' b.length cb' ∧ Hid (a.length ≤ ca') ∧ Hid (b.length ≤ cb') ∧ Hid (RowAt En.cells 9 w A' a) ∧ Hid (RowAt En.cells 9 w B' b) ∧ Hid (OwnE enE wr w.heap.size v out) ∧ Hid (out ++ weaveGo (ts.drop i) a b = weaveGo ts al bl) ∧ Hid (i ≤ ts.length) ∧ Hid (Below w.heap.size w wr)) (fun _ _ _ ii _ => ts.length - (intOf ii).toNat)
  case atStart => exact ⟨0, A, B, ca, cb, al, bl, [], rfl, rfl, rfl, hca', hcb', HA, HB, Lib.hid (OwnE.nil _ _), Lib.hid (by simp), Lib.hid (Nat.zero_le _), Lib.hid (Below.refl _ _)⟩
  case round =>
    obtain ⟨i, A', B', ca', cb', a, b, out, rfl, rfl, rfl, ka, kb, ra, rb, hO, hF, hi, hBl⟩ := hrel
    have hls : out.length + a.length + b.length ≤ 20000 := by
      have h1 := congrArg List.length hF.out
      rw [List.length_append, weave_len, weave_len] at h1
      have := hla'.out; have := hlb'.out; omega
    have hL : Hid (out.length ≤ 10000000) := Lib.hid (by omega)
    by_cases hlt2 : i < ts.length
    · obtain ⟨tb, toff, rfl, htl, htc⟩ := HT.out i hlt2
      have c0 := htc 0 _ rfl
      have hd : ts.drop i = ts[i] :: ts.drop (i + 1) := List.drop_eq_getElem_cons hlt2
      have hF2 := hF.out
      rw [hd] at hF2
      generalize ts[i] = f at *
      rw [Nat.mul_one, Nat.add_zero, ← hBl.out.cell (p := ⟨tb, _, none⟩) htl] at c0
      clear hd htc
      cases f with
      | true =>
        cases a with
        | nil =>
          rw [show weaveGo (true :: ts.drop (i + 1)) [] b = weaveGo (ts.drop (i + 1)) [] b by cases b <;> simp [weaveGo]] at hF2
          replace hF2 := Lib.hid hF2
          simp only [List.length_nil]
          go_wp2_with fail
          exact ⟨⟨i + 1, A', B', ca', cb', [], b, out, by go_num, rfl, rfl, ka, kb, ra, rb, hO, hF2, Lib.hid (by omega), hBl⟩, by simp [intOf]; omega⟩
        | cons x a =>
          rw [show weaveGo (true :: ts.drop (i + 1)) (x :: a) b = x :: weaveGo (ts.drop (i + 1)) a b by simp [weaveGo]] at hF2
          replace hF2 := Lib.hid hF2
          have ka2 : a.length + 1 ≤ ca' := by have := ka.out; simpa using this
          obtain ⟨ab, aoff, rfl⟩ := ra.out.head
          obtain ⟨b1, off1, e1, hbl1, d0, d1, d2, d3, d4, d5, d6, d7, d8⟩ := ra.out.en (i := 0) (by simp)
          injection e1 with e1
          injection e1 with e1 e2
          subst e1; subst e2
          rw [Nat.zero_mul, Nat.add_zero] at d0 d1 d2 d3 d4 d5 d6 d7 d8
          simp only [List.getElem_cons_zero] at d0 d1 d2 d3 d4 d5 d6 d7 d8
          have rt := Lib.hid ra.out.tail
          have key2 : Hid (∀ (X : World), Below w.heap.size w X → (fun w' : World => w'.cell? ⟨ab, aoff, none⟩ = some (.int .i64 x.kind) ∧ w'.cell? ⟨ab, aoff + 1, none⟩ = some (.int .i64 x.who) ∧ w'.cell? ⟨ab, aoff + 2, none⟩ = some (.int .i64 x.n) ∧ w'.cell? ⟨ab, aoff + 3, none⟩ = some (.int .i64 x.call_Op) ∧ w'.cell? ⟨ab, aoff + 4, none⟩ = some (.int .u64 x.call_A) ∧ w'.cell? ⟨ab, aoff + 5, none⟩ = some (.int .u64 x.call_B) ∧ w'.cell? ⟨ab, aoff + 6, none⟩ = some (.int .u64 x.call_C) ∧ w'.cell? ⟨ab, aoff + 7, none⟩ = some (.int .i64 x.dev) ∧ w'.cell? ⟨ab, aoff + 8, none⟩ = some (.int .i64 x.mask)) X) := Lib.hid fun X hx => by
            refine ⟨?_, ?_, ?_, ?_, ?_, ?_, ?_, ?_, ?_⟩
            all_goals (rw [hx.cell (p := ⟨ab, _, none⟩) hbl1]; assumption)
          clear d0 d1 d2 d3 d4 d5 d6 d7 d8
          by_cases hc1 : ca' = 1
          · have hnil : a = [] := List.eq_nil_of_length_eq_zero (by omega)
            subst hnil
            subst hc1
            try simp only [List.length_nil]
            have HA1 := Lib.hid (Below.alloc hBl.out hBl.out.size (.cells #[.int .i64 x.kind, .int .i64 x.who, .int .i64 x.n, .int .i64 x.call_Op, .int .u64 x.call_A, .int .u64 x.call_B, .int .u64 x.call_C, .int .i64 x.dev, .int .i64 x.mask] 47))
            try simp only [List.length_cons, List.length_nil]
            go_wp2_with fail
            go_region_held3 (fun w' => w'.cell? ⟨ab, aoff, none⟩ = some (.int .i64 x.kind) ∧ w'.cell? ⟨ab, aoff + 1, none⟩ = some (.int .i64 x.who) ∧ w'.cell? ⟨ab, aoff + 2, none⟩ = some (.int .i64 x.n) ∧ w'.cell? ⟨ab, aoff + 3, none⟩ = some (.int .i64 x.call_Op) ∧ w'.cell? ⟨ab, aoff + 4, none⟩ = some (.int .u64 x.call_A) ∧ w'.cell? ⟨ab, aoff + 5, none⟩ = some (.int .u64 x.call_B) ∧ w'.cell? ⟨ab, aoff + 6, none⟩ = some (.int .u64 x.call_C) ∧ w'.cell? ⟨ab, aoff + 7, none⟩ = some (.int .i64 x.dev) ∧ w'.cell? ⟨ab, aoff + 8, none⟩ = some (.int .i64 x.mask)) (first | exact key2.out _ hBl.out | exact key2.out _ (hBl.out.drewN 1) | exact key2.out _ HX2 | exact key2.out _ HA1.out | exact key2.out _ (HA1.out.drewN 1)) (first
              | (refine step_append_rowE (E := enE) (ys := [x]) rfl rfl Try.underlying41 rfl (hO.out.alloc _) rfl (rowAt_new1 (E := enE) wr _ _ x rfl rfl) rfl hL.out (by simp) (by have := hBl.out.size; simp; omega) ?_; intro v2 w2 G1 G2 G3 G4; have HX2 : Below w.heap.size w w2 := (Below.alloc hBl.out hBl.out.size _).trans G2)
              | (refine step_append_rowE (E := enE) (ys := [x]) rfl rfl Try.underlying41 rfl (hO.out.alloc _).drew rfl (rowAt_new1 (E := enE) wr _ _ x rfl rfl) rfl hL.out (by simp) (by have := hBl.out.size; simp; omega) ?_; intro v2 w2 G1 G2 G3 G4; have HX2 : Below w.heap.size w w2 := ((Below.alloc hBl.out hBl.out.size _).drewN 1).trans G2)
              | fail)
            all_goals
              have hFx : Hid ((out ++ [x]) ++ weaveGo (ts.drop (i + 1)) [] b = weaveGo ts al bl) := Lib.hid (by rw [← hF2.out]; simp)
              have P1 := Lib.hid G1
              replace HX2 := Lib.hid HX2
              clear G1 G2 G3 G4
              go_wp2
            all_goals exact ⟨⟨i + 1, some ⟨ab, aoff, none⟩, B', 0, cb', [], b, out ++ [x], by go_num, rfl, rfl, Lib.hid (Nat.le_refl _), kb, rowAt_nil (E := enE) _ _ |> Lib.hid, rb, P1, hFx, Lib.hid (by omega), HX2⟩, by simp [intOf]; omega⟩
          · have s1 : (1 : Int) ≤ (a.length : Int) + 1 := by omega
            have s2 : (a.length : Int) + 1 ≤ (ca' : Int) := by omega
            have HA1 := Lib.hid (Below.alloc hBl.out hBl.out.size (.cells #[.int .i64 x.kind, .int .i64 x.who, .int .i64 x.n, .int .i64 x.call_Op, .int .u64 x.call_A, .int .u64 x.call_B, .int .u64 x.call_C, .int .i64 x.dev, .int .i64 x.mask] 47))
            simp only [List.length_cons]
            go_wp2_with fail
            go_region_held3 (fun w' => w'.cell? ⟨ab, aoff, none⟩ = some (.int .i64 x.kind) ∧ w'.cell? ⟨ab, aoff + 1, none⟩ = some (.int .i64 x.who) ∧ w'.cell? ⟨ab, aoff + 2, none⟩ = some (.int .i64 x.n) ∧ w'.cell? ⟨ab, aoff + 3, none⟩ = some (.int .i64 x.call_Op) ∧ w'.cell? ⟨ab, aoff + 4, none⟩ = some (.int .u64 x.call_A) ∧ w'.cell? ⟨ab, aoff + 5, none⟩ = some (.int .u64 x.call_B) ∧ w'.cell? ⟨ab, aoff + 6, none⟩ = some (.int .u64 x.call_C) ∧ w'.cell? ⟨ab, aoff + 7, none⟩ = some (.int .i64 x.dev) ∧ w'.cell? ⟨ab, aoff + 8, none⟩ = some (.int .i64 x.mask)) (first | exact key2.out _ hBl.out | exact key2.out _ (hBl.out.drewN 1) | exact key2.out _ HX2 | exact key2.out _ HA1.out | exact key2.out _ (HA1.out.drewN 1)) (first
              | (refine step_append_rowE (E := enE) (ys := [x]) rfl rfl Try.underlying41 rfl (hO.out.alloc _) rfl (rowAt_new1 (E := enE) wr _ _ x rfl rfl) rfl hL.out (by simp) (by have := hBl.out.size; simp; omega) ?_; intro v2 w2 G1 G2 G3 G4; have HX2 : Below w.heap.size w w2 := (Below.alloc hBl.out hBl.out.size _).trans G2)
              | (refine step_append_rowE (E := enE) (ys := [x]) rfl rfl Try.underlying41 rfl (hO.out.alloc _).drew rfl (rowAt_new1 (E := enE) wr _ _ x rfl rfl) rfl hL.out (by simp) (by have := hBl.out.size; simp; omega) ?_; intro v2 w2 G1 G2 G3 G4; have HX2 : Below w.heap.size w w2 := ((Below.alloc hBl.out hBl.out.size _).drewN 1).trans G2)
              | fail)
            all_goals
              have hFx : Hid ((out ++ [x]) ++ weaveGo (ts.drop (i + 1)) a b = weaveGo ts al bl) := Lib.hid (by rw [← hF2.out]; simp)
              have P1 := Lib.hid G1
              replace HX2 := Lib.hid HX2
              clear G1 G2 G3 G4
              go_wp2
            all_goals exact ⟨⟨i + 1, some ⟨ab, aoff + 9, none⟩, B', ca' - 1, cb', a, b, out ++ [x], by go_num, rfl, rfl, Lib.hid (by omega), kb, rt, rb, P1, hFx, Lib.hid (by omega), HX2⟩, by simp [intOf]; omega⟩
      | false =>
        cases b with
        | nil =>
          rw [show weaveGo (false :: ts.drop (i + 1)) a [] = weaveGo (ts.drop (i + 1)) a [] by cases a <;> simp [weaveGo]] at hF2
          replace hF2 := Lib.hid hF2
          simp only [List.length_nil]
          go_wp2_with fail
          exact ⟨⟨i + 1, A', B', ca', cb', a, [], out, by go_num, rfl, rfl, ka, kb, ra, rb, hO, hF2, Lib.hid (by omega), hBl⟩, by simp [intOf]; omega⟩
        | cons x b =>
          rw [show weaveGo (false :: ts.drop (i + 1)) a (x :: b) = x :: weaveGo (ts.drop (i + 1)) a b by simp [weaveGo]] at hF2
          replace hF2 := Lib.hid hF2
          have ka2 : b.length + 1 ≤ cb' := by have := kb.out; simpa using this
          obtain ⟨ab, aoff, rfl⟩ := rb.out.head
          obtain ⟨b1, off1, e1, hbl1, d0, d1, d2, d3, d4, d5, d6, d7, d8⟩ := rb.out.en (i := 0) (by simp)
          injection e1 with e1
          injection e1 with e1 e2
          subst e1; subst e2
          rw [Nat.zero_mul, Nat.add_zero] at d0 d1 d2 d3 d4 d5 d6 d7 d8
          simp only [List.getElem_cons_zero] at d0 d1 d2 d3 d4 d5 d6 d7 d8
          have rt := Lib.hid rb.out.tail
          have key2 : Hid (∀ (X : World), Below w.heap.size w X → (fun w' : World => w'.cell? ⟨ab, aoff, none⟩ = some (.int .i64 x.kind) ∧ w'.cell? ⟨ab, aoff + 1, none⟩ = some (.int .i64 x.who) ∧ w'.cell? ⟨ab, aoff + 2, none⟩ = some (.int .i64 x.n) ∧ w'.cell? ⟨ab, aoff + 3, none⟩ = some (.int .i64 x.call_Op) ∧ w'.cell? ⟨ab, aoff + 4, none⟩ = some (.int .u64 x.call_A) ∧ w'.cell? ⟨ab, aoff + 5, none⟩ = some (.int .u64 x.call_B) ∧ w'.cell? ⟨ab, aoff + 6, none⟩ = some (.int .u64 x.call_C) ∧ w'.cell? ⟨ab, aoff + 7, none⟩ = some (.int .i64 x.dev) ∧ w'.cell? ⟨ab, aoff + 8, none⟩ = some (.int .i64 x.mask)) X) := Lib.hid fun X hx => by
            refine ⟨?_, ?_, ?_, ?_, ?_, ?_, ?_, ?_, ?_⟩
            all_goals (rw [hx.cell (p := ⟨ab, _, none⟩) hbl1]; assumption)
          clear d0 d1 d2 d3 d4 d5 d6 d7 d8
          by_cases hc1 : cb' = 1
          · have hnil : b = [] := List.eq_nil_of_length_eq_zero (by omega)
            subst hnil
            subst hc1
            try simp only [List.length_nil]
            have HA1 := Lib.hid (Below.alloc hBl.out hBl.out.size (.cells #[.int .i64 x.kind, .int .i64 x.who, .int .i64 x.n, .int .i64 x.call_Op, .int .u64 x.call_A, .int .u64 x.call_B, .int .u64 x.call_C, .int .i64 x.dev, .int .i64 x.mask] 47))
            try simp only [List.length_cons, List.length_nil]
            go_wp2_with fail
            go_region_held3 (fun w' => w'.cell? ⟨ab, aoff, none⟩ = some (.int .i64 x.kind) ∧ w'.cell? ⟨ab, aoff + 1, none⟩ = some (.int .i64 x.who) ∧ w'.cell? ⟨ab, aoff + 2, none⟩ = some (.int .i64 x.n) ∧ w'.cell? ⟨ab, aoff + 3, none⟩ = some (.int .i64 x.call_Op) ∧ w'.cell? ⟨ab, aoff + 4, none⟩ = some (.int .u64 x.call_A) ∧ w'.cell? ⟨ab, aoff + 5, none⟩ = some (.int .u64 x.call_B) ∧ w'.cell? ⟨ab, aoff + 6, none⟩ = some (.int .u64 x.call_C) ∧ w'.cell? ⟨ab, aoff + 7, none⟩ = some (.int .i64 x.dev) ∧ w'.cell? ⟨ab, aoff + 8, none⟩ = some (.int .i64 x.mask)) (first | exact key2.out _ hBl.out | exact key2.out _ (hBl.out.drewN 1) | exact key2.out _ HX2 | exact key2.out _ HA1.out | exact key2.out _ (HA1.out.drewN 1)) (first
              | (refine step_append_rowE (E := enE) (ys := [x]) rfl rfl Try.underlying41 rfl (hO.out.alloc _) rfl (rowAt_new1 (E := enE) wr _ _ x rfl rfl) rfl hL.out (by simp) (by have := hBl.out.size; simp; omega) ?_; intro v2 w2 G1 G2 G3 G4; have HX2 : Below w.heap.size w w2 := (Below.alloc hBl.out hBl.out.size _).trans G2)
              | (refine step_append_rowE (E := enE) (ys := [x]) rfl rfl Try.underlying41 rfl (hO.out.alloc _).drew rfl (rowAt_new1 (E := enE) wr _ _ x rfl rfl) rfl hL.out (by simp) (by have := hBl.out.size; simp; omega) ?_; intro v2 w2 G1 G2 G3 G4; have HX2 : Below w.heap.size w w2 := ((Below.alloc hBl.out hBl.out.size _).drewN 1).trans G2)
              | fail)
            all_goals
              have hFx : Hid ((out ++ [x]) ++ weaveGo (ts.drop (i + 1)) a [] = weaveGo ts al bl) := Lib.hid (by rw [← hF2.out]; simp)
              have P1 := Lib.hid G1
              replace HX2 := Lib.hid HX2
              clear G1 G2 G3 G4
              go_wp2
            all_goals exact ⟨⟨i + 1, A', some ⟨ab, aoff, none⟩, ca', 0, a, [], out ++ [x], by go_num, rfl, rfl, ka, Lib.hid (Nat.le_refl _), ra, rowAt_nil (E := enE) _ _ |> Lib.hid, P1, hFx, Lib.hid (by omega), HX2⟩, by simp [intOf]; omega⟩
          · have s1 : (1 : Int) ≤ (b.length : Int) + 1 := by omega
            have s2 : (b.length : Int) + 1 ≤ (cb' : Int) := by omega
            have HA1 := Lib.hid (Below.alloc hBl.out hBl.out.size (.cells #[.int .i64 x.kind, .int .i64 x.who, .int .i64 x.n, .int .i64 x.call_Op, .int .u64 x.call_A, .int .u64 x.call_B, .int .u64 x.call_C, .int .i64 x.dev, .int .i64 x.mask] 47))
            simp only [List.length_cons]
            go_wp2_with fail
            go_region_held3 (fun w' => w'.cell? ⟨ab, aoff, none⟩ = some (.int .i64 x.kind) ∧ w'.cell? ⟨ab, aoff + 1, none⟩ = some (.int .i64 x.who) ∧ w'.cell? ⟨ab, aoff + 2, none⟩ = some (.int .i64 x.n) ∧ w'.cell? ⟨ab, aoff + 3, none⟩ = some (.int .i64 x.call_Op) ∧ w'.cell? ⟨ab, aoff + 4, none⟩ = some (.int .u64 x.call_A) ∧ w'.cell? ⟨ab, aoff + 5, none⟩ = some (.int .u64 x.call_B) ∧ w'.cell? ⟨ab, aoff + 6, none⟩ = some (.int .u64 x.call_C) ∧ w'.cell? ⟨ab, aoff + 7, none⟩ = some (.int .i64 x.dev) ∧ w'.cell? ⟨ab, aoff + 8, none⟩ = some (.int .i64 x.mask)) (first | exact key2.out _ hBl.out | exact key2.out _ (hBl.out.drewN 1) | exact key2.out _ HX2 | exact key2.out _ HA1.out | exact key2.out _ (HA1.out.drewN 1)) (first
              | (refine step_append_rowE (E := enE) (ys := [x]) rfl rfl Try.underlying41 rfl (hO.out.alloc _) rfl (rowAt_new1 (E := enE) wr _ _ x rfl rfl) rfl hL.out (by simp) (by have := hBl.out.size; simp; omega) ?_; intro v2 w2 G1 G2 G3 G4; have HX2 : Below w.heap.size w w2 := (Below.alloc hBl.out hBl.out.size _).trans G2)
              | (refine step_append_rowE (E := enE) (ys := [x]) rfl rfl Try.underlying41 rfl (hO.out.alloc _).drew rfl (rowAt_new1 (E := enE) wr _ _ x rfl rfl) rfl hL.out (by simp) (by have := hBl.out.size; simp; omega) ?_; intro v2 w2 G1 G2 G3 G4; have HX2 : Below w.heap.size w w2 := ((Below.alloc hBl.out hBl.out.size _).drewN 1).trans G2)
              | fail)
            all_goals
              have hFx : Hid ((out ++ [x]) ++ weaveGo (ts.drop (i + 1)) a b = weaveGo ts al bl) := Lib.hid (by rw [← hF2.out]; simp)
              have P1 := Lib.hid G1
              replace HX2 := Lib.hid HX2
              clear G1 G2 G3 G4
              go_wp2
            all_goals exact ⟨⟨i + 1, A', some ⟨ab, aoff + 9, none⟩, ca', cb' - 1, a, b, out ++ [x], by go_num, rfl, rfl, ka, Lib.hid (by omega), ra, rt, P1, hFx, Lib.hid (by omega), HX2⟩, by simp [intOf]; omega⟩
    · have he : ts.drop i = [] := List.drop_of_length_le (by omega)
      have hF2 := hF.out
      rw [he, show weaveGo [] a b = a ++ b by simp [weaveGo]] at hF2
      replace hF2 := Lib.hid hF2
      clear he
      have hla2 : a.length ≤ 10000000 := by omega
      have hlb2 : b.length ≤ 10000000 := by omega
      have hlab : (out ++ a).length ≤ 10000000 := by rw [List.length_append]; omega
      replace hla2 := Lib.hid hla2; replace hlb2 := Lib.hid hlb2; replace hlab := Lib.hid hlab
      have ra1 := ra.out.below (w' := wr) (by have := hBl.out; exact this)
      have rb1 := rb.out.below (w' := wr) (by have := hBl.out; exact this)
      go_wp2_with (first
        | (at_builtin; refine append_rowE (E := enE) (ys := a) rfl rfl Try.underlying41 rfl hO.out rfl ra1 rfl hL.out hla2.out hBl.out.size ?_))
      intro v2 w2 G1 G2 _ _
      have HX2 := Lib.hid (hBl.out.trans G2)
      have rb2 := rb.out.below (w' := w2) HX2.out
      replace G1 := Lib.hid G1
      clear G2
      go_wp2_with (first
        | (at_builtin; refine append_rowE (E := enE) (ys := b) rfl rfl Try.underlying41 rfl G1.out rfl rb2 rfl hlab.out hlb2.out HX2.out.size ?_))
      intro v3 w3 P1 P2 _ _
      have HX3 := Lib.hid (HX2.out.trans P2)
      first | rw [hF2.out] at P1 | rw [List.append_assoc, hF2.out] at P1
      replace P1 := Lib.hid P1
      clear P2
      go_wp2
      go_ret
      exact ⟨_, rfl, P1.out, HX3.out⟩
end Go.Proofs.Ytamnibfaoikdbaa
