/- Polls: the document's example. No condition. -/
import Derived.Test.YtblapbnplflghaaPv
namespace Go.Proofs.Ytblapbnplflghaa
open Go.RowKit
set_option linter.unusedVariables false
set_option linter.unusedSimpArgs false
set_option linter.unusedSectionVars false
set_option maxRecDepth 100000

set_option maxHeartbeats 16000000 in
theorem alive13_c (w : World) : Calls Try.prog 7 #[] w fun r w' => r = .returned (.bool true) ∧ Below w.heap.size w w' := by
  have hf2 := fieldLook2
  have hf0 := fieldLook0
  go_enter Try.func7, Try.ntmps7
  go_wp2_with fail
  refine (newQ_c w 0 2 2 0 2 2 rfl rfl rfl (by decide)).mono ?_
  rintro e w1 ⟨q, l, L, M, rfl, Q, l1, l2, l3, l4, B⟩
  have QH := Lib.hid Q
  have nw := Lib.hid (fun w3 p g Bx c (N : NewP w1 w3 q l L M 0 2 2 1 [] p g Bx c) => StP.new (Below.refl w.heap.size w) l1 l2 l3 l4 B N)
  clear Q l1 l2 l3 l4 B
  go_wp2_with fail
  refine (new_p QH.out 2 1 (by decide) (cap := 1) (by decide)).mono ?_
  rintro e w2 ⟨p, g, Bx, c, rfl, N⟩
  have S0 := Lib.hid (nw.out w2 p g Bx c N)
  obtain ⟨D, hD⟩ : ∃ D : PoD, D = ⟨p, g, Bx, c, q, l, L, M, 2, 1, 0, 2⟩ := ⟨_, rfl⟩
  obtain ⟨rfl, rfl⟩ : p = D.p ∧ q = D.q := by rw [hD]; exact ⟨rfl, rfl⟩
  have hDc : D.cap = 1 := by rw [hD]
  have hDn : D.n = 2 := by rw [hD]
  have hDt : D.t = 0 := by rw [hD]
  have hDm : D.mo = 2 := by rw [hD]
  rw [← hD] at S0
  have hc := Lib.hid (And.intro hDc (And.intro hDn (And.intro hDt hDm)))
  clear QH nw N hD hDc hDn hDt hDm
  rw [show List.replicate 2 noG = [noG, noG] from rfl] at S0
  go_wp2_with fail
  refine (open_p S0.out.S (K := 0) (by decide)).mono ?_
  rintro e v0 ⟨rfl, K, F⟩
  have S1 := Lib.hid (S0.out.op K F)
  rw [show [noG, noG].set 0 (openG ([noG, noG][0]'(by decide))) = [(⟨true, 0, 0, 0, 0, 0, 0⟩ : G), noG] by decide] at S1
  rw [show (!([noG, noG][0]'(by decide)).op) = true by decide]
  clear K F S0
  go_wp2_with fail
  refine (open_p S1.out.S (K := 1) (by decide)).mono ?_
  rintro e v1 ⟨rfl, K, F⟩
  have S2 := Lib.hid (S1.out.op K F)
  rw [show [(⟨true, 0, 0, 0, 0, 0, 0⟩ : G), noG].set 1 (openG ([(⟨true, 0, 0, 0, 0, 0, 0⟩ : G), noG][1]'(by decide))) = [(⟨true, 0, 0, 0, 0, 0, 0⟩ : G), ⟨true, 0, 0, 0, 0, 0, 0⟩] by decide] at S2
  rw [show (!([(⟨true, 0, 0, 0, 0, 0, 0⟩ : G), noG][1]'(by decide)).op) = true by decide]
  clear K F S1
  go_wp2_with fail
  refine (open_out S2.out.S (K := 2) (by rw [hc.out.2.1]; decide)).mono ?_
  rintro e v2 ⟨rfl, rfl⟩
  go_wp2_with fail
  refine (watch_p S2.out.S (K := 0) (by decide) 7 1 0).mono ?_
  rintro e v2 ⟨rfl, K, F⟩
  have S3 := Lib.hid (S2.out.op K F)
  rw [show watchB ([(⟨true, 0, 0, 0, 0, 0, 0⟩ : G), ⟨true, 0, 0, 0, 0, 0, 0⟩][0]'(by decide)) 1 0 = true by decide] at S3 ⊢
  rw [show [(⟨true, 0, 0, 0, 0, 0, 0⟩ : G), ⟨true, 0, 0, 0, 0, 0, 0⟩].set 0 (watchG ([(⟨true, 0, 0, 0, 0, 0, 0⟩ : G), ⟨true, 0, 0, 0, 0, 0, 0⟩][0]'(by decide)) 7 1 0) = [(⟨true, 0, 0, 7, 1, 0, 0⟩ : G), ⟨true, 0, 0, 0, 0, 0, 0⟩] by decide, if_pos rfl, show ([] : List Th).erase (2, ((0 : Nat) : Int)) = [] from rfl] at S3
  clear K F S2
  go_wp2_with fail
  refine (watch_p S3.out.S (K := 1) (by decide) 8 7 1).mono ?_
  rintro e v3 ⟨rfl, K, F⟩
  have S4 := Lib.hid (S3.out.op K F)
  rw [show watchB ([(⟨true, 0, 0, 7, 1, 0, 0⟩ : G), ⟨true, 0, 0, 0, 0, 0, 0⟩][1]'(by decide)) 7 1 = true by decide] at S4 ⊢
  rw [show [(⟨true, 0, 0, 7, 1, 0, 0⟩ : G), ⟨true, 0, 0, 0, 0, 0, 0⟩].set 1 (watchG ([(⟨true, 0, 0, 7, 1, 0, 0⟩ : G), ⟨true, 0, 0, 0, 0, 0, 0⟩][1]'(by decide)) 8 7 1) = [(⟨true, 0, 0, 7, 1, 0, 0⟩ : G), ⟨true, 0, 0, 8, 7, 1, 0⟩] by decide, if_pos rfl, show ([] : List Th).erase (2, ((1 : Nat) : Int)) = [] from rfl] at S4
  clear K F S3
  go_wp2_with fail
  refine (post_p S4.out.S (K := 0) (by decide) 1).mono ?_
  rintro e v4 ⟨rfl, K, F⟩
  have S5 := Lib.hid (S4.out.op K F)
  rw [show postB [(⟨true, 0, 0, 7, 1, 0, 0⟩ : G), ⟨true, 0, 0, 8, 7, 1, 0⟩] 0 1 = true by decide]
  rw [show postG D [(⟨true, 0, 0, 7, 1, 0, 0⟩ : G), ⟨true, 0, 0, 8, 7, 1, 0⟩] [] 0 1 = [(⟨true, 0, 0, 7, 1, 0, 0⟩ : G), ⟨true, 0, 0, 8, 7, 1, 0⟩] by unfold postG; rw [hc.out.1]; decide, show postN D [(⟨true, 0, 0, 7, 1, 0, 0⟩ : G), ⟨true, 0, 0, 8, 7, 1, 0⟩] [] 0 1 = [((0 : Int), (1 : Int))] by unfold postN; rw [hc.out.1]; decide] at S5
  clear K F S4
  go_wp2_with fail
  refine (post_p S5.out.S (K := 1) (by decide) 2).mono ?_
  rintro e v5 ⟨rfl, K, F⟩
  have S6 := Lib.hid (S5.out.op K F)
  rw [show postB [(⟨true, 0, 0, 7, 1, 0, 0⟩ : G), ⟨true, 0, 0, 8, 7, 1, 0⟩] 1 2 = true by decide]
  rw [show postG D [(⟨true, 0, 0, 7, 1, 0, 0⟩ : G), ⟨true, 0, 0, 8, 7, 1, 0⟩] [((0 : Int), (1 : Int))] 1 2 = [(⟨true, 0, 0, 7, 1, 0, 0⟩ : G), ⟨true, 0, 2, 8, 7, 1, 0⟩] by unfold postG; rw [hc.out.1]; decide, show postN D [(⟨true, 0, 0, 7, 1, 0, 0⟩ : G), ⟨true, 0, 0, 8, 7, 1, 0⟩] [((0 : Int), (1 : Int))] 1 2 = [((0 : Int), (1 : Int))] by unfold postN; rw [hc.out.1]; decide] at S6
  clear K F S5
  go_wp2_with fail
  refine (post_p S6.out.S (K := 1) (by decide) 1).mono ?_
  rintro e v6 ⟨rfl, K, F⟩
  have S7 := Lib.hid (S6.out.op K F)
  rw [show postB [(⟨true, 0, 0, 7, 1, 0, 0⟩ : G), ⟨true, 0, 2, 8, 7, 1, 0⟩] 1 1 = true by decide]
  rw [show postG D [(⟨true, 0, 0, 7, 1, 0, 0⟩ : G), ⟨true, 0, 2, 8, 7, 1, 0⟩] [((0 : Int), (1 : Int))] 1 1 = [(⟨true, 0, 0, 7, 1, 0, 0⟩ : G), ⟨true, 0, 3, 8, 7, 1, 0⟩] by unfold postG; rw [hc.out.1]; decide, show postN D [(⟨true, 0, 0, 7, 1, 0, 0⟩ : G), ⟨true, 0, 2, 8, 7, 1, 0⟩] [((0 : Int), (1 : Int))] 1 1 = [((0 : Int), (1 : Int))] by unfold postN; rw [hc.out.1]; decide] at S7
  clear K F S6
  go_wp2_with fail
  refine (notes_p S7.out.S).mono ?_
  rintro e v7 ⟨v, rfl, O, K, F⟩
  obtain ⟨An, kn, rfl, -⟩ := O.slice
  have S8 := Lib.hid (S7.out.op K F)
  clear K F O S7
  go_wp2_with fail
  refine (look_p S8.out.S (K := 1) (by decide)).mono ?_
  rintro e v8 ⟨rfl, F⟩
  rw [show lookV ([(⟨true, 0, 0, 7, 1, 0, 0⟩ : G), ⟨true, 0, 3, 8, 7, 1, 0⟩][1]'(by decide)) = .agg #[.bool true, .int .i64 0, .int .i64 3, .int .u64 8, .int .i64 7, .int .i64 1, .int .i64 0] from rfl]
  have FL := blA (Below.refl v8.heap.size v8) (.cells #[.bool true, .int .i64 0, .int .i64 3, .int .u64 8, .int .i64 7, .int .i64 1, .int .i64 0] 38)
  have S9 := Lib.hid ((S8.out.below F).below FL)
  have kl := Lib.hid (Cel.new v8 #[.bool true, .int .i64 0, .int .i64 3, .int .u64 8, .int .i64 7, .int .i64 1, .int .i64 0] 38 2 (.int .i64 3) rfl)
  have nl := Lib.hid (show ∀ k, D.own k → k ≠ v8.heap.size from fun k hk e => by have := (S8.out.below F).S.lt hk; omega)
  clear F FL S8
  go_wp2_with fail
  generalize v8.alloc (.cells #[.bool true, .int .i64 0, .int .i64 3, .int .u64 8, .int .i64 7, .int .i64 1, .int .i64 0] 38) = x0 at *
  generalize v8.heap.size = Zl at *
  refine (settle_p S9.out.S).mono ?_
  rintro e v9 ⟨rfl, K, F⟩
  have S10 := Lib.hid (S9.out.op K F)
  rw [show (meetsG [(⟨true, 0, 0, 7, 1, 0, 0⟩ : G), ⟨true, 0, 3, 8, 7, 1, 0⟩] [((0 : Int), (1 : Int))]).map flushG = [(⟨true, 1, 0, 7, 1, 0, 1⟩ : G), ⟨true, 3, 0, 8, 7, 1, 3⟩] by decide, hc.out.2.1, hc.out.2.2.1, hc.out.2.2.2] at S10
  rw [show setQ [(⟨true, 1, 0, 7, 1, 0, 1⟩ : G), ⟨true, 3, 0, 8, 7, 1, 3⟩] 0 2 2 0 2 ([], 0) = ([((2 : Int), (0 : Int)), (2, 1)], 0) by decide] at S10
  dsimp only at S10
  replace kl := Lib.hid (kl.out.frb F (fun e => nl.out _ (PoD.F_own e) rfl))
  clear K F S9
  go_wp2_with fail
  refine (popQ_c S10.out.S.qu).mono ?_
  rintro e v10 ⟨rfl, K, F⟩
  rw [show ([((2 : Int), (0 : Int)), (2, 1)] : List Th).headD (0, 0) = (2, 0) from rfl, show decide (([((2 : Int), (0 : Int)), (2, 1)] : List Th) ≠ []) = true from rfl]
  dsimp only [thV]
  have S10q := S10.out.que K F
  rw [show ([((2 : Int), (0 : Int)), (2, 1)] : List Th).tail = [((2 : Int), (1 : Int))] from rfl] at S10q
  have FL := blA (Below.refl v10.heap.size v10) (.cells #[.int .i64 2, .int .i64 0] 45)
  have FB := FrB.of_below (S := fun _ => False) FL (Nat.le_refl _)
  have S11 := Lib.hid (S10q.below FL)
  have kp0 := Lib.hid (Cel.new v10 #[.int .i64 2, .int .i64 0] 45 1 (.int .i64 0) rfl)
  have np0 := Lib.hid (show ∀ k, D.own k → k ≠ v10.heap.size from fun k hk e => by have := S10q.S.lt hk; omega)
  replace kl := Lib.hid ((kl.out.frb (PoD.F_que (D := D) F) (fun e => nl.out _ (PoD.F_own e) rfl)).frb FB (fun h => h))
  clear K F FL FB S10 S10q
  go_wp2_with fail
  generalize v10.alloc (.cells #[.int .i64 2, .int .i64 0] 45) = xp0 at *
  generalize v10.heap.size = Zp0 at *
  go_wp2_with fail
  refine (popQ_c S11.out.S.qu).mono ?_
  rintro e v11 ⟨rfl, K, F⟩
  rw [show ([((2 : Int), (1 : Int))] : List Th).headD (0, 0) = (2, 1) from rfl, show decide (([((2 : Int), (1 : Int))] : List Th) ≠ []) = true from rfl]
  dsimp only [thV]
  have S11q := S11.out.que K F
  rw [show ([((2 : Int), (1 : Int))] : List Th).tail = [] from rfl] at S11q
  have FL := blA (Below.refl v11.heap.size v11) (.cells #[.int .i64 2, .int .i64 1] 45)
  have FB := FrB.of_below (S := fun _ => False) FL (Nat.le_refl _)
  have S12 := Lib.hid (S11q.below FL)
  have kp1 := Lib.hid (Cel.new v11 #[.int .i64 2, .int .i64 1] 45 1 (.int .i64 1) rfl)
  have np1 := Lib.hid (show ∀ k, D.own k → k ≠ v11.heap.size from fun k hk e => by have := S11q.S.lt hk; omega)
  replace kl := Lib.hid ((kl.out.frb (PoD.F_que (D := D) F) (fun e => nl.out _ (PoD.F_own e) rfl)).frb FB (fun h => h))
  replace kp0 := Lib.hid ((kp0.out.frb (PoD.F_que (D := D) F) (fun e => np0.out _ (PoD.F_own e) rfl)).frb FB (fun h => h))
  clear K F FL FB S11 S11q
  go_wp2_with fail
  generalize v11.alloc (.cells #[.int .i64 2, .int .i64 1] 45) = xp1 at *
  generalize v11.heap.size = Zp1 at *
  refine (tell_p S12.out.S (K := 0) (by decide)).mono ?_
  rintro e v12 ⟨rfl, K, F⟩
  have S13 := Lib.hid (S12.out.op K F)
  rw [show [(⟨true, 1, 0, 7, 1, 0, 1⟩ : G), ⟨true, 3, 0, 8, 7, 1, 3⟩].set 0 (tellG ([(⟨true, 1, 0, 7, 1, 0, 1⟩ : G), ⟨true, 3, 0, 8, 7, 1, 3⟩][0]'(by decide))) = [(⟨true, 1, 0, 7, 1, 0, 1⟩ : G), ⟨true, 3, 0, 8, 7, 1, 3⟩] by decide] at S13
  rw [show whoG ([(⟨true, 1, 0, 7, 1, 0, 1⟩ : G), ⟨true, 3, 0, 8, 7, 1, 3⟩][0]'(by decide)) = 7 by decide, show maskG ([(⟨true, 1, 0, 7, 1, 0, 1⟩ : G), ⟨true, 3, 0, 8, 7, 1, 3⟩][0]'(by decide)) = 1 by decide]
  replace kl := Lib.hid (kl.out.frb F (fun e => nl.out _ (PoD.F_own e) rfl))
  replace kp0 := Lib.hid (kp0.out.frb F (fun e => np0.out _ (PoD.F_own e) rfl))
  replace kp1 := Lib.hid (kp1.out.frb F (fun e => np1.out _ (PoD.F_own e) rfl))
  clear K F S12
  go_wp2_with fail
  refine (tell_p S13.out.S (K := 1) (by decide)).mono ?_
  rintro e v13 ⟨rfl, K, F⟩
  have S14 := Lib.hid (S13.out.op K F)
  rw [show [(⟨true, 1, 0, 7, 1, 0, 1⟩ : G), ⟨true, 3, 0, 8, 7, 1, 3⟩].set 1 (tellG ([(⟨true, 1, 0, 7, 1, 0, 1⟩ : G), ⟨true, 3, 0, 8, 7, 1, 3⟩][1]'(by decide))) = [(⟨true, 1, 0, 7, 1, 0, 1⟩ : G), ⟨true, 3, 0, 8, 7, 1, 0⟩] by decide] at S14
  rw [show whoG ([(⟨true, 1, 0, 7, 1, 0, 1⟩ : G), ⟨true, 3, 0, 8, 7, 1, 3⟩][1]'(by decide)) = 8 by decide, show maskG ([(⟨true, 1, 0, 7, 1, 0, 1⟩ : G), ⟨true, 3, 0, 8, 7, 1, 3⟩][1]'(by decide)) = 3 by decide]
  replace kl := Lib.hid (kl.out.frb F (fun e => nl.out _ (PoD.F_own e) rfl))
  replace kp0 := Lib.hid (kp0.out.frb F (fun e => np0.out _ (PoD.F_own e) rfl))
  replace kp1 := Lib.hid (kp1.out.frb F (fun e => np1.out _ (PoD.F_own e) rfl))
  clear K F S13
  have l0 := kl.out.1; have p0 := kp0.out.1; have p1 := kp1.out.1
  go_wp2_with fail
  refine (opened_p S14.out.S).mono ?_
  rintro e v14 ⟨rfl, F⟩
  rw [show [(⟨true, 1, 0, 7, 1, 0, 1⟩ : G), ⟨true, 3, 0, 8, 7, 1, 0⟩].countP G.op = 2 by decide]
  have S15 := Lib.hid (S14.out.below F)
  clear F S14 l0 p0 p1
  go_wp2_with fail
  refine (close_p S15.out.S (K := 0) (by decide)).mono ?_
  rintro e v15 ⟨rfl, K, F⟩
  have S16 := Lib.hid (S15.out.op K F)
  rw [show ([(⟨true, 1, 0, 7, 1, 0, 1⟩ : G), ⟨true, 3, 0, 8, 7, 1, 0⟩][0]'(by decide)).op = true by decide] at S16 ⊢
  rw [show [(⟨true, 1, 0, 7, 1, 0, 1⟩ : G), ⟨true, 3, 0, 8, 7, 1, 0⟩].set 0 noG = [noG, ⟨true, 3, 0, 8, 7, 1, 0⟩] by decide] at S16
  clear K F S15
  go_wp2_with fail
  refine (close_p S16.out.S (K := 0) (by decide)).mono ?_
  rintro e v16 ⟨rfl, K, F⟩
  have S17 := Lib.hid (S16.out.op K F)
  rw [show ([noG, (⟨true, 3, 0, 8, 7, 1, 0⟩ : G)][0]'(by decide)).op = false by decide]
  clear K F S16
  go_wp2
  go_ret
  exact ⟨rfl, S17.out.B⟩
end Go.Proofs.Ytblapbnplflghaa
