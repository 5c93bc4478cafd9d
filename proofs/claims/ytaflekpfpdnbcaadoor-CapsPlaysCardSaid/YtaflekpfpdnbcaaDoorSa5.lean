/- Is a table the document's? -/
import Derived.Test.YtaflekpfpdnbcaaDoorOf5
import Derived.Test.YtaflekpfpdnbcaaDoorRg5
import Derived.Test.YtaflekpfpdnbcaaDoorRh5
import Derived.Test.YtaflekpfpdnbcaaDoorTw
import Derived.Test.YtaflekpfpdnbcaaDoorEq
namespace Go.Proofs.YtaflekpfpdnbcaaDoor
open Go.RowKit
set_option linter.unusedVariables false
set_option linter.unusedSimpArgs false
set_option linter.unusedSectionVars false
set_option maxRecDepth 100000

theorem eqCap0 (w : World) (a b c x y z : Int) : (Op.equalIn 10000 30 (.agg #[.int .i64 a, .int .i64 b, .int .i64 c]) (.agg #[.int .i64 x, .int .i64 y, .int .i64 z])).run Tryd.prog w = .ok (a == x && (b == y && (c == z && true))) w := by
  refine eqs_of (d := 9999) Tryd.underlying30 (by kernel_rfl) ?_
  refine eqs_cons (by rfl) (by go_simp; rfl) (by go_simp; rfl) (by go_simp) ?_
  refine eqs_cons (by rfl) (by go_simp; rfl) (by go_simp; rfl) (by go_simp) ?_
  refine eqs_cons (by rfl) (by go_simp; rfl) (by go_simp; rfl) (by go_simp) ?_
  exact eqs_nil
theorem eqCap (a b c : Int) : ∀ w, (Op.equalIn 10000 30 (.agg #[.int .i64 a, .int .i64 b, .int .i64 c]) (.agg #[.int .i64 a, .int .i64 b, .int .i64 c])).run Tryd.prog w = .ok true w := fun w => by
  rw [eqCap0]; simp
/-- A table, and the document's beside it. -/
structure SaS (w : World) (T : TD) (P : List Pc) (most n c : Nat) (A : Option Addr) : Prop where
  S : TabS w T P most
  T0 : Tab w
  R : RowAt pcE.f 5 w A P
  n : n = P.length
theorem SaS.below {w w' : World} {T : TD} {P : List Pc} {most n c : Nat} {A : Option Addr} (h : SaS w T P most n c A) (F : Below w.heap.size w w') : SaS w' T P most n c A := ⟨h.S.below F, h.T0.below F, h.R.below F, h.n⟩
theorem SaS.drew {w : World} {T : TD} {P : List Pc} {most n c : Nat} {A : Option Addr} (h : SaS w T P most n c A) : SaS w.drew T P most n c A := h.below ⟨rfl, rfl, rfl, Nat.le_refl _, fun _ _ => rfl⟩
/-- What the document's table says. -/
structure DocC (T : TD) (P : List Pc) (most n c : Nat) (A : Option Addr) (kind rights : Int) (hd cnt ded : Nat) (idx : Int) (cof : Nat) : Prop where
  find : ∀ w, SaS w T P most n c A → Calls Tryd.prog 41 #[.agg #[.slice A n c, .int .i64 most], .int .u64 hd] w fun e w' => e = .returned (.int .i64 (findI P hd)) ∧ Below w.heap.size w w'
  look : ∀ w, SaS w T P most n c A → Calls Tryd.prog 13 #[.pointer (some ⟨T.t, 0, none⟩), .int .u64 hd] w fun e w' => e = .returned (lookA P (findP P hd)) ∧ Below w.heap.size w w'
  need1 : ∀ w, SaS w T P most n c A → Calls Tryd.prog 19 #[.pointer (some ⟨T.t, 0, none⟩), .int .u64 hd, .int .i64 kind, .int .i64 rights] w fun e w' => e = .returned (.tuple #[.int .i64 (needA P kind rights (findP P hd)).1, .int .i64 (needA P kind rights (findP P hd)).2]) ∧ Below w.heap.size w w'
  need2 : ∀ w, SaS w T P most n c A → Calls Tryd.prog 42 #[.agg #[.slice A n c, .int .i64 most], .int .u64 hd, .int .i64 kind, .int .i64 rights] w fun e w' => e = .returned (.tuple #[.int .i64 (needA P kind rights (findP P hd)).1, .int .i64 (needA P kind rights (findP P hd)).2]) ∧ Below w.heap.size w w'
  count : ∀ w, SaS w T P most n c A → Calls Tryd.prog 14 #[.pointer (some ⟨T.t, 0, none⟩)] w fun e w' => e = .returned (.int .i64 cnt) ∧ Below w.heap.size w w'
  live2 : ∀ w, SaS w T P most n c A → Calls Tryd.prog 43 #[.agg #[.slice A n c, .int .i64 most]] w fun e w' => ∃ A' c', e = .returned (.slice A' cnt c') ∧ RowAt uE.f 1 w' A' (livesP P) ∧ Below w.heap.size w w'
  dead1 : ∀ w, SaS w T P most n c A → Calls Tryd.prog 15 #[.pointer (some ⟨T.t, 0, none⟩)] w fun e w' => e = .returned (.int .i64 ded) ∧ w = w'
  dead2 : ∀ w, SaS w T P most n c A → Calls Tryd.prog 44 #[.agg #[.slice A n c, .int .i64 most]] w fun e w' => e = .returned (.int .i64 ded) ∧ Below w.heap.size w w'
  live1 : ∀ w, SaS w T P most n c A → Calls Tryd.prog 20 #[.pointer (some ⟨T.t, 0, none⟩)] w fun e w' => ∃ A' c', e = .returned (.slice A' cnt c') ∧ RowAt uE.f 1 w' A' (livesP P) ∧ Below w.heap.size w w'
  same : ∀ (w : World) (A1 A2 : Option Addr) (c1 c2 : Nat), RowAt uE.f 1 w A1 (livesP P) → RowAt uE.f 1 w A2 (livesP P) → Calls Tryd.prog 25 #[.slice A1 cnt c1, .slice A2 cnt c2] w fun e w' => e = .returned (.bool true) ∧ Below w.heap.size w w'
  of1 : ∀ w, SaS w T P most n c A → Calls Tryd.prog 45 #[.pointer (some ⟨T.t, 0, none⟩), .int .i64 kind, .int .i64 idx] w fun e w' => e = .returned (.int .i64 cof) ∧ Below w.heap.size w w'
  of2 : ∀ w, SaS w T P most n c A → Calls Tryd.prog 46 #[.agg #[.slice A n c, .int .i64 most], .int .i64 kind, .int .i64 idx] w fun e w' => e = .returned (.int .i64 cof) ∧ Below w.heap.size w w'
theorem docC {T : TD} {P : List Pc} {most n c : Nat} {A : Option Addr} (w0 : World) (h0 : SaS w0 T P most n c A) (kind rights : Int) {hd : Nat} (hh : hd < 18446744073709551616) (idx : Int) :
    ∃ cnt ded cof : Nat, DocC T P most n c A kind rights hd cnt ded idx cof := by
  have hp := h0.S.pc
  have hmo := h0.S.most.2
  have hl : P.length ≤ 256 := by rw [h0.S.len]; exact h0.S.n
  have hn := h0.n
  have hcl : (livesP P).length = P.countP Pc.is := liveT_count P
  have hc256 : (livesP P).length ≤ 1000000 := by rw [hcl]; exact Nat.le_trans List.countP_le_length (by omega)
  subst hn
  refine ⟨P.countP Pc.is, P.countP (Pc.dead most), P.countP (isOf kind idx), fun w h => find_d h.R hp hmo hl hd hh _, fun w h => lookT_c h.S hd hh, fun w h => need_c h.S hd hh kind rights, fun w h => need_d h.R hp hmo hl hd hh _ kind rights, fun w h => count_c h.S,
    fun w h => (live_d h.R hp hmo hl).mono ?_, fun w h => dead_c h.S, fun w h => dead_d h.R hl most, fun w h => (live_c h.S h.T0).mono ?_, fun w A1 A2 c1 c2 r1 r2 => same5_c r1 r2 hc256 hcl.symm hcl.symm, fun w h => of_c h.S h.T0 kind idx, fun w h => of_d h.R hl _ kind idx⟩
  · rintro e w' ⟨v, rfl, O, F⟩
    obtain ⟨A', k', rfl, -⟩ := O.slice
    rw [hcl]
    exact ⟨A', k', rfl, O.row.1, F⟩
  · rintro e w' ⟨v, rfl, O, F⟩
    rw [hsV_live hp hmo (by omega)] at O
    obtain ⟨A', k', rfl, -⟩ := O.slice
    rw [hcl]
    exact ⟨A', k', rfl, O.row.1, F⟩
end Go.Proofs.YtaflekpfpdnbcaaDoor
