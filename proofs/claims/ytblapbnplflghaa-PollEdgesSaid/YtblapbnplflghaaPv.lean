/- Polls: how many devices are open; the state of a law. -/
import Derived.Test.YtblapbnplflghaaPn
namespace Go.Proofs.Ytblapbnplflghaa
open Go.RowKit
set_option linter.unusedVariables false
set_option linter.unusedSimpArgs false
set_option linter.unusedSectionVars false
set_option maxRecDepth 100000

theorem countG_take (f : G → Bool) (P : List G) {i : Nat} (hi : i < P.length) : (P.take (i + 1)).countP f = (P.take i).countP f + (if f P[i] then 1 else 0) := by
  rw [List.take_succ_eq_append_getElem hi, List.countP_append]
  simp [List.countP_cons]
set_option maxHeartbeats 4000000 in
theorem opened_p {w : World} {D : PoD} {gs : List G} {ns : List (Int × Int)} {T : List Th} {f : Nat} (h : PoS w D gs ns T f) :
    Calls Try.prog 23 #[.pointer (some ⟨D.p, 0, none⟩)] w fun e w' => e = .returned (.int .i64 (gs.countP G.op)) ∧ Below w.heap.size w w' := by
  have x0 := h.c0.1
  have H := Lib.hid h
  have hn := h.n
  have hgl := Lib.hid h.gl
  have hf0 := fieldLook0
  clear h
  generalize hNd : D.n = nd at *
  replace hNd := Lib.hid hNd
  go_enter Try.func23, Try.ntmps23
  go_wp2_with fail
  go_loopw [3, 10] (fun cc ii wr => ∃ i k : Nat, ii = .int .i64 i ∧ cc = .int .i64 k ∧ Hid (k = (gs.take i).countP G.op) ∧ Hid (i ≤ nd) ∧ Hid (Below w.heap.size w wr)) (fun _ ii _ => nd - (intOf ii).toNat)
  case atStart => exact ⟨0, 0, rfl, rfl, Lib.hid rfl, Lib.hid (Nat.zero_le _), Lib.hid (Below.refl _ _)⟩
  case round =>
    clear x0
    obtain ⟨i, k, rfl, rfl, hk, hi, B⟩ := hrel
    have P := H.out.below B.out
    have x0 := P.c0.1
    rw [hNd.out] at x0
    by_cases hlt : i < nd
    · have hgi : i < gs.length := by rw [hgl.out]; exact hlt
      have lk := look_c (P.ga i hgi)
      have hct := countG_take G.op gs hgi
      rw [← hk.out] at hct
      have hk64 : k ≤ 64 := by rw [hk.out]; exact Nat.le_trans List.countP_le_length (by rw [List.length_take]; have := hgl.out; omega)
      have hix : (0 : Nat) + i * 7 = i * 7 := Nat.zero_add _
      have hlH := Lib.hid hlt
      have hi65 : i < 65 := by omega
      generalize gs[i] = g at *
      obtain ⟨op, ready, late, handle, want, mode, told⟩ := g
      unfold lookV at lk
      dsimp only at lk hct
      replace lk := Lib.hid lk
      clear P
      cases op with
      | false =>
        replace hct := Lib.hid (show k = (gs.take (i + 1)).countP G.op by simpa using hct.symm)
        go_wp2_with fail
        refine lk.out.mono ?_
        rintro e w5 ⟨rfl, F⟩
        have B5 := Lib.hid (F.below_of B.out (by have := B.out.size; omega) (fun _ _ _ h => h))
        clear F lk x0 B
        go_wp2
        go_roundw
        case rel => exact ⟨i + 1, k, by go_num, rfl, hct, hlH, B5⟩
        case measure => have := hlH.out; simp [intOf]; omega
      | true =>
        replace hct := Lib.hid (show k + 1 = (gs.take (i + 1)).countP G.op by simpa using hct.symm)
        go_wp2_with fail
        refine lk.out.mono ?_
        rintro e w5 ⟨rfl, F⟩
        have B5 := Lib.hid (F.below_of B.out (by have := B.out.size; omega) (fun _ _ _ h => h))
        clear F lk x0 B
        go_wp2
        go_roundw
        case rel => exact ⟨i + 1, k + 1, by go_num, by go_num, hct, hlH, B5⟩
        case measure => have := hlH.out; simp [intOf]; omega
    · obtain rfl : nd = i := by have := hi.out; omega
      have hk2 := hk.out
      rw [List.take_of_length_le (by rw [hgl.out]; exact Nat.le_refl _)] at hk2
      replace hk2 := Lib.hid hk2
      clear P
      go_wp2
      go_ret
      exact ⟨by rw [← hk2.out]; rfl, B.out⟩
/-- A poll that was made since w. -/
structure StP (w wr : World) (D : PoD) (gs : List G) (ns : List (Int × Int)) (T : List Th) (f : Nat) : Prop where
  S : PoS wr D gs ns T f
  B : Below w.heap.size w wr
  lo : ∀ k, D.own k → w.heap.size ≤ k
section
variable {w wr w2 : World} {D : PoD} {gs gs' : List G} {ns ns' : List (Int × Int)} {T T' : List Th} {f f' : Nat}
theorem StP.op (h : StP w wr D gs ns T f) (K : PoS w2 D gs' ns' T' f') (F : FrB D.F wr w2) : StP w w2 D gs' ns' T' f' :=
  ⟨K, h.B.trans (F.below h.B.size (fun k hk e => by have := h.lo k (PoD.F_own e); omega)), h.lo⟩
theorem StP.below (h : StP w wr D gs ns T f) (F : Below wr.heap.size wr w2) : StP w w2 D gs ns T f := ⟨h.S.below F, h.B.trans (F.mono h.B.size), h.lo⟩
theorem StP.que (h : StP w wr D gs ns T f) (Q : QS w2 D.q D.l D.L D.M D.t D.n D.mo T') (F : Fr (quS D.q D.L D.M) wr w2) : StP w w2 D gs ns T' f := h.op (h.S.que Q F) (PoD.F_que F)
/-- A poll over a new queue. -/
theorem StP.new {w1 w2 w3 : World} {q l L M d mo cap p g B c : Nat} (hB : Below w.heap.size w w1) (l1 : w1.heap.size ≤ q) (l2 : w1.heap.size ≤ l) (l3 : w1.heap.size ≤ L) (l4 : w1.heap.size ≤ M) (BQ : Below w1.heap.size w1 w2) (N : NewP w2 w3 q l L M 0 d mo cap [] p g B c) :
    StP w w3 ⟨p, g, B, c, q, l, L, M, d, cap, 0, mo⟩ (List.replicate d noG) [] [] 0 :=
  ⟨N.S, (hB.trans (BQ.mono hB.size)).trans (N.F.mono (by have := hB.size; have := BQ.size; omega)), fun k hk => by
    have h1 := hB.size; have h2 := BQ.size; have h3 := N.lo
    have h4 := N.lo
    obtain ⟨n1, n2, n3, n4⟩ := N.lo
    unfold PoD.own at hk
    dsimp only at hk
    omega⟩
end
end Go.Proofs.Ytblapbnplflghaa
