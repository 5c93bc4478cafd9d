/- The document's tables: a handle is made. -/
import Derived.Test.YtaflekpfpdnbcaaDoorRf8
import Derived.Test.YtaflekpfpdnbcaaDoorMt
import Derived.Test.YtaflekpfpdnbcaaDoorSeq
namespace Go.Proofs.YtaflekpfpdnbcaaDoor
open Go.RowKit
set_option linter.unusedVariables false
set_option linter.unusedSimpArgs false
set_option linter.unusedSectionVars false
set_option maxRecDepth 100000

/-- A row of places that lies from a block on. -/
def RowD (w : World) (E : Nat → Prop) (A : Option Addr) (P : List Pc) : Prop := RowAt pcE.f 5 w A P ∧ (0 < P.length → ∀ a, A = some a → E a.block)
theorem RowD.of_own {w : World} {E n c : Nat} {A : Option Addr} {P : List Pc} (h : OwnE pcE w E (.slice A n c) P) : RowD w (fun k => E ≤ k) A P :=
  ⟨h.row.1, fun _ a ha => by
    rcases h.2 with ⟨e, -⟩ | ⟨g, cap, cur, e, hg, -⟩
    · injection e with e; rw [e] at ha; cases ha
    · injection e with e
      rw [e] at ha
      injection ha with ha
      rw [← ha]; exact hg⟩
theorem RowD.below {w w' : World} {E : Nat → Prop} {A : Option Addr} {P : List Pc} (h : RowD w E A P) (F : Below w.heap.size w w') : RowD w' E A P := ⟨h.1.below F, h.2⟩
theorem RowD.mono {w : World} {E E' : Nat → Prop} {A : Option Addr} {P : List Pc} (h : RowD w E A P) (hE : ∀ k, E k → E' k) : RowD w E' A P := ⟨h.1, fun hp a ha => hE _ (h.2 hp a ha)⟩
theorem RowD.frb {S : Nat → Prop} {w w' : World} {E : Nat → Prop} {A : Option Addr} {P : List Pc} (h : RowD w E A P) (F : FrB S w w') (hs : ∀ k, E k → ¬ S k) : RowD w' E A P :=
  ⟨fun i hi => by
    obtain ⟨b, off, e, hlt, hc⟩ := h.1 i hi
    have hE := h.2 (by omega) _ e
    exact ⟨b, off, e, Nat.lt_of_lt_of_le hlt F.size, fun j v hj => (World.cell?_of_block (F.block b hlt (hs b hE))).trans (hc j v hj)⟩, h.2⟩
def mintH (P : List Pc) (r : Nat) : Option Nat → Int × Int
  | none => (0, 4)
  | some j => ((((P.getD j Pc.new).gen + 1) * 16777216 + j * 256 + r : Nat), 0)
theorem mintA_eq (P : List Pc) (most r : Nat) (o : Option Nat) : mintA P most r o = .tuple #[.int .u64 (mintH P r o).1, .int .i64 (mintH P r o).2] := by
  cases o <;> rfl

set_option maxHeartbeats 8000000 in
theorem mint_d {w : World} {E : Nat → Prop} {A : Option Addr} {c : Nat} {P : List Pc} {most : Nat} (hr : RowD w E A P) (hE : ∀ k, w.heap.size ≤ k → E k) (hp : ∀ x ∈ P, x.Ok most) (hmo : most ≤ 16777215) (hl : P.length ≤ 256) (kind index rights : Int) :
    Calls Tryd.prog 27 #[.agg #[.slice A P.length c, .int .i64 most], .agg #[.int .i64 kind, .int .i64 index, .int .i64 rights]] w fun e w' => ∃ A' c', e = .returned (.tuple #[.agg #[.slice A' P.length c', .int .i64 most], .int .u64 (mintH P (rights % 256).toNat (nextB (xP most P) false 0)).1, .int .i64 (mintH P (rights % 256).toNat (nextB (xP most P) false 0)).2]) ∧
      RowD w' E A' (mintP P kind index (rights % 256).toNat (nextB (xP most P) false 0)) ∧ Below w.heap.size w w' := by
  obtain ⟨R, hR⟩ : ∃ R : Nat, R = (rights % 256).toNat := ⟨_, rfl⟩
  have hR2 : R < 256 := by omega
  have hand : bits .and .i64 rights 255 = (R : Int) := by
    have := and_mask 8 255 (by decide) (by decide) rights
    rw [this, show ((2 ^ 8 : Nat) : Int) = 256 from rfl]; omega
  rw [← hR]
  replace hR := Lib.hid hR
  obtain ⟨n, hn⟩ : ∃ n, n = P.length := ⟨_, rfl⟩
  rw [← hn]
  obtain ⟨w3, hw3⟩ : ∃ w3, w3 = ((w.alloc (.cells #[.slice A n c, .int .i64 most] 65)).alloc (.cells #[.int .i64 kind, .int .i64 index, .int .i64 R] 69)).alloc (.cells #[.slice none 0 0, .int .i64 0] 65) := ⟨_, rfl⟩
  have F1 := blA (Below.refl w.heap.size w) (.cells #[.slice A n c, .int .i64 most] 65)
  have F2 := blA F1 (.cells #[.int .i64 kind, .int .i64 index, .int .i64 R] 69)
  have F3 := blA F2 (.cells #[.slice none 0 0, .int .i64 0] 65)
  rw [← hw3] at F3
  have s3 : w3.heap.size = w.heap.size + 3 := by rw [hw3]; simp
  have t0 : Cel w3 w.heap.size 0 (.slice A n c) := by rw [hw3]; exact ((Cel.new w _ _ 0 _ rfl).alloc _).alloc _
  have t1 : Cel w3 w.heap.size 1 (.int .i64 most) := by rw [hw3]; exact ((Cel.new w _ _ 1 _ rfl).alloc _).alloc _
  have y0 : Cel w3 (w.heap.size + 1) 0 (.int .i64 kind) := by
    have := Cel.new (w.alloc (.cells #[.slice A n c, .int .i64 most] 65)) #[.int .i64 kind, .int .i64 index, .int .i64 R] 69 0 (.int .i64 kind) rfl
    rw [World.size_alloc] at this
    rw [hw3]; exact this.alloc _
  have y1 : Cel w3 (w.heap.size + 1) 1 (.int .i64 index) := by
    have := Cel.new (w.alloc (.cells #[.slice A n c, .int .i64 most] 65)) #[.int .i64 kind, .int .i64 index, .int .i64 R] 69 1 (.int .i64 index) rfl
    rw [World.size_alloc] at this
    rw [hw3]; exact this.alloc _
  have y2 : Cel w3 (w.heap.size + 1) 2 (.int .i64 R) := by
    have := Cel.new (w.alloc (.cells #[.slice A n c, .int .i64 most] 65)) #[.int .i64 kind, .int .i64 index, .int .i64 R] 69 2 (.int .i64 R) rfl
    rw [World.size_alloc] at this
    rw [hw3]; exact this.alloc _
  have r0 : Cel w3 (w.heap.size + 1 + 1) 0 (.slice none 0 0) := by
    have := Cel.new ((w.alloc (.cells #[.slice A n c, .int .i64 most] 65)).alloc (.cells #[.int .i64 kind, .int .i64 index, .int .i64 R] 69)) #[.slice none 0 0, .int .i64 0] 65 0 (.slice none 0 0) rfl
    rw [World.size_alloc, World.size_alloc] at this
    rw [hw3]; exact this
  have r1 : Cel w3 (w.heap.size + 1 + 1) 1 (.int .i64 0) := by
    have := Cel.new ((w.alloc (.cells #[.slice A n c, .int .i64 most] 65)).alloc (.cells #[.int .i64 kind, .int .i64 index, .int .i64 R] 69)) #[.slice none 0 0, .int .i64 0] 65 1 (.int .i64 0) rfl
    rw [World.size_alloc, World.size_alloc] at this
    rw [hw3]; exact this
  have HR := Lib.hid (hr.1.below F3)
  have hrB := Lib.hid (show ∀ i (hi : i < P.length), ∃ b off, A = some ⟨b, off, none⟩ ∧ b < w.heap.size ∧ True from fun i hi => by obtain ⟨b, off, e, h1, -⟩ := hr.1 i hi; exact ⟨b, off, e, h1, trivial⟩)
  have HRD := Lib.hid (hr.below F3)
  have hn256 : n ≤ 256 := by rw [hn]; exact hl
  have hpc := Lib.hid (fun i (hi : i < P.length) => hp _ (List.getElem_mem hi))
  replace hn := Lib.hid hn; replace F3 := Lib.hid F3
  have CS := Lib.hid (And.intro (And.intro t0 t1) (And.intro (And.intro y0 (And.intro y1 y2)) (And.intro r0 r1)))
  replace hE := Lib.hid hE
  have hlP := Lib.hid hl
  clear F1 F2 t0 t1 y0 y1 y2 r0 r1 hr hp hl
  go_enter Tryd.func27, Tryd.ntmps27
  go_wp2_with fail
  rw [← hw3]
  replace hw3 := Lib.hid hw3
  clear hand
  generalize hZ : w.heap.size = Z at *
  replace hZ := Lib.hid hZ
  go_loopw [7] (fun kk wr => ∃ i : Nat, kk = .int .i64 i ∧ Hid (i ≤ n) ∧ Hid (∀ q (h : q < (xP most P).length), 0 ≤ q → q < i → (xP most P)[q] ≠ false) ∧ Hid (Below w3.heap.size w3 wr)) (fun kk _ => n - (intOf kk).toNat)
  case atStart => exact ⟨0, rfl, Lib.hid (Nat.zero_le _), Lib.hid (fun q _ _ hq => by omega), Lib.hid (Below.refl _ _)⟩
  case round =>
    obtain ⟨i, rfl, hi, hno, B⟩ := hrel
    have KC := Lib.hid (show ∀ b o v, b < Z + 3 → Cel w3 b o v → Cel wr b o v from fun b o v hb hc => hc.frb (FrB.of_below (S := fun _ => False) B.out (Nat.le_refl _)) (fun h => h))
    obtain ⟨⟨t0, t1⟩, ⟨y0, y1, y2⟩, r0, r1⟩ := CS.out
    replace t0 := KC.out _ _ _ (by omega) t0; replace t1 := KC.out _ _ _ (by omega) t1
    replace y0 := KC.out _ _ _ (by omega) y0; replace y1 := KC.out _ _ _ (by omega) y1; replace y2 := KC.out _ _ _ (by omega) y2
    replace r0 := KC.out _ _ _ (by omega) r0; replace r1 := KC.out _ _ _ (by omega) r1
    have t0a := t0.1
    have t1a := t1.1
    have hZl : Z < wr.heap.size := t0.lt
    have hZn : ¬ (Z = wr.heap.size) := by omega
    by_cases hlt : i < n
    · have hiP : i < P.length := by rw [← hn.out]; exact hlt
      obtain ⟨b, off, rfl, hbl, c0, c1, c2, c3, c4⟩ := HR.out.pc5 hiP
      have ok := hpc.out i hiP
      have hxa := xP_at (most := most) hiP
      obtain ⟨z, hz⟩ : ∃ z, z = P[i] := ⟨_, rfl⟩
      rw [← hz] at c0 c1 c2 c3 c4 ok hxa
      obtain ⟨zg, zb, zk, zi, zr⟩ := z
      dsimp only at c0 c1 c2 c3 c4
      replace c0 := (B.out.cell (p := ⟨b, off + i * 5, none⟩) hbl).trans c0
      replace c1 := (B.out.cell (p := ⟨b, off + i * 5 + 1, none⟩) hbl).trans c1
      replace c2 := (B.out.cell (p := ⟨b, off + i * 5 + 2, none⟩) hbl).trans c2
      replace c3 := (B.out.cell (p := ⟨b, off + i * 5 + 3, none⟩) hbl).trans c3
      replace c4 := (B.out.cell (p := ⟨b, off + i * 5 + 4, none⟩) hbl).trans c4
      have hlH := Lib.hid hlt
      have hi256 : i < 257 := by omega
      have FA := blA (Below.refl wr.heap.size wr) (.cells #[.int .i64 (zg : Nat), .bool zb, .int .i64 zk, .int .i64 zi, .int .i64 (zr : Nat)] 96)
      have B2 := Lib.hid (B.out.alloc B.out.size (.cells #[.int .i64 (zg : Nat), .bool zb, .int .i64 zk, .int .i64 zi, .int .i64 (zr : Nat)] 96))
      have hok := ok.gen
      dsimp only at hok
      by_cases hfree : zb = false ∧ zg < most
      · obtain ⟨rfl, hg⟩ := hfree
        have d1 : decide ((zg : Int) < (most : Int)) = true := decide_eq_true (by omega)
        have d2 : decide (zg < most) = true := decide_eq_true hg
        have hnx : nextB (xP most P) false 0 = some i := nextB_some (by simpa using hiP) (Nat.zero_le _) (by rw [hxa]; unfold Pc.full; simp; omega) (fun q hq h0 h1 => hno.out q hq h0 h1)
        have hgd : P.getD i Pc.new = ⟨zg, false, zk, zi, zr⟩ := by rw [hz]; simp [hiP]
        have hmp : mintP P kind index R (some i) = P.set i (minted ⟨zg, false, zk, zi, zr⟩ kind index R) := by show P.set i (minted (P.getD i Pc.new) kind index R) = _; rw [hgd]
        have hmh : mintH P R (some i) = (((((zg + 1) * 16777216 + i * 256 + R : Nat)) : Int), 0) := by show (((((P.getD i Pc.new).gen + 1) * 16777216 + i * 256 + R : Nat) : Int), (0 : Int)) = _; rw [hgd]
        have hzg : zg ≤ 16777214 := by omega
        have wd := fun (w' : World) (F : Below w3.heap.size w3 w') => with_d (c := c) ((HR.out).below F) (by rw [← hn.out]; omega) hiP ⟨zg + 1, true, kind, index, R⟩ (most : Int)
        rw [← hn.out] at wd
        dsimp only at wd
        rw [Int.natCast_add, Int.natCast_one] at wd
        have bc := fun w => bits5_c w i (zg + 1) R (by omega) (by omega) hR2
        rw [Int.natCast_add, Int.natCast_one] at bc
        obtain ⟨hv, ehv⟩ : ∃ hv, hv = (zg + 1) * 16777216 + i * 256 + R := ⟨_, rfl⟩
        rw [← ehv] at bc hmh
        replace ehv := Lib.hid ehv; replace wd := Lib.hid wd; replace bc := Lib.hid bc
        replace hmh := Lib.hid hmh; replace hmp := Lib.hid hmp; replace hnx := Lib.hid hnx
        have p0 := Cel.new wr #[.int .i64 (zg : Nat), .bool false, .int .i64 zk, .int .i64 zi, .int .i64 (zr : Nat)] 96 0 (.int .i64 zg) rfl
        replace t0 := t0.alloc (.cells #[.int .i64 (zg : Nat), .bool false, .int .i64 zk, .int .i64 zi, .int .i64 (zr : Nat)] 96)
        replace t1 := t1.alloc (.cells #[.int .i64 (zg : Nat), .bool false, .int .i64 zk, .int .i64 zi, .int .i64 (zr : Nat)] 96)
        replace y0 := y0.alloc (.cells #[.int .i64 (zg : Nat), .bool false, .int .i64 zk, .int .i64 zi, .int .i64 (zr : Nat)] 96)
        replace y1 := y1.alloc (.cells #[.int .i64 (zg : Nat), .bool false, .int .i64 zk, .int .i64 zi, .int .i64 (zr : Nat)] 96)
        replace y2 := y2.alloc (.cells #[.int .i64 (zg : Nat), .bool false, .int .i64 zk, .int .i64 zi, .int .i64 (zr : Nat)] 96)
        replace r0 := r0.alloc (.cells #[.int .i64 (zg : Nat), .bool false, .int .i64 zk, .int .i64 zi, .int .i64 (zr : Nat)] 96)
        replace r1 := r1.alloc (.cells #[.int .i64 (zg : Nat), .bool false, .int .i64 zk, .int .i64 zi, .int .i64 (zr : Nat)] 96)
        have hY : Hid (Z + 3 ≤ wr.heap.size) := Lib.hid (by have := B.out.size; omega)
        have CE := Lib.hid (And.intro t0 (And.intro t1 (And.intro y0 (And.intro y1 (And.intro y2 (And.intro p0 (And.intro r0 r1)))))))
        clear t0 t1 y0 y1 y2 p0 r0 r1 hz hgd hxa ok hok hg FA
        go_wp2_with fail
        generalize wr.alloc (.cells #[.int .i64 (zg : Nat), .bool false, .int .i64 zk, .int .i64 zi, .int .i64 (zr : Nat)] 96) = wp at *
        generalize wr.heap.size = Y at *
        clear c0 c1 c2 c3 c4 t0a t1a
        have key := Lib.hid (show ∀ w' : World, Below wp.heap.size wp w' → (w'.cell? ⟨Z, 0, none⟩ = some (.slice (some ⟨b, off, none⟩) n c) ∧ w'.cell? ⟨Z, 1, none⟩ = some (.int .i64 most) ∧ w'.cell? ⟨Z + 1, 0, none⟩ = some (.int .i64 kind) ∧ w'.cell? ⟨Z + 1, 1, none⟩ = some (.int .i64 index) ∧ w'.cell? ⟨Z + 1, 2, none⟩ = some (.int .i64 R) ∧ w'.cell? ⟨Y, 0, none⟩ = some (.int .i64 zg)) ∧ Cel w' (Z + 1 + 1) 0 (.slice none 0 0) ∧ Cel w' (Z + 1 + 1) 1 (.int .i64 0) from fun w' F => by
          obtain ⟨t0, t1, y0, y1, y2, p0, r0, r1⟩ := CE.out
          have FB := FrB.of_below (S := fun _ => False) F (Nat.le_refl _)
          exact ⟨⟨(t0.frb FB (fun h => h)).1, (t1.frb FB (fun h => h)).1, (y0.frb FB (fun h => h)).1, (y1.frb FB (fun h => h)).1, (y2.frb FB (fun h => h)).1, (p0.frb FB (fun h => h)).1⟩, r0.frb FB (fun h => h), r1.frb FB (fun h => h)⟩)
        refine seq_start [(0, true), (1, true), (2, true), (3, true), (4, true), (5, true), (6, true), (8, true), (9, true), (10, true), (11, true), (12, true), (13, true), (7, false), (14, false), (15, false), (16, true), (17, true)] (fun w' => w'.cell? ⟨Z, 0, none⟩ = some (.slice (some ⟨b, off, none⟩) n c) ∧ w'.cell? ⟨Z, 1, none⟩ = some (.int .i64 most) ∧ w'.cell? ⟨Z + 1, 0, none⟩ = some (.int .i64 kind) ∧ w'.cell? ⟨Z + 1, 1, none⟩ = some (.int .i64 index) ∧ w'.cell? ⟨Z + 1, 2, none⟩ = some (.int .i64 R) ∧ w'.cell? ⟨Y, 0, none⟩ = some (.int .i64 zg)) (by kernel_rfl) (by kernel_rfl) rfl (by kernel_rfl) (key.out wp.drew ⟨rfl, rfl, rfl, Nat.le_refl _, fun _ _ => rfl⟩).1 ?_
        have ew : IntKind.i64.wrap ((zg : Int) + 1) = (zg : Int) + 1 := by rw [IntKind.wrap_i64]; omega
        iterate 13 (refine seq_read rfl (by first | rfl | (go_simp; done)) (fun w' hw => by obtain ⟨s0, s1, s2, s3, s4, s5⟩ := hw; go_simp; with_reducible rfl) ?_; try simp only [Act.put, List.setIfInBounds_toArray, List.set_cons_zero, List.set_cons_succ])
        have B5 := Lib.hid (show Below w3.heap.size w3 wp.drew from ⟨B2.out.os, B2.out.tape, B2.out.output, B2.out.size, B2.out.block⟩)
        have B6 := Lib.hid (show Below wp.heap.size wp wp.drew from ⟨rfl, rfl, rfl, Nat.le_refl _, fun _ _ => rfl⟩)
        generalize wp.drew = w5 at *
        refine seq_call rfl (fun K hK => ?_)
        go_simp
        refine (wd.out _ B5.out).mono ?_
        rintro e w6 ⟨A6, k6, rfl, O6, F6⟩
        have F7 := Lib.hid (B6.out.trans (F6.mono B6.out.size))
        refine hK.out _ _ (key.out _ F7.out).1 ?_
        clear hK K
        try simp only [Act.put, List.setIfInBounds_toArray, List.set_cons_zero, List.set_cons_succ]
        refine seq_call rfl (fun K hK => ?_)
        go_simp
        refine (bc.out _).mono ?_
        rintro e w7 ⟨rfl, rfl⟩
        refine hK.out _ _ (key.out _ F7.out).1 ?_
        clear hK K
        try simp only [Act.put, List.setIfInBounds_toArray, List.set_cons_zero, List.set_cons_succ]
        obtain ⟨-, rr0, rr1⟩ := key.out _ F7.out
        have CF := CE.out
        have FB := FrB.of_below (S := fun _ => False) F7.out (Nat.le_refl _)
        have hYY := hY.out
        have CG : ∀ u v : Value, ∀ w' : World, w' = (w6.setCell ⟨Z + 1 + 1, 0, none⟩ u).setCell ⟨Z + 1 + 1, 1, none⟩ v → (w'.cell? ⟨Z, 0, none⟩ = some (.slice (some ⟨b, off, none⟩) n c) ∧ w'.cell? ⟨Z, 1, none⟩ = some (.int .i64 most) ∧ w'.cell? ⟨Z + 1, 0, none⟩ = some (.int .i64 kind) ∧ w'.cell? ⟨Z + 1, 1, none⟩ = some (.int .i64 index) ∧ w'.cell? ⟨Z + 1, 2, none⟩ = some (.int .i64 R) ∧ w'.cell? ⟨Y, 0, none⟩ = some (.int .i64 zg)) := fun u v w' e => by
          subst e
          obtain ⟨t0, t1, y0, y1, y2, p0, -, -⟩ := CF
          have k : ∀ b o x, b ≠ Z + 1 + 1 → Cel wp b o x → ((w6.setCell ⟨Z + 1 + 1, 0, none⟩ u).setCell ⟨Z + 1 + 1, 1, none⟩ v).cell? ⟨b, o, none⟩ = some x := fun b o x hb hc =>
            (((hc.frb FB (fun h => h)).other (.inl (Ne.symm hb)) u).other (.inl (Ne.symm hb)) v).1
          exact ⟨k _ _ _ (by omega) t0, k _ _ _ (by omega) t1, k _ _ _ (by omega) y0, k _ _ _ (by omega) y1, k _ _ _ (by omega) y2, k _ _ _ (by omega) p0⟩
        replace CG := Lib.hid CG
        have fR0 := Lib.hid ((rr0.same (.slice A6 n k6)).other (b' := Z + 1 + 1) (o' := 1) (.inr (by decide)) (.int .i64 most))
        have fR1 := Lib.hid ((rr1.other (b' := Z + 1 + 1) (o' := 0) (.inr (by decide)) (.slice A6 n k6)).same (.int .i64 most))
        have s5 : Z + 3 ≤ w5.heap.size := by have := B5.out.size; omega
        have FS : FrB (fun k => k = Z + 1 + 1) w6 ((w6.setCell ⟨Z + 1 + 1, 0, none⟩ (.slice A6 n k6)).setCell ⟨Z + 1 + 1, 1, none⟩ (.int .i64 most)) := (FrB.set w6 ⟨Z + 1 + 1, 0, none⟩ _).then_ (FrB.set _ ⟨Z + 1 + 1, 1, none⟩ _) (fun _ _ h => h)
        have RD := Lib.hid (((RowD.of_own O6).frb FS (fun k hk e => by have h9 : w5.heap.size ≤ k := hk; omega)).mono (E' := E) (fun k hk => hE.out k (by omega)))
        have BF := Lib.hid ((((F3.out.trans (B5.out.mono (by omega))).trans (F6.mono (by omega))).setCell (p := ⟨Z + 1 + 1, 0, none⟩) (by show Z ≤ Z + 1 + 1; omega) (.slice A6 n k6)).setCell (p := ⟨Z + 1 + 1, 1, none⟩) (by show Z ≤ Z + 1 + 1; omega) (.int .i64 most))
        clear FS O6 F6
        have rr0a := rr0.1; have rr0b := rr0.2; have rr1a := rr1.1; have rr1b := rr1.2
        clear CF FB hYY key CE rr0 rr1
        refine seq_call rfl (fun K hK => ?_)
        go_simp
        refine hK.out _ _ (CG.out _ _ _ rfl) ?_
        clear hK K
        try simp only [Act.put, List.setIfInBounds_toArray, List.set_cons_zero, List.set_cons_succ]
        iterate 2 (refine seq_read rfl (by first | rfl | (go_simp; done)) (fun w' hw => by go_simp; with_reducible rfl) ?_; try simp only [Act.put, List.setIfInBounds_toArray, List.set_cons_zero, List.set_cons_succ])
        refine seq_done ?_
        clear CG rr0a rr0b rr1a rr1b B5 B6 F7 B2 B KC wd bc
        generalize (w6.setCell ⟨Z + 1 + 1, 0, none⟩ (.slice A6 n k6)).setCell ⟨Z + 1 + 1, 1, none⟩ (.int .i64 most) = wF at *
        obtain ⟨g0, g0'⟩ := fR0.out
        obtain ⟨g1, g1'⟩ := fR1.out
        go_wp2
        refine bodyPost_ret (v := .tuple #[.agg #[.slice A6 n k6, .int .i64 most], .int .u64 hv, .int .i64 0]) ?hres rfl ?hend
        case hend =>
          refine ⟨A6, k6, ?_, ?_, ?_⟩
          · rw [hnx.out, hmh.out]
          · rw [hnx.out, hmp.out]; exact RD.out
          · first
              | exact BF.out
              | (rw [hZ.out]; exact BF.out)
        case hres => simp [results, Tryd.results27, go_sem, *]
      · have hfull : (xP most P)[i]'(by simpa using hiP) ≠ false := by
          rw [hxa]; unfold Pc.full
          cases zb with
          | true => simp
          | false =>
            have : ¬ zg < most := fun h => hfree ⟨rfl, h⟩
            simp; omega
        have hno2 := Lib.hid (show ∀ q (h : q < (xP most P).length), 0 ≤ q → q < i + 1 → (xP most P)[q] ≠ false from fun q hq h0 h1 => by
          by_cases e2 : q = i
          · subst e2; exact hfull
          · exact hno.out q hq h0 (by omega))
        clear t0 t1 y0 y1 y2 r0 r1 hz hxa ok FA hfull
        cases zb with
        | true =>
          clear hfree
          go_wp2
          go_roundw
          case rel => exact ⟨i + 1, by go_num, hlH, hno2, B2⟩
          case measure => have := hlH.out; simp [intOf]; omega
        | false =>
          have hg : ¬ zg < most := fun h => hfree ⟨rfl, h⟩
          have d1 : decide ((zg : Int) < (most : Int)) = false := decide_eq_false (by omega)
          have d2 : decide (zg < most) = false := decide_eq_false hg
          clear hfree
          go_wp2
          go_roundw
          case rel => exact ⟨i + 1, by go_num, hlH, hno2, B2⟩
          case measure => have := hlH.out; simp [intOf]; omega
    · obtain rfl : n = i := by have := hi.out; omega
      have hnx := Lib.hid (show nextB (xP most P) false 0 = none from nextB_none (fun q hq h0 => hno.out q hq h0 (by rw [hn.out]; simpa using hq)))
      have RD := Lib.hid ((HRD.out).below B.out)
      have BF := Lib.hid ((((F3.out.trans (B.out.mono (by omega)))).setCell (p := ⟨Z + 1 + 1, 0, none⟩) (by show Z ≤ Z + 1 + 1; omega) (.slice A n c)).setCell (p := ⟨Z + 1 + 1, 1, none⟩) (by show Z ≤ Z + 1 + 1; omega) (.int .i64 most))
      have FS : FrB (fun k => k = Z + 1 + 1) wr ((wr.setCell ⟨Z + 1 + 1, 0, none⟩ (.slice A n c)).setCell ⟨Z + 1 + 1, 1, none⟩ (.int .i64 most)) := (FrB.set wr ⟨Z + 1 + 1, 0, none⟩ _).then_ (FrB.set _ ⟨Z + 1 + 1, 1, none⟩ _) (fun _ _ h => h)
      have RD2 := Lib.hid (show RowD ((wr.setCell ⟨Z + 1 + 1, 0, none⟩ (.slice A n c)).setCell ⟨Z + 1 + 1, 1, none⟩ (.int .i64 most)) E A P from by
        refine ⟨fun q hq => ?_, RD.out.2⟩
        obtain ⟨b, off, e, hlt3, hc⟩ := hrB.out q hq
        obtain ⟨b2, off2, e2, hlt4, hc2⟩ := RD.out.1 q hq
        rw [e] at e2
        injection e2 with e2
        injection e2 with e3 e4
        subst e3; subst e4
        exact ⟨b, off, e, Nat.lt_of_lt_of_le hlt4 FS.size, fun j v hj => (World.cell?_of_block (FS.block b hlt4 (by omega))).trans (hc2 j v hj)⟩)
      have r0a := r0.1; have r0b := r0.2; have r1a := r1.1; have r1b := r1.2
      have fR0 := Lib.hid ((r0.same (.slice A n c)).other (b' := Z + 1 + 1) (o' := 1) (.inr (by decide)) (.int .i64 most))
      have fR1 := Lib.hid ((r1.other (b' := Z + 1 + 1) (o' := 0) (.inr (by decide)) (.slice A n c)).same (.int .i64 most))
      clear t0 t1 y0 y1 y2 r0 r1 FS RD KC B
      go_wp2
      have g0 := fR0.out.1
      have g1 := fR1.out.1
      refine bodyPost_ret (v := .tuple #[.agg #[.slice A n c, .int .i64 most], .int .u64 0, .int .i64 4]) ?hres2 rfl ?hend2
      case hend2 =>
        refine ⟨A, c, ?_, ?_, ?_⟩
        · rw [hnx.out]; rfl
        · rw [hnx.out]; exact RD2.out
        · first
            | exact BF.out
            | (rw [hZ.out]; exact BF.out)
      case hres2 => simp [results, Tryd.results27, go_sem, *]
end Go.Proofs.YtaflekpfpdnbcaaDoor
