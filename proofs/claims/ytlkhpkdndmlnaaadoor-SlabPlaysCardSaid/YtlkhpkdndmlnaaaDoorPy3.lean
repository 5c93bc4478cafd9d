/- SlabPlays. -/
import Derived.Test.YtlkhpkdndmlnaaaDoorFi3
import Derived.Test.YtlkhpkdndmlnaaaDoorOp3
import Derived.Test.YtlkhpkdndmlnaaaDoorNw3
import Derived.Test.YtlkhpkdndmlnaaaDoorSa3
import Derived.Test.YtlkhpkdndmlnaaaDoorSeq
namespace Go.Proofs.YtlkhpkdndmlnaaaDoor
open Go.RowKit
set_option linter.unusedVariables false
set_option linter.unusedSimpArgs false
set_option linter.unusedSectionVars false
set_option maxRecDepth 100000

/-- A slab, and the document's regions beside it. -/
structure PyS (w wr : World) (base top s b : Nat) (ds : List RD) (st : List (List Int × List Bool)) (v : Value) (L : List SV) : Prop where
  S : SlabS iE pIE wr base top s b ds st
  P : OutR wr top v L (st.map (fun x => pl x.1 x.2))
  B : Below w.heap.size w wr
  T : Tab w
  bs : w.heap.size ≤ base ∧ base ≤ top ∧ top ≤ wr.heap.size
section
variable {w wr w' : World} {base top s b : Nat} {ds : List RD} {st : List (List Int × List Bool)} {v : Value} {L : List SV}
theorem PyS.tab (h : PyS w wr base top s b ds st v L) : Tab wr := h.T.below h.B
theorem PyS.below (h : PyS w wr base top s b ds st v L) (F : Below wr.heap.size wr w') : PyS w w' base top s b ds st v L :=
  ⟨h.S.below F, h.P.below F, h.B.trans (F.mono h.B.size), h.T, h.bs.1, h.bs.2.1, Nat.le_trans h.bs.2.2 F.size⟩
theorem PyS.drew (h : PyS w wr base top s b ds st v L) : PyS w wr.drew base top s b ds st v L := h.below ⟨rfl, rfl, rfl, Nat.le_refl _, fun _ _ => rfl⟩
theorem PyS.len (h : PyS w wr base top s b ds st v L) : L.length = ds.length := by have := h.P.len; rw [List.length_map, h.S.len] at this; exact this
/-- What a region of the slab and of the document is. -/
theorem PyS.at (h : PyS w wr base top s b ds st v L) {k : Nat} (hk : k < ds.length) : ∃ vs X A m c, L[k]? = some (A, m, c) ∧ ds[k]? = some ds[k] ∧ RegS iE wr ds[k].r b ds[k].off ds[k].n ds[k].p ds[k].g vs X ∧ m = X.length ∧ OwnE plE wr top (.slice A m c) (pl vs X) ∧ RowAt plE.f 2 wr A (pl vs X) ∧ b < wr.heap.size ∧
    (∀ q, (Value.slice A m c).ownBlock = some q → q ≠ ds[k].p ∧ q ≠ ds[k].g ∧ q ≠ b) ∧ ∃ g cv, v = .slice (some ⟨g, 0, none⟩) ds.length cv ∧ g < wr.heap.size ∧ top ≤ g ∧ Cel wr g k (.slice A m c) := by
  have hl := h.len
  have hs := h.S.len
  have hL : L[k]? = some (L[k]'(by omega)) := List.getElem?_eq_getElem _
  have hst : st[k]? = some (st[k]'(by omega)) := List.getElem?_eq_getElem _
  have hP : (st.map (fun x => pl x.1 x.2))[k]? = some (pl (st[k]'(by omega)).1 (st[k]'(by omega)).2) := by rw [List.getElem?_map, hst]; rfl
  obtain ⟨h1, h2, h3⟩ := h.P.inn k _ _ hL hP
  have R := h.S.at hk
  have hlv : (st[k]'(by omega)).1.length = (st[k]'(by omega)).2.length := by rw [R.lv, R.lx]
  obtain ⟨g, cv, e, hg1, hg2, hc⟩ := h.P.cel (k := k) (by omega)
  rw [hl] at e
  have tp := h.S.tp
  have tpk := tp.2.2 ds[k] (List.getElem_mem hk)
  refine ⟨_, _, _, _, _, hL, List.getElem?_eq_getElem _, R, h1.trans (pl_length hlv), h2, h2.row.1, by have := h.bs; omega, fun q hq => ?_, g, cv, e, hg2, hg1, hc⟩
  have := (h2.lt q hq).1
  exact ⟨by omega, by omega, by omega⟩
/-- A region turns in the slab, and its row in the document's. -/
theorem PyS.turn {g n cv j : Nat} {A : Option Addr} {m c : Nat} {x : SV} {vs : List Int} {X : List Bool} (h : PyS w wr base top s b ds st (.slice (some ⟨g, 0, none⟩) n cv) L) (hj : j < ds.length) (hL : L[j]? = some (A, m, c))
    (D : DoesP wr w' top ds[j].r b ds[j].off ds[j].n ds[j].p ds[j].g (.slice A m c) (SV.v x) vs X) :
    PyS w (w'.setCell ⟨g, j, none⟩ (SV.v x)) base top s b ds (st.set j (vs, X)) (.slice (some ⟨g, 0, none⟩) n cv) (L.set j x) := by
  have hd : ds[j]? = some ds[j] := List.getElem?_eq_getElem _
  have okd := h.S.ok ds[j] (List.getElem_mem hj)
  have tpd := h.S.tp
  have tp2 := tpd.2.2 ds[j] (List.getElem_mem hj)
  have k1 := okd.p; have k2 := okd.g; have k3 := okd.base; have k4 := h.bs; have k6 := h.S.sb
  have far : ∀ i o, regF iE b ds[j].off ds[j].n ds[j].p ds[j].g i o → base ≤ i ∧ i < top := fun i o e => by
    rcases e with (e | e) | e
    · omega
    · omega
    · have := e.1; omega
  have S1 := h.S.turn hd D.R D.F
  have P1 := h.P.frc D.F (fun q o hq e => by have := far q o e; omega)
  have hg := h.P.own.lt g rfl
  have hsz := D.F.size
  have hl := h.len
  have hxl : x.2.1 = (pl vs X).length := by
    obtain ⟨A', c', e, -⟩ := D.O.slice
    injection e
  have hjL : j < L.length := by omega
  have hq : (SV.v x).ownBlock ≠ some g := fun e => by
    rcases D.q g e with e1 | e1
    · have hP : (st.map (fun x => pl x.1 x.2))[j]? = some ((st.map (fun x => pl x.1 x.2))[j]'(by rw [List.length_map, h.S.len]; exact hj)) := List.getElem?_eq_getElem _
      exact (h.P.inn j _ _ hL hP).2.2 g e1 rfl
    · omega
  have hB : Below top w' (w'.setCell ⟨g, j, none⟩ (SV.v x)) := (Below.refl top w').setCell (p := ⟨g, j, none⟩) hg.1 _
  refine ⟨S1.low hB (Nat.le_refl _) (by omega), ?_, ?_, h.T, h.bs.1, h.bs.2.1, by rw [World.size_setCell]; omega⟩
  · have := P1.put hjL hxl D.O hq
    rw [show (st.set j (vs, X)).map (fun x => pl x.1 x.2) = (st.map (fun x => pl x.1 x.2)).set j (pl vs X) by rw [List.map_set]]
    exact this
  · exact (h.B.trans (D.F.below h.B.size (fun i o hi e => by have := far i o e; omega))).trans (hB.mono (by omega))
end

set_option maxHeartbeats 16000000 in
theorem plays3_walk (A0 : Option Addr) (c0 : Nat) (cs : List Int) (A1 : Option Addr) (c1 : Nat) (xs : List Op3) (ask : Int) (w : World) (hT : Tab w) (hr0 : RowAt (fun x : Int => [.int .i64 x]) 1 w A0 cs) (hk0 : cs.length ≤ c0) (hr : RowAt Op3.cells 4 w A1 xs) :
    Calls Tryd.prog 7 #[.slice A0 cs.length c0, .slice A1 xs.length c1, .int .i64 ask] w fun e w' => e = .returned (.bool true) ∧ Below w.heap.size w w' := by
  have HR := Lib.hid hr; have HT := Lib.hid hT; have HC := Lib.hid hr0; have HK := Lib.hid hk0
  obtain ⟨N, hN⟩ : ∃ N, N = xs.length := ⟨_, rfl⟩
  obtain ⟨M, hM⟩ : ∃ M, M = cs.length := ⟨_, rfl⟩
  rw [← hN, ← hM]
  clear hr hT hr0 hk0
  by_cases hbig : 8 < M ∨ 50 < N
  · have two : (decide ((8 : Int) < (M : Int)) = true ∧ decide (8 < M) = true) ∨ ((decide ((8 : Int) < (M : Int)) = false ∧ decide (8 < M) = false) ∧ (decide ((50 : Int) < (N : Int)) = true ∧ decide (50 < N) = true)) := by
      by_cases h1 : 8 < M
      · exact .inl ⟨decide_eq_true (by omega), decide_eq_true h1⟩
      · exact .inr ⟨⟨decide_eq_false (by omega), decide_eq_false h1⟩, decide_eq_true (by omega), decide_eq_true (by omega)⟩
    replace hN := Lib.hid hN; replace hM := Lib.hid hM
    clear hbig
    go_enter Tryd.func7, Tryd.ntmps7
    rcases two with ⟨d1, d2⟩ | ⟨⟨d1, d2⟩, d3, d4⟩
    all_goals
      go_wp2_with fail
      refine (alive03_c w HT.out).mono ?_
      rintro e w1 ⟨rfl, F⟩
      replace F := Lib.hid F
      go_wp2
      go_ret
      exact ⟨rfl, F.out⟩
  obtain ⟨d1, d2⟩ : decide ((8 : Int) < (M : Int)) = false ∧ decide (8 < M) = false := ⟨decide_eq_false (by omega), decide_eq_false (by omega)⟩
  obtain ⟨d3, d4⟩ : decide ((50 : Int) < (N : Int)) = false ∧ decide (50 < N) = false := ⟨decide_eq_false (by omega), decide_eq_false (by omega)⟩
  have hM8 : M ≤ 8 := by omega
  have hN50 : N ≤ 50 := by omega
  replace hN := Lib.hid hN; replace hM := Lib.hid hM
  clear hbig
  go_enter Tryd.func7, Tryd.ntmps7
  go_wp2_with fail
  refine (alive03_c w HT.out).mono ?_
  rintro e w1 ⟨rfl, F⟩
  have B1 := Lib.hid F
  clear F
  go_wp2_with fail
  rw [hM.out]
  refine (new_I (HC.out.below B1.out) HK.out (by rw [← hM.out]; omega)).mono ?_
  rintro e w2 ⟨s, b, ds, rfl, S, hds, F⟩
  rw [← hM.out]
  have hcap : capsR cs = cs.map capR := by unfold capsR; rw [List.take_of_length_le (by rw [← hM.out]; omega)]
  rw [hcap] at hds
  have hdl : ds.length = M := by have := congrArg List.length hds; rw [List.length_map, List.length_map, ← hM.out] at this; exact this
  have B2 := Lib.hid (B1.out.trans (F.mono B1.out.size))
  have hb12 := Lib.hid (And.intro B1.out.size F.size)
  have nr := new_r (cc := c0) (HC.out.below B2.out) (by rw [← hM.out]; exact hM8)
  rw [← hM.out] at nr
  replace nr := Lib.hid nr
  replace S := Lib.hid S
  clear hcap F B1
  go_wp2_with fail
  refine nr.out.mono ?_
  rintro e w3 ⟨v, L, rfl, O, F⟩
  have hst : (fresh (0 : Int) ds).map (fun x => pl x.1 x.2) = cs.map (fun c => List.replicate (capR c) Pl.zero) := by
    rw [show cs.map (fun c => List.replicate (capR c) Pl.zero) = (cs.map capR).map (fun n => List.replicate n Pl.zero) by rw [List.map_map]; rfl, ← hds, fresh, List.map_map, List.map_map]
    apply List.map_congr_left
    intro d _
    exact pl_new d.n
  have S0 := Lib.hid (show PyS w w3 w1.heap.size w2.heap.size s b ds (fresh 0 ds) v L from
    ⟨S.out.below F, by rw [hst]; exact O, B2.out.trans (F.mono B2.out.size), HT.out, hb12.out.1, hb12.out.2, F.size⟩)
  obtain ⟨AV, cV, rfl, -⟩ := O.own.slice
  have hLl := S0.out.len
  rw [hLl, hdl] at S0 ⊢
  have rg := regions_I S0.out.S
  rw [hdl] at rg
  have r1 := Lib.hid (region_no_I S0.out.S (k := -1) (.inl (by decide)))
  have r2 := Lib.hid (region_no_I S0.out.S (k := (M : Int)) (.inr (by rw [hdl]; exact Int.le_refl _)))
  replace rg := Lib.hid rg
  replace hdl := Lib.hid hdl
  clear O F S nr B2 hst hds hLl hb12
  generalize w1.heap.size = base at *
  generalize w2.heap.size = top at *
  go_wp2_with fail
  refine rg.out.mono ?_
  rintro e w4 ⟨rfl, rfl⟩
  go_wp2_with fail
  refine r1.out.mono ?_
  rintro e w4 ⟨rfl, rfl⟩
  go_wp2_with fail
  refine r2.out.mono ?_
  rintro e w4 ⟨rfl, rfl⟩
  have S1 := Lib.hid (show ∃ st L, PyS w w3 base top s b ds st (.slice AV M cV) L from ⟨_, _, S0.out⟩)
  clear S0 rg r1 r2
  go_wp2_with fail
  go_loopw [47] (fun ii wr => ∃ (i : Nat), ii = .int .i64 i ∧ Hid (∃ st L, PyS w wr base top s b ds st (.slice AV M cV) L) ∧ Hid (i ≤ N)) (fun ii _ => N - (intOf ii).toNat)
  case atStart => exact ⟨0, rfl, S1, Lib.hid (Nat.zero_le _)⟩
  case round =>
    clear S1
    obtain ⟨i, rfl, S, hi⟩ := hrel
    by_cases hlt : i < N
    · obtain ⟨st, L, S⟩ := S.out
      replace S := Lib.hid S
      obtain ⟨bb, off', rfl, hbl, z0, z1, z2, z3⟩ := HR.out.op3 (i := i) (by have := hN.out; omega)
      obtain ⟨x, hx⟩ : ∃ x, x = xs[i]'(by have := hN.out; omega) := ⟨_, rfl⟩
      rw [← hx] at z0 z1 z2 z3
      obtain ⟨xr, xk, xp, xv⟩ := x
      replace z0 := (S.out.B.cell (p := ⟨bb, off' + i * 4, none⟩) hbl).trans z0
      replace z1 := (S.out.B.cell (p := ⟨bb, off' + i * 4 + 1, none⟩) hbl).trans z1
      replace z2 := (S.out.B.cell (p := ⟨bb, off' + i * 4 + 2, none⟩) hbl).trans z2
      replace z3 := (S.out.B.cell (p := ⟨bb, off' + i * 4 + 3, none⟩) hbl).trans z3
      dsimp only at z0 z1 z2 z3
      have hlH := Lib.hid hlt
      have hi51 : i < 51 := by omega
      have hin : xr < 0 ∨ (M : Int) ≤ xr ∨ ∃ j : Nat, xr = j ∧ j < M := by
        by_cases h1 : xr < 0
        · exact .inl h1
        by_cases h2 : (M : Int) ≤ xr
        · exact .inr (.inl h2)
        · exact .inr (.inr ⟨xr.toNat, by omega, by omega⟩)
      have S1 := Lib.hid (S.out.below (blA (Below.refl wr.heap.size wr) (.cells #[.int .i64 xr, .int .i64 xk, .int .i64 xp, .int .i64 xv] 49)))
      have hbz := Lib.hid (show top ≤ wr.heap.size from S.out.bs.2.2)
      clear hx hbl S
      rcases hin with h1 | h1 | ⟨j, rfl, hj⟩
      · have e1 : decide (xr < 0) = true := decide_eq_true h1
        have S2 := Lib.hid (show ∃ st L, PyS w (wr.alloc (.cells #[.int .i64 xr, .int .i64 xk, .int .i64 xp, .int .i64 xv] 49)) base top s b ds st (.slice AV M cV) L from ⟨_, _, S1.out⟩)
        have r1 := Lib.hid (region_no_I S1.out.S (k := xr) (.inl h1))
        clear S1
        go_wp2_with fail
        refine r1.out.mono ?_
        rintro e w4 ⟨rfl, rfl⟩
        go_wp2
        go_roundw
        case rel => exact ⟨i + 1, by go_num, S2, hlH⟩
        case measure => have := hlH.out; simp [intOf]; omega
      · have e1 : decide (xr < 0) = false := decide_eq_false (by omega)
        have e2 : decide ((M : Int) ≤ xr) = true := decide_eq_true h1
        have S2 := Lib.hid (show ∃ st L, PyS w (wr.alloc (.cells #[.int .i64 xr, .int .i64 xk, .int .i64 xp, .int .i64 xv] 49)) base top s b ds st (.slice AV M cV) L from ⟨_, _, S1.out⟩)
        have r1 := Lib.hid (region_no_I S1.out.S (k := xr) (.inr (by rw [hdl.out]; exact h1)))
        clear S1
        go_wp2_with fail
        refine r1.out.mono ?_
        rintro e w4 ⟨rfl, rfl⟩
        go_wp2
        go_roundw
        case rel => exact ⟨i + 1, by go_num, S2, hlH⟩
        case measure => have := hlH.out; simp [intOf]; omega
      · have hjd : j < ds.length := by rw [hdl.out]; exact hj
        have e1 : decide ((j : Int) < 0) = false := decide_eq_false (by omega)
        have e2 : decide ((M : Int) ≤ (j : Int)) = false := decide_eq_false (by omega)
        have e3 : decide (M ≤ j) = false := decide_eq_false (by omega)
        have hj9 : j < 9 := by omega
        obtain ⟨vs, X, A, m, c, hL, hd, R, hm, O, Rw, hbW, hq, gO, cv, ev, hgW, hgt, kO⟩ := S1.out.at hjd
        rw [hdl.out] at ev
        injection ev with e1' e2' e3'
        subst e1'; subst e3'
        clear e2'
        have y0 := (Cel.new wr #[.int .i64 (j : Int), .int .i64 xk, .int .i64 xp, .int .i64 xv] 49 0 (.int .i64 (j : Int)) rfl)
        have y1 := (Cel.new wr #[.int .i64 (j : Int), .int .i64 xk, .int .i64 xp, .int .i64 xv] 49 1 (.int .i64 xk) rfl)
        have y2 := (Cel.new wr #[.int .i64 (j : Int), .int .i64 xk, .int .i64 xp, .int .i64 xv] 49 2 (.int .i64 xp) rfl)
        have y3 := (Cel.new wr #[.int .i64 (j : Int), .int .i64 xk, .int .i64 xp, .int .i64 xv] 49 3 (.int .i64 xv) rfl)
        replace R := Lib.hid R; replace O := Lib.hid O; replace hq := Lib.hid hq; replace hL := Lib.hid hL; replace hm := Lib.hid hm; replace hgt := Lib.hid hgt
        clear hd Rw
        go_wp2_with fail
        clear z0 z1 z2 z3
        have hgZ := Lib.hid (show gO < wr.heap.size by obtain ⟨st', L', S'⟩ := S.out; exact (S'.P.own.lt gO rfl).2)
        generalize wr.alloc (.cells #[.int .i64 (j : Int), .int .i64 xk, .int .i64 xp, .int .i64 xv] 49) = W at *
        clear S
        generalize wr.heap.size = Zb at *
        refine seq_start [(0, true), (1, true), (2, true), (4, true), (5, true), (6, true), (7, true), (8, true), (9, true), (3, false), (10, false), (11, true), (12, true), (13, true), (14, true), (15, true)] (fun w' => w'.cell? ⟨Zb, 0, none⟩ = some (.int .i64 (j : Int)) ∧ w'.cell? ⟨Zb, 1, none⟩ = some (.int .i64 xk) ∧ w'.cell? ⟨Zb, 2, none⟩ = some (.int .i64 xp) ∧ w'.cell? ⟨Zb, 3, none⟩ = some (.int .i64 xv) ∧ w'.cell? ⟨gO, j, none⟩ = some (.slice A m c)) (by kernel_rfl) (by kernel_rfl) rfl (by kernel_rfl) ⟨y0.1, y1.1, y2.1, y3.1, kO.1⟩ ?_
        iterate 9 (refine seq_read rfl (by first | rfl | (go_simp; done)) (fun w' hw => by obtain ⟨s0, s1, s2, s3, s4⟩ := hw; go_simp; with_reducible rfl) ?_; try simp only [Act.put, List.setIfInBounds_toArray, List.set_cons_zero, List.set_cons_succ])
        replace S1 := Lib.hid S1.out.drew
        replace y0 := y0.drew; replace y1 := y1.drew; replace y2 := y2.drew; replace y3 := y3.drew; replace kO := kO.drew
        replace R := Lib.hid R.out.drew; replace O := Lib.hid O.out.drew
        replace hbW : b < W.drew.heap.size := hbW
        replace hgW : gO < W.drew.heap.size := hgW
        generalize W.drew = W1 at *
        replace hbW := Lib.hid hbW; replace hgW := Lib.hid hgW
        refine seq_call rfl (fun K hK => ?_)
        go_simp
        refine (region_I S1.out.S hjd).mono ?_
        rintro e w5 ⟨rfl, rfl⟩
        refine hK.out _ _ ⟨y0.1, y1.1, y2.1, y3.1, kO.1⟩ ?_
        clear hK K
        try simp only [Act.put, List.setIfInBounds_toArray, List.set_cons_zero, List.set_cons_succ]
        refine seq_call rfl (fun K hK => ?_)
        go_simp
        refine (does_c R.out S1.out.tab O.out hm.out S1.out.bs.2.2 hq.out hbW.out (j : Int) xk xp xv).mono ?_
        rintro e w6 ⟨v', vs', X', rfl, D⟩
        have hZs : Zb ≠ ds[j].p ∧ Zb ≠ ds[j].g ∧ Zb ≠ b := by
          have t1 := S1.out.S.tp; have t2 := t1.2.2 ds[j] (List.getElem_mem hjd); have t3 := hbz.out
          exact ⟨by omega, by omega, by omega⟩
        have hGs : gO ≠ ds[j].p ∧ gO ≠ ds[j].g ∧ gO ≠ b := by
          have t1 := S1.out.S.tp; have t2 := t1.2.2 ds[j] (List.getElem_mem hjd); have t3 := hgt.out
          exact ⟨by omega, by omega, by omega⟩
        have x0 := D.F.keep hZs y0
        have x1 := D.F.keep hZs y1
        have x2 := D.F.keep hZs y2
        have x3 := D.F.keep hZs y3
        have kO6 := D.F.keep hGs kO
        obtain ⟨A', c', rfl, -⟩ := D.O.slice
        obtain ⟨n', hn'⟩ : ∃ z, z = (pl vs' X').length := ⟨_, rfl⟩
        rw [← hn'] at D ⊢
        have S3 := Lib.hid (show ∃ st L, PyS w (w6.setCell ⟨gO, j, none⟩ (.slice A' n' c')) base top s b ds st (.slice (some ⟨gO, 0, none⟩) M cV) L from ⟨_, _, S1.out.turn (x := (A', n', c')) hjd hL.out D⟩)
        have x2' := Lib.hid (x2.other (b' := gO) (o' := j) (.inl (Nat.ne_of_lt hgZ.out)) (.slice A' n' c'))
        refine hK.out _ _ ⟨x0.1, x1.1, x2.1, x3.1, kO6.1⟩ ?_
        clear hK K D S1 y0 y1 y2 y3 kO R O hm hq hL hn' x1 x2 x3
        try simp only [Act.put, List.setIfInBounds_toArray, List.set_cons_zero, List.set_cons_succ]
        iterate 5 (refine seq_read rfl (by first | rfl | (go_simp; done)) (fun w' hw => by obtain ⟨s0, s1, s2, s3, s4⟩ := hw; go_simp; with_reducible rfl) ?_; try simp only [Act.put, List.setIfInBounds_toArray, List.set_cons_zero, List.set_cons_succ])
        refine seq_done ?_
        have f0 := x0.1; have f4 := kO6.1; have f5 := kO6.2
        clear x0 kO6
        go_wp2_with fail
        clear f0 f4 f5
        obtain ⟨st3, L3, S3⟩ := S3.out
        replace S3 := Lib.hid S3
        generalize w6.setCell ⟨gO, j, none⟩ (.slice A' n' c') = w7 at *
        go_loopw [89] (fun qq wr => ∃ q : Nat, qq = .int .i64 q ∧ Hid (PyS w wr base top s b ds st3 (.slice (some ⟨gO, 0, none⟩) M cV) L3) ∧ Hid (Cel wr Zb 2 (.int .i64 xp)) ∧ Hid (q ≤ M)) (fun qq _ => M - (intOf qq).toNat)
        case atStart => exact ⟨0, rfl, S3, x2', Lib.hid (Nat.zero_le _)⟩
        case round =>
          clear S3 x2'
          obtain ⟨q, rfl, S, x2, hqM⟩ := hrel
          by_cases hqlt : q < M
          · have hqH := Lib.hid hqlt
            have hqd : q < ds.length := by rw [hdl.out]; exact hqlt
            have hq9 : q < 9 := by omega
            have dq : decide ((q : Int) < (M : Int)) = true := decide_eq_true (by omega)
            obtain ⟨vs, X, A, m, c, hL, hd, R, hm, O, Rw, hbW, hq, gO', cv, ev, hgW, hgt, kO⟩ := S.out.at hqd
            injection ev with e1' e2' e3'
            injection e1' with e1'
            obtain rfl : gO = gO' := by injection e1'
            replace R := Lib.hid R; replace Rw := Lib.hid Rw; replace hm := Lib.hid hm
            replace x2 := x2.out
            clear hd O hbW hq hgW hgt e2' e3' e1' hL
            go_wp2_with fail
            refine seq_start [(0, true), (1, true), (3, true), (4, true), (5, true), (6, true), (7, true), (2, false), (8, false), (9, true), (10, true), (11, true), (12, true), (14, true), (15, true), (16, true), (17, true), (18, true), (19, true), (13, false), (20, false), (21, true), (22, true)] (fun w' => w'.cell? ⟨Zb, 2, none⟩ = some (.int .i64 xp) ∧ w'.cell? ⟨gO, q, none⟩ = some (.slice A m c)) (by kernel_rfl) (by kernel_rfl) rfl (by kernel_rfl) ⟨x2.1, kO.1⟩ ?_
            iterate 7 (refine seq_read rfl (by first | rfl | (go_simp; done)) (fun w' hw => by obtain ⟨s0, s1⟩ := hw; go_simp; with_reducible rfl) ?_; try simp only [Act.put, List.setIfInBounds_toArray, List.set_cons_zero, List.set_cons_succ])
            replace S := Lib.hid S.out.drew
            replace x2 := x2.drew; replace kO := kO.drew
            replace R := Lib.hid R.out.drew
            replace Rw := Lib.hid (show RowAt plE.f 2 wr.drew A (pl vs X) from Rw.out.below ⟨rfl, rfl, rfl, Nat.le_refl _, fun _ _ => rfl⟩)
            generalize wr.drew = W1 at *
            refine seq_call rfl (fun K hK => ?_)
            go_simp
            refine (region_I S.out.S hqd).mono ?_
            rintro e w5 ⟨rfl, rfl⟩
            refine hK.out _ _ ⟨x2.1, kO.1⟩ ?_
            clear hK K
            try simp only [Act.put, List.setIfInBounds_toArray, List.set_cons_zero, List.set_cons_succ]
            refine seq_call rfl (fun K hK => ?_)
            go_simp
            refine (same3_c R.out S.out.tab Rw.out hm.out ask).mono ?_
            rintro e w6 ⟨rfl, F⟩
            replace S := Lib.hid (S.out.below F)
            replace R := Lib.hid (R.out.below F)
            replace Rw := Lib.hid (Rw.out.below F)
            replace x2 := x2.frb (FrB.of_below (S := fun _ => False) F (Nat.le_refl _)) (fun h => h)
            replace kO := kO.frb (FrB.of_below (S := fun _ => False) F (Nat.le_refl _)) (fun h => h)
            refine hK.out _ _ ⟨x2.1, kO.1⟩ ?_
            clear hK K F
            try simp only [Act.put, List.setIfInBounds_toArray, List.set_cons_zero, List.set_cons_succ]
            iterate 10 (refine seq_read rfl (by first | rfl | (go_simp; done)) (fun w' hw => by obtain ⟨s0, s1⟩ := hw; go_simp; with_reducible rfl) ?_; try simp only [Act.put, List.setIfInBounds_toArray, List.set_cons_zero, List.set_cons_succ])
            refine seq_call rfl (fun K hK => ?_)
            go_simp
            refine (region_I S.out.S hqd).mono ?_
            rintro e w5 ⟨rfl, rfl⟩
            refine hK.out _ _ ⟨x2.1, kO.1⟩ ?_
            clear hK K
            try simp only [Act.put, List.setIfInBounds_toArray, List.set_cons_zero, List.set_cons_succ]
            refine seq_call rfl (fun K hK => ?_)
            go_simp
            refine (same3_c R.out S.out.tab Rw.out hm.out xp).mono ?_
            rintro e w8 ⟨rfl, F⟩
            replace S := Lib.hid (S.out.below F)
            replace R := Lib.hid (R.out.below F)
            replace Rw := Lib.hid (Rw.out.below F)
            replace x2 := x2.frb (FrB.of_below (S := fun _ => False) F (Nat.le_refl _)) (fun h => h)
            replace kO := kO.frb (FrB.of_below (S := fun _ => False) F (Nat.le_refl _)) (fun h => h)
            refine hK.out _ _ ⟨x2.1, kO.1⟩ ?_
            clear hK K F
            try simp only [Act.put, List.setIfInBounds_toArray, List.set_cons_zero, List.set_cons_succ]
            iterate 2 (refine seq_read rfl (by first | rfl | (go_simp; done)) (fun w' hw => by obtain ⟨s0, s1⟩ := hw; go_simp; with_reducible rfl) ?_; try simp only [Act.put, List.setIfInBounds_toArray, List.set_cons_zero, List.set_cons_succ])
            refine seq_done ?_
            replace x2 := Lib.hid x2
            clear kO R Rw hm
            go_wp2
            go_roundw
            case rel => exact ⟨q + 1, by go_num, S, x2, hqH⟩
            case measure => have := hqH.out; simp [intOf]; omega
          · obtain rfl : M = q := by have := hqM.out; omega
            have S4 := Lib.hid (show ∃ st L, PyS w wr base top s b ds st (.slice (some ⟨gO, 0, none⟩) M cV) L from ⟨_, _, S.out⟩)
            clear S x2 hqlt hqM
            go_wp2
            go_roundw
            case rel => exact ⟨i + 1, by go_num, S4, hlH⟩
            case measure => have := hlH.out; simp [intOf]; omega
    · obtain rfl : N = i := by have := hi.out; omega
      obtain ⟨st, L, S⟩ := S.out
      have F := Lib.hid S.B
      clear hlt hi S
      go_wp2
      go_ret
      exact ⟨rfl, F.out⟩
end Go.Proofs.YtlkhpkdndmlnaaaDoor
