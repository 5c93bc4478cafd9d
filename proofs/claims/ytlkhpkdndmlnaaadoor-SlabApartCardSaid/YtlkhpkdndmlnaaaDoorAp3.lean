/- SlabApart. -/
import Derived.Test.YtlkhpkdndmlnaaaDoorFi3
import Derived.Test.YtlkhpkdndmlnaaaDoorOp3
import Derived.Test.YtlkhpkdndmlnaaaDoorSame
import Derived.Test.YtlkhpkdndmlnaaaDoorSeq
namespace Go.Proofs.YtlkhpkdndmlnaaaDoor
open Go.RowKit
set_option linter.unusedVariables false
set_option linter.unusedSimpArgs false
set_option linter.unusedSectionVars false
set_option maxRecDepth 100000

/-- A region in a slab of its own: its blocks are from lo on, and ahead of hi. -/
structure RE where
  r : Nat
  b : Nat
  off : Nat
  n : Nat
  p : Nat
  g : Nat
  lo : Nat
  hi : Nat
deriving Inhabited
structure RE.Ok (e : RE) : Prop where
  r : e.lo ≤ e.r ∧ e.r < e.hi
  p : e.lo ≤ e.p ∧ e.p < e.hi
  g : e.lo ≤ e.g ∧ e.g < e.hi
  b : e.lo ≤ e.b ∧ e.b < e.hi
abbrev RSt := List (List Int × List Bool)
/-- A slab, and regions of their own with a row of pointers to them. -/
structure ApS (w wr : World) (base top s b : Nat) (ds : List RD) (es : List RE) (st so : RSt) (v : Value) : Prop where
  S : SlabS iE pIE wr base top s b ds st
  own : ∀ (k : Nat) (e : RE) (x : List Int × List Bool), es[k]? = some e → so[k]? = some x → RegS iE wr e.r e.b e.off e.n e.p e.g x.1 x.2
  ok : ∀ e ∈ es, e.Ok
  ord : es.Pairwise (fun e f => e.hi ≤ f.lo)
  lo : ∀ e ∈ es, top ≤ e.lo ∧ e.hi ≤ wr.heap.size
  row : OwnE pIE wr top v (es.map RE.r)
  q : ∀ q, v.ownBlock = some q → ∀ e ∈ es, q < e.lo ∨ e.hi ≤ q
  B : Below w.heap.size w wr
  T : Tab w
  bs : w.heap.size ≤ base ∧ base ≤ top ∧ top ≤ wr.heap.size
section
variable {w wr w' : World} {base top s b : Nat} {ds : List RD} {es : List RE} {st so : RSt} {v : Value}
theorem ApS.tab (h : ApS w wr base top s b ds es st so v) : Tab wr := h.T.below h.B
theorem ApS.below (h : ApS w wr base top s b ds es st so v) (F : Below wr.heap.size wr w') : ApS w w' base top s b ds es st so v :=
  ⟨h.S.below F, fun k e x he hx => (h.own k e x he hx).below F, h.ok, h.ord, fun e he => ⟨(h.lo e he).1, Nat.le_trans (h.lo e he).2 F.size⟩, h.row.below F, h.q, h.B.trans (F.mono h.B.size), h.T, h.bs.1, h.bs.2.1, Nat.le_trans h.bs.2.2 F.size⟩
theorem ApS.drew (h : ApS w wr base top s b ds es st so v) : ApS w wr.drew base top s b ds es st so v := h.below ⟨rfl, rfl, rfl, Nat.le_refl _, fun _ _ => rfl⟩
/-- A region of the slab turns. -/
theorem ApS.turnS (h : ApS w wr base top s b ds es st so v) {k : Nat} {d : RD} (hd : ds[k]? = some d) {vs : List Int} {X : List Bool} (R : RegS iE w' d.r b d.off d.n d.p d.g vs X) (F : FrC (regF iE b d.off d.n d.p d.g) wr w') :
    ApS w w' base top s b ds es (st.set k (vs, X)) so v := by
  have hm := List.mem_of_getElem? hd
  have okd := h.S.ok d hm
  have tpd := h.S.tp
  have tp2 := tpd.2.2 d hm
  have k1 := okd.p; have k2 := okd.g; have k3 := okd.base; have k4 := h.bs; have k6 := h.S.sb
  have far : ∀ i o, regF iE b d.off d.n d.p d.g i o → base ≤ i ∧ i < top := fun i o e => by
    rcases e with (e | e) | e
    · omega
    · omega
    · have := e.1; omega
  refine ⟨h.S.turn hd R F, fun j e x he hx => ?_, h.ok, h.ord, fun e he => ⟨(h.lo e he).1, Nat.le_trans (h.lo e he).2 F.size⟩, h.row.block (fun q hq => F.block q (h.row.lt q hq).2 (fun o e => by have := far q o e; have := (h.row.lt q hq).1; omega)), h.q, h.B.trans (F.below h.B.size (fun i o hi e => by have := far i o e; omega)), h.T, h.bs.1, h.bs.2.1, Nat.le_trans h.bs.2.2 F.size⟩
  have oke := h.ok e (List.mem_of_getElem? he)
  have loe := h.lo e (List.mem_of_getElem? he)
  have a1 := oke.r; have a2 := oke.p; have a3 := oke.g; have a4 := oke.b
  exact (h.own j e x he hx).frc F (fun o c => by have := far _ o c; omega) (fun o c => by have := far _ o c; omega) (fun o c => by have := far _ o c; omega) (fun o _ _ c => by have := far _ o c; omega)
/-- A region of its own turns. -/
theorem ApS.turnO (h : ApS w wr base top s b ds es st so v) {k : Nat} {d : RE} (hd : es[k]? = some d) {vs : List Int} {X : List Bool} (R : RegS iE w' d.r d.b d.off d.n d.p d.g vs X) (F : FrC (regF iE d.b d.off d.n d.p d.g) wr w') :
    ApS w w' base top s b ds es st (so.set k (vs, X)) v := by
  have hm := List.mem_of_getElem? hd
  have okd := h.ok d hm
  have lod := h.lo d hm
  have hk : k < es.length := (List.getElem?_eq_some_iff.1 hd).1
  have k1 := okd.p; have k2 := okd.g; have k3 := okd.b; have k4 := h.bs; have k5 := h.S.tp
  have far : ∀ i o, regF iE d.b d.off d.n d.p d.g i o → d.lo ≤ i ∧ i < d.hi := fun i o e => by
    rcases e with (e | e) | e
    · omega
    · omega
    · have := e.1; omega
  refine ⟨h.S.frc F (fun i o h1 h2 e => by have := far i o e; omega), fun j e x he hx => ?_, h.ok, h.ord, fun e he => ⟨(h.lo e he).1, Nat.le_trans (h.lo e he).2 F.size⟩, h.row.block (fun q hq => F.block q (h.row.lt q hq).2 (fun o e => by have := far q o e; have := h.q q hq d hm; omega)), h.q, h.B.trans (F.below h.B.size (fun i o hi e => by have := far i o e; omega)), h.T, h.bs.1, h.bs.2.1, Nat.le_trans h.bs.2.2 F.size⟩
  by_cases hjk : j = k
  · subst hjk
    rw [hd] at he
    injection he with he; subst he
    by_cases hl : j < so.length
    · rw [List.getElem?_set_self hl] at hx
      injection hx with hx; subst hx
      exact R
    · rw [List.getElem?_eq_none (by rw [List.length_set]; omega)] at hx; cases hx
  · rw [List.getElem?_set_ne (fun e => hjk e.symm)] at hx
    have oke := h.ok e (List.mem_of_getElem? he)
    have hj : j < es.length := (List.getElem?_eq_some_iff.1 he).1
    have ej : es[j] = e := (List.getElem?_eq_some_iff.1 he).2
    have ek : es[k] = d := (List.getElem?_eq_some_iff.1 hd).2
    have hor : e.hi ≤ d.lo ∨ d.hi ≤ e.lo := by
      rcases Nat.lt_or_gt_of_ne hjk with h1 | h1
      · have := List.pairwise_iff_getElem.1 h.ord j k hj hk h1
        rw [ej, ek] at this; exact .inl this
      · have := List.pairwise_iff_getElem.1 h.ord k j hk hj h1
        rw [ej, ek] at this; exact .inr this
    have a1 := oke.r; have a2 := oke.p; have a3 := oke.g; have a4 := oke.b
    exact (h.own j e x he hx).frc F (fun o c => by have := far _ o c; omega) (fun o c => by have := far _ o c; omega) (fun o c => by have := far _ o c; omega) (fun o _ _ c => by have := far _ o c; omega)
theorem ApS.rowAt (h : ApS w wr base top s b ds es st so v) {k : Nat} (hk : k < es.length) : ∃ g c, v = .slice (some ⟨g, 0, none⟩) es.length c ∧ wr.cell? ⟨g, k, none⟩ = some (.pointer (some ⟨es[k].r, 0, none⟩)) := by
  obtain ⟨g, c, e, -⟩ := h.row.pos (by rw [List.length_map]; omega)
  have hO := h.row
  rw [e] at hO
  have hc := (hO.cel (i := k) (j := 0) (u := .pointer (some ⟨es[k].r, 0, none⟩)) (by rw [List.length_map]; exact hk) (by rw [List.getElem_map]; rfl)).1
  rw [List.length_map] at e
  refine ⟨g, c, e, ?_⟩
  rwa [show k * (pIE).sz + 0 = k by show k * 1 + 0 = k; omega] at hc
/-- A region of its own is made: w1 came of New, w4 of append. -/
theorem ApS.add {w1 w4 : World} {e : RE} {x : List Int × List Bool} {v' : Value} {t : TypeId} (h : ApS w wr base top s b ds es st so v) (hl : so.length = es.length)
    (hw : wr.heap.size ≤ e.lo) (hhi : e.hi ≤ w1.heap.size) (B1 : Below wr.heap.size wr w1) (ok : e.Ok) (R : RegS iE w1 e.r e.b e.off e.n e.p e.g x.1 x.2)
    (hO : OwnE pIE w4 top v' (es.map RE.r ++ [e.r])) (hG : (w1.alloc (.cells #[.pointer (some ⟨e.r, 0, none⟩)] t)).grownBy w4 v.ownBlock) (hv : v'.ownBlock = v.ownBlock ∨ v'.ownBlock = some (w1.heap.size + 1)) :
    ApS w w4 base top s b ds (es ++ [e]) st (so ++ [x]) v' := by
  have h1 := (h.below B1).below (blA (Below.refl w1.heap.size w1) (.cells #[.pointer (some ⟨e.r, 0, none⟩)] t))
  have R1 := R.below (blA (Below.refl w1.heap.size w1) (.cells #[.pointer (some ⟨e.r, 0, none⟩)] t))
  have sz : (w1.alloc (.cells #[.pointer (some ⟨e.r, 0, none⟩)] t)).heap.size = w1.heap.size + 1 := by simp
  generalize w1.alloc (.cells #[.pointer (some ⟨e.r, 0, none⟩)] t) = w2 at *
  have F : FrC (fun k _ => v.ownBlock = some k) w2 w4 := FrC.of_frb (FrB.grown hG)
  have hsz := B1.size
  have vq : ∀ q, v.ownBlock = some q → top ≤ q ∧ q < wr.heap.size := fun q hq => h.row.lt q hq
  have k4 := h.bs
  refine ⟨h1.S.frc F (fun i o h1 h2 e => by have := vq i e; omega), fun k f y hf hy => ?_, fun f hf => ?_, ?_, fun f hf => ?_, by rw [List.map_append]; exact hO, fun q hq f hf => ?_, h1.B.trans (F.below h1.B.size (fun i o hi e => by have := vq i e; omega)), h.T, h.bs.1, h.bs.2.1, Nat.le_trans h1.bs.2.2 F.size⟩
  · by_cases hk : k < es.length
    · rw [List.getElem?_append_left hk] at hf
      rw [List.getElem?_append_left (by omega)] at hy
      have okf := h.ok f (List.mem_of_getElem? hf)
      have a1 := okf.r; have a2 := okf.p; have a3 := okf.g; have a4 := okf.b
      have no : ∀ i, f.lo ≤ i ∧ i < f.hi → ¬ v.ownBlock = some i := fun i hi c => by have := h.q i c f (List.mem_of_getElem? hf); omega
      exact (h1.own k f y hf hy).frc F (fun o => no _ a1) (fun o => no _ a2) (fun o => no _ a3) (fun o _ _ => no _ a4)
    · rw [List.getElem?_append_right (by omega)] at hf hy
      have hk0 : k - es.length = 0 := by
        have := (List.getElem?_eq_some_iff.1 hf).1
        simp at this; omega
      rw [hk0] at hf
      rw [hl, hk0] at hy
      injection hf with hf; subst hf
      injection hy with hy; subst hy
      have a1 := ok.r; have a2 := ok.p; have a3 := ok.g; have a4 := ok.b
      have no : ∀ i, e.lo ≤ i → ¬ v.ownBlock = some i := fun i hi c => by have := vq i c; omega
      exact R1.frc F (fun o => no _ a1.1) (fun o => no _ a2.1) (fun o => no _ a3.1) (fun o _ _ => no _ a4.1)
  · rcases List.mem_append.1 hf with hf | hf
    · exact h.ok f hf
    · have : f = e := by simpa using hf
      subst this; exact ok
  · refine List.pairwise_append.2 ⟨h.ord, by simp, fun f hf g hg => ?_⟩
    have : g = e := by simpa using hg
    subst this
    have := (h.lo f hf).2; omega
  · have fs := F.size
    rcases List.mem_append.1 hf with hf | hf
    · have := h.lo f hf; omega
    · have : f = e := by simpa using hf
      subst this; omega
  · rcases hv with c | c
    · rw [c] at hq
      rcases List.mem_append.1 hf with hf | hf
      · exact h.q q hq f hf
      · have : f = e := by simpa using hf
        subst this
        have := vq q hq; omega
    · rw [c] at hq
      injection hq with hq
      rcases List.mem_append.1 hf with hf | hf
      · have := h.lo f hf; omega
      · have : f = e := by simpa using hf
        subst this; omega
theorem ApS.at (h : ApS w wr base top s b ds es st so v) {k : Nat} (hk : k < ds.length) (he : es.length = ds.length) : ∃ vs X, st[k]? = some (vs, X) ∧ ds[k]? = some (ds[k]) ∧ es[k]? = some (es[k]'(by omega)) ∧ RegS iE wr ds[k].r b ds[k].off ds[k].n ds[k].p ds[k].g vs X := by
  have hl := h.S.len
  exact ⟨(st[k]'(by omega)).1, (st[k]'(by omega)).2, List.getElem?_eq_getElem _, List.getElem?_eq_getElem _, List.getElem?_eq_getElem _, h.S.at hk⟩
end

set_option maxHeartbeats 16000000 in
theorem apart3_walk (A0 : Option Addr) (c0 : Nat) (cs : List Int) (A1 : Option Addr) (c1 : Nat) (xs : List Op3) (w : World) (hT : Tab w) (hr0 : RowAt (fun x : Int => [.int .i64 x]) 1 w A0 cs) (hk0 : cs.length ≤ c0) (hr : RowAt Op3.cells 4 w A1 xs) :
    Calls Tryd.prog 5 #[.slice A0 cs.length c0, .slice A1 xs.length c1] w fun e w' => e = .returned (.bool true) ∧ Below w.heap.size w w' := by
  have HR := Lib.hid hr; have HT := Lib.hid hT; have HC := Lib.hid hr0; have HK := Lib.hid hk0
  obtain ⟨N, hN⟩ : ∃ N, N = xs.length := ⟨_, rfl⟩
  obtain ⟨M, hM⟩ : ∃ M, M = cs.length := ⟨_, rfl⟩
  rw [← hN, ← hM]
  clear hr hT hr0 hk0
  by_cases hbig : 8 < M ∨ 50 < N
  · have two : (decide ((8 : Int) < (M : Int)) = true ∧ decide (8 < M) = true) ∨ ((decide ((8 : Int) < (M : Int)) = false ∧ decide (8 < M) = false) ∧ (decide ((50 : Int) < (N : Int)) = true ∧ decide (50 < N) = true)) := by
      by_cases h1 : 8 < M
      · exact .inl ⟨decide_eq_true (by omega), decide_eq_true h1⟩
      · exact .inr ⟨⟨decide_eq_false (by omega), decide_eq_false h1⟩, decide_eq_true (by omega), decide_eq_true (by omega)⟩
    replace hN := Lib.hid hN; replace hM := Lib.hid hM
    clear hbig
    go_enter Tryd.func5, Tryd.ntmps5
    rcases two with ⟨d1, d2⟩ | ⟨⟨d1, d2⟩, d3, d4⟩
    all_goals
      go_wp2_with fail
      refine (alive03_c w HT.out).mono ?_
      rintro e w1 ⟨rfl, F⟩
      replace F := Lib.hid F
      go_wp2
      go_ret
      exact ⟨rfl, F.out⟩
  obtain ⟨d1, d2⟩ : decide ((8 : Int) < (M : Int)) = false ∧ decide (8 < M) = false := ⟨decide_eq_false (by omega), decide_eq_false (by omega)⟩
  obtain ⟨d3, d4⟩ : decide ((50 : Int) < (N : Int)) = false ∧ decide (50 < N) = false := ⟨decide_eq_false (by omega), decide_eq_false (by omega)⟩
  have hM8 : M ≤ 8 := by omega
  have hN50 : N ≤ 50 := by omega
  replace hN := Lib.hid hN; replace hM := Lib.hid hM
  clear hbig
  go_enter Tryd.func5, Tryd.ntmps5
  go_wp2_with fail
  refine (alive03_c w HT.out).mono ?_
  rintro e w1 ⟨rfl, F⟩
  have B1 := Lib.hid F
  clear F
  go_wp2_with fail
  rw [hM.out]
  refine (new_I (HC.out.below B1.out) HK.out (by rw [← hM.out]; omega)).mono ?_
  rintro e w2 ⟨s, b, ds, rfl, S, hds, F⟩
  rw [← hM.out]
  have hcap : capsR cs = cs.map capR := by unfold capsR; rw [List.take_of_length_le (by rw [← hM.out]; omega)]
  rw [hcap] at hds
  have hdl : ds.length = M := by have := congrArg List.length hds; rw [List.length_map, List.length_map, ← hM.out] at this; exact this
  have S0 := Lib.hid (show ApS w (w2.alloc (.cells #[] 24)) w1.heap.size w2.heap.size s b ds [] (fresh 0 ds) [] (.slice (some ⟨w2.heap.size, 0, none⟩) 0 0) from
    ⟨S.below (blA (Below.refl _ _) _), fun k e x he => by simp at he, fun e he => by simp at he, List.Pairwise.nil, fun e he => by simp at he, OwnE.lit (E := pIE) w2 w2.heap.size (Nat.le_refl _) [] #[] rfl (Nat.zero_le _), fun q _ e he => by simp at he,
     B1.out.trans ((F.trans ((blA (Below.refl w2.heap.size w2) _).mono F.size)).mono B1.out.size), HT.out, B1.out.size, F.size, by simp⟩)
  have hds2 := Lib.hid hds
  replace hdl := Lib.hid hdl
  clear hds hcap F S B1
  go_wp2_with fail
  generalize w2.alloc (.cells #[] 24) = w3 at *
  generalize w1.heap.size = base at *
  generalize htp : w2.heap.size = top at *
  clear htp
  go_loopw [6, 41] (fun vv ii wr => ∃ (k : Nat) (v : Value) (es : List RE), ii = .int .i64 k ∧ vv = v ∧ Hid (ApS w wr base top s b ds es (fresh 0 ds) ((fresh 0 ds).take k) v) ∧ Hid (es.length = k) ∧ Hid (k ≤ M)) (fun _ ii _ => M - (intOf ii).toNat)
  case atStart => exact ⟨0, _, [], rfl, rfl, S0, Lib.hid rfl, Lib.hid (Nat.zero_le _)⟩
  case round =>
    clear S0
    obtain ⟨k, v, es, rfl, rfl, S, hel, hk⟩ := hrel
    obtain ⟨AV, cV, rfl, hcV⟩ := S.out.row.slice
    rw [List.length_map, hel.out] at S ⊢
    replace hcV := Lib.hid hcV
    by_cases hlt : k < M
    · obtain ⟨bb, off, rfl, hbl, hc⟩ := HC.out k (by have := hM.out; omega)
      have z0 := hc 0 _ rfl
      obtain ⟨c, hcc⟩ : ∃ a, a = cs[k]'(by have := hM.out; omega) := ⟨_, rfl⟩
      rw [← hcc] at z0
      simp only [Nat.mul_one, Nat.add_zero] at z0
      replace z0 := (S.out.B.cell (p := ⟨bb, off + k, none⟩) hbl).trans z0
      have hlH := Lib.hid hlt
      have hk9 : k < 9 := by omega
      replace hcc := Lib.hid hcc
      clear hc hbl
      have S1 := Lib.hid (S.out.below (blA (Below.refl wr.heap.size wr) (.cells #[.int .i64 c] 3)))
      go_wp2_with fail
      refine (new_I (cs := [c]) (cc := 1) (row_new wr #[.int .i64 c] 3 [c] rfl) (by simp) (by simp)).mono ?_
      rintro e w5 ⟨s5, b5, ds5, rfl, S5, hds5, F5⟩
      obtain ⟨d, rfl, hdn, O⟩ := S5.one (m := capR c) (by rw [hds5]; simp [capsR]) (Nat.le_refl _) (Nat.le_refl _) F5 S1.out.tab
      have F5H := Lib.hid F5
      have OH := Lib.hid O
      clear hds5 F5 O z0
      go_wp2_with fail
      refine (region_I S5 (k := 0) (by simp)).mono ?_
      rintro e w6 ⟨rfl, rfl⟩
      rw [show [d][0] = d from rfl]
      clear S5 hdn
      go_wp2_with (at_builtin; refine append_rowE (E := pIE) (base := top) (v := .slice AV k cV) (xs := es.map RE.r) (ys := [d.r]) rfl rfl Tryd.underlying47 rfl ((S1.out.row.below F5H.out).alloc _) rfl (rowAt_new1 _ _ _ _ rfl rfl) rfl (by rw [List.length_map, hel.out]; omega) (by simp) (by have := (S1.out.below F5H.out).bs.2.2; simp; omega) ?_; intro v4 w4 O4 G1 G2 G3)
      obtain ⟨A4, k4, rfl, -⟩ := O4.slice
      have hkd : k < ds.length := by rw [hdl.out]; exact hlt
      have hnk : ds[k].n = capR c := by
        have h1 : (ds.map RD.n)[k]? = (cs.map capR)[k]? := by rw [hds2.out]
        rw [List.getElem?_map, List.getElem?_map, List.getElem?_eq_getElem hkd, List.getElem?_eq_getElem (by have := hM.out; omega), ← hcc.out] at h1
        simpa using h1
      have hfk : (fresh (0 : Int) ds).take (k + 1) = (fresh (0 : Int) ds).take k ++ [(List.replicate (capR c) 0, List.replicate (capR c) false)] := by
        rw [List.take_succ_eq_append_getElem (by simp [fresh]; exact hkd)]
        congr 2
        simp [fresh, hnk]
      have lt5 := OH.out.R.lt
      have lo5 := OH.out.lo
      have bl5 := OH.out.bl
      have S4 := Lib.hid (S1.out.add (e := ⟨d.r, b5, d.off, capR c, d.p, d.g, (wr.alloc (.cells #[.int .i64 c] 3)).heap.size, w5.heap.size⟩) (x := (List.replicate (capR c) 0, List.replicate (capR c) false)) (by rw [List.length_take, hel.out]; simp [fresh]; omega) (Nat.le_refl _) (Nat.le_refl _) F5H.out
        ⟨⟨lo5.1, lt5.1⟩, ⟨lo5.2.1, lt5.2.1⟩, ⟨lo5.2.2.1, lt5.2.2⟩, ⟨lo5.2.2.2, bl5⟩⟩ OH.out.R O4 G2 (by
          rcases G3 with e | e
          · exact .inl e
          · exact .inr (by rw [e]; simp)))
      rw [← hfk] at S4
      have hel2 := Lib.hid (show (es ++ [(⟨d.r, b5, d.off, capR c, d.p, d.g, (wr.alloc (.cells #[.int .i64 c] 3)).heap.size, w5.heap.size⟩ : RE)]).length = k + 1 by rw [List.length_append, hel.out]; rfl)
      clear O4 G1 G2 G3 OH F5H S1 S lt5 lo5 bl5
      go_roundw
      case rel => exact ⟨k + 1, _, _, by go_num, rfl, S4, hel2, hlH⟩
      case measure => have := hlH.out; simp [intOf]; omega
    · obtain rfl : M = k := by have := hk.out; omega
      have S1 := Lib.hid (show ∃ st, ApS w wr base top s b ds es st st (.slice AV M cV) from ⟨fresh 0 ds, by
        have := S.out
        rw [List.take_of_length_le (by simp [fresh]; rw [hdl.out]; exact Nat.le_refl _)] at this
        exact this⟩)
      have hle := Lib.hid (hel.out.trans hdl.out.symm)
      clear hlt hk S hds2
      go_wp2_with fail
      go_loopw [55] (fun ii wr => ∃ (i : Nat), ii = .int .i64 i ∧ Hid (∃ st, ApS w wr base top s b ds es st st (.slice AV M cV)) ∧ Hid (i ≤ N)) (fun ii _ => N - (intOf ii).toNat)
      case atStart => exact ⟨0, rfl, S1, Lib.hid (Nat.zero_le _)⟩
      case round =>
        clear S1
        obtain ⟨i, rfl, S, hi⟩ := hrel
        obtain ⟨st, S⟩ := S.out
        replace S := Lib.hid S
        by_cases hlt : i < N
        · obtain ⟨bb, off', rfl, hbl, z0, z1, z2, z3⟩ := HR.out.op3 (i := i) (by have := hN.out; omega)
          obtain ⟨x, hx⟩ : ∃ x, x = xs[i]'(by have := hN.out; omega) := ⟨_, rfl⟩
          rw [← hx] at z0 z1 z2 z3
          obtain ⟨xr, xk, xp, xv⟩ := x
          replace z0 := (S.out.B.cell (p := ⟨bb, off' + i * 4, none⟩) hbl).trans z0
          replace z1 := (S.out.B.cell (p := ⟨bb, off' + i * 4 + 1, none⟩) hbl).trans z1
          replace z2 := (S.out.B.cell (p := ⟨bb, off' + i * 4 + 2, none⟩) hbl).trans z2
          replace z3 := (S.out.B.cell (p := ⟨bb, off' + i * 4 + 3, none⟩) hbl).trans z3
          dsimp only at z0 z1 z2 z3
          have hlH := Lib.hid hlt
          have hi51 : i < 51 := by omega
          have hin : xr < 0 ∨ (M : Int) ≤ xr ∨ ∃ j : Nat, xr = j ∧ j < M := by
            by_cases h1 : xr < 0
            · exact .inl h1
            by_cases h2 : (M : Int) ≤ xr
            · exact .inr (.inl h2)
            · exact .inr (.inr ⟨xr.toNat, by omega, by omega⟩)
          have S1 := Lib.hid (S.out.below (blA (Below.refl wr.heap.size wr) (.cells #[.int .i64 xr, .int .i64 xk, .int .i64 xp, .int .i64 xv] 49)))
          have hbz := Lib.hid (show top ≤ wr.heap.size ∧ ∀ e ∈ es, e.hi ≤ wr.heap.size from ⟨S.out.bs.2.2, fun e he => (S.out.lo e he).2⟩)
          clear hx hbl S
          rcases hin with h1 | h1 | ⟨j, rfl, hj⟩
          · have e1 : decide (xr < 0) = true := decide_eq_true h1
            have S2 := Lib.hid (show ∃ st, ApS w (wr.alloc (.cells #[.int .i64 xr, .int .i64 xk, .int .i64 xp, .int .i64 xv] 49)) base top s b ds es st st (.slice AV M cV) from ⟨_, S1.out⟩)
            clear S1
            go_wp2
            go_roundw
            case rel => exact ⟨i + 1, by go_num, S2, hlH⟩
            case measure => have := hlH.out; simp [intOf]; omega
          · have e1 : decide (xr < 0) = false := decide_eq_false (by omega)
            have e2 : decide ((M : Int) ≤ xr) = true := decide_eq_true h1
            have S2 := Lib.hid (show ∃ st, ApS w (wr.alloc (.cells #[.int .i64 xr, .int .i64 xk, .int .i64 xp, .int .i64 xv] 49)) base top s b ds es st st (.slice AV M cV) from ⟨_, S1.out⟩)
            clear S1
            go_wp2
            go_roundw
            case rel => exact ⟨i + 1, by go_num, S2, hlH⟩
            case measure => have := hlH.out; simp [intOf]; omega
          · have hjd : j < ds.length := by rw [hdl.out]; exact hj
            have hje : j < es.length := by rw [hel.out]; exact hj
            obtain ⟨gO, cO, eO, kO⟩ := S1.out.rowAt hje
            rw [hel.out] at eO
            injection eO with eO1 eO2 eO3
            subst eO1; subst eO3
            clear eO2
            have hgO : gO < (wr.alloc (.cells #[.int .i64 (j : Int), .int .i64 xk, .int .i64 xp, .int .i64 xv] 49)).heap.size := World.block_lt_of_cell? _ _ kO
            have e1 : decide ((j : Int) < 0) = false := decide_eq_false (by omega)
            have e2 : decide ((M : Int) ≤ (j : Int)) = false := decide_eq_false (by omega)
            have e3 : decide (M ≤ j) = false := decide_eq_false (by omega)
            have hj9 : j < 9 := by omega
            have y0 := (Cel.new wr #[.int .i64 (j : Int), .int .i64 xk, .int .i64 xp, .int .i64 xv] 49 0 (.int .i64 (j : Int)) rfl)
            have y1 := (Cel.new wr #[.int .i64 (j : Int), .int .i64 xk, .int .i64 xp, .int .i64 xv] 49 1 (.int .i64 xk) rfl)
            have y2 := (Cel.new wr #[.int .i64 (j : Int), .int .i64 xk, .int .i64 xp, .int .i64 xv] 49 2 (.int .i64 xp) rfl)
            have y3 := (Cel.new wr #[.int .i64 (j : Int), .int .i64 xk, .int .i64 xp, .int .i64 xv] 49 3 (.int .i64 xv) rfl)
            go_wp2_with fail
            clear z0 z1 z2 z3
            generalize wr.alloc (.cells #[.int .i64 (j : Int), .int .i64 xk, .int .i64 xp, .int .i64 xv] 49) = W at *
            generalize wr.heap.size = Zb at *
            refine seq_start [(0, true), (1, true), (2, true), (4, true), (5, true), (6, true), (7, true), (8, true), (3, false), (9, true), (10, true)] (fun w' => w'.cell? ⟨Zb, 0, none⟩ = some (.int .i64 (j : Int)) ∧ w'.cell? ⟨gO, j, none⟩ = some (.pointer (some ⟨es[j].r, 0, none⟩))) (by kernel_rfl) (by kernel_rfl) rfl (by kernel_rfl) ⟨y0.1, kO⟩ ?_
            iterate 8 (refine seq_read rfl (by first | rfl | (go_simp; done)) (fun w' hw => by obtain ⟨s0, s1⟩ := hw; go_simp; with_reducible rfl) ?_; try simp only [Act.put, List.setIfInBounds_toArray, List.set_cons_zero, List.set_cons_succ])
            replace S1 := Lib.hid S1.out.drew
            replace y0 := y0.drew; replace y1 := y1.drew; replace y2 := y2.drew; replace y3 := y3.drew
            replace kO : W.drew.cell? ⟨gO, j, none⟩ = some (.pointer (some ⟨es[j].r, 0, none⟩)) := kO
            generalize W.drew = W1 at *
            refine seq_call rfl (fun K hK => ?_)
            go_simp
            refine (region_I S1.out.S hjd).mono ?_
            rintro e w5 ⟨rfl, rfl⟩
            refine hK.out _ _ ⟨y0.1, kO⟩ ?_
            clear hK K
            try simp only [Act.put, List.setIfInBounds_toArray, List.set_cons_zero, List.set_cons_succ]
            iterate 2 (refine seq_read rfl (by first | rfl | (go_simp; done)) (fun w' hw => by obtain ⟨s0, s1⟩ := hw; go_simp; with_reducible rfl) ?_; try simp only [Act.put, List.setIfInBounds_toArray, List.set_cons_zero, List.set_cons_succ])
            refine seq_done ?_
            clear kO
            obtain ⟨vs, X, hst, hd, he, R⟩ := S1.out.at hjd (hel.out.trans hdl.out.symm)
            have Rd := Lib.hid R
            have hZs : Hid (Zb ≠ ds[j].p ∧ Zb ≠ ds[j].g ∧ Zb ≠ b) := Lib.hid (by
              have t1 := S1.out.S.tp; have t2 := t1.2.2 ds[j] (List.getElem_mem hjd); have t3 := hbz.out.1
              exact ⟨by omega, by omega, by omega⟩)
            have hZo : Hid (Zb ≠ es[j].p ∧ Zb ≠ es[j].g ∧ Zb ≠ es[j].b) := Lib.hid (by
              have t1 := S1.out.ok es[j] (List.getElem_mem hje); have t3 := hbz.out.2 es[j] (List.getElem_mem hje)
              have a1 := t1.p; have a2 := t1.g; have a3 := t1.b
              exact ⟨by omega, by omega, by omega⟩)
            have hsl := Lib.hid (show j < st.length by rw [S1.out.S.len]; exact hjd)
            replace hst := Lib.hid hst; replace hd := Lib.hid hd; replace he := Lib.hid he
            clear R
            generalize hds' : ds[j] = dj at *
            generalize hes' : es[j] = ej at *
            replace hds' := Lib.hid hds'; replace hes' := Lib.hid hes'
            by_cases h0 : xk = 0
            · subst h0
              have f1 := y1.1; have f3 := y3.1
              go_wp2_with fail
              refine (take_i Rd.out S1.out.tab xv).mono ?_
              rintro e w6 ⟨rfl, R, F⟩
              have S2 := Lib.hid (S1.out.turnS hd.out R F)
              have g3 := (F.keep hZs.out y3).1
              have RO := S2.out.own j ej (vs, X) he.out hst.out
              clear R F S1 f1 f3 y0 y1 y2 y3
              go_wp2_with fail
              refine (take_i RO S2.out.tab xv).mono ?_
              rintro e w7 ⟨rfl, R, F⟩
              have S3 := Lib.hid (show ∃ st, ApS w w7 base top s b ds es st st (.slice (some ⟨gO, 0, none⟩) M cV) from ⟨_, S2.out.turnO he.out R F⟩)
              clear R F S2 RO g3
              have eb1 : (nextV X false 0 != nextV X false 0) = false := by simp
              have eb2 : (nextO X false 0 != nextO X false 0) = false := by simp
              generalize nextV X false 0 = nv at *
              generalize nextO X false 0 = no at *
              go_wp2
              go_roundw
              case rel => exact ⟨i + 1, by go_num, S3, hlH⟩
              case measure => have := hlH.out; simp [intOf]; omega
            by_cases h1 : xk = 1
            · subst h1
              clear h0
              have f1 := y1.1; have f2 := y2.1
              go_wp2_with fail
              refine seq_start [(0, true), (1, true), (2, true), (4, true), (5, true), (6, true), (3, false), (7, false), (8, true)] (fun w' => w'.cell? ⟨Zb, 2, none⟩ = some (.int .i64 xp)) (by kernel_rfl) (by kernel_rfl) rfl (by kernel_rfl) y2.1 ?_
              iterate 6 (refine seq_read rfl (by first | rfl | (go_simp; done)) (fun w' hw => by go_simp; with_reducible rfl) ?_; try simp only [Act.put, List.setIfInBounds_toArray, List.set_cons_zero, List.set_cons_succ])
              replace S1 := Lib.hid S1.out.drew
              replace Rd := Lib.hid Rd.out.drew
              replace y2 := y2.drew
              clear f1 f2
              generalize W1.drew = W2 at *
              refine seq_call rfl (fun K hK => ?_)
              go_simp
              refine (give_i Rd.out xp).mono ?_
              rintro e w6 ⟨rfl, R, F⟩
              have S2 := Lib.hid (S1.out.turnS hd.out R F)
              have g2 := F.keep hZs.out y2
              have RO := Lib.hid (S2.out.own j ej (vs, X) he.out hst.out)
              clear R F S1 y0 y1 y2 y3
              refine hK.out _ _ g2.1 ?_
              clear hK K
              try simp only [Act.put, List.setIfInBounds_toArray, List.set_cons_zero, List.set_cons_succ]
              refine seq_call rfl (fun K hK => ?_)
              go_simp
              refine (give_i RO.out xp).mono ?_
              rintro e w7 ⟨rfl, R, F⟩
              have S3 := Lib.hid (show ∃ st, ApS w w7 base top s b ds es st st (.slice (some ⟨gO, 0, none⟩) M cV) from ⟨_, S2.out.turnO he.out R F⟩)
              have q2 := F.keep hZo.out g2
              clear R F S2 RO g2
              refine hK.out _ _ q2.1 ?_
              clear hK K
              try simp only [Act.put, List.setIfInBounds_toArray, List.set_cons_zero, List.set_cons_succ]
              iterate 1 (refine seq_read rfl (by first | rfl | (go_simp; done)) (fun w' hw => by go_simp; with_reducible rfl) ?_; try simp only [Act.put, List.setIfInBounds_toArray, List.set_cons_zero, List.set_cons_succ])
              refine seq_done ?_
              clear q2
              have eb1 : (hasB X xp != hasB X xp) = false := by simp
              generalize hasB X xp = no at *
              go_wp2
              go_roundw
              case rel => exact ⟨i + 1, by go_num, S3, hlH⟩
              case measure => have := hlH.out; simp [intOf]; omega
            by_cases h2 : xk = 2
            · subst h2
              clear h0 h1
              have f1 := y1.1; have f2 := y2.1; have f3 := y3.1
              go_wp2_with fail
              refine seq_start [(0, true), (1, true), (2, true), (3, true), (4, true), (6, true), (7, true), (8, true), (9, true), (10, true), (5, false), (11, false), (12, true)] (fun w' => w'.cell? ⟨Zb, 2, none⟩ = some (.int .i64 xp) ∧ w'.cell? ⟨Zb, 3, none⟩ = some (.int .i64 xv)) (by kernel_rfl) (by kernel_rfl) rfl (by kernel_rfl) ⟨y2.1, y3.1⟩ ?_
              iterate 10 (refine seq_read rfl (by first | rfl | (go_simp; done)) (fun w' hw => by obtain ⟨s0, s1⟩ := hw; go_simp; with_reducible rfl) ?_; try simp only [Act.put, List.setIfInBounds_toArray, List.set_cons_zero, List.set_cons_succ])
              replace S1 := Lib.hid S1.out.drew
              replace Rd := Lib.hid Rd.out.drew
              replace y2 := y2.drew; replace y3 := y3.drew
              clear f1 f2 f3
              generalize W1.drew = W2 at *
              refine seq_call rfl (fun K hK => ?_)
              go_simp
              refine (set_i Rd.out xp xv).mono ?_
              rintro e w6 ⟨rfl, R, F⟩
              have S2 := Lib.hid (S1.out.turnS hd.out R F)
              have g2 := F.keep hZs.out y2; have g3 := F.keep hZs.out y3
              have RO := Lib.hid (S2.out.own j ej (vs, X) he.out hst.out)
              clear R F S1 y0 y1 y2 y3
              refine hK.out _ _ ⟨g2.1, g3.1⟩ ?_
              clear hK K
              try simp only [Act.put, List.setIfInBounds_toArray, List.set_cons_zero, List.set_cons_succ]
              refine seq_call rfl (fun K hK => ?_)
              go_simp
              refine (set_i RO.out xp xv).mono ?_
              rintro e w7 ⟨rfl, R, F⟩
              have S3 := Lib.hid (show ∃ st, ApS w w7 base top s b ds es st st (.slice (some ⟨gO, 0, none⟩) M cV) from ⟨_, S2.out.turnO he.out R F⟩)
              have q2 := F.keep hZo.out g2; have q3 := F.keep hZo.out g3
              clear R F S2 RO g2 g3
              refine hK.out _ _ ⟨q2.1, q3.1⟩ ?_
              clear hK K
              try simp only [Act.put, List.setIfInBounds_toArray, List.set_cons_zero, List.set_cons_succ]
              iterate 1 (refine seq_read rfl (by first | rfl | (go_simp; done)) (fun w' hw => by obtain ⟨s0, s1⟩ := hw; go_simp; with_reducible rfl) ?_; try simp only [Act.put, List.setIfInBounds_toArray, List.set_cons_zero, List.set_cons_succ])
              refine seq_done ?_
              clear q2 q3
              have eb1 : (hasB X xp != hasB X xp) = false := by simp
              generalize hasB X xp = no at *
              go_wp2
              go_roundw
              case rel => exact ⟨i + 1, by go_num, S3, hlH⟩
              case measure => have := hlH.out; simp [intOf]; omega
            · have e4 : (xk == 0) = false := by simpa using h0
              have e5 : (xk == 1) = false := by simpa using h1
              have e6 : (xk == 2) = false := by simpa using h2
              have S3 := Lib.hid (show ∃ st, ApS w W1 base top s b ds es st st (.slice (some ⟨gO, 0, none⟩) M cV) from ⟨_, S1.out⟩)
              have f1 := y1.1
              clear S1 h0 h1 h2 y0 y1 y2 y3
              go_wp2
              go_roundw
              case rel => exact ⟨i + 1, by go_num, S3, hlH⟩
              case measure => have := hlH.out; simp [intOf]; omega
        · obtain rfl : N = i := by have := hi.out; omega
          have S1 := Lib.hid (show ∃ st, ApS w wr base top s b ds es st st (.slice AV M cV) from ⟨_, S.out⟩)
          clear hlt hi S
          go_wp2_with fail
          go_loopw [133] (fun ii wr => ∃ (i : Nat), ii = .int .i64 i ∧ Hid (∃ st, ApS w wr base top s b ds es st st (.slice AV M cV)) ∧ Hid (i ≤ M)) (fun ii _ => M - (intOf ii).toNat)
          case atStart => exact ⟨0, rfl, S1, Lib.hid (Nat.zero_le _)⟩
          case round =>
            clear S1
            obtain ⟨j, rfl, S, hi⟩ := hrel
            obtain ⟨st, S⟩ := S.out
            replace S := Lib.hid S
            by_cases hj : j < M
            · have hjd : j < ds.length := by rw [hdl.out]; exact hj
              have hje : j < es.length := by rw [hel.out]; exact hj
              obtain ⟨gO, cO, eO, kO⟩ := S.out.rowAt hje
              rw [hel.out] at eO
              injection eO with eO1 eO2 eO3
              subst eO1; subst eO3
              clear eO2
              have hj9 : j < 9 := by omega
              have hlH := Lib.hid hj
              obtain ⟨vs, X, hst, hd, he, R⟩ := S.out.at hjd (hel.out.trans hdl.out.symm)
              have Rd := Lib.hid R
              have RO := Lib.hid (S.out.own j _ (vs, X) he hst)
              have hdH := Lib.hid hjd
              have hxl := R.set.lt.2.2.2
              clear R hst hd he
              go_wp2_with fail
              refine (region_I S.out.S hdH.out).mono ?_
              rintro e w5 ⟨rfl, rfl⟩
              clear kO
              generalize ds[j] = dj at *
              generalize es[j] = ej at *
              go_wp2_with fail
              refine (countR_i Rd.out).mono ?_
              rintro e w5 ⟨rfl, rfl⟩
              go_wp2_with fail
              refine (countR_i RO.out).mono ?_
              rintro e w5 ⟨rfl, rfl⟩
              have eb1 : (((X.count true : Nat) : Int) != ((X.count true : Nat) : Int)) = false := by simp
              have hcl : X.count true ≤ 4096 := Nat.le_trans List.count_le_length hxl
              have hpl := Lib.hid (plcs_length X)
              generalize X.count true = cn at *
              go_wp2_with fail
              refine (held_I Rd.out S.out.tab).mono ?_
              rintro e w5 ⟨v1, rfl, O1, F⟩
              obtain ⟨A1', k1, rfl, P1, -, -⟩ := O1.form
              replace S := Lib.hid (S.out.below F); replace Rd := Lib.hid (Rd.out.below F); replace RO := Lib.hid (RO.out.below F)
              replace P1 := Lib.hid P1
              clear O1 F
              go_wp2_with fail
              refine (held_I RO.out S.out.tab).mono ?_
              rintro e w6 ⟨v2, rfl, O2, F⟩
              obtain ⟨A2', k2, rfl, P2, -, -⟩ := O2.form
              replace S := Lib.hid (S.out.below F); replace Rd := Lib.hid (Rd.out.below F); replace RO := Lib.hid (RO.out.below F)
              replace P1 := Lib.hid (P1.out.below F)
              replace P2 := Lib.hid P2
              clear O2 F
              go_wp2_with fail
              have hsm := same_c (ca := k1) (cb := k2) P1.out P2.out (by rw [hpl.out]; omega) (by rw [hpl.out]; omega)
              rw [decide_eq_true rfl] at hsm
              refine hsm.mono ?_
              rintro e w7 ⟨rfl, F⟩
              replace S := Lib.hid (S.out.below F); replace Rd := Lib.hid (Rd.out.below F); replace RO := Lib.hid (RO.out.below F)
              clear hsm F P1 P2
              go_wp2_with fail
              refine (held_I Rd.out S.out.tab).mono ?_
              rintro e w8 ⟨v3, rfl, O3, F⟩
              obtain ⟨A3', k3, rfl, P3, -, -⟩ := O3.form
              replace S := Lib.hid (S.out.below F); replace Rd := Lib.hid (Rd.out.below F); replace RO := Lib.hid (RO.out.below F)
              replace P3 := Lib.hid P3
              rw [hpl.out]
              clear O3 F
              go_wp2_with fail
              go_loop [157] (fun ii => ∃ q : Nat, ii = .int .i64 q ∧ Hid (q ≤ cn)) (fun ii => cn - (intOf ii).toNat)
              case atStart => exact ⟨0, rfl, Lib.hid (Nat.zero_le _)⟩
              case round =>
                obtain ⟨q, rfl, hq⟩ := hrel
                by_cases hqn : q < cn
                · obtain ⟨b3, o3, rfl, c3⟩ := RowAt.get P3.out (i := q) (by rw [hpl.out]; exact hqn)
                  obtain ⟨kv, hkv⟩ : ∃ z, z = (plcs X).getD q 0 := ⟨_, rfl⟩
                  rw [← hkv] at c3
                  have hqH := Lib.hid hqn
                  have hq4 : q < 4096 := by omega
                  clear hkv
                  go_wp2_with fail
                  refine (at_i Rd.out kv).mono ?_
                  rintro e w9 ⟨rfl, rfl⟩
                  go_wp2_with fail
                  refine (at_i RO.out kv).mono ?_
                  rintro e w9 ⟨rfl, rfl⟩
                  have eb2 : (atV 0 vs X kv != atV 0 vs X kv) = false := by simp
                  generalize atV 0 vs X kv = av at *
                  generalize hasB X kv = hv at *
                  go_wp2
                  go_round
                  case rel => exact ⟨q + 1, by go_num, hqH⟩
                  case measure => have := hqH.out; simp [intOf]; omega
                · obtain rfl : cn = q := by have := hq.out; omega
                  clear hqn hq
                  have S2 := Lib.hid (show ∃ st, ApS w w8 base top s b ds es st st (.slice (some ⟨gO, 0, none⟩) M cV) from ⟨_, S.out⟩)
                  clear S Rd RO P3
                  go_wp2
                  go_roundw
                  case rel => exact ⟨j + 1, by go_num, S2, hlH⟩
                  case measure => have := hlH.out; simp [intOf]; omega
            · go_wp2
              go_ret
              exact ⟨rfl, S.out.B⟩
end Go.Proofs.YtlkhpkdndmlnaaaDoor
