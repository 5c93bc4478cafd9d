/- Polls: settled. No condition. -/
import Derived.Test.YtblapbnplflghaaPq
namespace Go.Proofs.Ytblapbnplflghaa
open Go.RowKit
set_option linter.unusedVariables false
set_option linter.unusedSimpArgs false
set_option linter.unusedSectionVars false
set_option maxRecDepth 100000

/-- Gates behind notes. -/
def meetsG (gs : List G) (ns : List (Int × Int)) : List G := ns.foldl (fun gs x => gs.set x.1.toNat (meetG (gs.getD x.1.toNat noG) x.2)) gs
theorem meetsG_cons (gs : List G) (x : Int × Int) (r : List (Int × Int)) : meetsG gs (x :: r) = meetsG (gs.set x.1.toNat (meetG (gs.getD x.1.toNat noG) x.2)) r := rfl
theorem meetsG_len (ns : List (Int × Int)) : ∀ gs : List G, (meetsG gs ns).length = gs.length := by
  induction ns with
  | nil => intro gs; rfl
  | cons x r ih => intro gs; rw [meetsG_cons, ih, List.length_set]
def flushTo (gs : List G) (i : Nat) : List G := (gs.take i).map flushG ++ gs.drop i
theorem flushTo_zero (gs : List G) : flushTo gs 0 = gs := by simp [flushTo]
theorem flushTo_all (gs : List G) : flushTo gs gs.length = gs.map flushG := by simp [flushTo]
theorem flushTo_len (gs : List G) (i : Nat) : (flushTo gs i).length = gs.length := by simp [flushTo]; omega
theorem flushTo_at (gs : List G) {i : Nat} (h : i < gs.length) (h2 : i < (flushTo gs i).length) : (flushTo gs i)[i] = gs[i] := by
  have e : (flushTo gs i)[i]? = gs[i]? := by
    unfold flushTo
    rw [List.getElem?_append_right (by simp; omega)]
    simp [Nat.min_eq_left (Nat.le_of_lt h)]
  rw [List.getElem?_eq_getElem h2, List.getElem?_eq_getElem h] at e
  exact Option.some.inj e
theorem flushTo_step (gs : List G) {i : Nat} (h : i < gs.length) : (flushTo gs i).set i (flushG gs[i]) = flushTo gs (i + 1) := by
  unfold flushTo
  rw [List.take_succ_eq_append_getElem h, List.map_append, List.set_append_right _ _ (by simp; omega), List.append_assoc]
  congr 1
  have e : i - (List.map flushG (List.take i gs)).length = 0 := by simp; omega
  rw [List.drop_eq_getElem_cons h, e]
  rfl
/-- One device's turn. -/
def setStep (gs : List G) (t n mo fr : Nat) (st : List Th × Nat) (i : Nat) : List Th × Nat :=
  if (gs.getD ((fr + i) % n) noG).told ≠ 0 ∧ pushB t n mo st.1 (2, (((fr + i) % n : Nat) : Int)) = true then (st.1 ++ [(2, (((fr + i) % n : Nat) : Int))], ((fr + i) % n + 1) % n) else st
def setQ (gs : List G) (t n mo fr k : Nat) (st : List Th × Nat) : List Th × Nat := (List.range k).foldl (setStep gs t n mo fr) st
theorem setQ_zero (gs : List G) (t n mo fr : Nat) (st : List Th × Nat) : setQ gs t n mo fr 0 st = st := rfl
theorem setQ_succ (gs : List G) (t n mo fr k : Nat) (st : List Th × Nat) : setQ gs t n mo fr (k + 1) st = setStep gs t n mo fr (setQ gs t n mo fr k st) k := by
  unfold setQ
  rw [List.range_succ, List.foldl_append]; rfl

def chanLen (w : World) (c : Nat) : Nat := match w.heap[c]? with
  | some (.chan _ buf _ _ _ _) => buf.size
  | _ => 0
theorem BoxS.chanLen {w : World} {B c cap : Nat} {buf : List Value} (h : BoxS w B c cap buf) : chanLen w c = buf.length := by
  obtain ⟨s, r, e⟩ := h.ch
  unfold Go.Proofs.Ytblapbnplflghaa.chanLen
  rw [e]; simp
def boolN (v : Value) : Nat := match v with
  | .bool true => 1
  | _ => 0

set_option maxHeartbeats 16000000 in
theorem settle_p {w : World} {D : PoD} {gs : List G} {ns : List (Int × Int)} {T : List Th} {f : Nat} (h : PoS w D gs ns T f) :
    Calls Try.prog 14 #[.pointer (some ⟨D.p, 0, none⟩)] w fun e w' => e = .returned (.tuple #[]) ∧
      PoS w' D ((meetsG gs ns).map flushG) [] (setQ ((meetsG gs ns).map flushG) D.t D.n D.mo f D.n (T, f)).1 (setQ ((meetsG gs ns).map flushG) D.t D.n D.mo f D.n (T, f)).2 ∧ FrB D.F w w' := by
  have x1 := h.c1.1
  have ft := Lib.hid (fetch_note h.bx)
  have H := Lib.hid h
  have hn := h.n
  have hf := h.f
  obtain ⟨G1, hG1⟩ : ∃ G1, G1 = meetsG gs ns := ⟨_, rfl⟩
  have hlen : G1.length = D.n := by rw [hG1, meetsG_len, h.gl]
  rw [← hG1]
  clear h
  go_enter Try.func14, Try.ntmps14
  go_wp2_with fail
  refine ft.out.mono ?_
  rintro e w1 ⟨rfl, b, F⟩
  have S0 := Lib.hid (show ∃ (y : Int × Int) (ok : Bool) (r : List (Int × Int)), ns.headD (0, 0) = y ∧ decide (ns ≠ []) = ok ∧ PoS (w1.alloc (.cells #[.int .i64 y.1, .int .i64 y.2] 67)) D gs r T f ∧ FrB D.F w (w1.alloc (.cells #[.int .i64 y.1, .int .i64 y.2] 67)) ∧
      (ok = true → 0 ≤ y.1 ∧ y.1 < D.n ∧ meetsG gs (y :: r) = G1) ∧ (ok = false → r = [] ∧ gs = G1) from by
    have P1 := H.out.boxed (ns' := ns.tail) b F (fun x hx => H.out.no x (List.mem_of_mem_tail hx))
    refine ⟨_, _, ns.tail, rfl, rfl, P1.below (blA (Below.refl _ _) _), ((PoD.F_box F).allT (FrB.alloc _ _ _)), fun e => ?_, fun e => ?_⟩
    · cases ns with
      | nil => simp at e
      | cons y t => exact ⟨(H.out.no y (List.mem_cons_self ..)).1, (H.out.no y (List.mem_cons_self ..)).2, hG1.symm⟩
    · cases ns with
      | nil => exact ⟨rfl, hG1.symm⟩
      | cons y t => simp at e)
  obtain ⟨y, ok, r, ey, eo, P1, F1, k1, k2⟩ := S0.out
  rw [ey, eo]
  have hZ := Lib.hid (show ∀ k, D.own k → k ≠ w1.heap.size from fun k hk e => by
    have h2 : D.own k → k < w1.heap.size := fun hk => Nat.lt_of_lt_of_le (H.out.lt hk) F.size
    have := h2 hk; omega)
  have zc := Lib.hid (And.intro (Cel.new w1 #[.int .i64 y.1, .int .i64 y.2] 67 0 (.int .i64 y.1) rfl) (Cel.new w1 #[.int .i64 y.1, .int .i64 y.2] 67 1 (.int .i64 y.2) rfl))
  replace P1 := Lib.hid P1; replace F1 := Lib.hid F1
  have k3 := Lib.hid (And.intro k1 k2)
  replace hG1 := Lib.hid hG1
  clear b F ft S0 k1 k2 ey eo x1
  go_wp2_with fail
  generalize w1.alloc (.cells #[.int .i64 y.1, .int .i64 y.2] 67) = w2 at *
  generalize w1.heap.size = Z1 at *
  go_loopw [2, 3] (fun zz kk wr => ∃ (Z : Nat) (y : Int × Int) (ok : Bool) (r : List (Int × Int)) (gs' : List G), zz = .pointer (some ⟨Z, 0, none⟩) ∧ kk = .bool ok ∧ Hid (Cel wr Z 0 (.int .i64 y.1) ∧ Cel wr Z 1 (.int .i64 y.2)) ∧ Hid (∀ k, D.own k → k ≠ Z) ∧ Hid (PoS wr D gs' r T f) ∧ Hid (FrB D.F w wr) ∧ Hid ((ok = true → 0 ≤ y.1 ∧ y.1 < D.n ∧ meetsG gs' (y :: r) = G1) ∧ (ok = false → r = [] ∧ gs' = G1))) (fun _ kk wr => chanLen wr D.c + boolN kk)
  case atStart => exact ⟨_, y, ok, r, gs, rfl, rfl, zc, hZ, P1, F1, k3⟩
  case round =>
    clear zc hZ P1 F1 k3
    obtain ⟨Z, y, ok, r, gs', rfl, rfl, zc, hZ, P, F, k⟩ := hrel
    cases ok with
    | true =>
      obtain ⟨hy0, hyn, hm⟩ := k.out.1 rfl
      obtain ⟨y1, y2⟩ := y
      simp only at hy0 hyn
      obtain ⟨K, rfl⟩ := Int.eq_ofNat_of_zero_le hy0
      have hKn : K < D.n := by omega
      have hK : K < gs'.length := by rw [P.out.gl]; exact hKn
      have hgd : gs'.getD K noG = gs'[K] := by simp [hK]
      rw [meetsG_cons] at hm
      simp only [Int.toNat_natCast, hgd] at hm
      have hml := Lib.hid P.out.bx.chanLen
      have hix : (0 : Nat) + K * 7 = K * 7 := Nat.zero_add _
      replace hm := Lib.hid hm
      have z0 := zc.out.1.1; have z1 := zc.out.2.1
      clear k hy0 hgd
      go_wp2_with fail
      refine seq_start [(0, true), (1, true), (2, true), (3, true), (4, true), (5, true), (6, true), (7, true), (8, true), (9, false)] (fun w' => w'.cell? ⟨D.p, 0, none⟩ = some (.slice (some ⟨D.g, 0, none⟩) D.n D.n) ∧ w'.cell? ⟨Z, 0, none⟩ = some (.int .i64 K) ∧ w'.cell? ⟨Z, 1, none⟩ = some (.int .i64 y2)) (by kernel_rfl) (by kernel_rfl) rfl (by kernel_rfl) ⟨P.out.drew.c0.1, zc.out.1.drew.1, zc.out.2.drew.1⟩ ?_
      iterate 9 (refine seq_read rfl (by first | rfl | (go_simp; done)) (fun w' hw => by obtain ⟨s0, s1, s2⟩ := hw; go_simp; with_reducible rfl) ?_; try simp only [Act.put, List.setIfInBounds_toArray, List.set_cons_zero, List.set_cons_succ])
      replace P := Lib.hid P.out.drew
      replace zc := Lib.hid (And.intro zc.out.1.drew zc.out.2.drew)
      replace F := Lib.hid F.out.drew
      clear z0 z1
      generalize wr.drew = w5 at *
      have mc := Lib.hid (meet_c (P.out.ga K hK) y2)
      refine seq_call rfl (fun K hK => ?_)
      go_simp
      refine mc.out.mono ?_
      rintro e w6 ⟨rfl, G6, F6⟩
      have P6 := Lib.hid (P.out.gate G6 F6)
      have FB := PoD.F_gate (D := D) F6
      have zc6 := Lib.hid (And.intro (zc.out.1.frb FB (fun e => hZ.out _ (PoD.F_own e) rfl)) (zc.out.2.frb FB (fun e => hZ.out _ (PoD.F_own e) rfl)))
      have F7 := Lib.hid (F.out.allT FB)
      refine hK.out _ _ ⟨P6.out.c0.1, zc6.out.1.1, zc6.out.2.1⟩ ?_
      clear hK K mc G6 F6 FB P zc F
      try simp only [Act.put, List.setIfInBounds_toArray, List.set_cons_zero, List.set_cons_succ]
      refine seq_done ?_
      have FA := blA (Below.refl w6.heap.size w6) (.cells #[.int .i64 K, .int .i64 y2] 67)
      have P7 := Lib.hid (P6.out.below FA)
      have F8 := Lib.hid (F7.out.allT (FrB.of_below (S := D.F) FA (Nat.le_refl _)))
      have z7 := Lib.hid (And.intro (Cel.new w6 #[.int .i64 K, .int .i64 y2] 67 0 (.int .i64 K) rfl) (Cel.new w6 #[.int .i64 K, .int .i64 y2] 67 1 (.int .i64 y2) rfl))
      have hZ7 := Lib.hid (show ∀ k, D.own k → k ≠ w6.heap.size from fun k hk e => by have := P6.out.lt hk; omega)
      have hzl := Lib.hid (show w.heap.size ≤ w6.heap.size from F7.out.size)
      have z6a := zc6.out.1.1; have z6b := zc6.out.2.1
      have x1 := P7.out.c1.1
      have ft := Lib.hid (fetch_note P7.out.bx)
      clear P6 F7 zc6 FA hZ
      go_wp2_with fail
      generalize w6.alloc (.cells #[.int .i64 K, .int .i64 y2] 67) = w7 at *
      generalize w6.heap.size = Z7 at *
      refine ft.out.mono ?_
      rintro e w8 ⟨rfl, b, F⟩
      have P8 := Lib.hid (P7.out.boxed (ns' := r.tail) b F (fun x hx => P7.out.no x (List.mem_of_mem_tail hx)))
      have FB := PoD.F_box (D := D) F
      have z8a := z7.out.1.frb FB (fun e => hZ7.out _ (PoD.F_own e) rfl)
      have z8b := z7.out.2.frb FB (fun e => hZ7.out _ (PoD.F_own e) rfl)
      have F9 := Lib.hid (F8.out.allT FB)
      have hcl := Lib.hid P8.out.bx.chanLen
      obtain ⟨y8, hy8⟩ : ∃ y, y = r.headD (0, 0) := ⟨_, rfl⟩
      obtain ⟨ok8, ho8⟩ : ∃ y, y = decide (r ≠ []) := ⟨_, rfl⟩
      rw [← hy8, ← ho8]
      have k8 := Lib.hid (show (ok8 = true → 0 ≤ y8.1 ∧ y8.1 < D.n ∧ meetsG (gs'.set K (meetG gs'[K] y2)) (y8 :: r.tail) = G1) ∧ (ok8 = false → r.tail = [] ∧ gs'.set K (meetG gs'[K] y2) = G1) from by
        cases r with
        | nil => exact ⟨fun e => (by rw [ho8] at e; simp at e), fun _ => ⟨rfl, hm.out⟩⟩
        | cons y t =>
          have hy : y8 = y := hy8
          have := P7.out.no y (List.mem_cons_self ..)
          exact ⟨fun _ => ⟨hy ▸ this.1, hy ▸ this.2, by rw [hy]; exact hm.out⟩, fun e => (by rw [ho8] at e; simp at e)⟩)
      have hms : Hid (boolN (.bool ok8) + r.tail.length < r.length + 1) := Lib.hid (by
        rw [ho8]
        cases r with
        | nil => decide
        | cons y t => show 1 + t.length < t.length + 1 + 1; omega)
      have z8 := Lib.hid (And.intro z8a z8b)
      obtain ⟨z8c, z8d⟩ := z8a
      obtain ⟨z8e, z8f⟩ := z8b
      replace hy8 := Lib.hid hy8; replace ho8 := Lib.hid ho8
      clear b F FB ft P7 F8 z7 x1 z6a z6b hm
      obtain ⟨y81, y82⟩ := y8
      go_wp2
      have e0 := (z8.out.1.same (.int .i64 y81)).other (b' := Z7) (o' := 1) (.inr (by decide)) (.int .i64 y82)
      have e1 := (z8.out.2.other (b' := Z7) (o' := 0) (.inr (by decide)) (.int .i64 y81)).same (.int .i64 y82)
      have FS : FrB (fun k => k = Z7) w8 ((w8.setCell ⟨Z7, 0, none⟩ (.int .i64 y81)).setCell ⟨Z7, 1, none⟩ (.int .i64 y82)) := (FrB.set w8 ⟨Z7, 0, none⟩ _).allT (FrB.set _ ⟨Z7, 1, none⟩ _)
      have P9 := Lib.hid (P8.out.fr FS (fun k hk e => hZ7.out k hk e))
      go_roundw
      case rel => exact ⟨Z7, (y81, y82), ok8, r.tail, _, rfl, rfl, Lib.hid ⟨e0, e1⟩, hZ7, P9, Lib.hid ((F9.out.setc hzl.out _).setc hzl.out _), k8⟩
      case measure =>
        rw [P9.out.bx.chanLen, hml.out, List.length_map, List.length_map]
        have := hms.out
        rw [show boolN (.bool true) = 1 from rfl]
        omega
    | false =>
      obtain ⟨rfl, rfl⟩ := k.out.2 rfl
      replace hlen := Lib.hid hlen
      have x0 := P.out.c0.1
      clear zc hZ k
      generalize hNd : D.n = nd at *
      replace hNd := Lib.hid hNd
      go_wp2_with fail
      go_loopw [41] (fun ii wr => ∃ i : Nat, ii = .int .i64 i ∧ Hid (i ≤ nd) ∧ Hid (PoS wr D (flushTo gs' i) [] T f) ∧ Hid (FrB D.F w wr)) (fun ii _ => nd - (intOf ii).toNat)
      case atStart => exact ⟨0, rfl, Lib.hid (Nat.zero_le _), Lib.hid (by rw [flushTo_zero]; exact P.out), F⟩
      case round =>
        clear P F x0
        obtain ⟨i, rfl, hi, P, F⟩ := hrel
        have x0 := P.out.c0.1
        rw [hNd.out] at x0
        by_cases hlt : i < nd
        · have hgl : i < gs'.length := by rw [hlen.out]; exact hlt
          have hfl := Lib.hid (show i < (flushTo gs' i).length by rw [flushTo_len]; exact hgl)
          have hat := flushTo_at gs' hgl hfl.out
          have fc := flush_c (P.out.ga i hfl.out)
          rw [hat] at fc
          have hix : (0 : Nat) + i * 7 = i * 7 := Nat.zero_add _
          have hst := Lib.hid (flushTo_step gs' hgl)
          replace fc := Lib.hid fc
          have hlH := Lib.hid hlt
          have hi64 : i < 65 := by omega
          clear hat
          go_wp2_with fail
          refine fc.out.mono ?_
          rintro e w5 ⟨rfl, G5, F5⟩
          have P5 := P.out.gate G5 F5
          rw [hst.out] at P5
          replace P5 := Lib.hid P5
          have F6 := Lib.hid (F.out.allT (PoD.F_gate F5))
          clear G5 F5 fc P F x0
          go_wp2
          go_roundw
          case rel => exact ⟨i + 1, by go_num, hlH, P5, F6⟩
          case measure => have := hlH.out; simp [intOf]; omega
        · obtain rfl : nd = i := by have := hi.out; omega
          rw [← hlen.out, flushTo_all] at P
          have x3 := P.out.c3.1
          have hgn : (gs'.map flushG).length = nd := by rw [List.length_map]; exact hlen.out
          obtain ⟨G2, hG2⟩ : ∃ G2, G2 = gs'.map flushG := ⟨_, rfl⟩
          rw [← hG2] at P hgn
          replace hG2 := Lib.hid hG2
          replace hgn := Lib.hid hgn
          have hset := fun i => setQ_succ G2 D.t nd D.mo f i (T, f)
          replace hset := Lib.hid hset
          clear hi hlt
          go_wp2_with fail
          go_loopw [61] (fun ii wr => ∃ (i : Nat), ii = .int .i64 i ∧ Hid (i ≤ nd) ∧ Hid (PoS wr D G2 [] (setQ G2 D.t nd D.mo f i (T, f)).1 (setQ G2 D.t nd D.mo f i (T, f)).2) ∧ Hid (FrB D.F w wr)) (fun ii _ => nd - (intOf ii).toNat)
          case atStart => exact ⟨0, rfl, Lib.hid (Nat.zero_le _), P, F⟩
          case round =>
            clear P F x0 x3
            obtain ⟨i, rfl, hi, P, F⟩ := hrel
            have x0 := P.out.c0.1
            rw [hNd.out] at x0
            have hs := hset.out i
            generalize hst : setQ G2 D.t nd D.mo f i (T, f) = st at *
            obtain ⟨T1, f1⟩ := st
            by_cases hlt : i < nd
            · obtain ⟨dv, hdv⟩ : ∃ dv, dv = (f + i) % nd := ⟨_, rfl⟩
              have hdl : dv < nd := by rw [hdv]; exact Nat.mod_lt _ (by omega)
              have eT : Int.tmod ((f : Int) + (i : Int)) (nd : Int) = (dv : Int) := by
                rw [show (f : Int) + (i : Int) = ((f + i : Nat) : Int) by omega, Int.tmod_eq_emod_of_nonneg (by omega), hdv]; rfl
              have eZ : ((nd : Int) == 0) = false := by simp; omega
              have eN : ¬ (nd : Int) = 0 := by omega
              obtain ⟨f2, hf2⟩ : ∃ f2, f2 = (dv + 1) % nd := ⟨_, rfl⟩
              have hf2l : f2 < nd := by rw [hf2]; exact Nat.mod_lt _ (by omega)
              have eT2 : Int.tmod ((dv : Int) + 1) (nd : Int) = (f2 : Int) := by
                rw [show (dv : Int) + 1 = ((dv + 1 : Nat) : Int) by omega, Int.tmod_eq_emod_of_nonneg (by omega), hf2]; rfl
              have hdg : dv < G2.length := by rw [hgn.out]; exact hdl
              have hgd : G2.getD dv noG = G2[dv] := by simp [hdg]
              have wc := Lib.hid (wants_c (P.out.ga dv hdg))
              have hlH := Lib.hid hlt
              have hn65 : nd < 65 := by omega
              unfold setStep at hs
              simp only [← hdv, ← hf2, hgd] at hs
              replace hdv := Lib.hid hdv; replace hf2 := Lib.hid hf2
              by_cases htd : G2[dv].told = 0
              · rw [if_neg (fun e => e.1 htd)] at hs
                have e0 : (G2[dv].told != 0) = false := by rw [htd]; rfl
                rw [e0] at wc
                replace hs := Lib.hid hs
                clear htd e0 hgd
                go_wp2_with fail
                refine wc.out.mono ?_
                rintro e w5 ⟨rfl, rfl⟩
                clear wc
                go_wp2
                go_roundw
                case rel => exact ⟨i + 1, by go_num, hlH, Lib.hid (by rw [hs.out]; exact P.out), F⟩
                case measure => have := hlH.out; simp [intOf]; omega
              · have e0 : (G2[dv].told != 0) = true := by simpa using htd
                rw [e0] at wc
                have pc := pushQ_c P.out.qu (2, (dv : Int))
                have x2 := P.out.c2.1
                rw [hNd.out] at pc
                cases hpb : pushB D.t nd D.mo T1 (2, (dv : Int)) with
                | false =>
                  rw [if_neg (fun e => by rw [hpb] at e; cases e.2)] at hs
                  rw [hpb, show pushT D.t nd D.mo T1 (2, (dv : Int)) = T1 by unfold pushT; rw [hpb]; rfl] at pc
                  replace hs := Lib.hid hs; replace pc := Lib.hid pc
                  clear htd e0 hgd hpb
                  go_wp2_with fail
                  refine wc.out.mono ?_
                  rintro e w5 ⟨rfl, rfl⟩
                  clear wc
                  go_wp2_with fail
                  refine pc.out.mono ?_
                  rintro e w6 ⟨rfl, Q6, F6⟩
                  have P6 := Lib.hid (P.out.que (by rw [hNd.out]; exact Q6) F6)
                  have F7 := Lib.hid (F.out.allT (PoD.F_que F6))
                  clear Q6 F6 pc
                  go_wp2
                  go_roundw
                  case rel => exact ⟨i + 1, by go_num, hlH, Lib.hid (by rw [hs.out]; exact P6.out), F7⟩
                  case measure => have := hlH.out; simp [intOf]; omega
                | true =>
                  rw [if_pos ⟨htd, hpb⟩] at hs
                  rw [hpb, show pushT D.t nd D.mo T1 (2, (dv : Int)) = T1 ++ [(2, (dv : Int))] by unfold pushT; rw [hpb]; rfl] at pc
                  replace hs := Lib.hid hs; replace pc := Lib.hid pc
                  clear htd e0 hgd hpb
                  go_wp2_with fail
                  refine wc.out.mono ?_
                  rintro e w5 ⟨rfl, rfl⟩
                  clear wc
                  go_wp2_with fail
                  refine pc.out.mono ?_
                  rintro e w6 ⟨rfl, Q6, F6⟩
                  have P6 := Lib.hid (P.out.que (by rw [hNd.out]; exact Q6) F6)
                  have F7 := Lib.hid (F.out.allT (PoD.F_que F6))
                  have y0 := P6.out.c0.1
                  rw [hNd.out] at y0
                  have y3 := P6.out.c3.1; have y3f := P6.out.c3.2
                  have P7 := Lib.hid (P6.out.fst (f' := f2) (by omega))
                  have F8 := Lib.hid (F7.out.allT (PoD.F_fst w6 (.int .i64 f2)))
                  clear Q6 F6 pc P F x0 x2
                  go_wp2
                  go_roundw
                  case rel => exact ⟨i + 1, by go_num, hlH, Lib.hid (by rw [hs.out]; exact P7.out), F8⟩
                  case measure => have := hlH.out; simp [intOf]; omega
            · obtain rfl : nd = i := by have := hi.out; omega
              replace hs := Lib.hid hs; replace hst := Lib.hid hst
              clear hset hlt
              go_wp2
              go_end0
              refine ⟨rfl, ?_, F.out⟩
              rw [← hG2.out]
              first
                | (rw [hst.out]; exact P.out)
                | (rw [hNd.out, hst.out]; exact P.out)
end Go.Proofs.Ytblapbnplflghaa
