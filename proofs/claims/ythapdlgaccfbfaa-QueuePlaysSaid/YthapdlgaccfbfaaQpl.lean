/- QueuePlays. -/
import Derived.Test.YthapdlgaccfbfaaQp
import Derived.Test.YthapdlgaccfbfaaRow
namespace Go.Proofs.Ythapdlgaccfbfaa
open Go.RowKit
set_option linter.unusedVariables false
set_option linter.unusedSimpArgs false
set_option linter.unusedSectionVars false
set_option maxRecDepth 100000

structure Oq where
  kind : Int
  thing_Kind : Int
  thing_Index : Int
deriving Inhabited
def Oq.cells (z : Oq) : List Value := [.int .i64 z.kind, .int .i64 z.thing_Kind, .int .i64 z.thing_Index]
def Oq.good (z : Oq) : Prop := (Lit.int .i64 z.kind).wf = true ∧ (Lit.int .i64 z.thing_Kind).wf = true ∧ (Lit.int .i64 z.thing_Index).wf = true
def Oq.val (z : Oq) : Value := .agg #[.int .i64 z.kind, .agg #[.int .i64 z.thing_Kind, .int .i64 z.thing_Index]]
theorem el_Oq {H : Type} {enc : TypeId × Value → H} {w : World} : ∀ n cs x, DataW.trod enc Try.prog w 0 (fun _ => true) true n 38 cs = some x → ∃ z : Oq, cs = z.cells ∧ z.good := by
  intro n cs x h
  have hl := (struct_cells Try.underlying38 h).1
  rw [show Try.prog.cellsOf 38 = 3 by kernel_rfl] at hl
  obtain ⟨v0, v1, v2, rfl⟩ : ∃ v0 v1 v2 : Value, cs = [v0, v1, v2] := by
    match cs, hl with
    | [v0, v1, v2], _ => exact ⟨v0, v1, v2, rfl⟩
  obtain ⟨-, n, f⟩ := struct_cells Try.underlying38 h
  obtain ⟨y_0, h_0⟩ := f 0 _ rfl
  replace h_0 : DataW.trod enc Try.prog w 0 (fun _ => true) true n 3 [v0] = some y_0 := h_0
  obtain ⟨a0, e0, g0⟩ := (el_int Try.underlying3) _ _ _ h_0
  obtain rfl : v0 = .int .i64 a0 := by simpa using e0
  obtain ⟨y_1, h_1⟩ := f 1 _ rfl
  replace h_1 : DataW.trod enc Try.prog w 0 (fun _ => true) true n 27 [v1, v2] = some y_1 := h_1
  obtain ⟨-, n_1, f_1⟩ := struct_cells Try.underlying27 h_1
  obtain ⟨y_1_0, h_1_0⟩ := f_1 0 _ rfl
  replace h_1_0 : DataW.trod enc Try.prog w 0 (fun _ => true) true n_1 3 [v1] = some y_1_0 := h_1_0
  obtain ⟨a1, e1, g1⟩ := (el_int Try.underlying3) _ _ _ h_1_0
  obtain rfl : v1 = .int .i64 a1 := by simpa using e1
  obtain ⟨y_1_1, h_1_1⟩ := f_1 1 _ rfl
  replace h_1_1 : DataW.trod enc Try.prog w 0 (fun _ => true) true n_1 3 [v2] = some y_1_1 := h_1_1
  obtain ⟨a2, e2, g2⟩ := (el_int Try.underlying3) _ _ _ h_1_1
  obtain rfl : v2 = .int .i64 a2 := by simpa using e2
  exact ⟨⟨a0, a1, a2⟩, rfl, ⟨g0, g1, g2⟩⟩

theorem RowAt.oq {w : World} {A : Option Addr} {xs : List Oq} (h : RowAt Oq.cells 3 w A xs) {i : Nat} (hi : i < xs.length) : ∃ b off, A = some ⟨b, off, none⟩ ∧ b < w.heap.size ∧ w.cell? ⟨b, off + i * 3, none⟩ = some (.int .i64 xs[i].kind) ∧ w.cell? ⟨b, off + i * 3 + 1, none⟩ = some (.int .i64 xs[i].thing_Kind) ∧ w.cell? ⟨b, off + i * 3 + 2, none⟩ = some (.int .i64 xs[i].thing_Index) := by
  obtain ⟨b, off, e, hlt, hc⟩ := h i hi
  exact ⟨b, off, e, hlt, hc 0 _ rfl, hc 1 _ rfl, hc 2 _ rfl⟩

/-- A step's variable. -/
def OVar (w : World) (B : Nat) (k a b : Int) : Prop := Cel w B 0 (.int .i64 k) ∧ Cel w B 1 (.int .i64 a) ∧ Cel w B 2 (.int .i64 b)
theorem OVar.below {w w2 : World} {B : Nat} {k a b : Int} (h : OVar w B k a b) (F : Below w.heap.size w w2) : OVar w2 B k a b := ⟨h.1.bel2 F, h.2.1.bel2 F, h.2.2.bel2 F⟩
theorem OVar.fr {S : Nat → Nat → Prop} {w w2 : World} {B : Nat} {k a b : Int} (h : OVar w B k a b) (F : Fr S w w2) (hs : ∀ o, ¬ S B o) : OVar w2 B k a b := ⟨h.1.fr F (hs _), h.2.1.fr F (hs _), h.2.2.fr F (hs _)⟩
theorem OVar.set {w : World} {B b o : Nat} {k a c : Int} (h : OVar w B k a c) (hb : b ≠ B) (u : Value) : OVar (w.setCell ⟨b, o, none⟩ u) B k a c := ⟨h.1.other (.inl hb) _, h.2.1.other (.inl hb) _, h.2.2.other (.inl hb) _⟩
/-- The queue and the document's. -/
structure PlS (w wr : World) (q p L M E Bx Ba t d mo : Nat) (TQ TR : List Th) (v : Value) (ask : Th) : Prop where
  s : StQ w wr q p L M t d mo TQ
  o : OwnE trE wr E v TR
  x0 : Cel wr Bx 0 (.int .i64 t)
  x1 : Cel wr Bx 1 (.int .i64 d)
  x2 : Cel wr Bx 2 (.int .i64 mo)
  x3 : Cel wr Bx 3 v
  a0 : Cel wr Ba 0 (.int .i64 ask.1)
  a1 : Cel wr Ba 1 (.int .i64 ask.2)
  lt : q < E ∧ p < E ∧ L < E ∧ M < E ∧ Bx < E ∧ Ba < E ∧ E ≤ wr.heap.size
  ne : Bx ≠ q ∧ Bx ≠ p ∧ Bx ≠ L ∧ Bx ≠ M ∧ Ba ≠ q ∧ Ba ≠ L ∧ Ba ≠ M ∧ Ba ≠ Bx
  lo : w.heap.size ≤ Bx ∧ w.heap.size ≤ E
section
variable {w wr w2 : World} {q p L M E Bx Ba t d mo : Nat} {TQ TR T' : List Th} {v : Value} {ask : Th}
theorem PlS.below (h : PlS w wr q p L M E Bx Ba t d mo TQ TR v ask) (F : Below wr.heap.size wr w2) : PlS w w2 q p L M E Bx Ba t d mo TQ TR v ask :=
  ⟨h.s.below F, h.o.below F, h.x0.bel2 F, h.x1.bel2 F, h.x2.bel2 F, h.x3.bel2 F, h.a0.bel2 F, h.a1.bel2 F, by have := h.lt; have := F.size; omega, h.ne, h.lo⟩
theorem quS_no {b : Nat} (h : b ≠ q ∧ b ≠ L ∧ b ≠ M) : ∀ o, ¬ quS q L M b o := fun o hs => by rcases hs with e | e | e <;> omega
theorem PlS.queue (h : PlS w wr q p L M E Bx Ba t d mo TQ TR v ask) (K : QS w2 q p L M t d mo T') (F : Fr (quS q L M) wr w2) : PlS w w2 q p L M E Bx Ba t d mo T' TR v ask := by
  have hl := h.lt
  have hn := h.ne
  exact ⟨h.s.op K F, h.o.fr F (fun k o hk => quS_no (by have := (h.o.lt k hk).1; omega) o), h.x0.fr F (quS_no (by omega) _), h.x1.fr F (quS_no (by omega) _), h.x2.fr F (quS_no (by omega) _), h.x3.fr F (quS_no (by omega) _), h.a0.fr F (quS_no (by omega) _), h.a1.fr F (quS_no (by omega) _), by have := F.size; omega, h.ne, h.lo⟩
theorem StQ.set (h : StQ w wr q p L M t d mo TQ) {b o : Nat} {u : Value} (hb : b ≠ q ∧ b ≠ p ∧ b ≠ L ∧ b ≠ M) (hw : w.heap.size ≤ b) : StQ w (wr.setCell ⟨b, o, none⟩ u) q p L M t d mo TQ := by
  have F : Fr (fun k j => k = b ∧ j = o) wr (wr.setCell ⟨b, o, none⟩ u) := (Fr.refl _ wr).setCell (fun _ => ⟨rfl, rfl⟩) u
  exact ⟨h.s.fr F (fun j e => hb.1 e.1.symm) (fun j e => hb.2.1 e.1.symm) (fun j e => hb.2.2.1 e.1.symm) (fun j e => hb.2.2.2 e.1.symm), blS h.b hw _, h.lo⟩
theorem PlS.put (h : PlS w wr q p L M E Bx Ba t d mo TQ TR v ask) {v' : Value} (hv : OwnE trE wr E v' T') :
    PlS w ((((wr.setCell ⟨Bx, 0, none⟩ (.int .i64 t)).setCell ⟨Bx, 1, none⟩ (.int .i64 d)).setCell ⟨Bx, 2, none⟩ (.int .i64 mo)).setCell ⟨Bx, 3, none⟩ v') q p L M E Bx Ba t d mo TQ T' v' ask := by
  have hn := h.ne
  have hl := h.lt
  have hb : v'.ownBlock ≠ some Bx := fun e => by have := (hv.lt _ e).1; omega
  have s1 := ((((h.s.set (o := 0) (u := .int .i64 t) ⟨hn.1, hn.2.1, hn.2.2.1, hn.2.2.2.1⟩ h.lo.1).set (o := 1) (u := .int .i64 d) ⟨hn.1, hn.2.1, hn.2.2.1, hn.2.2.2.1⟩ h.lo.1).set (o := 2) (u := .int .i64 mo) ⟨hn.1, hn.2.1, hn.2.2.1, hn.2.2.2.1⟩ h.lo.1).set (o := 3) (u := v') ⟨hn.1, hn.2.1, hn.2.2.1, hn.2.2.2.1⟩ h.lo.1)
  refine ⟨s1, ((((hv.other (a := ⟨_, _, none⟩) hb _).other (a := ⟨_, _, none⟩) hb _).other (a := ⟨_, _, none⟩) hb _).other (a := ⟨_, _, none⟩) hb _), ?_, ?_, ?_, ?_, ?_, ?_, by simp only [World.size_setCell]; exact hl, hn, h.lo⟩
  · exact (((h.x0.same _).other (.inr (by omega)) _).other (.inr (by omega)) _).other (.inr (by omega)) _
  · exact (((h.x1.other (.inr (by omega)) _).same _).other (.inr (by omega)) _).other (.inr (by omega)) _
  · exact (((h.x2.other (.inr (by omega)) _).other (.inr (by omega)) _).same _).other (.inr (by omega)) _
  · exact (((h.x3.other (.inr (by omega)) _).other (.inr (by omega)) _).other (.inr (by omega)) _).same _
  · exact (((h.a0.other (.inl (by omega)) _).other (.inl (by omega)) _).other (.inl (by omega)) _).other (.inl (by omega)) _
  · exact (((h.a1.other (.inl (by omega)) _).other (.inl (by omega)) _).other (.inl (by omega)) _).other (.inl (by omega)) _
theorem OVar.put {v' : Value} {B : Nat} {k a c : Int} (h : OVar wr B k a c) (hb : Bx < B) (_ : PlS w wr q p L M E Bx Ba t d mo TQ TR v ask) : OVar ((((wr.setCell ⟨Bx, 0, none⟩ (.int .i64 t)).setCell ⟨Bx, 1, none⟩ (.int .i64 d)).setCell ⟨Bx, 2, none⟩ (.int .i64 mo)).setCell ⟨Bx, 3, none⟩ v') B k a c := (((h.set (by omega) _).set (by omega) _).set (by omega) _).set (by omega) _
theorem PlS.up (h : PlS w wr q p L M E Bx Ba t d mo TQ TR v ask) {v' : Value} (F : Below wr.heap.size wr w2) (O : OwnE trE w2 0 v' T') (hb : ∀ b, v'.ownBlock = some b → v.ownBlock = some b ∨ wr.heap.size ≤ b) : OwnE trE w2 E v' T' :=
  O.up (fun k hk => by rcases hb k hk with h1 | h1; exact (h.o.lt k h1).1; have := h.lt; omega)
end

section
variable {w : World} {q p L M t d mo base c : Nat} {A : Option Addr} {T : List Th}
theorem same12_p {n : Nat} (h : QS w q p L M t d mo T) (hO : OwnE trE w base (.slice A n c) T) (hn : n = T.length) (a b : Int) :
    Calls Try.prog 16 #[.pointer (some ⟨q, 0, none⟩), .agg #[.int .i64 t, .int .i64 d, .int .i64 mo, .slice A n c], .agg #[.int .i64 a, .int .i64 b]] w fun e w' => e = .returned (.bool true) ∧ Below w.heap.size w w' := by subst hn; exact same12_c h hO (a, b)
theorem rpushQ_p (h : OwnE trE w base (.slice A T.length c) T) (hl : T.length ≤ 4096) (a b : Int) :
    Calls Try.prog 12 #[.agg #[.int .i64 t, .int .i64 d, .int .i64 mo, .slice A T.length c], .agg #[.int .i64 a, .int .i64 b]] w fun e w' => ∃ v', e = .returned (.tuple #[.agg #[.int .i64 t, .int .i64 d, .int .i64 mo, v'], .bool (pushB t d mo T (a, b))]) ∧ OwnE trE w' 0 v' (pushT t d mo T (a, b)) ∧ (∀ b, v'.ownBlock = some b → (Value.slice A T.length c).ownBlock = some b ∨ w.heap.size ≤ b) ∧ Below w.heap.size w w' := rpushQ_c h hl (a, b)
theorem rdropQ_p (h : OwnE trE w base (.slice A T.length c) T) (hl : T.length ≤ 4096) (a b : Int) :
    Calls Try.prog 13 #[.agg #[.int .i64 t, .int .i64 d, .int .i64 mo, .slice A T.length c], .agg #[.int .i64 a, .int .i64 b]] w fun e w' => ∃ v', e = .returned (.tuple #[.agg #[.int .i64 t, .int .i64 d, .int .i64 mo, v'], .bool (decide ((a, b) ∈ T))]) ∧ OwnE trE w' 0 v' (dropT T (a, b)) ∧ (∀ b, v'.ownBlock = some b → (Value.slice A T.length c).ownBlock = some b ∨ w.heap.size ≤ b) ∧ Below w.heap.size w w' := rdropQ_c h hl (a, b)
theorem rpopQ_p (h : OwnE trE w base (.slice A T.length c) T) (hl : T.length ≤ 4096) {a b : Int} (hh : T.headD (0, 0) = (a, b)) :
    Calls Try.prog 15 #[.agg #[.int .i64 t, .int .i64 d, .int .i64 mo, .slice A T.length c]] w fun e w' => ∃ v', e = .returned (.tuple #[.agg #[.int .i64 t, .int .i64 d, .int .i64 mo, v'], .agg #[.int .i64 a, .int .i64 b], .bool (decide (T ≠ []))]) ∧ OwnE trE w' 0 v' T.tail ∧ (∀ b, v'.ownBlock = some b → (Value.slice A T.length c).ownBlock = some b ∨ w.heap.size ≤ b) ∧ Below w.heap.size w w' := by
  have := rpopQ_c (t := t) (d := d) (mo := mo) h hl
  rw [hh] at this; exact this
theorem pushQ_p (h : QS w q p L M t d mo T) (a b : Int) :
    Calls Try.prog 8 #[.pointer (some ⟨q, 0, none⟩), .agg #[.int .i64 a, .int .i64 b]] w fun e w' => e = .returned (.bool (pushB t d mo T (a, b))) ∧ QS w' q p L M t d mo (pushT t d mo T (a, b)) ∧ Fr (quS q L M) w w' := pushQ_c h (a, b)
theorem dropQ_p (h : QS w q p L M t d mo T) (a b : Int) :
    Calls Try.prog 14 #[.pointer (some ⟨q, 0, none⟩), .agg #[.int .i64 a, .int .i64 b]] w fun e w' => e = .returned (.bool (decide ((a, b) ∈ T))) ∧ QS w' q p L M t d mo (T.erase (a, b)) ∧ Fr (quS q L M) w w' := dropQ_c h (a, b)
theorem popQ_p (h : QS w q p L M t d mo T) {a b : Int} (hh : T.headD (0, 0) = (a, b)) :
    Calls Try.prog 11 #[.pointer (some ⟨q, 0, none⟩)] w fun e w' => e = .returned (.tuple #[.agg #[.int .i64 a, .int .i64 b], .bool (decide (T ≠ []))]) ∧ QS w' q p L M t d mo T.tail ∧ Fr (quS q L M) w w' := by
  have := popQ_c h
  rw [hh] at this; exact this
end

set_option maxHeartbeats 16000000 in
theorem plays12_walk (a b m : Int) (A0 : Option Addr) (cx : Nat) (xs : List Oq) (ask1 ask2 : Int) (w : World) (hr : RowAt Oq.cells 3 w A0 xs) :
    Calls Try.prog 4 #[.int .i64 a, .int .i64 b, .int .i64 m, .slice A0 xs.length cx, .agg #[.int .i64 ask1, .int .i64 ask2]] w fun e w' => e = .returned (.bool true) ∧ Below w.heap.size w w' := by
  have B1 := Lib.hid (Below.alloc (Below.refl w.heap.size w) (Nat.le_refl _) (.cells #[.int .i64 ask1, .int .i64 ask2] 27))
  have key1 : Hid (∀ X, Below w.heap.size w X → RowAt Oq.cells 3 X A0 xs) := Lib.hid fun X hX => hr.below hX
  have y0 := Lib.hid (Cel.new w #[.int .i64 ask1, .int .i64 ask2] 27 0 (.int .i64 ask1) rfl)
  have y1 := Lib.hid (Cel.new w #[.int .i64 ask1, .int .i64 ask2] 27 1 (.int .i64 ask2) rfl)
  obtain ⟨n, hn⟩ : ∃ n, n = xs.length := ⟨_, rfl⟩
  rw [← hn]
  clear hr
  by_cases hbig : 40 < n ∨ 300 < a ∨ 300 < b
  · have three : (decide ((40 : Int) < (n : Int)) = true ∧ decide (40 < n) = true) ∨ ((decide ((40 : Int) < (n : Int)) = false ∧ decide (40 < n) = false) ∧ decide (300 < a) = true) ∨ ((decide ((40 : Int) < (n : Int)) = false ∧ decide (40 < n) = false) ∧ decide (300 < a) = false ∧ decide (300 < b) = true) := by
      by_cases h1 : 40 < n
      · exact .inl ⟨decide_eq_true (by omega), decide_eq_true h1⟩
      by_cases h2 : 300 < a
      · exact .inr (.inl ⟨⟨decide_eq_false (by omega), decide_eq_false h1⟩, decide_eq_true h2⟩)
      · exact .inr (.inr ⟨⟨decide_eq_false (by omega), decide_eq_false h1⟩, decide_eq_false h2, decide_eq_true (by omega)⟩)
    replace hn := Lib.hid hn
    clear hbig
    go_enter Try.func4, Try.ntmps4
    rcases three with ⟨d1, d2⟩ | ⟨⟨d1, d2⟩, d3⟩ | ⟨⟨d1, d2⟩, d3, d4⟩
    all_goals
      go_wp2_with (first | (go_at_call 6; (with_reducible refine (alive12_c _).mono ?_); rintro e w1 ⟨rfl, F⟩; replace F := Lib.hid F) | fail)
      go_ret
      exact ⟨rfl, blT B1.out F.out⟩
  obtain ⟨d1, d2⟩ : decide ((40 : Int) < (n : Int)) = false ∧ decide (40 < n) = false := ⟨decide_eq_false (by omega), decide_eq_false (by omega)⟩
  have d3 : decide (300 < a) = false := decide_eq_false (by omega)
  have d4 : decide (300 < b) = false := decide_eq_false (by omega)
  obtain ⟨t, ht⟩ : ∃ t, t = mx0 a := ⟨_, rfl⟩
  obtain ⟨d, hd⟩ : ∃ d, d = mx0 b := ⟨_, rfl⟩
  obtain ⟨mo, hm⟩ : ∃ mo, mo = mx0 m := ⟨_, rfl⟩
  have hbd : Hid (t + d ≤ 4096) := Lib.hid (by rw [ht, hd]; unfold mx0; omega)
  have e1 : max a 0 = (t : Int) := by rw [ht]; unfold mx0; omega
  have e2 : max b 0 = (d : Int) := by rw [hd]; unfold mx0; omega
  have e3 : max m 0 = (mo : Int) := by rw [hm]; unfold mx0; omega
  have f1 : (if a < 0 then 0 else a) = (t : Int) := by rw [← e1]; split <;> omega
  have f2 : (if b < 0 then 0 else b) = (d : Int) := by rw [← e2]; split <;> omega
  have f3 : (if m < 0 then 0 else m) = (mo : Int) := by rw [← e3]; split <;> omega
  have hn40 : Hid (n ≤ 40) := Lib.hid (by omega)
  replace hn := Lib.hid hn; replace ht := Lib.hid ht; replace hd := Lib.hid hd; replace hm := Lib.hid hm
  clear hbig
  go_enter Try.func4, Try.ntmps4
  go_upto_region 6 with (first
    | (go_at_call 6; (with_reducible refine (alive12_c _).mono ?_); rintro e w1 ⟨rfl, F⟩; replace F := Lib.hid F)
    | (go_at_call 7; (with_reducible refine (newQ_c _ a b m t d mo ht.out hd.out hm.out hbd.out).mono ?_); rintro e w2 ⟨q, p, L, M, rfl, S, l1, l2, l3, l4, F2⟩; replace S := Lib.hid S; replace F2 := Lib.hid F2; replace l1 := Lib.hid l1; replace l2 := Lib.hid l2; replace l3 := Lib.hid l3; replace l4 := Lib.hid l4)
    | fail)
  go_upto_region 8 with fail
  have hE := Lib.hid (show w2.heap.size < (w2.alloc (quC t d mo (.slice none 0 0))).heap.size by simp)
  have S0 : Hid (PlS w (w2.alloc (quC t d mo (.slice none 0 0))) q p L M (w2.heap.size + 1) w2.heap.size w.heap.size t d mo [] [] (.slice none 0 0) (ask1, ask2)) := Lib.hid (by
    have hs := S.out.lt
    have k0 := B1.out.size; have k1 := F.out.size; have k2 := F2.out.size
    have k3 := l1.out; have k4 := l2.out; have k5 := l3.out; have k6 := l4.out
    have s1 : (w.alloc (.cells #[.int .i64 ask1, .int .i64 ask2] 27)).heap.size = w.heap.size + 1 := by simp
    have hW1 : Below w.heap.size w w1 := blT B1.out F.out
    have y0' := (y0.out.bel2 F.out).bel2 F2.out
    have y1' := (y1.out.bel2 F.out).bel2 F2.out
    exact ⟨(StQ.new hW1 S.out k3 k4 k5 k6 F2.out).below (blA (Below.refl _ _) _), OwnE.nil _ _, Cel.new w2 _ _ 0 _ rfl, Cel.new w2 _ _ 1 _ rfl, Cel.new w2 _ _ 2 _ rfl, Cel.new w2 _ _ 3 _ rfl, y0'.alloc _, y1'.alloc _, by rw [World.size_alloc]; omega, by omega, by omega⟩)
  clear S F F2 l1 l2 l3 l4 B1 y0 y1 e1 e2 e3 f1 f2 f3 d1 d2 d3 d4
  generalize w2.alloc (.cells #[.int .i64 t, .int .i64 d, .int .i64 mo, .slice none 0 0] 36) = W at *
  generalize w2.heap.size = Bx at *
  generalize hBa : w.heap.size = Ba at *
  replace hBa := Lib.hid hBa
  go_loopw [50] (fun iv wr => ∃ (i : Nat) (T : List Th) (v : Value), iv = .int .i64 i ∧ Hid (PlS w wr q p L M (Bx + 1) Bx Ba t d mo T T v (ask1, ask2)) ∧ Hid (i ≤ n)) (fun iv _ => n - (intOf iv).toNat)
  case atStart => exact ⟨0, _, _, rfl, S0, Lib.hid (Nat.zero_le _)⟩
  case round =>
    clear S0
    obtain ⟨i, T, v, rfl, S, hi⟩ := hrel
    have i40 : i ≤ 40 := by have := hi.out; have := hn40.out; omega
    by_cases hlt : i < n
    · have hlt' : i < xs.length := by rw [← hn.out]; exact hlt
      obtain ⟨g, off, hA, hgs, c0, c1, c2⟩ := (key1.out wr (by have := S.out.s.b; rw [hBa.out] at this; exact this)).oq hlt'
      subst hA
      obtain ⟨kd, hkd⟩ : ∃ kd, kd = xs[i].kind := ⟨_, rfl⟩
      obtain ⟨y1, hy1⟩ : ∃ y1, y1 = xs[i].thing_Kind := ⟨_, rfl⟩
      obtain ⟨y2, hy2⟩ : ∃ y2, y2 = xs[i].thing_Index := ⟨_, rfl⟩
      rw [← hkd] at c0
      rw [← hy1] at c1
      rw [← hy2] at c2
      have hlt2 := Lib.hid hlt
      have S1 := Lib.hid (S.out.below (blA (Below.refl wr.heap.size wr) (.cells #[.int .i64 kd, .int .i64 y1, .int .i64 y2] 38)))
      have OV : Hid (OVar (wr.alloc (.cells #[.int .i64 kd, .int .i64 y1, .int .i64 y2] 38)) wr.heap.size kd y1 y2) := Lib.hid ⟨Cel.new wr _ _ 0 _ rfl, Cel.new wr _ _ 1 _ rfl, Cel.new wr _ _ 2 _ rfl⟩
      have hBo : Hid (Bx + 1 ≤ wr.heap.size) := Lib.hid S.out.lt.2.2.2.2.2.2
      obtain ⟨A, c, rfl, -⟩ := S.out.o.slice
      have hTl := Lib.hid S.out.s.s.len
      clear S hkd hy1 hy2 hlt' hlt
      go_upto_region 10 with fail
      generalize wr.alloc (.cells #[.int .i64 kd, .int .i64 y1, .int .i64 y2] 38) = wz at *
      generalize wr.heap.size = By at *
      replace S := S1; clear S1 c0 c1 c2 hgs
      have z0 := S.out.x0.1
      have z1 := S.out.x1.1
      have z2 := S.out.x2.1
      have z3 := S.out.x3.1
      have a0 := S.out.a0.1
      have a1 := S.out.a1.1
      have o0 := OV.out.1.1
      have o1 := OV.out.2.1.1
      have o2 := OV.out.2.2.1
      have hBo2 : Hid (Bx < By) := Lib.hid (by have := hBo.out; omega)
      have hBo3 : Hid (By ≠ q ∧ By ≠ L ∧ By ≠ M) := Lib.hid (by have := hBo.out; have := S.out.lt; omega)
      by_cases k0 : kd = 0
      · subst k0
        go_upto_region 12 with fail
        obtain ⟨T2, hT2⟩ : ∃ T2, T2 = pushT t d mo T (y1, y2) := ⟨_, rfl⟩
        obtain ⟨be, hbe⟩ : ∃ be, be = pushB t d mo T (y1, y2) := ⟨_, rfl⟩
        obtain ⟨n5, hn5⟩ : ∃ n5, n5 = T2.length := ⟨_, rfl⟩
        have xb : (be != be) = false := by simp
        replace hT2 := Lib.hid hT2; replace hbe := Lib.hid hbe; replace hn5 := Lib.hid hn5
        go_upto_region 13 with (first | (go_at_call 12; (with_reducible refine (rpushQ_p S.out.o hTl.out y1 y2).mono ?_); rintro e w5 ⟨v5, rfl, O5, h5, F⟩; rw [← hbe.out]; rw [← hT2.out] at O5; have OE := S.out.up F O5 h5; have S2 := Lib.hid (S.out.below F); have OV2 := Lib.hid (OV.out.below F); replace S := S2; replace OV := OV2; clear S2 OV2; have z0 := S.out.x0.1; have z1 := S.out.x1.1; have z2 := S.out.x2.1; have z3 := S.out.x3.1; have a0 := S.out.a0.1; have a1 := S.out.a1.1; have o0 := OV.out.1.1; have o1 := OV.out.2.1.1; have o2 := OV.out.2.2.1; obtain ⟨A5, c5, rfl, -⟩ := O5.slice; rw [← hn5.out] at OE ⊢; replace OE := Lib.hid OE; clear O5 h5 F) | fail)
        have HA := Lib.hid (blA (Below.refl w5.heap.size w5) (.cells #[.int .i64 t, .int .i64 d, .int .i64 mo, .slice A5 n5 c5] 36))
        have S2 := Lib.hid (S.out.below HA.out)
        have OV2 := Lib.hid (OV.out.below HA.out)
        replace S := S2
        replace OV := OV2
        clear S2 OV2
        have z0 := S.out.x0.1
        have z1 := S.out.x1.1
        have z2 := S.out.x2.1
        have z3 := S.out.x3.1
        have a0 := S.out.a0.1
        have a1 := S.out.a1.1
        have o0 := OV.out.1.1
        have o1 := OV.out.2.1.1
        have o2 := OV.out.2.2.1
        have OE2 := Lib.hid (OE.out.alloc (.cells #[.int .i64 t, .int .i64 d, .int .i64 mo, .slice A5 n5 c5] 36))
        have zf0 := S.out.x0.2; have zf1 := S.out.x1.2; have zf2 := S.out.x2.2; have zf3 := S.out.x3.2
        have zl := S.out.x0.lt
        clear OE HA
        go_upto_region 14 with fail
        have S3 := Lib.hid (S.out.put OE2.out)
        have OV3 := Lib.hid (OV.out.put (v' := .slice A5 n5 c5) hBo2.out S.out)
        clear zf0 zf1 zf2 zf3 zl z0 z1 z2 z3 a0 a1 o0 o1 o2
        generalize (((((w5.alloc (.cells #[.int .i64 t, .int .i64 d, .int .i64 mo, .slice A5 n5 c5] 36)).setCell ⟨Bx, 0, none⟩ (.int .i64 t)).setCell ⟨Bx, 1, none⟩ (.int .i64 d)).setCell ⟨Bx, 2, none⟩ (.int .i64 mo)).setCell ⟨Bx, 3, none⟩ (.slice A5 n5 c5)) = w7 at *
        replace S := S3; replace OV := OV3; clear S3 OV3 OE2
        have z0 := S.out.x0.1
        have z1 := S.out.x1.1
        have z2 := S.out.x2.1
        have z3 := S.out.x3.1
        have a0 := S.out.a0.1
        have a1 := S.out.a1.1
        have o0 := OV.out.1.1
        have o1 := OV.out.2.1.1
        have o2 := OV.out.2.2.1
        go_wp2_with (first | (go_at_call 8; (with_reducible refine (pushQ_p S.out.s.s y1 y2).mono ?_); rintro e w8 ⟨rfl, K, F⟩; rw [← hbe.out]; rw [← hT2.out] at K; have S3 := Lib.hid (S.out.queue K F); have OV3 := Lib.hid (OV.out.fr F (quS_no (hBo3.out))); replace S := S3; replace OV := OV3; clear S3 OV3 K F; have z0 := S.out.x0.1; have z1 := S.out.x1.1; have z2 := S.out.x2.1; have z3 := S.out.x3.1; have a0 := S.out.a0.1; have a1 := S.out.a1.1; have o0 := OV.out.1.1; have o1 := OV.out.2.1.1; have o2 := OV.out.2.2.1) | (go_at_call 16; (with_reducible refine (same12_p S.out.s.s S.out.o hn5.out y1 y2).mono ?_); rintro e w9 ⟨rfl, F⟩; have S2 := Lib.hid (S.out.below F); have OV2 := Lib.hid (OV.out.below F); replace S := S2; replace OV := OV2; clear S2 OV2; have z0 := S.out.x0.1; have z1 := S.out.x1.1; have z2 := S.out.x2.1; have z3 := S.out.x3.1; have a0 := S.out.a0.1; have a1 := S.out.a1.1; have o0 := OV.out.1.1; have o1 := OV.out.2.1.1; have o2 := OV.out.2.2.1; clear F) | (go_at_call 16; (with_reducible refine (same12_p S.out.s.s S.out.o hn5.out ask1 ask2).mono ?_); rintro e w9 ⟨rfl, F⟩; have S2 := Lib.hid (S.out.below F); have OV2 := Lib.hid (OV.out.below F); replace S := S2; replace OV := OV2; clear S2 OV2; have z0 := S.out.x0.1; have z1 := S.out.x1.1; have z2 := S.out.x2.1; have z3 := S.out.x3.1; have a0 := S.out.a0.1; have a1 := S.out.a1.1; have o0 := OV.out.1.1; have o1 := OV.out.2.1.1; have o2 := OV.out.2.2.1; clear F) | fail)
        go_roundw
        case rel => exact ⟨i + 1, _, _, by go_num, S, Lib.hid hlt2.out⟩
        case measure => have := hlt2.out; simp [intOf]; omega
      by_cases k1 : kd = 1
      · subst k1
        obtain ⟨T2, hT2⟩ : ∃ T2, T2 = dropT T (y1, y2) := ⟨_, rfl⟩
        obtain ⟨be, hbe⟩ : ∃ be, be = decide ((y1, y2) ∈ T) := ⟨_, rfl⟩
        obtain ⟨n5, hn5⟩ : ∃ n5, n5 = T2.length := ⟨_, rfl⟩
        have xb : (be != be) = false := by simp
        replace hT2 := Lib.hid hT2; replace hbe := Lib.hid hbe; replace hn5 := Lib.hid hn5
        go_upto_region 18 with (first | (go_at_call 13; (with_reducible refine (rdropQ_p S.out.o hTl.out y1 y2).mono ?_); rintro e w5 ⟨v5, rfl, O5, h5, F⟩; rw [← hbe.out]; rw [← hT2.out] at O5; have OE := S.out.up F O5 h5; have S2 := Lib.hid (S.out.below F); have OV2 := Lib.hid (OV.out.below F); replace S := S2; replace OV := OV2; clear S2 OV2; have z0 := S.out.x0.1; have z1 := S.out.x1.1; have z2 := S.out.x2.1; have z3 := S.out.x3.1; have a0 := S.out.a0.1; have a1 := S.out.a1.1; have o0 := OV.out.1.1; have o1 := OV.out.2.1.1; have o2 := OV.out.2.2.1; obtain ⟨A5, c5, rfl, -⟩ := O5.slice; rw [← hn5.out] at OE ⊢; replace OE := Lib.hid OE; clear O5 h5 F) | fail)
        have HA := Lib.hid (blA (Below.refl w5.heap.size w5) (.cells #[.int .i64 t, .int .i64 d, .int .i64 mo, .slice A5 n5 c5] 36))
        have S2 := Lib.hid (S.out.below HA.out)
        have OV2 := Lib.hid (OV.out.below HA.out)
        replace S := S2
        replace OV := OV2
        clear S2 OV2
        have z0 := S.out.x0.1
        have z1 := S.out.x1.1
        have z2 := S.out.x2.1
        have z3 := S.out.x3.1
        have a0 := S.out.a0.1
        have a1 := S.out.a1.1
        have o0 := OV.out.1.1
        have o1 := OV.out.2.1.1
        have o2 := OV.out.2.2.1
        have OE2 := Lib.hid (OE.out.alloc (.cells #[.int .i64 t, .int .i64 d, .int .i64 mo, .slice A5 n5 c5] 36))
        have zf0 := S.out.x0.2; have zf1 := S.out.x1.2; have zf2 := S.out.x2.2; have zf3 := S.out.x3.2
        have zl := S.out.x0.lt
        clear OE HA
        go_upto_region 19 with fail
        have S3 := Lib.hid (S.out.put OE2.out)
        have OV3 := Lib.hid (OV.out.put (v' := .slice A5 n5 c5) hBo2.out S.out)
        clear zf0 zf1 zf2 zf3 zl z0 z1 z2 z3 a0 a1 o0 o1 o2
        generalize (((((w5.alloc (.cells #[.int .i64 t, .int .i64 d, .int .i64 mo, .slice A5 n5 c5] 36)).setCell ⟨Bx, 0, none⟩ (.int .i64 t)).setCell ⟨Bx, 1, none⟩ (.int .i64 d)).setCell ⟨Bx, 2, none⟩ (.int .i64 mo)).setCell ⟨Bx, 3, none⟩ (.slice A5 n5 c5)) = w7 at *
        replace S := S3; replace OV := OV3; clear S3 OV3 OE2
        have z0 := S.out.x0.1
        have z1 := S.out.x1.1
        have z2 := S.out.x2.1
        have z3 := S.out.x3.1
        have a0 := S.out.a0.1
        have a1 := S.out.a1.1
        have o0 := OV.out.1.1
        have o1 := OV.out.2.1.1
        have o2 := OV.out.2.2.1
        go_wp2_with (first | (go_at_call 14; (with_reducible refine (dropQ_p S.out.s.s y1 y2).mono ?_); rintro e w8 ⟨rfl, K, F⟩; rw [← hbe.out]; rw [← dropT_erase S.out.s.s.nd] at K; rw [← hT2.out] at K; have S3 := Lib.hid (S.out.queue K F); have OV3 := Lib.hid (OV.out.fr F (quS_no (hBo3.out))); replace S := S3; replace OV := OV3; clear S3 OV3 K F; have z0 := S.out.x0.1; have z1 := S.out.x1.1; have z2 := S.out.x2.1; have z3 := S.out.x3.1; have a0 := S.out.a0.1; have a1 := S.out.a1.1; have o0 := OV.out.1.1; have o1 := OV.out.2.1.1; have o2 := OV.out.2.2.1) | (go_at_call 16; (with_reducible refine (same12_p S.out.s.s S.out.o hn5.out y1 y2).mono ?_); rintro e w9 ⟨rfl, F⟩; have S2 := Lib.hid (S.out.below F); have OV2 := Lib.hid (OV.out.below F); replace S := S2; replace OV := OV2; clear S2 OV2; have z0 := S.out.x0.1; have z1 := S.out.x1.1; have z2 := S.out.x2.1; have z3 := S.out.x3.1; have a0 := S.out.a0.1; have a1 := S.out.a1.1; have o0 := OV.out.1.1; have o1 := OV.out.2.1.1; have o2 := OV.out.2.2.1; clear F) | (go_at_call 16; (with_reducible refine (same12_p S.out.s.s S.out.o hn5.out ask1 ask2).mono ?_); rintro e w9 ⟨rfl, F⟩; have S2 := Lib.hid (S.out.below F); have OV2 := Lib.hid (OV.out.below F); replace S := S2; replace OV := OV2; clear S2 OV2; have z0 := S.out.x0.1; have z1 := S.out.x1.1; have z2 := S.out.x2.1; have z3 := S.out.x3.1; have a0 := S.out.a0.1; have a1 := S.out.a1.1; have o0 := OV.out.1.1; have o1 := OV.out.2.1.1; have o2 := OV.out.2.2.1; clear F) | fail)
        go_roundw
        case rel => exact ⟨i + 1, _, _, by go_num, S, Lib.hid hlt2.out⟩
        case measure => have := hlt2.out; simp [intOf]; omega
      by_cases k2 : kd = 2
      · subst k2
        obtain ⟨T2, hT2⟩ : ∃ T2, T2 = T.tail := ⟨_, rfl⟩
        obtain ⟨be, hbe⟩ : ∃ be, be = decide (T ≠ []) := ⟨_, rfl⟩
        obtain ⟨n5, hn5⟩ : ∃ n5, n5 = T2.length := ⟨_, rfl⟩
        obtain ⟨⟨h1, h2⟩, hhd⟩ : ∃ z, T.headD (0, 0) = z := ⟨_, rfl⟩
        have xb : (be != be) = false := by simp
        replace hT2 := Lib.hid hT2; replace hbe := Lib.hid hbe; replace hn5 := Lib.hid hn5; replace hhd := Lib.hid hhd
        go_upto_region 23 with (first | (go_at_call 15; (with_reducible refine (rpopQ_p S.out.o hTl.out hhd.out).mono ?_); rintro e w5 ⟨v5, rfl, O5, h5, F⟩; rw [← hbe.out]; rw [← hT2.out] at O5; have OE := S.out.up F O5 h5; have S2 := Lib.hid (S.out.below F); have OV2 := Lib.hid (OV.out.below F); replace S := S2; replace OV := OV2; clear S2 OV2; have z0 := S.out.x0.1; have z1 := S.out.x1.1; have z2 := S.out.x2.1; have z3 := S.out.x3.1; have a0 := S.out.a0.1; have a1 := S.out.a1.1; have o0 := OV.out.1.1; have o1 := OV.out.2.1.1; have o2 := OV.out.2.2.1; have hlow5 := S.out.lt; obtain ⟨A5, c5, rfl, -⟩ := O5.slice; rw [← hn5.out] at OE ⊢; replace OE := Lib.hid OE; clear O5 h5 F) | fail)
        have HA := Lib.hid (blA (blA (Below.refl w5.heap.size w5) (.cells #[.int .i64 t, .int .i64 d, .int .i64 mo, .slice A5 n5 c5] 36)) (.cells #[.int .i64 h1, .int .i64 h2] 41))
        have S2 := Lib.hid (S.out.below HA.out)
        have OV2 := Lib.hid (OV.out.below HA.out)
        replace S := S2
        replace OV := OV2
        clear S2 OV2
        have z0 := S.out.x0.1
        have z1 := S.out.x1.1
        have z2 := S.out.x2.1
        have z3 := S.out.x3.1
        have a0 := S.out.a0.1
        have a1 := S.out.a1.1
        have o0 := OV.out.1.1
        have o1 := OV.out.2.1.1
        have o2 := OV.out.2.2.1
        have t0 := (Cel.new (w5.alloc (.cells #[.int .i64 t, .int .i64 d, .int .i64 mo, .slice A5 n5 c5] 36)) #[.int .i64 h1, .int .i64 h2] 41 0 (.int .i64 h1) rfl)
        have t1 := (Cel.new (w5.alloc (.cells #[.int .i64 t, .int .i64 d, .int .i64 mo, .slice A5 n5 c5] 36)) #[.int .i64 h1, .int .i64 h2] 41 1 (.int .i64 h2) rfl)
        have OE2 := Lib.hid ((OE.out.alloc (.cells #[.int .i64 t, .int .i64 d, .int .i64 mo, .slice A5 n5 c5] 36)).alloc (.cells #[.int .i64 h1, .int .i64 h2] 41))
        have zf0 := S.out.x0.2; have zf1 := S.out.x1.2; have zf2 := S.out.x2.2; have zf3 := S.out.x3.2
        have zl := S.out.x0.lt
        have hBt : Hid (Bx < (w5.alloc (.cells #[.int .i64 t, .int .i64 d, .int .i64 mo, .slice A5 n5 c5] 36)).heap.size ∧ (w5.alloc (.cells #[.int .i64 t, .int .i64 d, .int .i64 mo, .slice A5 n5 c5] 36)).heap.size ≠ q ∧ (w5.alloc (.cells #[.int .i64 t, .int .i64 d, .int .i64 mo, .slice A5 n5 c5] 36)).heap.size ≠ L ∧ (w5.alloc (.cells #[.int .i64 t, .int .i64 d, .int .i64 mo, .slice A5 n5 c5] 36)).heap.size ≠ M) := Lib.hid (by have h1 := HA.out.size; have h2 := hlow5; simp only [World.size_alloc] at *; omega)
        rw [World.size_alloc] at t0 t1 hBt
        replace t0 := Lib.hid t0; replace t1 := Lib.hid t1
        clear OE HA hlow5
        go_upto_region 24 with fail
        have S3 := Lib.hid (S.out.put OE2.out)
        have OV3 := Lib.hid (OV.out.put (v' := .slice A5 n5 c5) hBo2.out S.out)
        have u0 := Lib.hid ((((t0.out.other (b' := Bx) (o' := 0) (.inl (by have := hBt.out; omega)) (.int .i64 t)).other (b' := Bx) (o' := 1) (.inl (by have := hBt.out; omega)) (.int .i64 d)).other (b' := Bx) (o' := 2) (.inl (by have := hBt.out; omega)) (.int .i64 mo)).other (b' := Bx) (o' := 3) (.inl (by have := hBt.out; omega)) (.slice A5 n5 c5))
        have u1 := Lib.hid ((((t1.out.other (b' := Bx) (o' := 0) (.inl (by have := hBt.out; omega)) (.int .i64 t)).other (b' := Bx) (o' := 1) (.inl (by have := hBt.out; omega)) (.int .i64 d)).other (b' := Bx) (o' := 2) (.inl (by have := hBt.out; omega)) (.int .i64 mo)).other (b' := Bx) (o' := 3) (.inl (by have := hBt.out; omega)) (.slice A5 n5 c5))
        clear zf0 zf1 zf2 zf3 zl z0 z1 z2 z3 a0 a1 o0 o1 o2 t0 t1
        generalize ((((((w5.alloc (.cells #[.int .i64 t, .int .i64 d, .int .i64 mo, .slice A5 n5 c5] 36)).alloc (.cells #[.int .i64 h1, .int .i64 h2] 41)).setCell ⟨Bx, 0, none⟩ (.int .i64 t)).setCell ⟨Bx, 1, none⟩ (.int .i64 d)).setCell ⟨Bx, 2, none⟩ (.int .i64 mo)).setCell ⟨Bx, 3, none⟩ (.slice A5 n5 c5)) = w7 at *
        generalize w5.heap.size + 1 = Bt at *
        replace S := S3; replace OV := OV3; clear S3 OV3 OE2
        have z0 := S.out.x0.1
        have z1 := S.out.x1.1
        have z2 := S.out.x2.1
        have z3 := S.out.x3.1
        have a0 := S.out.a0.1
        have a1 := S.out.a1.1
        have o0 := OV.out.1.1
        have o1 := OV.out.2.1.1
        have o2 := OV.out.2.2.1
        have heq := eqTrT (rfl : ((h1, h2) : Th) = (h1, h2))
        dsimp only at heq
        go_upto_region 25 with (first | (go_at_call 11; (with_reducible refine (popQ_p S.out.s.s hhd.out).mono ?_); rintro e w8 ⟨rfl, K, F⟩; rw [← hbe.out]; rw [← hT2.out] at K; have S3 := Lib.hid (S.out.queue K F); have OV3 := Lib.hid (OV.out.fr F (quS_no (hBo3.out))); have t0 := u0.out.fr F (quS_no hBt.out.2 _); have t1 := u1.out.fr F (quS_no hBt.out.2 _); replace t0 := Lib.hid t0; replace t1 := Lib.hid t1; replace S := S3; replace OV := OV3; clear S3 OV3 K F; have z0 := S.out.x0.1; have z1 := S.out.x1.1; have z2 := S.out.x2.1; have z3 := S.out.x3.1; have a0 := S.out.a0.1; have a1 := S.out.a1.1; have o0 := OV.out.1.1; have o1 := OV.out.2.1.1; have o2 := OV.out.2.2.1) | fail)
        have HA := Lib.hid (blA (Below.refl w8.heap.size w8) (.cells #[.int .i64 h1, .int .i64 h2] 27))
        have r0 := (t0.out.bel2 HA.out).1
        have r1 := (t1.out.bel2 HA.out).1
        have s0 := (Cel.new w8 #[.int .i64 h1, .int .i64 h2] 27 0 (.int .i64 h1) rfl).1
        have s1 := (Cel.new w8 #[.int .i64 h1, .int .i64 h2] 27 1 (.int .i64 h2) rfl).1
        clear z0 z1 z2 z3 a0 a1 o0 o1 o2 u0 u1 t0 t1
        have S2 := Lib.hid (S.out.below HA.out)
        have OV2 := Lib.hid (OV.out.below HA.out)
        replace S := S2
        replace OV := OV2
        clear S2 OV2
        have z0 := S.out.x0.1
        have z1 := S.out.x1.1
        have z2 := S.out.x2.1
        have z3 := S.out.x3.1
        have a0 := S.out.a0.1
        have a1 := S.out.a1.1
        have o0 := OV.out.1.1
        have o1 := OV.out.2.1.1
        have o2 := OV.out.2.2.1
        clear HA
        generalize w8.alloc (.cells #[.int .i64 h1, .int .i64 h2] 27) = w9 at *
        generalize w8.heap.size = Bu at *
        go_wp2_with (first | (go_at_call 16; (with_reducible refine (same12_p S.out.s.s S.out.o hn5.out y1 y2).mono ?_); rintro e w9 ⟨rfl, F⟩; have S2 := Lib.hid (S.out.below F); have OV2 := Lib.hid (OV.out.below F); replace S := S2; replace OV := OV2; clear S2 OV2; have z0 := S.out.x0.1; have z1 := S.out.x1.1; have z2 := S.out.x2.1; have z3 := S.out.x3.1; have a0 := S.out.a0.1; have a1 := S.out.a1.1; have o0 := OV.out.1.1; have o1 := OV.out.2.1.1; have o2 := OV.out.2.2.1; clear F) | (go_at_call 16; (with_reducible refine (same12_p S.out.s.s S.out.o hn5.out ask1 ask2).mono ?_); rintro e w9 ⟨rfl, F⟩; have S2 := Lib.hid (S.out.below F); have OV2 := Lib.hid (OV.out.below F); replace S := S2; replace OV := OV2; clear S2 OV2; have z0 := S.out.x0.1; have z1 := S.out.x1.1; have z2 := S.out.x2.1; have z3 := S.out.x3.1; have a0 := S.out.a0.1; have a1 := S.out.a1.1; have o0 := OV.out.1.1; have o1 := OV.out.2.1.1; have o2 := OV.out.2.2.1; clear F) | fail)
        go_roundw
        case rel => exact ⟨i + 1, _, _, by go_num, S, Lib.hid hlt2.out⟩
        case measure => have := hlt2.out; simp [intOf]; omega
      · have e0 : (kd == 0) = false := beq_eq_false_iff_ne.mpr k0
        have e1 : (kd == 1) = false := beq_eq_false_iff_ne.mpr k1
        have e2 : (kd == 2) = false := beq_eq_false_iff_ne.mpr k2
        go_wp2_with (first | (go_at_call 16; (with_reducible refine (same12_p S.out.s.s S.out.o rfl y1 y2).mono ?_); rintro e w9 ⟨rfl, F⟩; have S2 := Lib.hid (S.out.below F); have OV2 := Lib.hid (OV.out.below F); replace S := S2; replace OV := OV2; clear S2 OV2; have z0 := S.out.x0.1; have z1 := S.out.x1.1; have z2 := S.out.x2.1; have z3 := S.out.x3.1; have a0 := S.out.a0.1; have a1 := S.out.a1.1; have o0 := OV.out.1.1; have o1 := OV.out.2.1.1; have o2 := OV.out.2.2.1; clear F) | (go_at_call 16; (with_reducible refine (same12_p S.out.s.s S.out.o rfl ask1 ask2).mono ?_); rintro e w9 ⟨rfl, F⟩; have S2 := Lib.hid (S.out.below F); have OV2 := Lib.hid (OV.out.below F); replace S := S2; replace OV := OV2; clear S2 OV2; have z0 := S.out.x0.1; have z1 := S.out.x1.1; have z2 := S.out.x2.1; have z3 := S.out.x3.1; have a0 := S.out.a0.1; have a1 := S.out.a1.1; have o0 := OV.out.1.1; have o1 := OV.out.2.1.1; have o2 := OV.out.2.2.1; clear F) | fail)
        go_roundw
        case rel => exact ⟨i + 1, _, _, by go_num, S, Lib.hid hlt2.out⟩
        case measure => have := hlt2.out; simp [intOf]; omega
    · have hB := Lib.hid S.out.s.b
      obtain rfl : i = n := by have := hi.out; omega
      clear hlt hi S
      go_wp2
      go_ret
      exact ⟨rfl, hB.out⟩
end Go.Proofs.Ythapdlgaccfbfaa
