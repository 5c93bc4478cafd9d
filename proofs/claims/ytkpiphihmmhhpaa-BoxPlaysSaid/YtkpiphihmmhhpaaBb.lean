/- Boxes: one and two of them since a world; the document's example. No condition. -/
import Derived.Test.YtkpiphihmmhhpaaBa
import Derived.Test.YtkpiphihmmhhpaaBy
import Derived.Test.YtkpiphihmmhhpaaBl
namespace Go.Proofs.Ytkpiphihmmhhpaa
open Go.RowKit Go.Conc
set_option linter.unusedVariables false
set_option linter.unusedSimpArgs false
set_option maxRecDepth 100000

/-- A box that was made since w. -/
structure OneB (w wr : World) (B c cap : Nat) (buf : List Value) : Prop where
  s : BoxS wr B c cap buf
  lo : w.heap.size ≤ B ∧ w.heap.size ≤ c
  b : Below w.heap.size w wr
theorem OneB.op {w wr w2 : World} {B c cap : Nat} {buf buf' : List Value} (h : OneB w wr B c cap buf) (K : BoxS w2 B c cap buf') (F : FrB (fun k => k = c) wr w2) : OneB w w2 B c cap buf' :=
  ⟨K, h.lo, h.b.trans (F.below h.b.size (fun k hk e => by have := h.lo; omega))⟩
theorem OneB.below {w wr w2 : World} {B c cap : Nat} {buf : List Value} (h : OneB w wr B c cap buf) (F : Below wr.heap.size wr w2) : OneB w w2 B c cap buf :=
  ⟨h.s.below F, h.lo, h.b.trans (F.mono h.b.size)⟩
/-- Two boxes that were made since w. -/
structure TwoB (w wr : World) (B c cap : Nat) (buf : List Value) (B2 c2 cap2 : Nat) (buf2 : List Value) : Prop where
  a : OneB w wr B c cap buf
  b : OneB w wr B2 c2 cap2 buf2
  ne : B ≠ c2 ∧ B2 ≠ c ∧ c ≠ c2
theorem OneB.other {w wr w2 : World} {B c cap c' : Nat} {buf : List Value} (h : OneB w wr B c cap buf) (F : FrB (fun k => k = c') wr w2) (hn : B ≠ c' ∧ c ≠ c') (hc : w.heap.size ≤ c') : OneB w w2 B c cap buf :=
  ⟨h.s.frb F hn.1 hn.2, h.lo, h.b.trans (F.below h.b.size (fun k hk e => by omega))⟩
theorem TwoB.opA {w wr w2 : World} {B c cap B2 c2 cap2 : Nat} {buf buf' buf2 : List Value} (h : TwoB w wr B c cap buf B2 c2 cap2 buf2) (K : BoxS w2 B c cap buf') (F : FrB (fun k => k = c) wr w2) : TwoB w w2 B c cap buf' B2 c2 cap2 buf2 :=
  ⟨h.a.op K F, h.b.other F ⟨h.ne.2.1, fun e => h.ne.2.2 e.symm⟩ h.a.lo.2, h.ne⟩
theorem TwoB.opB {w wr w2 : World} {B c cap B2 c2 cap2 : Nat} {buf buf2 buf' : List Value} (h : TwoB w wr B c cap buf B2 c2 cap2 buf2) (K : BoxS w2 B2 c2 cap2 buf') (F : FrB (fun k => k = c2) wr w2) : TwoB w w2 B c cap buf B2 c2 cap2 buf' :=
  ⟨h.a.other F ⟨h.ne.1, h.ne.2.2⟩ h.b.lo.2, h.b.op K F, h.ne⟩
theorem TwoB.below {w wr w2 : World} {B c cap B2 c2 cap2 : Nat} {buf buf2 : List Value} (h : TwoB w wr B c cap buf B2 c2 cap2 buf2) (F : Below wr.heap.size wr w2) : TwoB w w2 B c cap buf B2 c2 cap2 buf2 :=
  ⟨h.a.below F, h.b.below F, h.ne⟩
theorem TwoB.new {w w1 w2 : World} {B c cap B2 c2 cap2 : Nat} {buf buf2 : List Value} (h : OneB w w1 B c cap buf) (K : BoxS w2 B2 c2 cap2 buf2) (l1 : w1.heap.size ≤ B2) (l2 : w1.heap.size ≤ c2) (F : Below w1.heap.size w1 w2) : TwoB w w2 B c cap buf B2 c2 cap2 buf2 :=
  ⟨h.below F, ⟨K, by have := h.b.size; omega, h.b.trans (F.mono h.b.size)⟩, by have := h.s.lt; omega⟩

set_option maxHeartbeats 4000000 in
theorem alive10_c (w : World) : Calls Try.prog 14 #[] w fun r w' => r = .returned (.bool true) ∧ Below w.heap.size w w' := by
  go_enter Try.func14, Try.ntmps14
  go_wp2_with fail
  refine (new_int w 2 (cap := 2) (by decide)).mono ?_
  rintro e w1 ⟨B, c, rfl, S, l1, l2, F⟩
  have S1 := Lib.hid (OneB.mk S ⟨l1, l2⟩ F)
  clear S l1 l2 F
  go_wp2_with fail
  refine (new_string w1 1 (cap := 1) (by decide)).mono ?_
  rintro e w2 ⟨B2, c2, rfl, S, l1, l2, F⟩
  have S2 := Lib.hid (TwoB.new S1.out S l1 l2 F)
  clear S l1 l2 F S1
  go_wp2_with fail
  refine (post_int S2.out.a.s 7).mono ?_
  rintro e w3 ⟨rfl, K, F⟩
  have S3 := Lib.hid (S2.out.opA K F)
  clear K F S2
  simp only [List.length_nil, Nat.zero_lt_succ, if_true, decide_true, List.nil_append] at S3 ⊢
  go_wp2_with fail
  refine (post_int S3.out.a.s 8).mono ?_
  rintro e w4 ⟨rfl, K, F⟩
  have S4 := Lib.hid (S3.out.opA K F)
  clear K F S3
  rw [if_pos (by decide)] at S4
  rw [show decide ([Value.int .i64 7].length < 2) = true from rfl]
  go_wp2_with fail
  refine (post_int S4.out.a.s 9).mono ?_
  rintro e w5 ⟨rfl, K, F⟩
  have S5 := Lib.hid (S4.out.opA K F)
  clear K F S4
  rw [if_neg (by decide)] at S5
  rw [show decide (([Value.int .i64 7] ++ [Value.int .i64 8]).length < 2) = false from rfl]
  go_wp2_with fail
  refine (post_string S5.out.b.s ⟨#[120]⟩).mono ?_
  rintro e w6 ⟨rfl, K, F⟩
  have S6 := Lib.hid (S5.out.opB K F)
  clear K F S5
  rw [if_pos (by decide)] at S6
  rw [show decide (([] : List Value).length < 1) = true from rfl]
  go_wp2_with fail
  refine (post_string S6.out.b.s ⟨#[121]⟩).mono ?_
  rintro e w7 ⟨rfl, K, F⟩
  have S7 := Lib.hid (S6.out.opB K F)
  clear K F S6
  rw [if_neg (by decide)] at S7
  rw [show decide ((([] : List Value) ++ [Value.string ⟨#[120]⟩]).length < 1) = false from rfl]
  go_wp2_with fail
  refine (fetch_int S7.out.a.s).mono ?_
  rintro e w8 ⟨rfl, K, F⟩
  have S8 := Lib.hid (S7.out.opA K F)
  clear K F S7
  rw [show decide ([Value.int .i64 7] ++ [Value.int .i64 8] ≠ []) = true from rfl, show ([Value.int .i64 7] ++ [Value.int .i64 8]).headD (.int .i64 0) = .int .i64 7 from rfl]
  rw [show ([Value.int .i64 7] ++ [Value.int .i64 8]).tail = [.int .i64 8] from rfl] at S8
  go_wp2_with fail
  refine (fetch_string S8.out.b.s).mono ?_
  rintro e w9 ⟨rfl, K, F⟩
  have S9 := Lib.hid (S8.out.opB K F)
  clear K F S8
  rw [show decide (([] : List Value) ++ [Value.string ⟨#[120]⟩] ≠ []) = true from rfl, show (([] : List Value) ++ [Value.string ⟨#[120]⟩]).headD (.string ByteArray.empty) = .string ⟨#[120]⟩ from rfl]
  rw [show (([] : List Value) ++ [Value.string ⟨#[120]⟩]).tail = [] from rfl] at S9
  go_wp2_with fail
  refine (fetch_string S9.out.b.s).mono ?_
  rintro e w10 ⟨rfl, K, F⟩
  have S10 := Lib.hid (S9.out.opB K F)
  clear K F S9
  rw [show decide (([] : List Value) ≠ []) = false from rfl, show ([] : List Value).headD (.string ByteArray.empty) = .string ⟨#[]⟩ from rfl]
  rw [show ([] : List Value).tail = [] from rfl] at S10
  go_wp2_with fail
  refine (new_int w10 1 (cap := 1) (by decide)).mono ?_
  rintro e w11 ⟨B3, c3, rfl, S, l1, l2, F⟩
  have S11 := Lib.hid (S10.out.below F)
  have T11 := Lib.hid (TwoB.new S10.out.a S l1 l2 F)
  clear S l1 l2 F S10
  go_wp2_with fail
  refine (either_b_int T11.out.b.s T11.out.a.s).mono ?_
  rintro e w12 ⟨rfl, K, F⟩
  have S12 := Lib.hid (S11.out.opA K F)
  clear K F S11 T11
  go_wp2_with fail
  refine (either_n_int S12.out.a.s S12.out.a.s).mono ?_
  rintro e w13 ⟨rfl, F⟩
  have S13 := Lib.hid (S12.out.below F)
  clear F S12
  go_wp2_with fail
  refine (len_int S13.out.a.s).mono ?_
  rintro e w14 ⟨rfl, rfl⟩
  rw [show (([] : List Value).length : Int) = 0 from rfl]
  go_wp2_with fail
  refine (room_int S13.out.a.s).mono ?_
  rintro e w14 ⟨rfl, rfl⟩
  go_wp2
  go_ret
  exact ⟨rfl, S13.out.a.b⟩
end Go.Proofs.Ytkpiphihmmhhpaa
