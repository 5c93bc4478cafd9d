/- LedgerKeys. -/
import Derived.Test.YtdgcppglpmlgkaaAl6
import Derived.Test.YtdgcppglpmlgkaaMapC
import Derived.Test.YtdgcppglpmlgkaaRow
import Derived.Maps.RangeWalk
namespace Go.Proofs.Ytdgcppglpmlgkaa
open Go.RowKit Go.Maps
set_option linter.unusedVariables false
set_option linter.unusedSimpArgs false
set_option linter.unusedSectionVars false
set_option maxRecDepth 100000

section
variable {κ : Type} [DecidableEq κ]
theorem limit_keys (L : List (κ × Int × Int)) (k : κ) (n : Int) : (bLimit L k n).map (·.1) = addK (L.map (·.1)) k := by
  unfold bLimit addK
  rw [keys_bset]
  by_cases h : getL L k = none
  · rw [if_pos h, if_neg ((get_none_iff L k).1 h)]
  · rw [if_neg h, if_pos (by have := mt (get_none_iff L k).2 h; simpa using this)]
theorem take_keys (L : List (κ × Int × Int)) (k : κ) (n : Int) : (bTake L k n).map (·.1) = L.map (·.1) := by
  unfold bTake
  split
  · rename_i ht
    rw [keys_bset, if_neg]
    intro hn
    unfold takeB at ht
    rw [hn] at ht
    cases ht
  · rfl
theorem take_get (L : List (κ × Int × Int)) (k : κ) (n : Int) (k' : κ) : getL (bTake L k n) k' = if k' = k ∧ takeB L k n = true then some (limV L k, usedV L k + n) else getL L k' := by
  unfold bTake
  split
  · rename_i ht
    rw [get_bset]
    by_cases e : k' = k <;> simp [e, ht]
  · rename_i ht
    simp [ht]
def In3K (L : List (κ × Int × Int)) : Prop := ∀ k p, getL L k = some p → p.1 = 3 ∧ 1 ≤ p.2 ∧ p.2 ≤ 3
theorem In3K.take {L : List (κ × Int × Int)} (h : In3K L) (k : κ) : In3K (bTake L k 1) := by
  intro k' p hp
  rw [take_get] at hp
  split at hp
  · rename_i hc
    injection hp with hp
    obtain ⟨_, ht⟩ := hc
    unfold takeB at ht
    split at ht
    · cases ht
    · rename_i q hq
      have := h k q hq
      simp at ht
      rw [← hp]
      unfold limV usedV
      rw [hq]
      simp only
      omega
  · exact h k' p hp
theorem In3K.more {L : List (κ × Int × Int)} (h : In3K L) (k : κ) : In3K (bTake (bLimit L k 3) k 1) := by
  have hu : 0 ≤ usedV L k ∧ usedV L k ≤ 3 := by
    unfold usedV
    split
    · omega
    · rename_i q hq
      have := h k q hq
      omega
  have hg : ∀ k', getL (bLimit L k 3) k' = if k' = k then some (3, usedV L k) else getL L k' := fun k' => by
    unfold bLimit
    rw [get_bset]; rfl
  have hgk := hg k
  rw [if_pos rfl] at hgk
  have ht : takeB (bLimit L k 3) k 1 = decide ((1 : Int) ≤ 3 - usedV L k) := by unfold takeB; rw [hgk]; simp
  intro k' p hp
  rw [take_get, ht, hg] at hp
  by_cases e : k' = k
  · by_cases h3 : usedV L k < 3
    · rw [if_pos ⟨e, by simp; omega⟩] at hp
      injection hp with hp
      have e1 : limV (bLimit L k 3) k = 3 := by unfold limV; rw [hgk]
      have e2 : usedV (bLimit L k 3) k = usedV L k := by conv => lhs; unfold usedV; rw [hgk]
      have p1 : p.1 = 3 := by rw [← hp]; exact e1
      have p2 : p.2 = usedV L k + 1 := by rw [← hp, ← e2]
      exact ⟨p1, by omega, by omega⟩
    · rw [if_neg (by simp; omega), if_pos e] at hp
      injection hp with hp
      have p1 : p.1 = 3 := by rw [← hp]
      have p2 : p.2 = usedV L k := by rw [← hp]
      exact ⟨p1, by omega, by omega⟩
  · rw [if_neg (by simp [e]), if_neg e] at hp
    exact h k' p hp
theorem addK_len (ks : List κ) (k : κ) : (addK ks k).length ≤ ks.length + 1 := by
  unfold addK
  split <;> simp
/-- How often each key came, of n. -/
def CntI (f : κ → Int) (ks : List κ) (n : Nat) : Prop := (∀ k, 0 ≤ f k ∧ f k ≤ n) ∧ (∀ k ∈ ks, 1 ≤ f k) ∧ ks.length ≤ n
theorem CntI.start : CntI (fun _ : κ => 0) ([] : List κ) 0 := ⟨fun k => by simp, fun k hk => by simp at hk, by simp⟩
theorem CntI.step {f : κ → Int} {ks : List κ} {n : Nat} (h : CntI f ks n) (k : κ) : CntI (updC f k (f k + 1)) (addK ks k) (n + 1) := by
  refine ⟨fun x => ?_, fun x hx => ?_, Nat.le_trans (addK_len ks k) (by have := h.2.2; omega)⟩
  · unfold updC
    have h1 := h.1 x
    have h2 := h.1 k
    split <;> omega
  · unfold updC
    have h2 := h.1 k
    split
    · omega
    · rename_i hne
      exact h.2.1 x ((mem_addK.1 hx).resolve_left hne)
end

/-- Two books and two maps, apart. -/
structure St6 (w0 w : World) (B : Nat) (v1 v2 : Value) (L1 : List (Int × Int × Int)) (L2 : List (ByteArray × Int × Int)) (n1 n2 : Nat) (f1 : Int → Int) (f2 : ByteArray → Int) (ks1 : List Int) (ks2 : List ByteArray) : Prop where
  b1 : Bk_i w B v1 L1
  b2 : Bk_s w (B + 1) v2 L2
  m1 : IsC kI w (B + 2) n1 f1 ks1
  m2 : IsC kS w (B + 3) n2 f2 ks2
  o1 : ∀ b, v1.ownBlock = some b → B + 4 ≤ b ∧ b < w.heap.size
  o2 : ∀ b, v2.ownBlock = some b → B + 4 ≤ b ∧ b < w.heap.size
  ne : ∀ b, v1.ownBlock = some b → v2.ownBlock ≠ some b
  low : w0.heap.size ≤ B
  lt : B + 4 ≤ w.heap.size
  bel : Below w0.heap.size w0 w
section
variable {w0 w w' : World} {B : Nat} {v1 v2 : Value} {L1 : List (Int × Int × Int)} {L2 : List (ByteArray × Int × Int)} {n1 n2 : Nat} {f1 : Int → Int} {f2 : ByteArray → Int} {ks1 : List Int} {ks2 : List ByteArray}
theorem St6.low1 (h : St6 w0 w B v1 v2 L1 L2 n1 n2 f1 f2 ks1 ks2) (b : Nat) (hb : b < w0.heap.size) : ¬ bkS_i B v1 b := fun hh => by
  have := h.low
  rcases hh with rfl | hh
  · omega
  · have := h.o1 b hh; omega
theorem St6.low2 (h : St6 w0 w B v1 v2 L1 L2 n1 n2 f1 f2 ks1 ks2) (b : Nat) (hb : b < w0.heap.size) : ¬ bkS_s (B + 1) v2 b := fun hh => by
  have := h.low
  rcases hh with rfl | hh
  · omega
  · have := h.o2 b hh; omega
theorem St6.step1 (h : St6 w0 w B v1 v2 L1 L2 n1 n2 f1 f2 ks1 ks2) {v : Value} {L : List (Int × Int × Int)} (K : Bk_i w' B v L) (O : v.ownBlock = v1.ownBlock ∨ ∃ b, v.ownBlock = some b ∧ w.heap.size ≤ b) (F : FrB (bkS_i B v1) w w') :
    St6 w0 w' B v v2 L L2 n1 n2 f1 f2 ks1 ks2 := by
  have hsz := F.size
  have hl := h.lt
  refine ⟨K, h.b2.fr F (fun hh => ?_) (fun b hb hh => ?_), h.m1.block (F.block _ h.m1.lt fun hh => ?_), h.m2.block (F.block _ h.m2.lt fun hh => ?_), fun b hb => ?_, fun b hb => ?_, fun b hb hb2 => ?_, h.low, by omega, h.bel.trans (F.below h.bel.size h.low1)⟩
  · rcases hh with hh | hh
    · omega
    · have := h.o1 _ hh; omega
  · rcases hh with hh | hh
    · have := h.o2 _ hb; omega
    · exact h.ne b hh hb
  · rcases hh with hh | hh
    · omega
    · have := h.o1 _ hh; omega
  · rcases hh with hh | hh
    · omega
    · have := h.o1 _ hh; omega
  · have h2 := K.own.lt b hb
    rcases O with e | ⟨b', e, hl⟩
    · rw [e] at hb; have := h.o1 b hb; omega
    · rw [e] at hb; injection hb with hb; omega
  · have := h.o2 b hb; omega
  · rcases O with e | ⟨b', e, hl⟩
    · rw [e] at hb; exact h.ne b hb hb2
    · rw [e] at hb; injection hb with hb; have := h.o2 b hb2; omega
theorem St6.step2 (h : St6 w0 w B v1 v2 L1 L2 n1 n2 f1 f2 ks1 ks2) {v : Value} {L : List (ByteArray × Int × Int)} (K : Bk_s w' (B + 1) v L) (O : v.ownBlock = v2.ownBlock ∨ ∃ b, v.ownBlock = some b ∧ w.heap.size ≤ b) (F : FrB (bkS_s (B + 1) v2) w w') :
    St6 w0 w' B v1 v L1 L n1 n2 f1 f2 ks1 ks2 := by
  have hsz := F.size
  have hl := h.lt
  refine ⟨h.b1.fr F (fun hh => ?_) (fun b hb hh => ?_), K, h.m1.block (F.block _ h.m1.lt fun hh => ?_), h.m2.block (F.block _ h.m2.lt fun hh => ?_), fun b hb => ?_, fun b hb => ?_, fun b hb hb2 => ?_, h.low, by omega, h.bel.trans (F.below h.bel.size h.low2)⟩
  · rcases hh with hh | hh
    · omega
    · have := h.o2 _ hh; omega
  · rcases hh with hh | hh
    · have := h.o1 _ hb; omega
    · exact h.ne b hb hh
  · rcases hh with hh | hh
    · omega
    · have := h.o2 _ hh; omega
  · rcases hh with hh | hh
    · omega
    · have := h.o2 _ hh; omega
  · have := h.o1 b hb; omega
  · have h2 := K.own.lt b hb
    rcases O with e | ⟨b', e, hl⟩
    · rw [e] at hb; have := h.o2 b hb; omega
    · rw [e] at hb; injection hb with hb; omega
  · rcases O with e | ⟨b', e, hl⟩
    · rw [e] at hb2; exact h.ne b hb hb2
    · rw [e] at hb2; injection hb2 with hb2; have := h.o1 b hb; omega
theorem St6.put1 (h : St6 w0 w B v1 v2 L1 L2 n1 n2 f1 f2 ks1 ks2) {n : Nat} {f : Int → Int} {ks : List Int} (M : IsC kI w' (B + 2) n f ks) (G : w.grownBy w' (some (B + 2))) : St6 w0 w' B v1 v2 L1 L2 n n2 f f2 ks ks2 := by
  have F := FrB.grown G
  have hsz := F.size
  have hl := h.lt
  have hlo := h.low
  have z : ∀ b : Nat, ¬ b = B + 2 → ¬ (some (B + 2) = some b) := fun b hb e => by injection e with e; exact hb e.symm
  exact ⟨h.b1.fr F (z _ (by omega)) (fun b hb => z b (by have := h.o1 b hb; omega)), h.b2.fr F (z _ (by omega)) (fun b hb => z b (by have := h.o2 b hb; omega)), M, h.m2.block (F.block _ h.m2.lt (z _ (by omega))),
    fun b hb => by have := h.o1 b hb; omega, fun b hb => by have := h.o2 b hb; omega, h.ne, h.low, by omega, h.bel.trans (F.below h.bel.size (fun b hb => z b (by omega)))⟩
theorem St6.put2 (h : St6 w0 w B v1 v2 L1 L2 n1 n2 f1 f2 ks1 ks2) {n : Nat} {f : ByteArray → Int} {ks : List ByteArray} (M : IsC kS w' (B + 3) n f ks) (G : w.grownBy w' (some (B + 3))) : St6 w0 w' B v1 v2 L1 L2 n1 n f1 f ks1 ks := by
  have F := FrB.grown G
  have hsz := F.size
  have hl := h.lt
  have hlo := h.low
  have z : ∀ b : Nat, ¬ b = B + 3 → ¬ (some (B + 3) = some b) := fun b hb e => by injection e with e; exact hb e.symm
  exact ⟨h.b1.fr F (z _ (by omega)) (fun b hb => z b (by have := h.o1 b hb; omega)), h.b2.fr F (z _ (by omega)) (fun b hb => z b (by have := h.o2 b hb; omega)), h.m1.block (F.block _ h.m1.lt (z _ (by omega))), M,
    fun b hb => by have := h.o1 b hb; omega, fun b hb => by have := h.o2 b hb; omega, h.ne, h.low, by omega, h.bel.trans (F.below h.bel.size (fun b hb => z b (by omega)))⟩
theorem St6.below (h : St6 w0 w B v1 v2 L1 L2 n1 n2 f1 f2 ks1 ks2) (F : Below w.heap.size w w') : St6 w0 w' B v1 v2 L1 L2 n1 n2 f1 f2 ks1 ks2 := by
  have hsz := F.size
  have hl := h.lt
  exact ⟨h.b1.below F, h.b2.below F, h.m1.block (F.block _ h.m1.lt), h.m2.block (F.block _ h.m2.lt), fun b hb => by have := h.o1 b hb; omega, fun b hb => by have := h.o2 b hb; omega, h.ne, h.low, by omega, h.bel.trans (F.mono h.bel.size)⟩
end
theorem sorted_at {κ : Type} {lt : κ → κ → Bool} {S : List κ} (h : Sorted lt S) {k : Nat} (h1 : k + 1 < S.length) : lt S[k] S[k + 1] = true := List.pairwise_iff_getElem.1 h k (k + 1) (by omega) h1 (by omega)

set_option maxHeartbeats 8000000 in
theorem keys6_walk (A0 : Option Addr) (c0 : Nat) (x0 : List Int) (A1 : Option Addr) (c1 : Nat) (x1 : List ByteArray) (w : World) (r0 : RowAt (fun x : Int => [.int .i64 x]) 1 w A0 x0) (r1 : RowAt (fun x : ByteArray => [.string x]) 1 w A1 x1)
    (g0 : ∀ x ∈ x0, (Lit.int .i64 x).wf = true) (g1 : ∀ x ∈ x1, x.size ≤ maxLen) (z0 : x0.length * 8 ≤ 140737488351232) (z1 : x1.length * 16 ≤ 140737488351232) :
    Calls Try.prog 7 #[.slice A0 x0.length c0, .slice A1 x1.length c1] w fun e w' => e = .returned (.bool true) ∧ Below w.heap.size w w' := by
  have hn : (x0.length : Int) < 9223372036854775808 := by omega
  by_cases hbig : 40 < x0.length
  · have hb1 : decide ((40 : Int) < (x0.length : Int)) = true := by simp; omega
    clear hbig r0 r1 z0 z1 g0 g1
    go_enter Try.func7, Try.ntmps7
    go_wp2_with fail
    refine (alive06_c w).mono ?_
    rintro e w1 ⟨rfl, hB1⟩
    have HB1 := Lib.hid hB1
    clear hB1
    go_wp2
    go_ret
    exact ⟨rfl, HB1.out⟩
  by_cases hbig2 : 40 < x1.length
  · have hb1 : decide ((40 : Int) < (x0.length : Int)) = false := by simp; omega
    have hb2 : decide ((40 : Int) < (x1.length : Int)) = true := by simp; omega
    clear hbig hbig2 r0 r1 z0 z1 g0 g1
    go_enter Try.func7, Try.ntmps7
    go_wp2_with fail
    refine (alive06_c w).mono ?_
    rintro e w1 ⟨rfl, hB1⟩
    have HB1 := Lib.hid hB1
    clear hB1
    go_wp2
    go_ret
    exact ⟨rfl, HB1.out⟩
  have hb1 : decide ((40 : Int) < (x0.length : Int)) = false := by simp; omega
  have hb2 : decide ((40 : Int) < (x1.length : Int)) = false := by simp; omega
  replace hbig := Lib.hid hbig; replace hbig2 := Lib.hid hbig2
  have HR0 := Lib.hid r0; have HR1 := Lib.hid r1
  replace g0 := Lib.hid g0; replace g1 := Lib.hid g1
  clear r0 r1 z0 z1 hn
  go_enter Try.func7, Try.ntmps7
  go_wp2_with fail
  refine (alive06_c w).mono ?_
  rintro e w1 ⟨rfl, HB1⟩
  obtain ⟨W, hW⟩ : ∃ W, W = (((w1.alloc (.cells #[.slice none 0 0] 43)).alloc (.cells #[.slice none 0 0] 26)).alloc (.map #[] 0)).alloc (.map #[] 0) := ⟨_, rfl⟩
  have hS : Hid (St6 w W w1.heap.size (.slice none 0 0) (.slice none 0 0) [] [] 0 0 (fun _ => 0) (fun _ => 0) [] []) := Lib.hid (by
    have C1 := (((Cel.new w1 #[.slice none 0 0] 43 0 _ rfl).alloc (.cells #[.slice none 0 0] 26)).alloc (.map #[] 0)).alloc (.map #[] 0)
    have C2 := ((Cel.new (w1.alloc (.cells #[.slice none 0 0] 43)) #[.slice none 0 0] 26 0 _ rfl).alloc (.map #[] 0)).alloc (.map #[] 0)
    have M1 := IsC.made (K := kI) ((w1.alloc (.cells #[.slice none 0 0] 43)).alloc (.cells #[.slice none 0 0] 26))
    have M2 := IsC.made (K := kS) (((w1.alloc (.cells #[.slice none 0 0] 43)).alloc (.cells #[.slice none 0 0] 26)).alloc (.map #[] 0))
    have M1' := M1.block (Below.heap_alloc _ (.map #[] 0) _ M1.lt)
    rw [hW]
    have e1 : (w1.alloc (.cells #[.slice none 0 0] 43)).heap.size = w1.heap.size + 1 := by simp
    have e2 : ((w1.alloc (.cells #[.slice none 0 0] 43)).alloc (.cells #[.slice none 0 0] 26)).heap.size = w1.heap.size + 2 := by simp
    have e3 : (((w1.alloc (.cells #[.slice none 0 0] 43)).alloc (.cells #[.slice none 0 0] 26)).alloc (.map #[] 0)).heap.size = w1.heap.size + 3 := by simp
    rw [e1] at C2
    rw [e2] at M1'
    rw [e3] at M2
    refine ⟨Bk_i.new _ _ C1, Bk_s.new _ _ C2, M1', M2, fun b hb => (by cases hb), fun b hb => (by cases hb), fun b hb => (by cases hb), HB1.size, by simp, ?_⟩
    have k0 := HB1.size
    exact Below.alloc (Below.alloc (Below.alloc (Below.alloc HB1 k0 _) (by simp; omega) _) (by simp; omega) _) (by simp; omega) _)
  have hmm := @run_makeMap Try.prog
  clear HB1
  go_wp2_with fail
  clear hmm
  rw [← hW]
  generalize w1.heap.size = B at *
  clear hW
  go_loopw [33] (fun ii wr => ∃ (i : Nat) (v : Value) (L : List (Int × Int × Int)) (f : Int → Int) (ks : List Int), ii = .int .i64 i ∧ Hid (St6 w wr B v (.slice none 0 0) L [] i 0 f (fun _ => 0) ks []) ∧ Hid (CntI f ks i) ∧ Hid (∀ x ∈ ks, (Lit.int .i64 x).wf = true) ∧ Hid (In3K L) ∧ Hid (L.map (·.1) = ks) ∧ Hid (i ≤ x0.length)) (fun ii _ => x0.length - (intOf ii).toNat)
  case atStart => exact ⟨0, _, _, _, _, rfl, hS, Lib.hid CntI.start, Lib.hid (fun x hx => by simp at hx), Lib.hid (fun k p h => by cases h), Lib.hid rfl, Lib.hid (Nat.zero_le _)⟩
  case round =>
    clear hS
    obtain ⟨i, v, L, f, ks, rfl, hS, hC, hgK, h3, hK, hi⟩ := hrel
    by_cases hlt : i < x0.length
    · have hi40 : i < 41 := by have := hbig.out; omega
      obtain ⟨b, off, rfl, hbl, hc⟩ := HR0.out i hlt
      have hz := (hS.out.bel.cell (p := ⟨b, off + i * 1 + 0, none⟩) hbl).trans (hc 0 _ rfl)
      rw [Nat.mul_one, Nat.add_zero] at hz
      have hzw := Lib.hid (g0.out x0[i] (List.getElem_mem hlt))
      generalize x0[i] = k0 at *
      have hl1 : Hid (L.length ≤ 40) := Lib.hid (by have h1 := hC.out.2.2; have h2 := congrArg List.length hK.out; rw [List.length_map] at h2; omega)
      clear hc hbl
      go_wp2_with fail
      refine (limit_i hS.out.b1 (by have := hl1.out; omega) k0 3 (by decide)).mono ?_
      rintro r w2 ⟨rfl, v', K, O, F⟩
      have S2 := Lib.hid (hS.out.step1 K O F)
      have hl2 : Hid ((bLimit L k0 3).length ≤ 41) := Lib.hid (by have h1 := bset_length L k0 (max 3 0, usedV L k0); have := hl1.out; unfold bLimit; omega)
      clear K O F hS
      go_wp2_with fail
      refine (take_i S2.out.b1 (by have := hl2.out; omega) k0 1).mono ?_
      rintro r w3 ⟨rfl, K, F⟩
      have S3 := Lib.hid (S2.out.step1 K (.inl rfl) F)
      have e3 := congrArg List.length (take_keys (bLimit L k0 3) k0 1)
      rw [List.length_map, List.length_map] at e3
      replace e3 := Lib.hid e3
      clear K F S2
      go_wp2_with fail
      refine (take_i S3.out.b1 (by have := hl2.out; have := e3.out; omega) (wrap64 (k0 + 1)) 1).mono ?_
      rintro r w4 ⟨rfl, K, F⟩
      have S4 := Lib.hid (S3.out.step1 K (.inl rfl) F)
      have hKn := Lib.hid (show ((bTake (bTake (bLimit L k0 3) k0 1) (wrap64 (k0 + 1)) 1).map (·.1)) = addK ks k0 by rw [take_keys, take_keys, limit_keys, hK.out])
      have h3n := Lib.hid ((h3.out.more k0).take (wrap64 (k0 + 1)))
      generalize bTake (bTake (bLimit L k0 3) k0 1) (wrap64 (k0 + 1)) 1 = Ln at *
      have hCn := Lib.hid (hC.out.step k0)
      have hfb := hC.out.1 k0
      have hfw : wrap64 (f k0 + 1) = f k0 + 1 := by unfold wrap64; omega
      have hwv := Lib.hid (show (Lit.int .i64 (f k0 + 1)).wf = true by simp [Lit.wf, IntKind.min, IntKind.max, IntKind.bits, IntKind.signed]; omega)
      clear K F S3 hl1 hl2 e3 h3 hK hC hfb
      go_wp2_with (first | (at_lookup; refine look_c (K := kI) (k := k0) rfl rfl Try.underlying50 rfl S4.out.m1 rfl (keyI hzw.out) ?_) | (at_mapUpdate; refine upd_c (K := kI) (k := k0) (y := f k0 + 1) rfl rfl Try.underlying50 rfl S4.out.m1 (by omega) rfl (keyI hzw.out) (by first | rfl | exact congrArg (Value.int .i64) hfw) hwv.out ?_))
      intro w5 M G
      have S5 := Lib.hid (S4.out.put1 M G)
      clear M G S4
      go_wp2
      exact ⟨⟨i + 1, _, _, _, _, by go_num, S5, hCn, Lib.hid (fun x hx => (mem_addK.1 hx).elim (fun e => by rw [e]; exact hzw.out) (hgK.out x)), h3n, hKn, Lib.hid (by omega)⟩, by simp [intOf]; omega⟩
    · have hi40 : i < 41 := by have := hbig.out; have := hi.out; omega
      replace hi := Lib.hid hi40
      clear hi40
      go_wp2_with fail
      clear hlt
      go_loopw [51] (fun ii wr2 => ∃ (j : Nat) (v2 : Value) (L2 : List (ByteArray × Int × Int)) (f2 : ByteArray → Int) (ks2 : List ByteArray), ii = .int .i64 j ∧ Hid (St6 w wr2 B v v2 L L2 i j f f2 ks ks2) ∧ Hid (CntI f2 ks2 j) ∧ Hid (∀ y ∈ ks2, y.size ≤ maxLen) ∧ Hid (L2.map (·.1) = ks2) ∧ Hid (j ≤ x1.length)) (fun ii _ => x1.length - (intOf ii).toNat)
      case atStart => exact ⟨0, _, _, _, _, rfl, hS, Lib.hid CntI.start, Lib.hid (fun x hx => by simp at hx), Lib.hid rfl, Lib.hid (Nat.zero_le _)⟩
      case round =>
        clear hS
        obtain ⟨j, v2, L2, f2, ks2, rfl, hS, hC2, hgK2, hK2, hj⟩ := hrel
        by_cases hlt : j < x1.length
        · have hi40 : j < 41 := by have := hbig2.out; omega
          obtain ⟨b, off, rfl, hbl, hc⟩ := HR1.out j hlt
          have hz := (hS.out.bel.cell (p := ⟨b, off + j * 1 + 0, none⟩) hbl).trans (hc 0 _ rfl)
          rw [Nat.mul_one, Nat.add_zero] at hz
          have hzw := Lib.hid (g1.out x1[j] (List.getElem_mem hlt))
          generalize x1[j] = k0 at *
          have hl1 : Hid (L2.length ≤ 40) := Lib.hid (by have h1 := hC2.out.2.2; have h2 := congrArg List.length hK2.out; rw [List.length_map] at h2; omega)
          clear hc hbl
          go_wp2_with fail
          refine (limit_s hS.out.b2 (by have := hl1.out; omega) k0 1 (by decide)).mono ?_
          rintro r w2 ⟨rfl, v', K, O, F⟩
          have S4 := Lib.hid (hS.out.step2 K O F)
          have hKn := Lib.hid (show ((bLimit L2 k0 1).map (·.1)) = addK ks2 k0 by rw [limit_keys, hK2.out])
          generalize bLimit L2 k0 1 = Ln at *
          have hCn := Lib.hid (hC2.out.step k0)
          have hfb := hC2.out.1 k0
          have hfw : wrap64 (f2 k0 + 1) = f2 k0 + 1 := by unfold wrap64; omega
          have hwv := Lib.hid (show (Lit.int .i64 (f2 k0 + 1)).wf = true by simp [Lit.wf, IntKind.min, IntKind.max, IntKind.bits, IntKind.signed]; omega)
          clear K F O hS hl1 hK2 hC2 hfb
          go_wp2_with (first | (at_lookup; refine look_c (K := kS) (k := k0) rfl rfl Try.underlying51 rfl S4.out.m2 rfl (keyS hzw.out) ?_) | (at_mapUpdate; refine upd_c (K := kS) (k := k0) (y := f2 k0 + 1) rfl rfl Try.underlying51 rfl S4.out.m2 (by omega) rfl (keyS hzw.out) (by first | rfl | exact congrArg (Value.int .i64) hfw) hwv.out ?_))
          intro w5 M G
          have S5 := Lib.hid (S4.out.put2 M G)
          clear M G S4
          go_wp2
          exact ⟨⟨j + 1, _, _, _, _, by go_num, S5, hCn, Lib.hid (fun x hx => (mem_addK.1 hx).elim (fun e => by rw [e]; exact hzw.out) (hgK2.out x)), hKn, Lib.hid (by omega)⟩, by simp [intOf]; omega⟩
        · have hl1 : Hid (L.length ≤ 41) := Lib.hid (by have h1 := hC.out.2.2; have h2 := congrArg List.length hK.out; rw [List.length_map] at h2; have := hi.out; omega)
          have hl2 : Hid (L2.length ≤ 41) := Lib.hid (by have h1 := hC2.out.2.2; have h2 := congrArg List.length hK2.out; rw [List.length_map] at h2; have := hj.out; have := hbig2.out; omega)
          go_wp2_with fail
          refine (keys_i hS.out.b1 (by have := hl1.out; omega)).mono ?_
          rintro r w2 ⟨vx, X, rfl, OX, SX, PX, F⟩
          have S2 := Lib.hid (hS.out.below F)
          have OX := Lib.hid OX
          clear F hS
          go_wp2_with fail
          refine (keys_s S2.out.b2 (by have := hl2.out; omega)).mono ?_
          rintro r w3 ⟨vy, Y, rfl, OY, SY, PY, F⟩
          have S3 := Lib.hid (S2.out.below F)
          replace OX := Lib.hid (OX.out.below F)
          replace OY := Lib.hid OY
          have hXl : Hid (X.length = L.length) := Lib.hid (by rw [PX.length_eq, List.length_map])
          have hYl : Hid (Y.length = L2.length) := Lib.hid (by rw [PY.length_eq, List.length_map])
          have hXm : Hid (∀ x ∈ X, x ∈ ks) := Lib.hid (fun x hx => by have := PX.mem_iff.1 hx; rw [hK.out] at this; exact this)
          have hYm : Hid (∀ y ∈ Y, y ∈ ks2) := Lib.hid (fun y hy => by have := PY.mem_iff.1 hy; rw [hK2.out] at this; exact this)
          have hkl : Hid (ks.length = L.length) := Lib.hid (by rw [← hK.out, List.length_map])
          have hkl2 : Hid (ks2.length = L2.length) := Lib.hid (by rw [← hK2.out, List.length_map])
          have SX' := Lib.hid SX; have SY' := Lib.hid SY
          have hgX := Lib.hid (show ∀ x ∈ X, (Lit.int .i64 x).wf = true from fun x hx => hgK.out x (hXm.out x hx))
          have hgY := Lib.hid (show ∀ y ∈ Y, y.size ≤ maxLen from fun y hy => hgK2.out y (hYm.out y hy))
          clear F S2 PX PY SX SY
          obtain ⟨AX, cX, rfl, _⟩ := OX.out.slice
          obtain ⟨AY, cY, rfl, _⟩ := OY.out.slice
          go_wp2_with fail
          go_loopw [66] (fun ii wr3 => ∃ (a : Nat), ii = .int .i64 a ∧ Hid (Below w3.heap.size w3 wr3) ∧ Hid (a ≤ X.length)) (fun ii _ => X.length - (intOf ii).toNat)
          case atStart => exact ⟨0, rfl, Lib.hid (Below.refl _ _), Lib.hid (Nat.zero_le _)⟩
          case round =>
            obtain ⟨a, rfl, HF, ha⟩ := hrel
            have SR := Lib.hid (S3.out.below HF.out)
            have OXr := Lib.hid (OX.out.below HF.out)
            have hX41 : X.length ≤ 41 := by rw [hXl.out]; exact hl1.out
            by_cases hax : a < X.length
            · obtain ⟨gX, cX', e, _, hgs, _⟩ := OXr.out.pos (by omega)
              injection e with e1 e2 e3
              subst e1; subst e3
              obtain ⟨hz, -⟩ := OwnE.cel (E := kE_i) (j := 0) OXr.out hax rfl
              rw [show a * kE_i.sz + 0 = a by show a * 1 + 0 = a; omega] at hz
              have hmem := hXm.out X[a] (List.getElem_mem hax)
              have hf1 := hC.out.2.1 _ hmem
              have hwx := Lib.hid (hgX.out X[a] (List.getElem_mem hax))
              have hu : ∃ u, usedV L X[a] = u ∧ 1 ≤ u ∧ u ≤ 3 := by
                have hne : getL L X[a] ≠ none := fun hn => (get_none_iff L X[a]).1 hn (by rw [hK.out]; exact hmem)
                cases hg : getL L X[a] with
                | none => exact absurd hg hne
                | some p => exact ⟨p.2, by unfold usedV; rw [hg], (h3.out _ _ hg).2⟩
              obtain ⟨u, hu, hu1, hu3⟩ := hu
              have d1 : decide (u < 1) = false := by simp; omega
              have d2 : decide (3 < u) = false := by simp; omega
              have d3 : (f X[a] == 0) = false := by rw [beq_eq_false_iff_ne]; omega
              have hp : ∀ a', a = a' + 1 → ∃ y, Cel wr gX a' (.int .i64 y) ∧ decide (X[a] ≤ y) = false := fun a' ha' => by
                subst ha'
                have h9 := OwnE.cel (E := kE_i) (j := 0) (i := a') OXr.out (by omega) rfl
                rw [show a' * kE_i.sz + 0 = a' by show a' * 1 + 0 = a'; omega] at h9
                exact ⟨_, h9, by have := sorted_at SX'.out hax; simp at this ⊢; omega⟩
              replace hp := Lib.hid hp
              obtain ⟨x, hx⟩ : ∃ x, x = X[a] := ⟨_, rfl⟩
              rw [← hx] at hz hwx hu d3 hp
              replace hu := Lib.hid hu
              clear hx hmem hf1 hu1 hu3 e2 hgs
              cases a with
              | zero =>
                clear hp
                go_wp2_with (first | (at_lookup; refine look_c (K := kI) (k := x) rfl rfl Try.underlying50 rfl SR.out.m1 rfl (keyI hwx.out) ?_))
                refine (used_i SR.out.b1 (by have := hl1.out; omega) x).mono ?_
                rintro r w5 ⟨rfl, rfl⟩
                rw [hu.out]
                go_wp2_with fail
                refine (used_i SR.out.b1 (by have := hl1.out; omega) x).mono ?_
                rintro r w5 ⟨rfl, rfl⟩
                rw [hu.out]
                go_wp2
                exact ⟨⟨1, by go_num, HF, Lib.hid (by omega)⟩, by simp [intOf]; omega⟩
              | succ a' =>
                obtain ⟨y, ⟨hy, -⟩, d4⟩ := hp.out a' rfl
                have hwa : wrap64 (((a' + 1 : Nat) : Int) - 1) = (a' : Int) := by unfold wrap64; omega
                have hwb : wrap64 ((a' : Int) + 1 - 1) = (a' : Int) := by unfold wrap64; omega
                have hw3 : IntKind.i64.wrap (a' : Int) = (a' : Int) := by rw [IntKind.wrap_i64]; omega
                have hi1 : a' < X.length := by omega
                clear hp
                go_wp2_with (first | (at_lookup; refine look_c (K := kI) (k := x) rfl rfl Try.underlying50 rfl SR.out.m1 rfl (keyI hwx.out) ?_))
                refine (used_i SR.out.b1 (by have := hl1.out; omega) x).mono ?_
                rintro r w5 ⟨rfl, rfl⟩
                rw [hu.out]
                go_wp2_with fail
                refine (used_i SR.out.b1 (by have := hl1.out; omega) x).mono ?_
                rintro r w5 ⟨rfl, rfl⟩
                rw [hu.out]
                go_wp2
                exact ⟨⟨a' + 2, by go_num, HF, Lib.hid (by omega)⟩, by simp [intOf]; omega⟩
            · clear OXr SR
              go_wp2_with fail
              clear hax
              go_loopw [101] (fun ii wr3 => ∃ (a : Nat), ii = .int .i64 a ∧ Hid (Below w3.heap.size w3 wr3) ∧ Hid (a ≤ Y.length)) (fun ii _ => Y.length - (intOf ii).toNat)
              case atStart => exact ⟨0, rfl, HF, Lib.hid (Nat.zero_le _)⟩
              case round =>
                clear HF
                obtain ⟨a, rfl, HF, ha⟩ := hrel
                have SR := Lib.hid (S3.out.below HF.out)
                have OYr := Lib.hid (OY.out.below HF.out)
                have hY41 : Y.length ≤ 41 := by rw [hYl.out]; exact hl2.out
                by_cases hax : a < Y.length
                · obtain ⟨gY, cY', e, _, hgs, _⟩ := OYr.out.pos (by omega)
                  injection e with e1 e2 e3
                  subst e1; subst e3
                  obtain ⟨hz, -⟩ := OwnE.cel (E := kE_s) (j := 0) OYr.out hax rfl
                  rw [show a * kE_s.sz + 0 = a by show a * 1 + 0 = a; omega] at hz
                  have hmem := hYm.out Y[a] (List.getElem_mem hax)
                  have hf1 := hC2.out.2.1 _ hmem
                  have hwx := Lib.hid (hgY.out Y[a] (List.getElem_mem hax))
                  have d3 : (f2 Y[a] == 0) = false := by rw [beq_eq_false_iff_ne]; omega
                  have hp : ∀ a', a = a' + 1 → ∃ y, Cel wr gY a' (.string y) ∧ sLt y Y[a] = true := fun a' ha' => by
                    subst ha'
                    have h9 := OwnE.cel (E := kE_s) (j := 0) (i := a') OYr.out (by omega) rfl
                    rw [show a' * kE_s.sz + 0 = a' by show a' * 1 + 0 = a'; omega] at h9
                    exact ⟨_, h9, sorted_at SY'.out hax⟩
                  replace hp := Lib.hid hp
                  obtain ⟨x, hx⟩ : ∃ x, x = Y[a] := ⟨_, rfl⟩
                  rw [← hx] at hz hwx d3 hp
                  clear hx hmem hf1 e2 hgs
                  cases a with
                  | zero =>
                    clear hp
                    go_wp2_with (first | (at_lookup; refine look_c (K := kS) (k := x) rfl rfl Try.underlying51 rfl SR.out.m2 rfl (keyS hwx.out) ?_))
                    exact ⟨⟨1, by go_num, HF, Lib.hid (by omega)⟩, by simp [intOf]; omega⟩
                  | succ a' =>
                    obtain ⟨y, ⟨hy, -⟩, d4⟩ := hp.out a' rfl
                    have hwa : wrap64 (((a' + 1 : Nat) : Int) - 1) = (a' : Int) := by unfold wrap64; omega
                    have hwb : wrap64 ((a' : Int) + 1 - 1) = (a' : Int) := by unfold wrap64; omega
                    have hw3 : IntKind.i64.wrap (a' : Int) = (a' : Int) := by rw [IntKind.wrap_i64]; omega
                    have hi1 : a' < Y.length := by omega
                    have hq : (binOp BinOp.geq 9 (.string y) (.string x)).run Try.prog wr = .ok (.bool false) wr := by
                      show Result.ok (Value.bool (!(Op.bytesLess y.toList x.toList))) wr = _
                      rw [show Op.bytesLess y.toList x.toList = true from d4]; rfl
                    clear hp
                    go_wp2_with (first | (at_lookup; refine look_c (K := kS) (k := x) rfl rfl Try.underlying51 rfl SR.out.m2 rfl (keyS hwx.out) ?_))
                    exact ⟨⟨a' + 2, by go_num, HF, Lib.hid (by omega)⟩, by simp [intOf]; omega⟩
                · have e5 : (ks.length : Int) = (X.length : Int) := by rw [hkl.out, hXl.out]
                  have e6 : (ks2.length : Int) = (Y.length : Int) := by rw [hkl2.out, hYl.out]
                  have q1 := lenc_run (K := kI) (t := 50) SR.out.m1 Try.underlying50 3
                  have q2 := lenc_run (K := kS) (t := 51) SR.out.m2 Try.underlying51 3
                  rw [hkl.out, ← hXl.out] at q1
                  rw [hkl2.out, ← hYl.out] at q2
                  clear e5 e6
                  go_wp2
                  go_ret
                  exact ⟨by simp, SR.out.bel⟩
end Go.Proofs.Ytdgcppglpmlgkaa
