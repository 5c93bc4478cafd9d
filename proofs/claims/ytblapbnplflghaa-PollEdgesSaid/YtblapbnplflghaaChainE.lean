/- chain.New. -/
import Derived.Test.YtblapbnplflghaaChainD
import Derived.Test.YtblapbnplflghaaOwn
import Derived.Test.YtblapbnplflghaaMake
import Derived.BigRegion
import Derived.RegionTactic
import Derived.Deep.DeepCutAuto
import Derived.Deep.CutBlock
namespace Go.Proofs.Ytblapbnplflghaa
open Go.RowKit
set_option linter.unusedVariables false
set_option linter.unusedSimpArgs false

def Ch.fresh (n m : Nat) : Ch := ⟨n, m, fun _ _ => -1, fun _ f => if f = 2 then 0 else -1⟩
def capI (a : Int) : Int := max 0 (min a 4096)

theorem info96 : (Try.prog.info? 92).map (fun i => (i.zero, i.size, i.bytes)) = some (some (.agg #[.int .i64 0, .int .i64 0, .int .i64 0]), 3, 24) := by kernel_rfl
theorem info98 : (Try.prog.info? 94).map (fun i => (i.zero, i.size, i.bytes)) = some (some (.agg #[.int .i64 0, .int .i64 0, .int .i64 0]), 3, 24) := by kernel_rfl

/-- The lists as New makes them, ahead of its loops: the first i numbers, the first j lists are written. -/
def Ch.part (n m i j : Nat) : Ch := ⟨n, m, fun k _ => if k < i then -1 else 0, fun k f => if k < j then (if f = 2 then 0 else -1) else 0⟩

theorem made {w : World} {p L M n m : Nat} {Z1 Z2 : Array Value} {w1 : World}
    (z1 : ∀ k f, k < n → f < 3 → Z1[k * 3 + f]? = (Value.agg #[.int .i64 0, .int .i64 0, .int .i64 0]).cells[f]?)
    (z2 : ∀ k f, k < m → f < 3 → Z2[k * 3 + f]? = (Value.agg #[.int .i64 0, .int .i64 0, .int .i64 0]).cells[f]?)
    (n1 : n ≤ 4096) (m1 : m ≤ 4096) (hb : Below w.heap.size w w1) (h1 : ∀ o v, Z1[o]? = some v → Cel w1 L o v) (h2 : ∀ o v, Z2[o]? = some v → Cel w1 M o v)
    (hp : Cel w1 p 0 (.slice (some ⟨L, 0, none⟩) n n)) (hq : Cel w1 p 1 (.slice (some ⟨M, 0, none⟩) m m)) (a1 : L < w1.heap.size) (a2 : M < w1.heap.size) (a3 : p ≠ L) (a4 : p ≠ M) (a5 : L ≠ M) : ChC w1 p L M (Ch.part n m 0 0) := by
  have hz : ∀ f, f < 3 → (Value.agg #[.int .i64 0, .int .i64 0, .int .i64 0]).cells[f]? = some (.int .i64 0) := by
    intro f hf
    have : f = 0 ∨ f = 1 ∨ f = 2 := by omega
    rcases this with rfl | rfl | rfl <;> rfl
  refine ⟨hp, hq, fun k f hk hf => ?_, fun k f hk hf => ?_, a1, a2, a3, a4, a5, by simp only [Ch.part]; omega, by simp only [Ch.part]; omega⟩
  · exact h1 _ _ (by rw [z1 k f hk hf, hz f hf]; simp [Ch.part])
  · exact h2 _ _ (by rw [z2 k f hk hf, hz f hf]; simp [Ch.part])

theorem made1 {w : World} {n m : Nat} {Z1 Z2 : Array Value} {t1 t2 t3 : TypeId}
    (z1 : ∀ k f, k < n → f < 3 → Z1[k * 3 + f]? = (Value.agg #[.int .i64 0, .int .i64 0, .int .i64 0]).cells[f]?)
    (z2 : ∀ k f, k < m → f < 3 → Z2[k * 3 + f]? = (Value.agg #[.int .i64 0, .int .i64 0, .int .i64 0]).cells[f]?)
    (n1 : n ≤ 4096) (m1 : m ≤ 4096) : 
    let w1 := (((w.alloc (.cells Z1 t1)).alloc (.cells Z2 t2)).alloc (.cells #[.slice (some ⟨w.heap.size, 0, none⟩) n n, .slice (some ⟨w.heap.size + 1, 0, none⟩) m m] t3)).drew
    ChC w1 (w.heap.size + 1 + 1) w.heap.size (w.heap.size + 1) (Ch.part n m 0 0) ∧ Below w.heap.size w w1 := by
  intro w1
  have hb : Below w.heap.size w w1 := ((((Below.refl w.heap.size w).alloc (by omega) _).alloc (by simp) _).alloc (by simp; omega) _).drew
  have e1 : (w.alloc (.cells Z1 t1)).heap.size = w.heap.size + 1 := by simp
  have e2 : ((w.alloc (.cells Z1 t1)).alloc (.cells Z2 t2)).heap.size = w.heap.size + 1 + 1 := by simp
  have e3 : w1.heap.size = w.heap.size + 1 + 1 + 1 := by simp [w1, World.drew]
  refine ⟨made (w := w) z1 z2 n1 m1 hb (fun o v hv => (((Cel.new w Z1 t1 o v hv).alloc _).alloc _).drew) (fun o v hv => ?_) ?_ ?_ (by omega) (by omega) (by omega) (by omega) (by omega), hb⟩
  · have := ((Cel.new (w.alloc (.cells Z1 t1)) Z2 t2 o v hv).alloc (.cells #[.slice (some ⟨w.heap.size, 0, none⟩) n n, .slice (some ⟨w.heap.size + 1, 0, none⟩) m m] t3)).drew
    rw [e1] at this
    exact this
  · have := (Cel.new ((w.alloc (.cells Z1 t1)).alloc (.cells Z2 t2)) #[.slice (some ⟨w.heap.size, 0, none⟩) n n, .slice (some ⟨w.heap.size + 1, 0, none⟩) m m] t3 0 _ rfl).drew
    rw [e2] at this
    exact this
  · have := (Cel.new ((w.alloc (.cells Z1 t1)).alloc (.cells Z2 t2)) #[.slice (some ⟨w.heap.size, 0, none⟩) n n, .slice (some ⟨w.heap.size + 1, 0, none⟩) m m] t3 1 _ rfl).drew
    rw [e2] at this
    exact this
theorem made2 {w : World} {n m : Nat} {Z1 Z2 : Array Value} {t1 t2 t3 : TypeId}
    (z1 : ∀ k f, k < n → f < 3 → Z1[k * 3 + f]? = (Value.agg #[.int .i64 0, .int .i64 0, .int .i64 0]).cells[f]?)
    (z2 : ∀ k f, k < m → f < 3 → Z2[k * 3 + f]? = (Value.agg #[.int .i64 0, .int .i64 0, .int .i64 0]).cells[f]?)
    (n1 : n ≤ 4096) (m1 : m ≤ 4096) : 
    let w1 := (((w.alloc (.cells Z2 t2)).alloc (.cells Z1 t1)).alloc (.cells #[.slice (some ⟨w.heap.size + 1, 0, none⟩) n n, .slice (some ⟨w.heap.size, 0, none⟩) m m] t3)).drew
    ChC w1 (w.heap.size + 1 + 1) (w.heap.size + 1) w.heap.size (Ch.part n m 0 0) ∧ Below w.heap.size w w1 := by
  intro w1
  have hb : Below w.heap.size w w1 := ((((Below.refl w.heap.size w).alloc (by omega) _).alloc (by simp) _).alloc (by simp; omega) _).drew
  have e1 : (w.alloc (.cells Z2 t2)).heap.size = w.heap.size + 1 := by simp
  have e2 : ((w.alloc (.cells Z2 t2)).alloc (.cells Z1 t1)).heap.size = w.heap.size + 1 + 1 := by simp
  have e3 : w1.heap.size = w.heap.size + 1 + 1 + 1 := by simp [w1, World.drew]
  refine ⟨made (w := w) z1 z2 n1 m1 hb (fun o v hv => ?_) (fun o v hv => (((Cel.new w Z2 t2 o v hv).alloc _).alloc _).drew) ?_ ?_ (by omega) (by omega) (by omega) (by omega) (by omega), hb⟩
  · have := ((Cel.new (w.alloc (.cells Z2 t2)) Z1 t1 o v hv).alloc (.cells #[.slice (some ⟨w.heap.size + 1, 0, none⟩) n n, .slice (some ⟨w.heap.size, 0, none⟩) m m] t3)).drew
    rw [e1] at this
    exact this
  · have := (Cel.new ((w.alloc (.cells Z2 t2)).alloc (.cells Z1 t1)) #[.slice (some ⟨w.heap.size + 1, 0, none⟩) n n, .slice (some ⟨w.heap.size, 0, none⟩) m m] t3 0 _ rfl).drew
    rw [e2] at this
    exact this
  · have := (Cel.new ((w.alloc (.cells Z2 t2)).alloc (.cells Z1 t1)) #[.slice (some ⟨w.heap.size + 1, 0, none⟩) n n, .slice (some ⟨w.heap.size, 0, none⟩) m m] t3 1 _ rfl).drew
    rw [e2] at this
    exact this

theorem Ch.part_L {n m i : Nat} : ((((Ch.part n m i 0).setL i 0 (-1)).setL i 1 (-1)).setL i 2 (-1)).n = n := rfl
/-- The same but for what stands behind the fields. -/
theorem ChC.same {w : World} {p L M : Nat} {s s' : Ch} (h : ChC w p L M s) (h1 : s'.n = s.n) (h2 : s'.m = s.m) (h3 : ∀ k f, k < s.n → f < 3 → s'.lk k f = s.lk k f) (h4 : ∀ k f, k < s.m → f < 3 → s'.en k f = s.en k f) : ChC w p L M s' :=
  ⟨h1 ▸ h.pl, h2 ▸ h.pm, fun k f hk hf => by rw [h3 k f (by omega) hf]; exact h.hl k f (by omega) hf, fun k f hk hf => by rw [h4 k f (by omega) hf]; exact h.he k f (by omega) hf, h.lL, h.lM, h.dpl, h.dpm, h.dlm, by rw [h1]; exact h.bn, by rw [h2]; exact h.bm⟩

set_option maxRecDepth 100000 in
set_option maxHeartbeats 2000000 in
theorem new_c (w : World) (a b : Int) (n m : Nat) (hn : capI a = n) (hm : capI b = m) :
    Calls Try.prog 24 #[.int .i64 a, .int .i64 b] w fun e w' => ∃ p L M, e = .returned (.pointer (some ⟨p, 0, none⟩)) ∧ ChC w' p L M (Ch.fresh n m) ∧ w.heap.size ≤ p ∧ w.heap.size ≤ L ∧ w.heap.size ≤ M ∧ Below w.heap.size w w' := by
  have n1 : n ≤ 4096 := by unfold capI at hn; omega
  have m1 : m ≤ 4096 := by unfold capI at hm; omega
  have hn' : (if 0 < (if 4096 < a then 4096 else a) then (if 4096 < a then 4096 else a) else 0) = (n : Int) := by rw [← hn]; unfold capI; split <;> split <;> omega
  have hm' : (if 0 < (if 4096 < b then 4096 else b) then (if 4096 < b then 4096 else b) else 0) = (m : Int) := by rw [← hm]; unfold capI; split <;> split <;> omega
  clear hn hm
  obtain ⟨Z1, s1, z1, k1⟩ := make_eq (t := 87) Try.underlying87 info96 rfl rfl .i64 .i64 n (by omega) (by omega)
  obtain ⟨Z2, s2, z2, k2⟩ := make_eq (t := 88) Try.underlying88 info98 rfl rfl .i64 .i64 m (by omega) (by omega)
  replace z1 := Lib.hid z1; replace z2 := Lib.hid z2; replace s1 := Lib.hid s1; replace s2 := Lib.hid s2
  go_enter Try.func24, Try.ntmps24
  go_upto_region 1 with (fail)
  go_cut [5] (fun v wx => ∃ p L M, v = .pointer (some ⟨p, 0, none⟩) ∧ ChC wx p L M (Ch.part n m 0 0) ∧ w.heap.size ≤ p ∧ w.heap.size ≤ L ∧ w.heap.size ≤ M ∧ Below w.heap.size w wx)
  case first =>
    go_region
    all_goals (generalize (if (4096 : Int) < a then 4096 else a) = A1 at *; generalize (if (4096 : Int) < b then 4096 else b) = B1 at *; go_wp2_with fail; go_meet)
    · obtain ⟨q1, q2⟩ := made1 (w := w) (t1 := 92) (t2 := 94) (t3 := 90) z1.out z2.out n1 m1
      exact ⟨_, _, _, rfl, q1, by omega, by omega, by omega, q2⟩
    · obtain ⟨q1, q2⟩ := made2 (w := w) (t1 := 92) (t2 := 94) (t3 := 90) z1.out z2.out n1 m1
      exact ⟨_, _, _, rfl, q1, by omega, by omega, by omega, q2⟩
  case rest =>
    obtain ⟨p, L, M, rfl, H, b1, b2, b3, B0⟩ := hcut
    clear z1 z2 s1 s2 k1 k2
    obtain ⟨h0, f0⟩ := H.pl
    simp only [Ch.part] at h0
    replace H := Lib.hid H; replace B0 := Lib.hid B0; replace b1 := Lib.hid b1; replace b2 := Lib.hid b2; replace b3 := Lib.hid b3
    clear f0 hn' hm'
    go_wp2_with fail
    go_loopw [23] (fun k wr => ∃ i : Nat, k = .int .i64 i ∧ Hid (i ≤ n) ∧ Hid (ChC wr p L M (Ch.part n m i 0)) ∧ Hid (Below w.heap.size w wr)) (fun k wr => n - (intOf k).toNat)
    case atStart => exact ⟨0, rfl, Nat.zero_le _, H, B0⟩
    case round =>
      obtain ⟨i, rfl, c1, c2, c3⟩ := hrel
      by_cases hi : i < n
      · obtain ⟨g, e⟩ := c2.out.pl
        obtain ⟨g0, e0⟩ := c2.out.hl i 0 hi (by omega)
        obtain ⟨g1, e1⟩ := c2.out.hl i 1 hi (by omega)
        obtain ⟨g2, e2⟩ := c2.out.hl i 2 hi (by omega)
        rw [Nat.add_zero] at g0 e0
        have hn0 : (Ch.part n m i 0).n = n := rfl
        have q := ((c2.out.setL (k := i) (f := 0) hi (by omega) rfl (-1)).setL (k := i) (f := 1) hi (by omega) rfl (-1)).setL (k := i) (f := 2) hi (by omega) rfl (-1)
        have Q := Lib.hid q
        have b := ((c3.out.setCell (p := ⟨L, i * 3 + 0, none⟩) b2.out (.int .i64 (-1))).setCell (p := ⟨L, i * 3 + 1, none⟩) b2.out (.int .i64 (-1))).setCell (p := ⟨L, i * 3 + 2, none⟩) b2.out (.int .i64 (-1))
        have B := Lib.hid b
        clear q b
        simp only [Ch.part] at g
        go_wp2
        go_roundw
        case measure => simp [intOf]; omega
        case rel =>
          refine ⟨i + 1, by simp, Lib.hid (by omega), Lib.hid (Q.out.same rfl rfl (fun k f hk hf => ?_) (fun k f hk hf => rfl)), Lib.hid B.out⟩
          have : f = 0 ∨ f = 1 ∨ f = 2 := by omega
          simp only [Ch.setL, Ch.part]
          by_cases hki : k = i
          · subst hki
            rcases this with rfl | rfl | rfl <;> simp
          · by_cases hlt : k < i
            · rw [if_pos (by omega)]; simp [hki, hlt]
            · rw [if_neg (by omega)]; simp [hki, hlt]
      · obtain rfl : n = i := by have := c1.out; omega
        clear hi h0
        obtain ⟨g, e⟩ := c2.out.pm
        simp only [Ch.part] at g
        clear e
        go_wp2_with fail
        have C2 := c2; have C3 := c3
        clear g c2 c3
        go_loopw [39] (fun k wr => ∃ i : Nat, k = .int .i64 i ∧ Hid (i ≤ m) ∧ Hid (ChC wr p L M (Ch.part n m n i)) ∧ Hid (Below w.heap.size w wr)) (fun k wr => m - (intOf k).toNat)
        case atStart => exact ⟨0, rfl, Nat.zero_le _, C2, C3⟩
        case round =>
          obtain ⟨i, rfl, c1, c2, c3⟩ := hrel
          by_cases hi : i < m
          · obtain ⟨g, e⟩ := c2.out.pm
            obtain ⟨g0, e0⟩ := c2.out.he i 0 hi (by omega)
            obtain ⟨g1, e1⟩ := c2.out.he i 1 hi (by omega)
            obtain ⟨g2, e2⟩ := c2.out.he i 2 hi (by omega)
            rw [Nat.add_zero] at g0 e0
            have q := ((c2.out.setE (k := i) (f := 0) hi (by omega) rfl (-1)).setE (k := i) (f := 1) hi (by omega) rfl (-1)).setE (k := i) (f := 2) hi (by omega) rfl 0
            have Q := Lib.hid q
            have b := ((c3.out.setCell (p := ⟨M, i * 3 + 0, none⟩) b3.out (.int .i64 (-1))).setCell (p := ⟨M, i * 3 + 1, none⟩) b3.out (.int .i64 (-1))).setCell (p := ⟨M, i * 3 + 2, none⟩) b3.out (.int .i64 0)
            have B := Lib.hid b
            clear q b
            simp only [Ch.part] at g
            go_wp2
            go_roundw
            case measure => simp [intOf]; omega
            case rel =>
              refine ⟨i + 1, by simp, Lib.hid (by omega), Lib.hid (Q.out.same rfl rfl (fun k f hk hf => rfl) (fun k f hk hf => ?_)), Lib.hid B.out⟩
              have : f = 0 ∨ f = 1 ∨ f = 2 := by omega
              simp only [Ch.setE, Ch.part]
              by_cases hki : k = i
              · subst hki
                rcases this with rfl | rfl | rfl <;> simp
              · by_cases hlt : k < i
                · rw [if_pos (by omega)]; simp [hki, hlt]
                · rw [if_neg (by omega)]; simp [hki, hlt]
          · obtain rfl : m = i := by have := c1.out; omega
            clear hi
            go_wp2
            go_ret
            refine ⟨p, L, M, rfl, c2.out.same rfl rfl (fun k f hk hf => ?_) (fun k f hk hf => ?_), b1.out, b2.out, b3.out, c3.out⟩
            · simp only [Ch.part] at hk
              simp [Ch.part, Ch.fresh, hk]
            · simp only [Ch.part] at hk
              simp [Ch.part, Ch.fresh, hk]
end Go.Proofs.Ytblapbnplflghaa
