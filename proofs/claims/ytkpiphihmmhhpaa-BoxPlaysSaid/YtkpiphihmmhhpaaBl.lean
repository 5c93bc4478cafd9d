/- Boxes: of two the first thing; how many wait. No condition. -/
import Derived.Test.YtkpiphihmmhhpaaBx
import Derived.Conc.LoneSelectN
namespace Go.Proofs.Ytkpiphihmmhhpaa
open Go.RowKit Go.Conc
set_option linter.unusedVariables false
set_option linter.unusedSimpArgs false
set_option maxRecDepth 100000


set_option maxHeartbeats 4000000 in
theorem len_int {w : World} {B c cap : Nat} {buf : List Value} (h : BoxS w B c cap buf) :
    Calls Try.prog 24 #[.pointer (some ⟨B, 0, none⟩)] w fun e w' => e = .returned (.int .i64 buf.length) ∧ w = w' := by
  obtain ⟨s, r, hch⟩ := h.ch
  have hp := h.p.1
  have hlen := fun ty => run_len_chan (P := Try.prog) 80 ty Try.underlying80 hch
  try simp only [List.size_toArray] at hlen
  clear h hch
  go_enter Try.func24, Try.ntmps24
  go_wp2
  go_ret
  exact ⟨rfl, rfl⟩

set_option maxHeartbeats 4000000 in
theorem len_thing {w : World} {B c cap : Nat} {buf : List Value} (h : BoxS w B c cap buf) :
    Calls Try.prog 18 #[.pointer (some ⟨B, 0, none⟩)] w fun e w' => e = .returned (.int .i64 buf.length) ∧ w = w' := by
  obtain ⟨s, r, hch⟩ := h.ch
  have hp := h.p.1
  have hlen := fun ty => run_len_chan (P := Try.prog) 77 ty Try.underlying77 hch
  try simp only [List.size_toArray] at hlen
  clear h hch
  go_enter Try.func18, Try.ntmps18
  go_wp2
  go_ret
  exact ⟨rfl, rfl⟩

set_option maxHeartbeats 4000000 in
theorem room_int {w : World} {B c cap : Nat} {buf : List Value} (h : BoxS w B c cap buf) :
    Calls Try.prog 39 #[.pointer (some ⟨B, 0, none⟩)] w fun e w' => e = .returned (.int .i64 cap) ∧ w = w' := by
  obtain ⟨s, r, hch⟩ := h.ch
  have hp := h.p.1
  have hlen := fun ty => run_cap_chan (P := Try.prog) 80 ty Try.underlying80 hch
  try simp only [List.size_toArray] at hlen
  clear h hch
  go_enter Try.func39, Try.ntmps39
  go_wp2
  go_ret
  exact ⟨rfl, rfl⟩
def capN (room : Int) : Nat := (max 0 (min room 4096)).toNat

theorem mk_int (w : World) (n : Nat) (hn : n ≤ 4096) : (Instr.makeChan 80 (.int .i64 (n : Int))).run Try.prog w = .ok (.chan (some w.heap.size)) (w.alloc (.chan n #[] false 0 0 false)) := by
  have h : (Try.prog.info? 3).map (·.bytes) = some 8 := by kernel_rfl
  obtain ⟨i, hi, hb⟩ := Option.map_eq_some_iff.1 h
  simpa using run_makeChan (P := Try.prog) (w := w) Try.underlying80 hi .i64 n (by omega) (by rw [hb]; omega)
set_option maxHeartbeats 4000000 in
theorem new_int (w : World) (room : Int) {cap : Nat} (hcap : cap = capN room) :
    Calls Try.prog 19 #[.int .i64 room] w fun e w' => ∃ B c, e = .returned (.pointer (some ⟨B, 0, none⟩)) ∧ BoxS w' B c cap [] ∧ w.heap.size ≤ B ∧ w.heap.size ≤ c ∧ Below w.heap.size w w' := by
  have hc : cap ≤ 4096 := by rw [hcap]; unfold capN; omega
  have three : (room ≤ 0 ∧ cap = 0) ∨ (0 < room ∧ room ≤ 4096 ∧ room = (cap : Int)) ∨ (4096 < room ∧ cap = 4096) := by rw [hcap]; unfold capN; omega
  have HC := Lib.hid hc
  have fin : Hid (∃ B c, Ending.returned (.pointer (some ⟨w.heap.size + 1, 0, none⟩)) = .returned (.pointer (some ⟨B, 0, none⟩)) ∧ BoxS ((w.alloc (.chan cap #[] false 0 0 false)).alloc (.cells #[.chan (some w.heap.size)] 82)) B c cap [] ∧ w.heap.size ≤ B ∧ w.heap.size ≤ c ∧ Below w.heap.size w ((w.alloc (.chan cap #[] false 0 0 false)).alloc (.cells #[.chan (some w.heap.size)] 82))) := Lib.hid (by
    refine ⟨w.heap.size + 1, w.heap.size, rfl, ⟨?_, ⟨0, 0, ?_⟩, by omega, ⟨HC.out, Nat.zero_le _⟩⟩, by omega, Nat.le_refl _, ?_⟩
    · have := Cel.new (w.alloc (.chan cap #[] false 0 0 false)) #[.chan (some w.heap.size)] 82 0 (.chan (some w.heap.size)) rfl
      rw [World.size_alloc] at this
      exact this
    · rw [Below.heap_alloc _ _ _ (by simp)]
      exact heap_alloc_new w _
    · exact ((Below.refl w.heap.size w).alloc (Nat.le_refl _) _).alloc (by simp) _)
  clear hcap hc
  rcases three with ⟨h1, rfl⟩ | ⟨h0, h1, rfl⟩ | ⟨h1, rfl⟩
  · have hmk : ∀ w : World, (Instr.makeChan 80 (.int .i64 0)).run Try.prog w = .ok (.chan (some w.heap.size)) (w.alloc (.chan 0 #[] false 0 0 false)) := fun w => mk_int w 0 (by omega)
    have h2 : room ≤ 4096 := by omega
    have h3 : ¬ 0 < room := by omega
    by_cases h4 : room = 0
    · subst h4
      go_enter Try.func19, Try.ntmps19
      go_wp2
      go_ret
      obtain ⟨B, c, k1, k2⟩ := fin.out; exact ⟨B, k1, c, k2⟩
    have h5 : room < 0 := by omega
    have h6 : ¬ 0 ≤ room := by omega
    go_enter Try.func19, Try.ntmps19
    go_wp2
    go_ret
    obtain ⟨B, c, k1, k2⟩ := fin.out; exact ⟨B, k1, c, k2⟩
  · have hmk := fun w => mk_int w cap HC.out
    have h2 := HC.out
    have h3 : ¬ ((cap : Int) < 0) := by omega
    have h4 : 0 < cap := by omega
    have h5 : ¬ cap = 0 := by omega
    have h6 : ¬ ((cap : Int) ≤ 0) := by omega
    go_enter Try.func19, Try.ntmps19
    go_wp2
    go_ret
    obtain ⟨B, c, k1, k2⟩ := fin.out; exact ⟨B, k1, c, k2⟩
  · have hmk : ∀ w : World, (Instr.makeChan 80 (.int .i64 4096)).run Try.prog w = .ok (.chan (some w.heap.size)) (w.alloc (.chan 4096 #[] false 0 0 false)) := fun w => mk_int w 4096 (by omega)
    have h2 : ¬ room ≤ 4096 := by omega
    go_enter Try.func19, Try.ntmps19
    go_wp2
    go_ret
    obtain ⟨B, c, k1, k2⟩ := fin.out; exact ⟨B, k1, c, k2⟩

theorem mk_string (w : World) (n : Nat) (hn : n ≤ 4096) : (Instr.makeChan 91 (.int .i64 (n : Int))).run Try.prog w = .ok (.chan (some w.heap.size)) (w.alloc (.chan n #[] false 0 0 false)) := by
  have h : (Try.prog.info? 9).map (·.bytes) = some 16 := by kernel_rfl
  obtain ⟨i, hi, hb⟩ := Option.map_eq_some_iff.1 h
  simpa using run_makeChan (P := Try.prog) (w := w) Try.underlying91 hi .i64 n (by omega) (by rw [hb]; omega)
set_option maxHeartbeats 4000000 in
theorem new_string (w : World) (room : Int) {cap : Nat} (hcap : cap = capN room) :
    Calls Try.prog 42 #[.int .i64 room] w fun e w' => ∃ B c, e = .returned (.pointer (some ⟨B, 0, none⟩)) ∧ BoxS w' B c cap [] ∧ w.heap.size ≤ B ∧ w.heap.size ≤ c ∧ Below w.heap.size w w' := by
  have hc : cap ≤ 4096 := by rw [hcap]; unfold capN; omega
  have three : (room ≤ 0 ∧ cap = 0) ∨ (0 < room ∧ room ≤ 4096 ∧ room = (cap : Int)) ∨ (4096 < room ∧ cap = 4096) := by rw [hcap]; unfold capN; omega
  have HC := Lib.hid hc
  have fin : Hid (∃ B c, Ending.returned (.pointer (some ⟨w.heap.size + 1, 0, none⟩)) = .returned (.pointer (some ⟨B, 0, none⟩)) ∧ BoxS ((w.alloc (.chan cap #[] false 0 0 false)).alloc (.cells #[.chan (some w.heap.size)] 93)) B c cap [] ∧ w.heap.size ≤ B ∧ w.heap.size ≤ c ∧ Below w.heap.size w ((w.alloc (.chan cap #[] false 0 0 false)).alloc (.cells #[.chan (some w.heap.size)] 93))) := Lib.hid (by
    refine ⟨w.heap.size + 1, w.heap.size, rfl, ⟨?_, ⟨0, 0, ?_⟩, by omega, ⟨HC.out, Nat.zero_le _⟩⟩, by omega, Nat.le_refl _, ?_⟩
    · have := Cel.new (w.alloc (.chan cap #[] false 0 0 false)) #[.chan (some w.heap.size)] 93 0 (.chan (some w.heap.size)) rfl
      rw [World.size_alloc] at this
      exact this
    · rw [Below.heap_alloc _ _ _ (by simp)]
      exact heap_alloc_new w _
    · exact ((Below.refl w.heap.size w).alloc (Nat.le_refl _) _).alloc (by simp) _)
  clear hcap hc
  rcases three with ⟨h1, rfl⟩ | ⟨h0, h1, rfl⟩ | ⟨h1, rfl⟩
  · have hmk : ∀ w : World, (Instr.makeChan 91 (.int .i64 0)).run Try.prog w = .ok (.chan (some w.heap.size)) (w.alloc (.chan 0 #[] false 0 0 false)) := fun w => mk_string w 0 (by omega)
    have h2 : room ≤ 4096 := by omega
    have h3 : ¬ 0 < room := by omega
    by_cases h4 : room = 0
    · subst h4
      go_enter Try.func42, Try.ntmps42
      go_wp2
      go_ret
      obtain ⟨B, c, k1, k2⟩ := fin.out; exact ⟨B, k1, c, k2⟩
    have h5 : room < 0 := by omega
    have h6 : ¬ 0 ≤ room := by omega
    go_enter Try.func42, Try.ntmps42
    go_wp2
    go_ret
    obtain ⟨B, c, k1, k2⟩ := fin.out; exact ⟨B, k1, c, k2⟩
  · have hmk := fun w => mk_string w cap HC.out
    have h2 := HC.out
    have h3 : ¬ ((cap : Int) < 0) := by omega
    have h4 : 0 < cap := by omega
    have h5 : ¬ cap = 0 := by omega
    have h6 : ¬ ((cap : Int) ≤ 0) := by omega
    go_enter Try.func42, Try.ntmps42
    go_wp2
    go_ret
    obtain ⟨B, c, k1, k2⟩ := fin.out; exact ⟨B, k1, c, k2⟩
  · have hmk : ∀ w : World, (Instr.makeChan 91 (.int .i64 4096)).run Try.prog w = .ok (.chan (some w.heap.size)) (w.alloc (.chan 4096 #[] false 0 0 false)) := fun w => mk_string w 4096 (by omega)
    have h2 : ¬ room ≤ 4096 := by omega
    go_enter Try.func42, Try.ntmps42
    go_wp2
    go_ret
    obtain ⟨B, c, k1, k2⟩ := fin.out; exact ⟨B, k1, c, k2⟩

theorem mk_thing (w : World) (n : Nat) (hn : n ≤ 4096) : (Instr.makeChan 77 (.int .i64 (n : Int))).run Try.prog w = .ok (.chan (some w.heap.size)) (w.alloc (.chan n #[] false 0 0 false)) := by
  have h : (Try.prog.info? 30).map (·.bytes) = some 24 := by kernel_rfl
  obtain ⟨i, hi, hb⟩ := Option.map_eq_some_iff.1 h
  simpa using run_makeChan (P := Try.prog) (w := w) Try.underlying77 hi .i64 n (by omega) (by rw [hb]; omega)
set_option maxHeartbeats 4000000 in
theorem new_thing (w : World) (room : Int) {cap : Nat} (hcap : cap = capN room) :
    Calls Try.prog 15 #[.int .i64 room] w fun e w' => ∃ B c, e = .returned (.pointer (some ⟨B, 0, none⟩)) ∧ BoxS w' B c cap [] ∧ w.heap.size ≤ B ∧ w.heap.size ≤ c ∧ Below w.heap.size w w' := by
  have hc : cap ≤ 4096 := by rw [hcap]; unfold capN; omega
  have three : (room ≤ 0 ∧ cap = 0) ∨ (0 < room ∧ room ≤ 4096 ∧ room = (cap : Int)) ∨ (4096 < room ∧ cap = 4096) := by rw [hcap]; unfold capN; omega
  have HC := Lib.hid hc
  have fin : Hid (∃ B c, Ending.returned (.pointer (some ⟨w.heap.size + 1, 0, none⟩)) = .returned (.pointer (some ⟨B, 0, none⟩)) ∧ BoxS ((w.alloc (.chan cap #[] false 0 0 false)).alloc (.cells #[.chan (some w.heap.size)] 79)) B c cap [] ∧ w.heap.size ≤ B ∧ w.heap.size ≤ c ∧ Below w.heap.size w ((w.alloc (.chan cap #[] false 0 0 false)).alloc (.cells #[.chan (some w.heap.size)] 79))) := Lib.hid (by
    refine ⟨w.heap.size + 1, w.heap.size, rfl, ⟨?_, ⟨0, 0, ?_⟩, by omega, ⟨HC.out, Nat.zero_le _⟩⟩, by omega, Nat.le_refl _, ?_⟩
    · have := Cel.new (w.alloc (.chan cap #[] false 0 0 false)) #[.chan (some w.heap.size)] 79 0 (.chan (some w.heap.size)) rfl
      rw [World.size_alloc] at this
      exact this
    · rw [Below.heap_alloc _ _ _ (by simp)]
      exact heap_alloc_new w _
    · exact ((Below.refl w.heap.size w).alloc (Nat.le_refl _) _).alloc (by simp) _)
  clear hcap hc
  rcases three with ⟨h1, rfl⟩ | ⟨h0, h1, rfl⟩ | ⟨h1, rfl⟩
  · have hmk : ∀ w : World, (Instr.makeChan 77 (.int .i64 0)).run Try.prog w = .ok (.chan (some w.heap.size)) (w.alloc (.chan 0 #[] false 0 0 false)) := fun w => mk_thing w 0 (by omega)
    have h2 : room ≤ 4096 := by omega
    have h3 : ¬ 0 < room := by omega
    by_cases h4 : room = 0
    · subst h4
      go_enter Try.func15, Try.ntmps15
      go_wp2
      go_ret
      obtain ⟨B, c, k1, k2⟩ := fin.out; exact ⟨B, k1, c, k2⟩
    have h5 : room < 0 := by omega
    have h6 : ¬ 0 ≤ room := by omega
    go_enter Try.func15, Try.ntmps15
    go_wp2
    go_ret
    obtain ⟨B, c, k1, k2⟩ := fin.out; exact ⟨B, k1, c, k2⟩
  · have hmk := fun w => mk_thing w cap HC.out
    have h2 := HC.out
    have h3 : ¬ ((cap : Int) < 0) := by omega
    have h4 : 0 < cap := by omega
    have h5 : ¬ cap = 0 := by omega
    have h6 : ¬ ((cap : Int) ≤ 0) := by omega
    go_enter Try.func15, Try.ntmps15
    go_wp2
    go_ret
    obtain ⟨B, c, k1, k2⟩ := fin.out; exact ⟨B, k1, c, k2⟩
  · have hmk : ∀ w : World, (Instr.makeChan 77 (.int .i64 4096)).run Try.prog w = .ok (.chan (some w.heap.size)) (w.alloc (.chan 4096 #[] false 0 0 false)) := fun w => mk_thing w 4096 (by omega)
    have h2 : ¬ room ≤ 4096 := by omega
    go_enter Try.func15, Try.ntmps15
    go_wp2
    go_ret
    obtain ⟨B, c, k1, k2⟩ := fin.out; exact ⟨B, k1, c, k2⟩
end Go.Proofs.Ytkpiphihmmhhpaa
