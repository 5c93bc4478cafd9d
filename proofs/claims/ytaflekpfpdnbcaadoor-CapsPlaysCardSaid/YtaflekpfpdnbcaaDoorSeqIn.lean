/- A drawn region in one order, within a round of a range over a function. -/
import Derived.Test.YtaflekpfpdnbcaaDoorSeq
import Derived.OrdersIn
import Derived.RangeFuncCalls
import Derived.TacticsIn
namespace Go.Proofs.YtaflekpfpdnbcaaDoor
open Go.RowKit
set_option linter.unusedVariables false
set_option linter.unusedSimpArgs false
set_option maxRecDepth 100000

section
variable {P : Program} {ops : Array Oper} {Q : Exit → Act → World → Prop} {md : Region.Mode} {lr n : Nat}
theorem wpOp_in {i : Nat} {K K' : Act → World → Prop} {a : Act} {w : World} (hd : ∀ o, ops[i]? = some o → (∀ c, o.op ≠ .defer c)) (hQ : ¬ LetsOut Q) (hK : ∀ a w, K a w → K' a w)
    (h : wpOp P ops Q i K a w) : wpOpIn (Fence.wide.inRound lr) n P ops Q i K' a w := by
  unfold wpOp at h
  unfold wpOpIn
  cases ho : ops[i]? with
  | none => rw [ho] at h; exact hK _ _ h
  | some o =>
    rw [ho] at h
    dsimp only at h ⊢
    by_cases hw : Region.wanted o (yielded ops a.tmps) = true
    · rw [if_pos hw] at h ⊢
      rcases h with h | h
      · refine ⟨fun _ _ => trivial, ?_⟩
        rw [Fence.inRound_round, Oper.semAt_some _ _ _ (hd o ho)]
        unfold Oper.wp at h
        revert h
        generalize (execOp a.eval o).run P w = r
        intro h
        match r, h with
        | .ok (.value v) w', h => exact hK _ _ h
        | .ok .skip w', h => exact hK _ _ h
        | .ok (.defer d) w', h => exact hK _ _ h
        | .ok (.enter f args) w', h =>
          refine ⟨fun e => (by cases e), CallsIn.inRound lr (callsIn_wide.2 (Calls.mono h (fun e w'' k => ?_)))⟩
          cases e with
          | returned v => exact hK _ _ k
          | panicked c => exact k
          | outgrown => exact k
        | .ok (.row row args) w', h =>
          exact ⟨fun e => (by cases e), fun c cs _ => by
            obtain ⟨v, w2, r, st⟩ := h c cs
            exact ⟨v, w2, hK _ _ r, stepsIn_wide.2 st⟩⟩
        | .halt (.panic v) w', h => exact h
      · exact absurd h.2 hQ
    · rw [if_neg hw] at h ⊢
      exact ⟨fun _ _ => trivial, hK _ _ h⟩
theorem wpAny_in (hd : ∀ (i : Nat) (o : Oper), ops[i]? = some o → (∀ c, o.op ≠ .defer c)) (hQ : ¬ LetsOut Q) : ∀ (fuel : Nat) (listed : Array Bool) (a : Act) (w : World), wpAny P md ops Q fuel listed a w → wpAnyIn (Fence.wide.inRound lr) n P md ops Q fuel listed a w
  | 0, listed, a, w, h => h
  | fuel + 1, listed, a, w, h => ⟨h.1, fun i hi => wpOp_in (hd i) hQ (fun a w k => wpAny_in hd hQ fuel _ a w k) (h.2 i hi)⟩
end
section
variable {P : Program} {l : List Oper} {Q : Exit → Act → World → Prop} {S : World → Prop} {a : Act} {w : World} {lr n : Nat}
def noDefer (l : List Oper) : Bool := l.all (fun o => match o.op with | .defer _ => false | _ => true)
theorem noDefer_spec (h : noDefer l = true) : ∀ (i : Nat) (o : Oper), l.toArray[i]? = some o → (∀ c, o.op ≠ .defer c) := by
  intro i o ho c e
  have hm : o ∈ l := List.mem_of_getElem? (by simpa using ho)
  have := List.all_eq_true.1 h o hm
  rw [e] at this
  cases this
theorem seq_startMIn {id : Nat} (m : Nat) (L : List (Nat × Bool)) (S : World → Prop) (hd : noDefer l = true) (hQ : ∀ a w, ¬ Q .outgrown a w) (hm : P.follows .mixedOrders = true) (hs : Region.noSelect l.toArray = true)
    (hn : L.length = l.length) (hok : seqOK .any l.toArray m (Array.replicate l.length false) L = true) (hS : S w.drew) (h : SeqH P .any l m (NoPanic Q) S L a w.drew) : (Code.region id l.toArray true).wpIn (Fence.wide.inRound lr) n P Q a w := by
  refine Code.wpIn_mono (Q := NoPanic Q) (fun e a w k => NoPanic.imp e a w k) (wpIn_region_any hm (wpAny_in (noDefer_spec hd) (fun k => ?_) _ _ _ _ (wpAny_of_M (S := S) (m := m) _ _ _ _ ?_)))
  · obtain ⟨a, w, k⟩ := k
    exact hQ a w k
  · have := h hS hs (fun _ _ _ _ _ h => h) _ (closedL_start _) hok
    rw [hn] at this
    simpa using this
end
end Go.Proofs.YtaflekpfpdnbcaaDoor
