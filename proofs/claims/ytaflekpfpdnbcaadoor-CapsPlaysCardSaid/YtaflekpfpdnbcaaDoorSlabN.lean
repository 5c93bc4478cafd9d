/- How a new slab grows, region by region. No condition. -/
import Derived.Test.YtaflekpfpdnbcaaDoorSlabS
namespace Go.Proofs.YtaflekpfpdnbcaaDoor
open Go.RowKit
set_option linter.unusedVariables false
set_option linter.unusedSimpArgs false
set_option linter.unusedSectionVars false
set_option maxRecDepth 100000

section
variable {α : Type} {E : Enc α} {pE : Enc Nat} {z0 : α}
def fresh (z0 : α) (ds : List RD) : List (List α × List Bool) := ds.map fun d => (List.replicate d.n z0, List.replicate d.n false)
/-- A slab that has got its first regions: places are taken up to from. -/
structure NewS (E : Enc α) (pE : Enc Nat) (z0 : α) (w : World) (base s b total k : Nat) (ns : List Nat) (v : Value) (ds : List RD) : Prop where
  vc : Cel w s 1 v
  own : OwnE pE w base v (ds.map RD.r)
  q : ∀ q, v.ownBlock = some q → q ≠ b ∧ q ≠ s ∧ ∀ d ∈ ds, q < d.lo ∨ d.hi ≤ q
  ok : ∀ d ∈ ds, d.Ok base s b
  ord : ds.Pairwise (fun d e => d.hi ≤ e.lo ∧ d.off + d.n * E.sz ≤ e.off)
  reg : ∀ d ∈ ds, RegS E w d.r b d.off d.n d.p d.g (List.replicate d.n z0) (List.replicate d.n false)
  sb : base ≤ s ∧ base ≤ b ∧ s ≠ b
  room : Cel w s 0 (.slice (some ⟨b, 0, none⟩) total total)
  cells : ∀ i f u, i < total → (E.f z0)[f]? = some u → Cel w b (i * E.sz + f) u
  tot : total = ns.sum
  nseq : ds.map RD.n = ns.take k
  kl : k ≤ ns.length
  from_ : ∀ d ∈ ds, d.off + d.n * E.sz ≤ (ns.take k).sum * E.sz
  hi : ∀ d ∈ ds, d.hi ≤ w.heap.size
  lt : s < w.heap.size ∧ b < w.heap.size
variable {w : World} {base s b total k : Nat} {ns : List Nat} {v : Value} {ds : List RD}
theorem NewS.slab (h : NewS E pE z0 w base s b total k ns v ds) : SlabS E pE w base w.heap.size s b ds (fresh z0 ds) := by
  refine ⟨⟨v, h.vc, h.own, fun q hq => ⟨(h.q q hq).1, (h.q q hq).2.1, (h.q q hq).2.2, (h.own.lt q hq).2⟩⟩, h.ok, h.ord, by simp [fresh], fun j d x hd hx => ?_, h.sb, ⟨h.lt.1, h.lt.2, fun d hd => (h.reg d hd).lt⟩⟩
  have : x = (List.replicate d.n z0, List.replicate d.n false) := by
    rw [fresh, List.getElem?_map, hd] at hx
    simpa using hx.symm
  subst this
  exact h.reg d (List.mem_of_getElem? hd)
theorem take_sum_succ {ns : List Nat} {k : Nat} (hk : k < ns.length) : (ns.take (k + 1)).sum = (ns.take k).sum + ns[k] := by
  rw [List.take_succ_eq_append_getElem hk, List.sum_append]; simp
theorem take_sum_le (ns : List Nat) (k : Nat) : (ns.take k).sum ≤ ns.sum := by
  have := congrArg List.sum (List.take_append_drop k ns)
  rw [List.sum_append] at this; omega
theorem NewS.below {w' : World} (h : NewS E pE z0 w base s b total k ns v ds) (F : Below w.heap.size w w') : NewS E pE z0 w' base s b total k ns v ds := by
  have K : ∀ {k o : Nat} {v : Value}, Cel w k o v → Cel w' k o v := fun hc => hc.frb (FrB.of_below (S := fun _ => False) F (Nat.le_refl _)) (fun h => h)
  exact ⟨K h.vc, h.own.below F, h.q, h.ok, h.ord, fun d hd => (h.reg d hd).below F, h.sb, K h.room, fun i f u hi hu => K (h.cells i f u hi hu), h.tot, h.nseq, h.kl, h.from_, fun d hd => Nat.le_trans (h.hi d hd) F.size, ⟨Nat.lt_of_lt_of_le h.lt.1 F.size, Nat.lt_of_lt_of_le h.lt.2 F.size⟩⟩
theorem NewS.drewN (h : NewS E pE z0 w base s b total k ns v ds) (m : Nat) : NewS E pE z0 (w.drewN m) base s b total k ns v ds := h.below (⟨rfl, rfl, rfl, Nat.le_refl _, fun _ _ => rfl⟩)
theorem NewS.drew (h : NewS E pE z0 w base s b total k ns v ds) : NewS E pE z0 w.drew base s b total k ns v ds := h.below (⟨rfl, rfl, rfl, Nat.le_refl _, fun _ _ => rfl⟩)
/-- One region more: its set came since wr, then its variable, the pointer that is put on, the row that grew, and the slab's row. -/
theorem NewS.step {wr w1 w4 : World} {p g : Nat} {Q : Option Addr} {v' : Value} {t1 t2 : TypeId} (h : NewS E pE z0 wr base s b total k ns v ds) (hb : base ≤ wr.heap.size) (hk : k < ns.length)
    (hS : SetB w1 p g (List.replicate ns[k] false)) (hp : wr.heap.size ≤ p) (hg : wr.heap.size ≤ g) (hB : Below wr.heap.size wr w1) (hQ : 0 < ns[k] → Q = some ⟨b, (ns.take k).sum * E.sz, none⟩)
    (hO : OwnE pE w4 base v' (ds.map RD.r ++ [w1.heap.size])) (hG : ((w1.alloc (.cells #[.slice Q ns[k] ns[k], .pointer (some ⟨p, 0, none⟩)] t1)).alloc (.cells #[.pointer (some ⟨w1.heap.size, 0, none⟩)] t2)).grownBy w4 v.ownBlock)
    (hv : v'.ownBlock = v.ownBlock ∨ v'.ownBlock = some (w1.heap.size + 2)) :
    ∃ ds', NewS E pE z0 (w4.setCell ⟨s, 1, none⟩ v') base s b total (k + 1) ns v' ds' := by
  obtain ⟨d, hd⟩ : ∃ d : RD, d = ⟨w1.heap.size, (ns.take k).sum * E.sz, ns[k], p, g, wr.heap.size, w1.heap.size + 1⟩ := ⟨_, rfl⟩
  have h1 := h.below hB
  have lt1 := hS.lt
  have eR : (w1.alloc (.cells #[.slice Q ns[k] ns[k], .pointer (some ⟨p, 0, none⟩)] t1)).heap.size = w1.heap.size + 1 := by simp
  have B3 : Below w1.heap.size w1 ((w1.alloc (.cells #[.slice Q ns[k] ns[k], .pointer (some ⟨p, 0, none⟩)] t1)).alloc (.cells #[.pointer (some ⟨w1.heap.size, 0, none⟩)] t2)) :=
    ((Below.refl _ _).alloc (Nat.le_refl _) _).alloc (by simp) _
  have c0 := (Cel.new w1 #[.slice Q ns[k] ns[k], .pointer (some ⟨p, 0, none⟩)] t1 0 _ rfl).alloc (.cells #[.pointer (some ⟨w1.heap.size, 0, none⟩)] t2)
  have c1 := (Cel.new w1 #[.slice Q ns[k] ns[k], .pointer (some ⟨p, 0, none⟩)] t1 1 _ rfl).alloc (.cells #[.pointer (some ⟨w1.heap.size, 0, none⟩)] t2)
  have h3 := h1.below B3
  have S3 := hS.below B3
  have l3 : ((w1.alloc (.cells #[.slice Q ns[k] ns[k], .pointer (some ⟨p, 0, none⟩)] t1)).alloc (.cells #[.pointer (some ⟨w1.heap.size, 0, none⟩)] t2)).heap.size = w1.heap.size + 2 := by simp
  generalize ((w1.alloc (.cells #[.slice Q ns[k] ns[k], .pointer (some ⟨p, 0, none⟩)] t1)).alloc (.cells #[.pointer (some ⟨w1.heap.size, 0, none⟩)] t2)) = w3 at *
  -- the row grows: whatever is not its block stays
  have F4 : FrB (fun k => v.ownBlock = some k) w3 w4 := FrB.grown hG
  have F5 : FrC (fun i j => (v.ownBlock = some i) ∨ (i = s ∧ j = 1)) w3 (w4.setCell ⟨s, 1, none⟩ v') :=
    ((FrC.of_frb F4).mono (fun i o h => .inl h)).then_ (FrC.set w4 s 1 v') (fun i o _ h => .inr h)
  have hsz := hB.size
  have hvq : ∀ q, v.ownBlock = some q → q < wr.heap.size ∧ base ≤ q := fun q hq => by have := h.own.lt q hq; omega
  have far : ∀ i, wr.heap.size ≤ i → i < w3.heap.size → ∀ o, ¬ ((v.ownBlock = some i) ∨ (i = s ∧ o = 1)) := fun i hi _ o e => by
    rcases e with e | e
    · have := hvq i e; omega
    · have := h.lt.1; omega
  have hbn : ∀ o, ¬ ((v.ownBlock = some b) ∨ (b = s ∧ o = 1)) := fun o e => by
    rcases e with e | e
    · exact (h.q b e).1 rfl
    · exact h.sb.2.2 e.1.symm
  have old : ∀ e ∈ ds, ∀ i, (e.lo ≤ i ∧ i < e.hi) → ∀ o, ¬ ((v.ownBlock = some i) ∨ (i = s ∧ o = 1)) := fun e he i hi o c => by
    rcases c with c | c
    · have := (h.q i c).2.2 e he; omega
    · have := (h.ok e he).s; omega
  have hs4 : Cel w4 s 1 v := h3.vc.frb F4 (fun e => (h.q s e).2.1 rfl)
  have lv' : ∀ q, v'.ownBlock = some q → q ≠ b ∧ q ≠ s ∧ (∀ e ∈ ds, q < e.lo ∨ e.hi ≤ q) ∧ (q < wr.heap.size ∨ w1.heap.size + 1 ≤ q) := fun q hq => by
    rcases hv with e | e
    · rw [e] at hq
      obtain ⟨q1, q2, q3⟩ := h.q q hq
      exact ⟨q1, q2, q3, .inl (hvq q hq).1⟩
    · rw [e] at hq
      injection hq with hq
      have := h.lt
      exact ⟨by omega, by omega, fun e he => .inr (by have := h.hi e he; omega), .inr (by omega)⟩
  have okd : d.Ok base s b := by
    subst hd
    have := h.lt
    exact ⟨⟨hsz, Nat.lt_succ_self _⟩, ⟨hp, Nat.lt_succ_of_lt lt1.1⟩, ⟨hg, Nat.lt_succ_of_lt lt1.2.1⟩, h.lt.2, h.lt.1, hb⟩
  have hnl : (ns.take (k + 1)).sum = (ns.take k).sum + ns[k] := take_sum_succ hk
  have hle := take_sum_le ns (k + 1)
  refine ⟨ds ++ [d], ⟨hs4.same v', ?_, fun q hq => ?_, ?_, ?_, ?_, h.sb, F5.cel _ _ _ (fun e => ?_) h3.room, fun i f u hi hu => F5.cel _ _ _ (hbn _) (h3.cells i f u hi hu), h.tot, ?_, by omega, ?_, ?_, ?_⟩⟩
  · rw [List.map_append]
    subst hd
    refine OwnE.other hO (a := ⟨s, 1, none⟩) (fun e => ?_) v'
    exact (lv' s e).2.1 rfl
  · obtain ⟨q1, q2, q3, q4⟩ := lv' q hq
    refine ⟨q1, q2, fun e he => ?_⟩
    rcases List.mem_append.1 he with he | he
    · exact q3 e he
    · have : e = d := by simpa using he
      subst this
      subst hd
      exact q4
  · intro e he
    rcases List.mem_append.1 he with he | he
    · exact h.ok e he
    · have : e = d := by simpa using he
      subst this; exact okd
  · refine List.pairwise_append.2 ⟨h.ord, by simp, fun e he e2 he2 => ?_⟩
    have : e2 = d := by simpa using he2
    subst this
    subst hd
    exact ⟨h.hi e he, h.from_ e he⟩
  · intro e he
    rcases List.mem_append.1 he with he | he
    · have ok := h.ok e he
      exact (h3.reg e he).frc F5 (old e he _ ok.r) (old e he _ ok.p) (old e he _ ok.g) (fun o _ _ => hbn o)
    · have : e = d := by simpa using he
      subst this
      subst hd
      refine ⟨⟨Q, F5.cel _ _ _ (far _ hsz (by omega) _) c0, hQ⟩, F5.cel _ _ _ (far _ hsz (by omega) _) c1, S3.frc F5 (far _ hp (by omega)) (far _ hg (by omega)), fun i hi j u hj => ?_, by simp, by simp, ?_⟩
      · rw [List.length_replicate] at hi
        rw [List.getElem_replicate] at hj
        dsimp only at hi
        have := h3.cells ((ns.take k).sum + i) j u (by rw [h.tot]; omega) hj
        rw [Nat.add_mul] at this
        exact F5.cel _ _ _ (hbn _) this
      · have := h.lt; have k1 := lt1.1; have k2 := lt1.2.1
        refine ⟨?_, ?_, ?_, ?_, ?_⟩ <;> (dsimp only; omega)
  · rcases e with e | e
    · exact (h.q s e).2.1 rfl
    · exact absurd e.2 (by decide)
  · rw [List.map_append, h.nseq, List.take_succ_eq_append_getElem hk]
    subst hd; rfl
  · intro e he
    rcases List.mem_append.1 he with he | he
    · have := h.from_ e he
      rw [hnl, Nat.add_mul]; omega
    · have : e = d := by simpa using he
      subst this
      subst hd
      show (ns.take k).sum * E.sz + ns[k] * E.sz ≤ _
      rw [hnl, Nat.add_mul]; omega
  · have h4 := hG.4
    intro e he
    rw [World.size_setCell]
    rcases List.mem_append.1 he with he | he
    · have := h.hi e he; omega
    · have : e = d := by simpa using he
      subst this
      subst hd
      show w1.heap.size + 1 ≤ _
      omega
  · have h4 := hG.4
    rw [World.size_setCell]
    have := h.lt
    exact ⟨by omega, by omega⟩
/-- A slab of one region is one region. -/
theorem SlabS.one {w0 : World} {base top s b m : Nat} {ds : List RD} (h : SlabS E pE w base top s b ds (fresh z0 ds)) (hn : ds.map RD.n = [m]) (hb : w0.heap.size ≤ base) (ht : top ≤ w.heap.size) (B : Below w0.heap.size w0 w) (T : Tab w0) :
    ∃ d, ds = [d] ∧ d.n = m ∧ OneR E w0 w d.r b d.off m d.p d.g (List.replicate m z0) (List.replicate m false) := by
  match ds, hn with
  | [d], hn =>
    have hm : d.n = m := by simpa using hn
    have R := h.reg 0 d (List.replicate d.n z0, List.replicate d.n false) rfl rfl
    have ok := h.ok d (by simp)
    rw [hm] at R
    have k1 := ok.r; have k2 := ok.p; have k3 := ok.g; have k4 := ok.base; have k5 := h.sb.2.1
    have k6 := h.tp.2.1
    exact ⟨d, rfl, hm, R, B, T, ⟨by omega, by omega, by omega, by omega⟩, by omega⟩
  | [], hn => simp at hn
  | _ :: _ :: _, hn => simp at hn
end
end Go.Proofs.YtaflekpfpdnbcaaDoor
