/-
  A range over a function whose body must know what lies in memory behind that which it is handed: the round is met by whoever yields, with a word on the world as it is there.
-/
import Derived.Test.YtpohhlddbdepcaaV
import Derived.RangeFuncNested
import Derived.RangeFuncBound
import Derived.Shelf.Abstract
namespace Go.Proofs.Ytpohhlddbdepcaa
open Go.RowKit

/-- Whatever lay below B lies, and all cells. -/
structure KeepC (B : Nat) (A A' : World) : Prop where
  bel : Below B A A'
  cells : ∀ (k : Nat) (c : Array Value) (t : TypeId) (f : Nat × Nat), A.heap[k]? = some (.cells c t f) → A'.heap[k]? = some (.cells c t f)
theorem KeepC.put {B : Nat} {A : World} {l : Nat} {o o' : Obj} (h : A.heap[l]? = some o) (ho : o.isCells = false) (hB : B ≤ l) : KeepC B A (A.putObj l o') := by
  refine ⟨(Below.refl B A).grown (grownBy_putObj' A l o') (by have := (Array.getElem?_eq_some_iff.1 h).1; omega) (fun k e => by cases e; omega), fun k c t f hk => ?_⟩
  by_cases e : k = l
  · subst e; rw [hk] at h; cases h; cases ho
  · rw [World.putObj_heap_other e]; exact hk
theorem KeepC.of_below {B : Nat} {A A' : World} (h : Below A.heap.size A A') (hB : B ≤ A.heap.size) : KeepC B A A' :=
  ⟨h.mono hB, fun k _ _ _ hk => (h.block k (lt_of_heap hk)).trans hk⟩
theorem KeepC.refl (B : Nat) (A : World) : KeepC B A A := ⟨Below.refl _ _, fun _ _ _ _ h => h⟩
theorem KeepC.trans {B : Nat} {A A' A'' : World} (h : KeepC B A A') (k : KeepC B A' A'') : KeepC B A A'' := ⟨h.bel.trans k.bel, fun i c t f hi => k.cells i c t f (h.cells i c t f hi)⟩
theorem KeepC.blk {B : Nat} {A A' : World} (h : KeepC B A A') {b : Nat} {t : TypeId} {cs : Array Value} (hb : Blk A b t cs) : Blk A' b t cs := h.cells _ _ _ _ hb
theorem KeepC.bown {B lo : Nat} {A A' : World} (h : KeepC B A A') {v : Value} {l : List UInt8} (hb : BOwn lo A v l) : BOwn lo A' v l := by
  rcases hb with hb | ⟨b, c, cs, rfl, h1, h2, h3, h4⟩
  · exact .inl hb
  · exact .inr ⟨b, c, cs, rfl, h1, h2, h.cells _ _ _ _ h3, h4⟩
theorem KeepC.own {B : Nat} {A A' : World} (h : KeepC B A A') {base : Nat} {e : TypeId} {size n : Nat} {v : Value} {xs : List Value} (ho : A.ownsRow base e size v n xs) : A'.ownsRow base e size v n xs := by
  refine ⟨ho.1, ?_⟩
  rcases ho.2 with hn | ⟨g, cap, cur, rfl, hb, hg, rest⟩
  · exact .inl hn
  · exact .inr ⟨g, cap, cur, rfl, hb, h.cells _ _ _ _ hg, rest⟩
theorem KeepC.out {B lo : Nat} {A A' : World} (h : KeepC B A A') {v : Value} {cs : List MEnt} (ho : OutAt lo A v cs) : OutAt lo A' v cs :=
  ⟨h.own ho.row, fun m hm => ⟨h.bown (ho.each m hm).1, h.bown (ho.each m hm).2.1, (ho.each m hm).2.2⟩⟩

/-- How a round's body may be left. -/
def relPost (B n₀ : Nat) (I : Nat → World → Prop) (Ix : Code → Nat → World → Prop) (k : Nat) (W : World) : Exit → Act → World → Prop
  | .normal, _, W' => KeepsFrom B W W' ∧ Below n₀ W W' ∧ I k W'
  | .ret, _, W' => KeepsFrom B W W' ∧ Ix .ret k W'
  | .exit id, _, W' => KeepsFrom B W W' ∧ Ix (.exit id) k W'
  | .goto t, _, W' => KeepsFrom B W W' ∧ Ix (.goto t) k W'
  | .panic _, _, _ => False
  | .outgrown, _, _ => False

/-- The word of an iterator that yields N times at most; R k xs W0 W: xs may be yielded as the k-th at W, W0 being the world when the round before it had ended. -/
def SeqRel (F : Fence) (n : Nat) (P : Program) (g : Nat) (lb : Array Value) (R : Nat → Array Value → World → World → Prop) (n₀ N : Nat) (w : World) : Prop :=
  ∀ (l : Nat) (J Jx : Nat → World → Prop) (W : World), Below w.heap.size w W →
    (∀ k A B, J k A → Below A.heap.size A B → J k B) → (∀ k A B, Jx k A → Below A.heap.size A B → Jx k B) →
    (∀ k xs W0 W1, J k W0 → Below W0.heap.size W0 W1 → k < N → R k xs W0 W1 → YieldAt F (n - 1) P l xs W1 fun e W' => (e = .returned (.bool true) ∧ J (k + 1) W' ∧ Below n₀ W1 W') ∨ (e = .returned (.bool false) ∧ Jx (k + 1) W')) →
    J 0 W → CallsIn F n P g (#[.func (.yield l) #[] #[]] ++ lb) W fun e W' => (∃ v, e = .returned v) ∧ (J N W' ∨ ∃ k, k ≤ N ∧ Jx k W')

theorem range_rel {F : Fence} {n : Nat} {P : Program} {g : Operand} {ps : Array Tmp} {assign body : Code} {Q : Exit → Act → World → Prop} {a : Act} {w : World}
    (hro : F.round = none) (h1 : 1 ≤ n) {gf : Nat} {lb : Array Value} (hg : a.eval g = .func (.func gf) #[] lb) (hFg : F.fn gf) (eg : ∀ args w, (callFunc gf args).run P w = .ok (.enter gf args) w)
    {R : Nat → Array Value → World → World → Prop} {n₀ N : Nat} {w0 : World} (hseq : SeqRel F (n - 1) P gf lb R n₀ N w0) (hb0 : Below w0.heap.size w0 w) (hn₀ : n₀ ≤ w.heap.size) (hps : ∀ k xs W0 W, R k xs W0 W → xs.size = ps.size)
    (I : Nat → World → Prop) (Ix : Code → Nat → World → Prop) (Ax : Nat → Act → World → Prop)
    (hI : ∀ k A B, I k A → KeepC w.heap.size A B → I k B) (hIx : ∀ c k A B, Ix c k A → KeepC w.heap.size A B → Ix c k B) (hAx : ∀ k a' A B, Ax k a' A → KeepC w.heap.size A B → Ax k a' B) (h0 : I 0 w)
    (hassign : ∀ (l k : Nat) (xs : Array Value) (W0 W : World) (K : Act → World → Prop), I k W0 → Below W0.heap.size W0 W → k < N → R k xs W0 W → w.heap.size ≤ W0.heap.size → (∀ a' W', KeepsFrom w.heap.size W W' → Below n₀ W W' → Ax k a' W' → K a' W') →
      assign.wpIn (F.inRound l) (n - 1 - 1) P (Exit.then K (fun _ _ _ => False)) { tmps := (ps.zip xs).foldl (fun t (p, v) => t.setIfInBounds p v) a.tmps, defers := [] } W)
    (hbody : ∀ (l k : Nat) (a' : Act) (W : World), k < N → Ax k a' W → w.heap.size ≤ W.heap.size → body.wpIn (F.inRound l) (n - 1 - 1) P (relPost w.heap.size n₀ I Ix (k + 1) W) a' W)
    (hdone : ∀ (D : Nat) (W : World), w.heap.size ≤ D → I N W → W.heap[D]? = some (.deferred (some [])) → Q .normal { a with defers := { target := .collected D, args := #[] } :: a.defers } W)
    (hstop : ∀ (D : Nat) (c : Code) (k : Nat) (W : World), w.heap.size ≤ D → k ≤ N → Ix c k W → W.heap[D]? = some (.deferred (some [])) → c.wpIn F n P Q { a with defers := { target := .collected D, args := #[] } :: a.defers } W) :
    (Code.rangeFunc g ps assign body).wpIn F n P Q a w := by
  refine wpIn_rangeFunc fun fn hfn => ?_
  rw [hro]
  -- the record of the loop
  let rcd : LoopState → Option Code → Loop := fun st pe => { state := st, pending := pe, fn, tmps := a.tmps, params := ps, assign, body, defers := w.heap.size }
  have bW1 : Below w.heap.size w ((w.alloc (.deferred (some []))).alloc (.loop (rcd .ready none))) := (World.below_alloc (Nat.le_refl _) _).alloc (by simp) _
  have sW1 : ((w.alloc (.deferred (some []))).alloc (.loop (rcd .ready none))).heap.size = w.heap.size + 1 + 1 := by simp
  have lW1 : ((w.alloc (.deferred (some []))).alloc (.loop (rcd .ready none))).heap[w.heap.size + 1]? = some (.loop (rcd .ready none)) := by
    have := World.alloc_heap_new (w.alloc (.deferred (some []))) (.loop (rcd .ready none))
    rwa [World.size_alloc] at this
  have dW1 : ((w.alloc (.deferred (some []))).alloc (.loop (rcd .ready none))).heap[w.heap.size]? = some (.deferred (some [])) :=
    (Below.heap_alloc _ _ _ (by simp)).trans (World.alloc_heap_new w _)
  obtain ⟨W1, hW1⟩ : ∃ W1, (w.alloc (.deferred (some []))).alloc (.loop (rcd .ready none)) = W1 := ⟨_, rfl⟩
  rw [hW1] at bW1 sW1 lW1 dW1
  refine ⟨w.heap.size + 1, [{ target := .collected w.heap.size, args := #[] }], W1, { target := .fn (.func gf) lb, args := #[.func (.yield (w.heap.size + 1)) #[] #[]] }, W1, gf, #[.func (.yield (w.heap.size + 1)) #[] #[]] ++ lb, W1, ?_, ?_, ?_, ?_, fun _ => h1, ?_⟩
  · rw [← hW1]; exact run_enterLoop_outer _ _ _ _ _
  · simp only [resolve, hg]
    simp [go_sem]
  · intro f' hf'
    simp [Target.leads] at hf'
    subst hf'
    exact hFg
  · simp [invoke, go_sem, eg]
  refine (hseq (w.heap.size + 1)
    (fun k W => I k W ∧ W.heap[w.heap.size + 1]? = some (.loop (rcd .ready none)) ∧ W.heap[w.heap.size]? = some (.deferred (some [])))
    (fun k W => ∃ c, Ix c k W ∧ W.heap[w.heap.size + 1]? = some (.loop (rcd .done (some c))) ∧ W.heap[w.heap.size]? = some (.deferred (some [])))
    W1 (hb0.trans (bW1.mono hb0.size)) ?_ ?_ ?_ ⟨hI _ _ _ h0 (KeepC.of_below bW1 (Nat.le_refl _)), lW1, dW1⟩).mono ?_
  · rintro k A B ⟨hi, hl, hd⟩ hb
    have := lt_of_heap hl
    exact ⟨hI _ _ _ hi (KeepC.of_below hb (by omega)), (hb.block _ (lt_of_heap hl)).trans hl, (hb.block _ (lt_of_heap hd)).trans hd⟩
  · rintro k A B ⟨c, hi, hl, hd⟩ hb
    have := lt_of_heap hl
    exact ⟨c, hIx _ _ _ _ hi (KeepC.of_below hb (by omega)), (hb.block _ (lt_of_heap hl)).trans hl, (hb.block _ (lt_of_heap hd)).trans hd⟩
  · -- a round
    rintro k xs W0 W ⟨hi, hl0, hd0⟩ hb01 hk hR
    have hlt0 := lt_of_heap hl0
    have hl := (hb01.block _ hlt0).trans hl0
    have hd := (hb01.block _ (lt_of_heap hd0)).trans hd0
    have hlt := lt_of_heap hl
    refine ⟨fn, _, assign, body, run_yield hl (hps k xs W0 W hR), roundIn_of_wpIn hfn (hassign _ k xs W0 W _ hi hb01 hk hR (by omega) ?_)⟩
    intro a' Wa hkf hba hax
    have hla := hkf.same _ _ (by omega) hl rfl
    have hda := hkf.same _ _ (Nat.le_refl _) hd rfl
    have hlta := lt_of_heap hla
    refine ⟨_, run_beginRound hla rfl, ?_⟩
    have hkc := KeepC.put (B := w.heap.size) (o' := .loop { rcd .ready none with state := .busy }) hla rfl (by omega)
    have hlb : (Wa.putObj (w.heap.size + 1) (.loop { rcd .ready none with state := .busy })).heap[w.heap.size + 1]? = some (.loop { rcd .ready none with state := .busy }) := World.putObj_heap_same hlta
    have hdb : (Wa.putObj (w.heap.size + 1) (.loop { rcd .ready none with state := .busy })).heap[w.heap.size]? = some (.deferred (some [])) := (World.putObj_heap_other (by omega)).trans hda
    have hsb : w.heap.size ≤ (Wa.putObj (w.heap.size + 1) (.loop { rcd .ready none with state := .busy })).heap.size := by simp; omega
    have hbb : Below n₀ W (Wa.putObj (w.heap.size + 1) (.loop { rcd .ready none with state := .busy })) := hba.trans (hkc.bel.mono hn₀)
    have haxb := hAx _ _ _ _ hax hkc
    clear hax hkc hba hda hla hkf
    change body.wpIn _ _ _ _ _ (Wa.putObj (w.heap.size + 1) (.loop { rcd .ready none with state := .busy }))
    generalize Wa.putObj (w.heap.size + 1) (.loop { rcd .ready none with state := .busy }) = Wb at *
    refine wpIn_mono (hbody _ k a' Wb hk haxb hsb) ?_
    have fin : ∀ (jump : Option Code) (W3 : World), KeepsFrom w.heap.size Wb W3 →
        (Instr.endRound (w.heap.size + 1) jump).run P W3 = .ok (.bool jump.isNone) (W3.putObj (w.heap.size + 1) (.loop (rcd (if jump.isNone then .ready else .done) jump))) ∧
        KeepC w.heap.size W3 (W3.putObj (w.heap.size + 1) (.loop (rcd (if jump.isNone then .ready else .done) jump))) ∧
        (W3.putObj (w.heap.size + 1) (.loop (rcd (if jump.isNone then .ready else .done) jump))).heap[w.heap.size + 1]? = some (.loop (rcd (if jump.isNone then .ready else .done) jump)) ∧
        (W3.putObj (w.heap.size + 1) (.loop (rcd (if jump.isNone then .ready else .done) jump))).heap[w.heap.size]? = some (.deferred (some [])) := fun jump W3 h3 => by
      have hl3 := h3.same _ _ (by omega) hlb rfl
      have hd3 := h3.same _ _ (Nat.le_refl _) hdb rfl
      exact ⟨run_endRound jump hl3, KeepC.put hl3 rfl (by omega), World.putObj_heap_same (lt_of_heap hl3), (World.putObj_heap_other (by omega)).trans hd3⟩
    rintro e a3 W3 hp
    cases e with
    | normal =>
      obtain ⟨hk3, hb3, hi3⟩ := hp
      obtain ⟨hr, hkc, hl4, hd4⟩ := fin none W3 hk3
      exact ⟨_, _, hr, .inl ⟨rfl, ⟨hI _ _ _ hi3 hkc, hl4, hd4⟩, (hbb.trans hb3).trans (hkc.bel.mono hn₀)⟩⟩
    | ret =>
      obtain ⟨hk3, hi3⟩ := hp
      obtain ⟨hr, hkc, hl4, hd4⟩ := fin (some .ret) W3 hk3
      exact ⟨_, _, hr, .inr ⟨rfl, .ret, hIx _ _ _ _ hi3 hkc, hl4, hd4⟩⟩
    | exit id =>
      obtain ⟨hk3, hi3⟩ := hp
      obtain ⟨hr, hkc, hl4, hd4⟩ := fin (some (.exit id)) W3 hk3
      exact ⟨_, _, hr, .inr ⟨rfl, .exit id, hIx _ _ _ _ hi3 hkc, hl4, hd4⟩⟩
    | goto t =>
      obtain ⟨hk3, hi3⟩ := hp
      obtain ⟨hr, hkc, hl4, hd4⟩ := fin (some (.goto t)) W3 hk3
      exact ⟨_, _, hr, .inr ⟨rfl, .goto t, hIx _ _ _ _ hi3 hkc, hl4, hd4⟩⟩
    | panic ch => exact hp.elim
    | outgrown => exact hp.elim
  · -- behind the iterator
    rintro e W2 ⟨⟨v, rfl⟩, (⟨hi, hl, hd⟩ | ⟨k, hk, c, hi, hl, hd⟩)⟩
    · exact ⟨none, _, run_endLoop hl (by simp [rcd]), hdone _ _ (Nat.le_refl _) (hI _ _ _ hi (KeepC.put hl rfl (by omega))) ((World.putObj_heap_other (by omega)).trans hd)⟩
    · exact ⟨some c, _, run_endLoop hl (by simp [rcd]), hstop _ c k _ (Nat.le_refl _) hk (hIx _ _ _ _ hi (KeepC.put hl rfl (by omega))) ((World.putObj_heap_other (by omega)).trans hd)⟩
end Go.Proofs.Ytpohhlddbdepcaa
