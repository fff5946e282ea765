/-
  Plain laws of the search in a skiplist; no program is in sight.
-/
import Derived.Test.YtpohhlddbdepcaaP
namespace Go.Proofs.Ytpohhlddbdepcaa

/-! The search, level by level: hts are the heights in order; e is the place that is searched for. -/
/-- On level i, from k on, standing at p: how many are looked at, and where one stands behind them. -/
def lvl (i e : Nat) : List Nat → Nat → Nat → Nat × Nat
  | [], _, p => (0, p)
  | h :: r, k, p => if h ≤ i then lvl i e r (k + 1) p else if e ≤ k then (1, p) else ((lvl i e r (k + 1) (k + 1)).1 + 1, (lvl i e r (k + 1) (k + 1)).2)
/-- On the levels below n. -/
def stepsOf (hts : List Nat) (e : Nat) : Nat → Nat → Nat
  | 0, _ => 0
  | i + 1, p => (lvl i e (hts.drop p) p p).1 + stepsOf hts e i (lvl i e (hts.drop p) p p).2

section
variable {i e : Nat} {hts : List Nat}
theorem lvl_end {k p : Nat} (h : hts.length ≤ k) : lvl i e (hts.drop k) k p = (0, p) := by
  rw [List.drop_of_length_le h]; rfl
theorem lvl_skip {k p : Nat} (h : k < hts.length) (hi : hts[k] ≤ i) : lvl i e (hts.drop k) k p = lvl i e (hts.drop (k + 1)) (k + 1) p := by
  rw [List.drop_eq_getElem_cons h, lvl, if_pos hi]
theorem lvl_stop {k p : Nat} (h : k < hts.length) (hi : ¬ hts[k] ≤ i) (he : e ≤ k) : lvl i e (hts.drop k) k p = (1, p) := by
  rw [List.drop_eq_getElem_cons h, lvl, if_neg hi, if_pos he]
theorem lvl_move {k p : Nat} (h : k < hts.length) (hi : ¬ hts[k] ≤ i) (he : ¬ e ≤ k) : lvl i e (hts.drop k) k p = ((lvl i e (hts.drop (k + 1)) (k + 1) (k + 1)).1 + 1, (lvl i e (hts.drop (k + 1)) (k + 1) (k + 1)).2) := by
  rw [List.drop_eq_getElem_cons h, lvl, if_neg hi, if_neg he]
theorem lvl_skips {p : Nat} : ∀ (n k : Nat), (∀ j (h : j < hts.length), k ≤ j → j < k + n → hts[j] ≤ i) → lvl i e (hts.drop k) k p = lvl i e (hts.drop (k + n)) (k + n) p
  | 0, _, _ => rfl
  | n + 1, k, h => by
    by_cases hk : k < hts.length
    · rw [lvl_skip hk (h k hk (Nat.le_refl _) (by omega)), lvl_skips n (k + 1) (fun j hj h1 h2 => h j hj (by omega) (by omega))]
      rw [show k + (n + 1) = k + 1 + n from by omega]
    · rw [lvl_end (by omega), lvl_end (by omega)]
/-- No more than all are looked at on a level. -/
theorem lvl_le (l : List Nat) : ∀ (k p : Nat), (lvl i e l k p).1 ≤ l.length := by
  induction l with
  | nil => intro k p; simp [lvl]
  | cons h r ih =>
    intro k p
    rw [lvl]
    split
    · have := ih (k + 1) p; simp; omega
    · split
      · simp
      · have := ih (k + 1) (k + 1); simp; omega
theorem stepsOf_le : ∀ (n p : Nat), stepsOf hts e n p ≤ n * hts.length
  | 0, _ => by simp [stepsOf]
  | n + 1, p => by
    have h1 := lvl_le (i := n) (e := e) (hts.drop p) p p
    have h2 := stepsOf_le n (lvl n e (hts.drop p) p p).2
    rw [List.length_drop] at h1
    rw [stepsOf, Nat.add_mul]; omega
end
end Go.Proofs.Ytpohhlddbdepcaa
