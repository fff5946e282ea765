/-
  Plain laws of the links when a node is put in.
-/
import Derived.Test.YtpohhlddbdepcaaO
namespace Go.Proofs.Ytpohhlddbdepcaa
open Go.RowKit

section
variable {ns : List SN}
theorem IsBp.uniq {p j q q' : Nat} (h : IsBp ns p j q) (h' : IsBp ns p j q') : q = q' := by
  have key : ∀ {a b : Nat}, IsBp ns p j a → IsBp ns p j b → ¬ a < b := by
    rintro a b ⟨a1, a2, a3, a4⟩ ⟨b1, b2, b3, b4⟩ hab
    obtain ⟨c, rfl⟩ : ∃ c, b = c + 1 := ⟨b - 1, by omega⟩
    have := a3 c (by omega) (by omega) (by omega)
    rw [htOf_succ (by omega)] at b4
    omega
  have := key h h'
  have := key h' h
  omega
theorem nxt_cons (n : SN) (l : List SN) (j : Nat) : nxt (n :: l) j = if j < n.h then .pointer (some ⟨n.nb, 0, none⟩) else nxt l j := by
  unfold nxt
  rw [List.find?_cons]
  by_cases h : j < n.h <;> simp [h]
theorem nxt_skip {q j : Nat} : ∀ n, q + n ≤ ns.length → (∀ k (h : k < ns.length), q ≤ k → k < q + n → ns[k].h ≤ j) → nxt (ns.drop q) j = nxt (ns.drop (q + n)) j
  | 0, _, _ => rfl
  | n + 1, hl, h => by
    rw [nxt_skip n (by omega) (fun k hk h1 h2 => h k hk h1 (by omega)), List.drop_eq_getElem_cons (show q + n < ns.length by omega), nxt_cons, if_neg (by have := h (q + n) (by omega) (by omega) (by omega); omega)]
    rfl
theorem nxt_bp {p j q : Nat} (h : IsBp ns p j q) (hp : p ≤ ns.length) : nxt (ns.drop q) j = nxt (ns.drop p) j := by
  have := nxt_skip (ns := ns) (q := q) (j := j) (p - q) (by have := h.1; omega) (fun k hk h1 h2 => h.2.2.1 k hk h1 (by omega))
  rw [show q + (p - q) = p from by have := h.1; omega] at this
  exact this

/-- The links of position q when those on the levels below i have been set. -/
def rowAt (ns : List SN) (qf : Nat → Nat) (nb i q : Nat) : Array Value :=
  ((List.range (htOf ns q)).map fun j => if j < i ∧ qf j = q then .pointer (some ⟨nb, 0, none⟩) else nxt (ns.drop q) j).toArray
theorem rowAt_get (qf : Nat → Nat) (nb i q j : Nat) : (rowAt ns qf nb i q)[j]? = if j < htOf ns q then some (if j < i ∧ qf j = q then .pointer (some ⟨nb, 0, none⟩) else nxt (ns.drop q) j) else none := by
  unfold rowAt
  by_cases h : j < htOf ns q
  · simp [h]
  · simp [h]
theorem rowAt_size (qf : Nat → Nat) (nb i q : Nat) : (rowAt ns qf nb i q).size = htOf ns q := by simp [rowAt]
theorem rowAt_zero (qf : Nat → Nat) (nb q : Nat) : rowAt ns qf nb 0 q = arr (ns.drop q) (htOf ns q) := by simp [rowAt, arr]
theorem rowAt_same (qf : Nat → Nat) (nb i : Nat) : (rowAt ns qf nb i (qf i)).setIfInBounds i (.pointer (some ⟨nb, 0, none⟩)) = rowAt ns qf nb (i + 1) (qf i) := by
  refine Array.ext_getElem? fun j => ?_
  rw [Array.getElem?_setIfInBounds, rowAt_size, rowAt_get, rowAt_get]
  by_cases e : i = j
  · subst e
    simp
  · rw [if_neg e]
    by_cases h : j < htOf ns (qf i)
    · rw [if_pos h, if_pos h]
      have : (j < i ∧ qf j = qf i) ↔ (j < i + 1 ∧ qf j = qf i) := by constructor <;> (rintro ⟨a, b⟩; exact ⟨by omega, b⟩)
      simp only [this]
    · rw [if_neg h, if_neg h]
theorem rowAt_other (qf : Nat → Nat) (nb i q : Nat) (hq : q ≠ qf i) : rowAt ns qf nb (i + 1) q = rowAt ns qf nb i q := by
  refine Array.ext_getElem? fun j => ?_
  rw [rowAt_get, rowAt_get]
  have : (j < i + 1 ∧ qf j = q) ↔ (j < i ∧ qf j = q) := by
    constructor
    · rintro ⟨a, b⟩
      refine ⟨?_, b⟩
      rcases Nat.lt_or_ge j i with h | h
      · exact h
      · obtain rfl : j = i := by omega
        exact absurd b.symm hq
    · rintro ⟨a, b⟩; exact ⟨by omega, b⟩
  simp only [this]

/-- The new node's links when those on the levels below i have been set. -/
def newAt (ns : List SN) (p h i : Nat) : Array Value := ((List.range h).map fun j => if j < i then nxt (ns.drop p) j else .pointer none).toArray
theorem newAt_get (p h i j : Nat) : (newAt ns p h i)[j]? = if j < h then some (if j < i then nxt (ns.drop p) j else .pointer none) else none := by
  unfold newAt
  by_cases hj : j < h <;> simp [hj]
theorem newAt_size (p h i : Nat) : (newAt ns p h i).size = h := by simp [newAt]
theorem newAt_full (p h : Nat) : newAt ns p h h = arr (ns.drop p) h := by
  refine Array.ext_getElem? fun j => ?_
  rw [newAt_get]
  by_cases hj : j < h
  · rw [if_pos hj, if_pos hj, arr_get _ _ hj]
  · rw [if_neg hj, Array.getElem?_eq_none (by rw [arr_size]; omega)]
theorem newAt_step (p h i : Nat) : (newAt ns p h i).setIfInBounds i (nxt (ns.drop p) i) = newAt ns p h (i + 1) := by
  refine Array.ext_getElem? fun j => ?_
  rw [Array.getElem?_setIfInBounds, newAt_size, newAt_get, newAt_get]
  by_cases e : i = j
  · subst e
    simp
  · rw [if_neg e]
    by_cases hj : j < h
    · rw [if_pos hj, if_pos hj]
      have : (j < i) ↔ (j < i + 1) := by omega
      simp only [this]
    · rw [if_neg hj, if_neg hj]

variable {p : Nat} {n : SN}
theorem putAt_get_lt {k : Nat} (hp : p ≤ ns.length) (hk : k < p) : (putAt ns p n)[k]? = ns[k]? := by
  unfold putAt
  rw [List.getElem?_append_left (by simp; omega), List.getElem?_take_of_lt hk]
theorem putAt_get_at (hp : p ≤ ns.length) : (putAt ns p n)[p]? = some n := by
  unfold putAt
  rw [List.getElem?_append_right (by simp; omega)]
  simp [Nat.min_eq_left hp]
theorem putAt_get_gt {k : Nat} (hp : p ≤ ns.length) (hk : p < k) : (putAt ns p n)[k]? = ns[k - 1]? := by
  unfold putAt
  rw [List.getElem?_append_right (by simp; omega)]
  simp only [List.length_take, Nat.min_eq_left hp]
  obtain ⟨r, rfl⟩ : ∃ r, k = p + 1 + r := ⟨k - p - 1, by omega⟩
  rw [show p + 1 + r - p = r + 1 from by omega, List.getElem?_cons_succ, List.getElem?_drop, show p + 1 + r - 1 = p + r from by omega]
theorem putAt_drop_gt {r : Nat} (hp : p ≤ ns.length) : (putAt ns p n).drop (p + 1 + r) = ns.drop (p + r) := by
  unfold putAt
  have e : (ns.take p ++ n :: ns.drop p) = (ns.take p ++ [n]) ++ ns.drop p := by simp
  rw [e, List.drop_append, List.drop_of_length_le (by simp; omega), List.nil_append, List.drop_drop]
  congr 1
  simp
  omega
theorem putAt_drop_at (hp : p ≤ ns.length) : (putAt ns p n).drop p = n :: ns.drop p := by
  unfold putAt
  rw [List.drop_append, List.drop_of_length_le (by simp; omega), List.nil_append]
  simp [Nat.min_eq_left hp]
theorem nxt_put (hp : p ≤ ns.length) (j : Nat) : ∀ d q, q + d = p →
    ((∀ k (h : k < ns.length), q ≤ k → k < p → ns[k].h ≤ j) ∧ nxt ((putAt ns p n).drop q) j = if j < n.h then .pointer (some ⟨n.nb, 0, none⟩) else nxt (ns.drop q) j) ∨
    (¬ (∀ k (h : k < ns.length), q ≤ k → k < p → ns[k].h ≤ j) ∧ nxt ((putAt ns p n).drop q) j = nxt (ns.drop q) j)
  | 0, q, e => by
    obtain rfl : q = p := by omega
    left
    exact ⟨fun k h h1 h2 => by omega, by rw [putAt_drop_at hp, nxt_cons]⟩
  | d + 1, q, e => by
    have hq : q < ns.length := by omega
    have hqp : q < (putAt ns p n).length := by rw [putAt_length _ _ hp]; omega
    have e0 : (putAt ns p n)[q] = ns[q] := by
      have := putAt_get_lt (n := n) hp (show q < p by omega)
      rw [List.getElem?_eq_getElem hqp, List.getElem?_eq_getElem hq] at this
      exact Option.some.inj this
    rw [List.drop_eq_getElem_cons hqp, e0, nxt_cons, List.drop_eq_getElem_cons hq, nxt_cons]
    by_cases hj : j < ns[q].h
    · right
      rw [if_pos hj, if_pos hj]
      exact ⟨fun h => by have := h q hq (Nat.le_refl _) (by omega); omega, rfl⟩
    · rw [if_neg hj, if_neg hj]
      rcases nxt_put hp j d (q + 1) (by omega) with ⟨h1, h2⟩ | ⟨h1, h2⟩
      · left
        refine ⟨fun k hk a b => ?_, h2⟩
        by_cases hkq : k = q
        · subst hkq; omega
        · exact h1 k hk (by omega) b
      · right
        exact ⟨fun h => h1 fun k hk a b => h k hk (by omega) b, h2⟩

/-- Behind the put: what lies at each position, of the links that were set. -/
theorem put_low {hb xh : Nat} (hp : p ≤ ns.length) {q : Nat} (hq : q ≤ p) : nbOf hb (putAt ns p n) q = nbOf hb ns q ∧ xbOf xh (putAt ns p n) q = xbOf xh ns q ∧ htOf (putAt ns p n) q = htOf ns q := by
  cases q with
  | zero => exact ⟨rfl, rfl, rfl⟩
  | succ q =>
    simp only [nbOf, xbOf, htOf, putAt_get_lt (n := n) hp (show q < p by omega)]
    exact ⟨trivial, trivial, trivial⟩
theorem put_at {hb xh : Nat} (hp : p ≤ ns.length) : nbOf hb (putAt ns p n) (p + 1) = n.nb ∧ xbOf xh (putAt ns p n) (p + 1) = n.xb ∧ htOf (putAt ns p n) (p + 1) = n.h := by
  simp only [nbOf, xbOf, htOf, putAt_get_at (n := n) hp]
  exact ⟨trivial, trivial, trivial⟩
theorem put_high {hb xh : Nat} (hp : p ≤ ns.length) (r : Nat) : nbOf hb (putAt ns p n) (p + 2 + r) = nbOf hb ns (p + 1 + r) ∧ xbOf xh (putAt ns p n) (p + 2 + r) = xbOf xh ns (p + 1 + r) ∧ htOf (putAt ns p n) (p + 2 + r) = htOf ns (p + 1 + r) := by
  have e1 : p + 2 + r = (p + 1 + r) + 1 := by omega
  have e2 : p + 1 + r = (p + r) + 1 := by omega
  rw [e1]
  simp only [nbOf, xbOf, htOf, putAt_get_gt (n := n) hp (show p < p + 1 + r by omega)]
  rw [e2]
  exact ⟨rfl, rfl, rfl⟩

theorem put_row_low {qf : Nat → Nat} (hp : p ≤ ns.length) (hqf : ∀ j, j < 12 → IsBp ns p j (qf j)) (h12 : n.h ≤ 12) {q : Nat} (hq : q ≤ p) : arr ((putAt ns p n).drop q) (htOf ns q) = rowAt ns qf n.nb n.h q := by
  refine Array.ext_getElem? fun j => ?_
  rw [rowAt_get]
  by_cases hj : j < htOf ns q
  · rw [if_pos hj, arr_get _ _ hj]
    congr 1
    have huniq : j < 12 → ((∀ k (h : k < ns.length), q ≤ k → k < p → ns[k].h ≤ j) ↔ qf j = q) := fun h12 =>
      ⟨fun h => (hqf j h12).uniq ⟨hq, by omega, h, hj⟩, fun h => by subst h; exact (hqf j h12).2.2.1⟩
    rcases nxt_put (n := n) hp j (p - q) q (by omega) with ⟨h1, h2⟩ | ⟨h1, h2⟩
    · rw [h2]
      by_cases hjn : j < n.h
      · rw [if_pos hjn, if_pos ⟨hjn, (huniq (by omega)).1 h1⟩]
      · rw [if_neg hjn, if_neg (fun h => hjn h.1)]
    · rw [h2, if_neg]
      rintro ⟨h3, h4⟩
      exact h1 ((huniq (by omega)).2 h4)
  · rw [if_neg hj, Array.getElem?_eq_none (by rw [arr_size]; omega)]
theorem put_row_high {qf : Nat → Nat} (hqf : ∀ j, j < 12 → IsBp ns p j (qf j)) {nb h : Nat} (h12 : h ≤ 12) {q : Nat} (hq : p < q) : rowAt ns qf nb h q = arr (ns.drop q) (htOf ns q) := by
  refine Array.ext_getElem? fun j => ?_
  rw [rowAt_get]
  by_cases hj : j < htOf ns q
  · rw [if_pos hj, arr_get _ _ hj, if_neg]
    rintro ⟨h1, h2⟩
    have := (hqf j (by omega)).1
    omega
  · rw [if_neg hj, Array.getElem?_eq_none (by rw [arr_size]; omega)]

/-- The blocks of links are different ones. -/
theorem xb_inj {xh : Nat} (h : (xh :: ns.map SN.xb).Nodup) {q q' : Nat} (hq : q ≤ ns.length) (hq' : q' ≤ ns.length) (e : xbOf xh ns q = xbOf xh ns q') : q = q' := by
  have g : ∀ q (hq : q ≤ ns.length), (xh :: ns.map SN.xb)[q]'(by simp; omega) = xbOf xh ns q := fun q hq => by
    cases q with
    | zero => rfl
    | succ q =>
      rw [xbOf_succ (by omega)]
      simp
  rw [← g q hq, ← g q' hq'] at e
  exact (List.getElem_inj h).1 e
end
end Go.Proofs.Ytpohhlddbdepcaa
