/-
  Plain laws of the order of entries and of lists in that order; no program is in sight.
-/
import Derived.Lib.Bytealg
namespace Go.Proofs.Ytpohhlddbdepcaa

/-- An entry, as data. -/
structure Ent where
  key : List UInt8
  seq : Int
  del : Bool
  val : List UInt8

theorem cmp_cons (x y : UInt8) (l m : List UInt8) : Lib.compareBytes (x :: l) (y :: m) = if x.toNat < y.toNat then -1 else if y.toNat < x.toNat then 1 else Lib.compareBytes l m := by
  conv => lhs; unfold Lib.compareBytes
  simp only [UInt8.lt_iff_toNat_lt]
theorem cmp_self (l : List UInt8) : Lib.compareBytes l l = 0 := by
  induction l with
  | nil => rfl
  | cons x l ih => simp [cmp_cons, ih]
theorem cmp_zero {l m : List UInt8} (h : Lib.compareBytes l m = 0) : l = m := by
  induction l generalizing m with
  | nil => cases m with
    | nil => rfl
    | cons => simp [Lib.compareBytes] at h
  | cons x l ih => cases m with
    | nil => simp [Lib.compareBytes] at h
    | cons y m =>
      rw [cmp_cons] at h
      split at h
      · omega
      · split at h
        · omega
        · have hxy : x = y := UInt8.toNat_inj.1 (by omega)
          rw [hxy, ih h]
theorem cmp_neg (l m : List UInt8) : Lib.compareBytes m l = - Lib.compareBytes l m := by
  induction l generalizing m with
  | nil => cases m <;> simp [Lib.compareBytes]
  | cons x l ih => cases m with
    | nil => simp [Lib.compareBytes]
    | cons y m =>
      rw [cmp_cons, cmp_cons, ih]
      by_cases h1 : x.toNat < y.toNat <;> by_cases h2 : y.toNat < x.toNat <;> simp [h1, h2] <;> omega
theorem cmp_trans {l m n : List UInt8} (h : Lib.compareBytes l m < 0) (k : Lib.compareBytes m n < 0) : Lib.compareBytes l n < 0 := by
  induction l generalizing m n with
  | nil => cases n with
    | nil =>
      cases m <;> simp [Lib.compareBytes] at h k
    | cons => simp [Lib.compareBytes]
  | cons x l ih => cases m with
    | nil => simp [Lib.compareBytes] at h
    | cons y m => cases n with
      | nil => simp [Lib.compareBytes] at k
      | cons z n =>
        rw [cmp_cons] at h k ⊢
        by_cases h1 : x.toNat < y.toNat
        · by_cases h2 : y.toNat < z.toNat
          · rw [if_pos (by omega)]; omega
          · rw [if_neg h2] at k
            by_cases h3 : z.toNat < y.toNat
            · rw [if_pos h3] at k; omega
            · rw [if_pos (by omega)]; omega
        · rw [if_neg h1] at h
          by_cases h3 : y.toNat < x.toNat
          · rw [if_pos h3] at h; omega
          · rw [if_neg h3] at h
            by_cases h2 : y.toNat < z.toNat
            · rw [if_pos (by omega)]; omega
            · rw [if_neg h2] at k
              by_cases h4 : z.toNat < y.toNat
              · rw [if_pos h4] at k; omega
              · rw [if_neg h4] at k
                rw [if_neg (by omega), if_neg (by omega)]
                exact ih h k

def mayB (k : List UInt8) (s : Int) (d : Bool) (v : List UInt8) : Bool :=
  decide (1 ≤ k.length) && decide (k.length ≤ 256) && decide (1 ≤ s) && decide (s ≤ 4611686018427387904) && decide (v.length ≤ 65536) && (!d || decide (v.length = 0))

/-- The order of entries. -/
def cmpE (k : List UInt8) (s : Int) (k' : List UInt8) (s' : Int) : Int :=
  if Lib.compareBytes k k' ≠ 0 then Lib.compareBytes k k' else if s' < s then -1 else if s < s' then 1 else 0

/-- Where an entry stands: ahead of the place of a key and a Seq. -/
def aheadB (k : List UInt8) (s : Int) (k' : List UInt8) (s' : Int) : Bool := decide (Lib.compareBytes k k' < 0) || decide (Lib.compareBytes k k' = 0) && decide (s' < s)

theorem ahead_iff {k : List UInt8} {s : Int} {k' : List UInt8} {s' : Int} : aheadB k s k' s' = true ↔ Lib.compareBytes k k' < 0 ∨ Lib.compareBytes k k' = 0 ∧ s' < s := by
  simp [aheadB]
theorem ahead_cmp (k : List UInt8) (s : Int) (k' : List UInt8) (s' : Int) : aheadB k s k' s' = decide (cmpE k s k' s' < 0) := by
  rw [Bool.eq_iff_iff, ahead_iff, decide_eq_true_eq]
  unfold cmpE
  by_cases h : Lib.compareBytes k k' = 0
  · rw [if_neg (by simpa using h), h]
    by_cases h1 : s' < s
    · rw [if_pos h1]; simp [h1]
    · rw [if_neg h1]
      by_cases h2 : s < s'
      · rw [if_pos h2]; simp; omega
      · rw [if_neg h2]; simp; omega
  · rw [if_pos (by simpa using h)]
    constructor
    · rintro (h1 | h1)
      · exact h1
      · exact absurd h1.1 h
    · exact .inl
theorem cmpE_zero {k : List UInt8} {s : Int} {k' : List UInt8} {s' : Int} : cmpE k s k' s' = 0 ↔ k = k' ∧ s = s' := by
  unfold cmpE
  constructor
  · intro h
    by_cases hz : Lib.compareBytes k k' = 0
    · simp only [hz, ne_eq, not_true, if_false] at h
      refine ⟨cmp_zero hz, ?_⟩
      by_cases h1 : s' < s
      · rw [if_pos h1] at h; omega
      · rw [if_neg h1] at h
        by_cases h2 : s < s'
        · rw [if_pos h2] at h; omega
        · omega
    · rw [if_pos (by simpa using hz)] at h
      exact absurd h hz
  · rintro ⟨rfl, rfl⟩
    simp [cmp_self]
theorem ahead_trans {k1 k2 k3 : List UInt8} {s1 s2 s3 : Int} (h : aheadB k1 s1 k2 s2 = true) (k : aheadB k2 s2 k3 s3 = true) : aheadB k1 s1 k3 s3 = true := by
  rw [ahead_iff] at *
  rcases h with h | ⟨h, hs⟩
  · rcases k with k | ⟨k, _⟩
    · exact .inl (cmp_trans h k)
    · rw [← cmp_zero k]; exact .inl h
  · rw [cmp_zero h]
    rcases k with k | ⟨k, ks⟩
    · exact .inl k
    · exact .inr ⟨k, by omega⟩
theorem ahead_irrefl (k : List UInt8) (s : Int) : aheadB k s k s = false := by
  rw [Bool.eq_false_iff, Ne, ahead_iff, cmp_self]
  omega
/-- Not ahead, and not of the same place: behind. -/
theorem ahead_total {k1 k2 : List UInt8} {s1 s2 : Int} (h : aheadB k1 s1 k2 s2 = false) (hne : ¬ (k1 = k2 ∧ s1 = s2)) : aheadB k2 s2 k1 s1 = true := by
  rw [Bool.eq_false_iff, Ne, ahead_iff] at h
  rw [ahead_iff, cmp_neg]
  by_cases hz : Lib.compareBytes k1 k2 = 0
  · have := cmp_zero hz
    have : s1 ≠ s2 := fun e => hne ⟨this, e⟩
    right
    omega
  · left
    omega

section
variable {α : Type} (kf : α → List UInt8) (sf : α → Int)
/-- In the order of entries, none twice. -/
def InOrder (l : List α) : Prop := l.Pairwise fun a b => aheadB (kf a) (sf a) (kf b) (sf b) = true
/-- How many stand ahead of the place of k and s. -/
def posOf (l : List α) (k : List UInt8) (s : Int) : Nat := (l.takeWhile fun a => aheadB (kf a) (sf a) k s).length

theorem posOf_le (l : List α) (k : List UInt8) (s : Int) : posOf kf sf l k s ≤ l.length := (List.takeWhile_prefix _).length_le

variable {kf sf}
theorem posOf_ahead {l : List α} {k : List UInt8} {s : Int} {i : Nat} (h : i < posOf kf sf l k s) (hi : i < l.length) : aheadB (kf l[i]) (sf l[i]) k s = true := by
  induction l generalizing i with
  | nil => simp at hi
  | cons a l ih =>
    unfold posOf at h
    rw [List.takeWhile_cons] at h
    split at h
    · rename_i ha
      cases i with
      | zero => exact ha
      | succ i => exact ih (by unfold posOf; simp at h; omega) _
    · simp at h
theorem posOf_not {l : List α} {k : List UInt8} {s : Int} (h : posOf kf sf l k s < l.length) : aheadB (kf (l[posOf kf sf l k s])) (sf (l[posOf kf sf l k s])) k s = false := by
  induction l with
  | nil => simp at h
  | cons a l ih =>
    by_cases ha : aheadB (kf a) (sf a) k s = true
    · have e : posOf kf sf (a :: l) k s = posOf kf sf l k s + 1 := by simp [posOf, List.takeWhile_cons, ha]
      simp only [e, List.getElem_cons_succ]
      exact ih (by rw [e] at h; simpa using h)
    · have e : posOf kf sf (a :: l) k s = 0 := by simp [posOf, List.takeWhile_cons, ha]
      simp only [e, List.getElem_cons_zero]
      simpa using ha
theorem InOrder.lt {l : List α} (h : InOrder kf sf l) {i j : Nat} (hij : i < j) (hj : j < l.length) : aheadB (kf l[i]) (sf l[i]) (kf l[j]) (sf l[j]) = true :=
  List.pairwise_iff_getElem.1 h i j (by omega) hj hij
theorem posOf_behind {l : List α} (h : InOrder kf sf l) {k : List UInt8} {s : Int} {i : Nat} (hp : posOf kf sf l k s ≤ i) (hi : i < l.length) : aheadB (kf l[i]) (sf l[i]) k s = false := by
  have h0 := posOf_not (kf := kf) (sf := sf) (l := l) (k := k) (s := s) (by omega)
  by_cases e : posOf kf sf l k s = i
  · subst e; exact h0
  · have h1 := h.lt (i := posOf kf sf l k s) (j := i) (by omega) hi
    by_cases hb : aheadB (kf l[i]) (sf l[i]) k s = true
    · rw [ahead_trans h1 hb] at h0; simp at h0
    · simpa using hb
/-- What is ahead up to p, and not from p on, has p for its place. -/
theorem posOf_eq {l : List α} {k : List UInt8} {s : Int} {p : Nat} (hp : p ≤ l.length) (h1 : ∀ i (h : i < l.length), i < p → aheadB (kf l[i]) (sf l[i]) k s = true) (h2 : ∀ (h : p < l.length), aheadB (kf l[p]) (sf l[p]) k s = false) :
    posOf kf sf l k s = p := by
  rcases Nat.lt_trichotomy (posOf kf sf l k s) p with h | h | h
  · have := posOf_not (kf := kf) (sf := sf) (l := l) (k := k) (s := s) (by omega)
    rw [h1 _ (by omega) h] at this; simp at this
  · exact h
  · have hl := posOf_le kf sf l k s
    have := posOf_ahead (kf := kf) (sf := sf) (l := l) (k := k) (s := s) h (by omega)
    rw [h2 (by omega)] at this; simp at this
/-- The test at i says on which side of the place i is. -/
theorem InOrder.test {l : List α} (h : InOrder kf sf l) {k : List UInt8} {s : Int} {i : Nat} (hi : i < l.length) : aheadB (kf l[i]) (sf l[i]) k s = decide (i < posOf kf sf l k s) := by
  by_cases hp : i < posOf kf sf l k s
  · rw [posOf_ahead hp hi]; simp [hp]
  · rw [posOf_behind h (by omega) hi]; simp [hp]
/-- x is put in at p. -/
def putAt (l : List α) (p : Nat) (x : α) : List α := l.take p ++ x :: l.drop p
theorem putAt_length (l : List α) {p : Nat} (x : α) (hp : p ≤ l.length) : (putAt l p x).length = l.length + 1 := by
  simp [putAt]; omega
/-- An entry is put at its place. -/
theorem InOrder.put {l : List α} (h : InOrder kf sf l) {x : α} (hn : ∀ (hp : posOf kf sf l (kf x) (sf x) < l.length), ¬ (kf (l[posOf kf sf l (kf x) (sf x)]) = kf x ∧ sf (l[posOf kf sf l (kf x) (sf x)]) = sf x)) :
    InOrder kf sf (putAt l (posOf kf sf l (kf x) (sf x)) x) := by
  have hle := posOf_le kf sf l (kf x) (sf x)
  unfold InOrder putAt
  rw [List.pairwise_append]
  refine ⟨List.Pairwise.sublist (List.take_sublist _ _) h, ?_, ?_⟩
  · rw [List.pairwise_cons]
    refine ⟨fun b hb => ?_, List.Pairwise.sublist (List.drop_sublist _ _) h⟩
    obtain ⟨i, hi, rfl⟩ := List.mem_iff_getElem.1 hb
    rw [List.getElem_drop]
    simp at hi
    have h0 := posOf_behind h (k := kf x) (s := sf x) (i := posOf kf sf l (kf x) (sf x) + i) (by omega) (by omega)
    by_cases e : i = 0
    · subst e
      exact ahead_total h0 (hn (by omega))
    · have h1 := ahead_total (posOf_not (kf := kf) (sf := sf) (l := l) (k := kf x) (s := sf x) (by omega)) (hn (by omega))
      exact ahead_trans h1 (h.lt (by omega) (by omega))
  · intro a ha b hb
    obtain ⟨i, hi, rfl⟩ := List.mem_iff_getElem.1 ha
    rw [List.getElem_take]
    simp at hi
    rcases List.mem_cons.1 hb with rfl | hb
    · exact posOf_ahead (by omega) (by omega)
    · obtain ⟨j, hj, rfl⟩ := List.mem_iff_getElem.1 hb
      rw [List.getElem_drop]
      simp at hj
      exact h.lt (by omega) (by omega)
end
end Go.Proofs.Ytpohhlddbdepcaa
