/-
  Plain laws: which entries a table holds once entries were put, in whatever order.
-/
import Derived.Test.YtpohhlddbdepcaaTab
namespace Go.Proofs.Ytpohhlddbdepcaa

def BeforeE (a b : Ent) : Prop := aheadB a.key a.seq b.key b.seq = true
theorem BeforeE.asymm {a b : Ent} (h : BeforeE a b) (h' : BeforeE b a) : False := by
  unfold BeforeE at h h'
  rw [ahead_iff] at h h'
  have := cmp_neg a.key b.key
  omega
theorem BeforeE.irrefl {a : Ent} (h : BeforeE a a) : False := h.asymm h

theorem eq_of_order : ∀ (l m : List Ent), l.Pairwise BeforeE → m.Pairwise BeforeE → (∀ e, e ∈ l ↔ e ∈ m) → l = m
  | [], [], _, _, _ => rfl
  | [], b :: m, _, _, h => by have := (h b).2 (by simp); simp at this
  | a :: l, [], _, _, h => by have := (h a).1 (by simp); simp at this
  | a :: l, b :: m, hl, hm, h => by
    obtain ⟨l1, l2⟩ := List.pairwise_cons.1 hl
    obtain ⟨m1, m2⟩ := List.pairwise_cons.1 hm
    have hab : a = b := by
      rcases List.mem_cons.1 ((h a).1 (by simp)) with h1 | h1
      · exact h1
      · rcases List.mem_cons.1 ((h b).2 (by simp)) with h2 | h2
        · exact h2.symm
        · exact ((m1 a h1).asymm (l1 b h2)).elim
    subst hab
    rw [eq_of_order l m l2 m2 fun e => ⟨fun he => ?_, fun he => ?_⟩]
    · rcases List.mem_cons.1 ((h e).1 (List.mem_cons_of_mem _ he)) with rfl | h1
      · exact ((l1 _ he).irrefl).elim
      · exact h1
    · rcases List.mem_cons.1 ((h e).2 (List.mem_cons_of_mem _ he)) with rfl | h1
      · exact ((m1 _ he).irrefl).elim
      · exact h1

/-- The list holds the entries of these places that may be. -/
structure HoldsE (es : List Ent) (P : Nat → Prop) (L : List EH) : Prop where
  order : InOrder EH.key EH.seq L
  mem : ∀ e, e ∈ L.map Prod.fst ↔ ∃ (m : Nat) (h : m < es.length), P m ∧ es[m] = e ∧ OkE e

theorem HoldsE.nil (es : List Ent) (P : Nat → Prop) (hP : ∀ m, m < es.length → ¬ P m) : HoldsE es P [] :=
  ⟨List.Pairwise.nil, fun e => ⟨fun h => by simp at h, fun ⟨m, h, hp, _⟩ => (hP m h hp).elim⟩⟩
theorem HoldsE.same {es : List Ent} {P Q : Nat → Prop} {L : List EH} (h : HoldsE es P L) (hPQ : ∀ m, m < es.length → (P m ↔ Q m)) : HoldsE es Q L :=
  ⟨h.order, fun e => (h.mem e).trans ⟨fun ⟨m, hm, h1, h2⟩ => ⟨m, hm, (hPQ m hm).1 h1, h2⟩, fun ⟨m, hm, h1, h2⟩ => ⟨m, hm, (hPQ m hm).2 h1, h2⟩⟩⟩

theorem HoldsE.put {es : List Ent} {P : Nat → Prop} {L : List EH} (h : HoldsE es P L) (hs : List Int) {q : Nat} (hq : q < es.length) (hd : ∀ m (h : m < es.length), P m → ¬ (es[m].seq = es[q].seq ∧ es[m].key = es[q].key)) :
    HoldsE es (fun m => P m ∨ m = q) (putL hs L es[q]).2 := by
  unfold putL
  by_cases hm : mayB es[q].key es[q].seq es[q].del es[q].val = true
  · rw [if_pos hm]
    have hno : ∀ (hp : posOf EH.key EH.seq L es[q].key es[q].seq < L.length), ¬ ((L[posOf EH.key EH.seq L es[q].key es[q].seq]).1.key = es[q].key ∧ (L[posOf EH.key EH.seq L es[q].key es[q].seq]).1.seq = es[q].seq) := by
      rintro hp ⟨e1, e2⟩
      obtain ⟨m, hm, hP, he, _⟩ := (h.mem _).1 (List.mem_map.2 ⟨_, List.getElem_mem hp, rfl⟩)
      exact hd m hm hP ⟨by rw [he]; exact e2, by rw [he]; exact e1⟩
    have hi : ¬ (isAtA L es[q].key es[q].seq = true) := by
      unfold isAtA posA
      cases hg : L[posOf EH.key EH.seq L es[q].key es[q].seq]? with
      | none => simp
      | some n =>
        obtain ⟨hp, e⟩ := List.getElem?_eq_some_iff.1 hg
        have := hno hp
        rw [e] at this
        simpa using this
    rw [if_neg hi]
    refine ⟨h.order.put (x := (es[q], _)) (fun hp => hno hp), fun e => ?_⟩
    have hmem : e ∈ (putAt L (posA L es[q].key es[q].seq) (es[q], hOf hs L.length)).map Prod.fst ↔ e ∈ L.map Prod.fst ∨ e = es[q] := by
      rw [putAt_map]
      unfold putAt
      conv => rhs; rw [← List.take_append_drop (posA L es[q].key es[q].seq) (L.map Prod.fst)]
      simp only [List.mem_append, List.mem_cons]
      constructor
      · rintro (h | h | h)
        · exact .inl (.inl h)
        · exact .inr h
        · exact .inl (.inr h)
      · rintro ((h | h) | h)
        · exact .inl h
        · exact .inr (.inr h)
        · exact .inr (.inl h)
    rw [hmem, h.mem]
    constructor
    · rintro (⟨m, hm, h1, h2⟩ | rfl)
      · exact ⟨m, hm, .inl h1, h2⟩
      · exact ⟨q, hq, .inr rfl, rfl, hm⟩
    · rintro ⟨m, hm, h1 | rfl, h2, h3⟩
      · exact .inl ⟨m, hm, h1, h2, h3⟩
      · exact .inr h2.symm
  · rw [if_neg hm]
    refine ⟨h.order, fun e => (h.mem e).trans ⟨fun ⟨m, hm, h1, h2⟩ => ⟨m, hm, .inl h1, h2⟩, ?_⟩⟩
    rintro ⟨m, hm', h1 | rfl, h2, h3⟩
    · exact ⟨m, hm', h1, h2, h3⟩
    · rw [← h2] at h3
      exact (hm h3).elim

theorem order_fst {L : List EH} (h : InOrder EH.key EH.seq L) : (L.map Prod.fst).Pairwise BeforeE := by
  rw [List.pairwise_map]
  exact h
theorem HoldsE.eq {es : List Ent} {P Q : Nat → Prop} {L M : List EH} (h : HoldsE es P L) (h' : HoldsE es Q M) (hP : ∀ m, m < es.length → P m) (hQ : ∀ m, m < es.length → Q m) : L.map Prod.fst = M.map Prod.fst := by
  refine eq_of_order _ _ (order_fst h.order) (order_fst h'.order) fun e => (h.mem e).trans (Iff.trans ?_ (h'.mem e).symm)
  exact ⟨fun ⟨m, hm, h1, h2⟩ => ⟨m, hm, hQ m hm, h2⟩, fun ⟨m, hm, h1, h2⟩ => ⟨m, hm, hP m hm, h2⟩⟩

/-- Where the second run of puts stands. -/
def rot (n k i : Nat) : Nat := if i + k < n then i + k else i + k - n
theorem rot_mod {n k i : Nat} (hk : k < n) (hi : i < n) : (i + k) % n = rot n k i := by
  unfold rot
  split
  · exact Nat.mod_eq_of_lt ‹_›
  · rw [Nat.mod_eq_sub_mod (by omega), Nat.mod_eq_of_lt (by omega)]
theorem rot_lt {n k i : Nat} (hk : k < n) (hi : i < n) : rot n k i < n := by
  unfold rot; split <;> omega
theorem rot_inj {n k i j : Nat} (hk : k < n) (hi : i < n) (hj : j < n) (h : rot n k i = rot n k j) : i = j := by
  unfold rot at h
  split at h <;> split at h <;> omega
theorem rot_onto {n k m : Nat} (hk : k < n) (hm : m < n) : ∃ i, i < n ∧ rot n k i = m := by
  by_cases h : k ≤ m
  · exact ⟨m - k, by omega, by unfold rot; rw [if_pos (by omega)]; omega⟩
  · exact ⟨m + n - k, by omega, by unfold rot; rw [if_neg (by omega)]; omega⟩
/-- The places that the second run has been at. -/
def Been (n k : Nat) (z : Int) (m : Nat) : Prop := ∃ i : Nat, z < (i : Int) ∧ i < n ∧ rot n k i = m
theorem Been.start {n k m : Nat} : ¬ Been n k ((n : Int) - 1) m := fun ⟨i, h1, h2, _⟩ => by omega
theorem Been.step {n k : Nat} (hk : k < n) {z : Nat} (hz : z < n) (m : Nat) : Been n k (z : Int) m ∨ m = rot n k z ↔ Been n k ((z : Int) - 1) m := by
  constructor
  · rintro (⟨i, h1, h2, h3⟩ | rfl)
    · exact ⟨i, by omega, h2, h3⟩
    · exact ⟨z, by omega, hz, rfl⟩
  · rintro ⟨i, h1, h2, h3⟩
    by_cases h : i = z
    · subst h; exact .inr h3.symm
    · exact .inl ⟨i, by omega, h2, h3⟩
theorem Been.new {n k : Nat} (hk : k < n) {z : Nat} (hz : z < n) {m : Nat} (h : Been n k (z : Int) m) : m ≠ rot n k z := by
  rintro rfl
  obtain ⟨i, h1, h2, h3⟩ := h
  have := rot_inj hk h2 hz h3
  omega
theorem Been.all {n k m : Nat} (hk : k < n) (hm : m < n) : Been n k (-1) m := by
  obtain ⟨i, h1, h2⟩ := rot_onto hk hm
  exact ⟨i, by omega, h1, h2⟩
end Go.Proofs.Ytpohhlddbdepcaa
