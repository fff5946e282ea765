/-
  A table that the call made itself, as the laws hold it; plain laws of levels and of order.
-/
import Derived.Test.YtpohhlddbdepcaaShw
namespace Go.Proofs.Ytpohhlddbdepcaa
open Go.RowKit

/-- A table that the call made, and what else it did: below the call's heap nothing has turned. -/
def TabI (w W : World) (t : Nat) (hs : List Int) (L : List EH) : Prop := ∃ lo, w.heap.size ≤ lo ∧ SkipL (fun _ => False) lo W t hs L ∧ Below w.heap.size w W
section
variable {w W W' : World} {t : Nat} {hs : List Int} {L : List EH}
theorem TabI.bel (h : TabI w W t hs L) : Below w.heap.size w W := by
  obtain ⟨lo, h1, h2, h3⟩ := h
  exact h3
theorem TabI.old (h : TabI w W t hs L) (hb : Below W.heap.size W W') : TabI w W' t hs L := by
  obtain ⟨lo, h1, h2, h3⟩ := h
  exact ⟨lo, h1, h2.old hb, h3.trans (hb.mono h3.size)⟩
theorem TabI.put (h : TabI w W t hs L) (hn : L.length ≤ 100000) {kv vv : Value} {e : Ent} {B : Nat} (hk : BAt B W kv e.key) (hvv : BAt B W vv e.val) (hB : B ≤ W.heap.size) (hkl : Big e.key) (hvl : Big e.val) :
    Calls Try.prog 21 #[.pointer (some ⟨t, 0, none⟩), .agg #[kv, .int .u64 e.seq, .bool e.del, vv]] W fun x w' => x = .returned (.int .i64 (putL hs L e).1) ∧ TabI w w' t hs (putL hs L e).2 ∧ W.heap.size ≤ w'.heap.size := by
  obtain ⟨lo, h1, h2, h3⟩ := h
  refine (skipL_Put h2 (fun _ h => h.elim) hn hk hvv hB hkl hvl).mono ?_
  rintro x w' ⟨rfl, h4, h5⟩
  exact ⟨rfl, ⟨lo, h1, h4, h3.trans (h5.below h3.size fun b hb hs => by have := hs.1; omega)⟩, h5.size⟩
theorem TabI.hts (h : TabI w W t hs L) : ∀ p ∈ L, 1 ≤ p.2 ∧ p.2 ≤ 12 := by
  obtain ⟨lo, h1, ⟨hv, hb, xh, ns, hS, rfl, hA⟩, h3⟩ := h
  intro p hp
  obtain ⟨n, hn, rfl⟩ := List.mem_map.1 hp
  exact ⟨(hS.base.each n hn).h1, (hS.base.each n hn).h12⟩
end

theorem scanL_all (L : List EH) : scanL L [] = L.map Prod.fst := by
  unfold scanL
  rw [List.filter_eq_self.2]
  intro p _
  cases hk : p.1.key <;> simp [Lib.compareBytes]

/-- What stands below level i. -/
def belowL (L : List EH) : Nat → List Ent
  | 0 => L.map Prod.fst
  | i + 1 => levelL L (i : Int)
theorem levelL_nat (L : List EH) (i : Nat) : levelL L (i : Int) = (L.filter fun p => decide (i < p.2)).map Prod.fst := by
  unfold levelL
  rw [if_pos (by omega)]
  congr 1
  refine List.filter_congr fun p _ => ?_
  simp
theorem level_below (L : List EH) (i : Nat) : (levelL L (i : Int)).Sublist (belowL L i) := by
  cases i with
  | zero =>
    rw [levelL_nat]
    exact (List.filter_sublist).map _
  | succ i =>
    show (levelL L ((i + 1 : Nat) : Int)).Sublist (levelL L (i : Int))
    rw [levelL_nat, levelL_nat]
    have : L.filter (fun p => decide (i + 1 < p.2)) = (L.filter fun p => decide (i < p.2)).filter (fun p => decide (i + 1 < p.2)) := by
      rw [List.filter_filter]
      refine List.filter_congr fun p _ => ?_
      by_cases h : i + 1 < p.2
      · have : i < p.2 := by omega
        simp [h, this]
      · simp [h]
    rw [this]
    exact (List.filter_sublist).map _
theorem level_zero {L : List EH} (h : ∀ p ∈ L, 1 ≤ p.2 ∧ p.2 ≤ 12) : levelL L 0 = L.map Prod.fst := by
  have := levelL_nat L 0
  rw [show ((0 : Nat) : Int) = 0 from rfl] at this
  rw [this, List.filter_eq_self.2]
  intro p hp
  have := (h p hp).1
  simp; omega
theorem level_twelve {L : List EH} (h : ∀ p ∈ L, 1 ≤ p.2 ∧ p.2 ≤ 12) : levelL L 12 = [] := by
  have := levelL_nat L 12
  rw [show ((12 : Nat) : Int) = 12 from rfl] at this
  rw [this, List.filter_eq_nil_iff.2 (fun p hp => by have := (h p hp).2; simp; omega)]
  rfl
theorem levelL_length (L : List EH) (i : Int) : (levelL L i).length ≤ L.length := by
  unfold levelL
  split
  · rw [List.length_map]; exact List.length_filter_le _ _
  · simp
theorem belowL_length (L : List EH) (i : Nat) : (belowL L i).length ≤ L.length := by
  cases i
  · simp [belowL]
  · exact levelL_length _ _

/-- One step of the search for an entry of a level in what stands below. -/
theorem sub_step {ls bs : List Ent} {j k : Nat} (h : (ls.drop j).Sublist (bs.drop k)) (hj : j < ls.length) : k < bs.length ∧ ∀ hk : k < bs.length, (bs[k] = ls[j] → (ls.drop (j + 1)).Sublist (bs.drop (k + 1))) ∧ (bs[k] ≠ ls[j] → (ls.drop j).Sublist (bs.drop (k + 1))) := by
  rw [List.drop_eq_getElem_cons hj] at h
  have hk : k < bs.length := by
    rcases Nat.lt_or_ge k bs.length with h1 | h1
    · exact h1
    · rw [List.drop_of_length_le h1] at h
      cases h
  refine ⟨hk, fun _ => ?_⟩
  rw [List.drop_eq_getElem_cons hk] at h
  refine ⟨fun e => ?_, fun e => ?_⟩
  · rw [e] at h
    exact List.cons_sublist_cons.1 h
  · rw [List.drop_eq_getElem_cons hj]
    generalize bs[k] = b at h e
    generalize ls[j] = a at h e
    cases h with
    | cons _ h => exact h
    | cons_cons _ h => exact absurd rfl e

def sameE (a b : Ent) : Bool := a.key == b.key && decide (a.seq = b.seq) && a.del == b.del && a.val == b.val
theorem sameE_iff (a b : Ent) : sameE a b = true ↔ a = b := by
  cases a; cases b
  simp [sameE, and_assoc]
end Go.Proofs.Ytpohhlddbdepcaa
