/-
  The walk of the program's Put: what is refused.
-/
import Derived.Test.YtpohhlddbdepcaaLnk
import Derived.BigGuardPart
namespace Go.Proofs.Ytpohhlddbdepcaa
open Go.RowKit

theorem mayB_cases {k : List UInt8} {s : Int} {d : Bool} {v : List UInt8} (h : mayB k s d v = false) :
    k.length < 1 ∨ (1 ≤ k.length ∧ (256 < k.length ∨ (k.length ≤ 256 ∧ (s < 1 ∨ (1 ≤ s ∧ (4611686018427387904 < s ∨ (s ≤ 4611686018427387904 ∧ (65536 < v.length ∨ (v.length ≤ 65536 ∧ d = true ∧ 0 < v.length))))))))) := by
  have hn : ¬ (1 ≤ k.length ∧ k.length ≤ 256 ∧ 1 ≤ s ∧ s ≤ 4611686018427387904 ∧ v.length ≤ 65536 ∧ (d = false ∨ v.length = 0)) := fun ⟨a1, a2, a3, a4, a5, a6⟩ => by
    unfold mayB at h
    rw [decide_eq_true a1, decide_eq_true a2, decide_eq_true a3, decide_eq_true a4, decide_eq_true a5] at h
    rcases a6 with a6 | a6
    · subst a6; simp at h
    · rw [decide_eq_true a6] at h; simp at h
  clear h
  cases d
  · simp only [true_or, and_true, Bool.false_eq_true, false_and, and_false, or_false] at hn ⊢
    omega
  · simp only [Bool.true_eq_false, false_or, true_and] at hn ⊢
    omega
theorem mayB_true {k : List UInt8} {s : Int} {d : Bool} {v : List UInt8} (h : mayB k s d v = true) :
    1 ≤ k.length ∧ k.length ≤ 256 ∧ 1 ≤ s ∧ s ≤ 4611686018427387904 ∧ v.length ≤ 65536 ∧ (d = true → v.length = 0) := by
  unfold mayB at h
  simp only [Bool.and_eq_true, decide_eq_true_eq, Bool.or_eq_true, Bool.not_eq_true'] at h
  obtain ⟨⟨⟨⟨⟨h1, h2⟩, h3⟩, h4⟩, h5⟩, h6⟩ := h
  refine ⟨h1, h2, h3, h4, h5, fun hd => ?_⟩
  rcases h6 with h6 | h6
  · rw [hd] at h6; cases h6
  · exact h6

set_option maxRecDepth 100000 in
set_option maxHeartbeats 2000000 in
theorem skip_Put_not {B : Nat} {w : World} {t : Nat} {kv vv : Value} {s : Int} {d : Bool} {k v : List UInt8} (hk : BAt B w kv k) (hv : BAt B w vv v) (hkl : Big k) (hvl : Big v) (hm : mayB k s d v = false) :
    Calls Try.prog 21 #[.pointer (some ⟨t, 0, none⟩), .agg #[kv, .int .u64 s, .bool d, vv]] w fun e w' => e = .returned (.int .i64 50) ∧ Below w.heap.size w w' := by
  obtain ⟨ak, ck, hkv⟩ := hk.slice
  obtain ⟨av, cv, hvv⟩ := hv.slice
  subst hkv hvv
  unfold Big at hkl hvl
  have hm := mayB_cases hm
  generalize k.length = kn at *
  generalize v.length = vn at *
  clear hk hv
  have hb0 : ∀ o, Below w.heap.size w (w.alloc o) := fun o => World.below_alloc (Nat.le_refl _) o
  go_enter Try.func21, Try.ntmps21
  cases d
  · simp only [Bool.false_eq_true, false_and, and_false, or_false] at hm
    go_wp2_with fail
    all_goals first | (exfalso; omega) | (go_ret; exact ⟨rfl, hb0 _⟩)
  · simp only [true_and] at hm
    go_wp2_with fail
    all_goals first | (exfalso; omega) | (go_ret; exact ⟨rfl, hb0 _⟩)
end Go.Proofs.Ytpohhlddbdepcaa
