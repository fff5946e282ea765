/-
  Walks on one entry: may it be, its order, equality.
-/
import Derived.Test.YtpohhlddbdepcaaE
import Derived.BigGuardPart
namespace Go.Proofs.Ytpohhlddbdepcaa
open Go.RowKit

set_option maxHeartbeats 1000000 in
theorem ref_May {B : Nat} {w : World} {kv vv : Value} {s : Int} {d : Bool} {k v : List UInt8} (hk : BAt B w kv k) (hv : BAt B w vv v) (hkl : Big k) (hvl : Big v) :
    Calls Try.prog 34 #[.agg #[kv, .int .u64 s, .bool d, vv]] w fun e w' => e = .returned (.bool (mayB k s d v)) ∧ Below w.heap.size w w' := by
  unfold Big at hkl hvl
  obtain ⟨ak, ck, rfl, hck, hrk⟩ := hk
  obtain ⟨av, cv, rfl, hcv, hrv⟩ := hv
  clear hrk hrv
  cases d
  all_goals
    go_enter Try.func34, Try.ntmps34
    go_wp2_with fail
    all_goals
      go_ret
      refine ⟨ret_bool ?_, (Below.refl _ _).alloc (Nat.le_refl _) _⟩
      unfold mayB
      rw [Bool.eq_iff_iff]
      simp only [Bool.and_eq_true, decide_eq_true_eq, Bool.or_eq_true, beq_iff_eq, Bool.not_eq_true', Bool.not_false, Bool.not_true, Bool.false_eq_true, Bool.true_eq, true_iff, false_iff, or_true, true_or, false_or, or_false, and_true, true_and, Int.natCast_eq_zero, decide_eq_false_iff_not]
      omega

theorem wrap_cmp (l m : List UInt8) : -1 ≤ Lib.compareBytes l m ∧ Lib.compareBytes l m ≤ 1 := by
  induction l generalizing m with
  | nil => cases m <;> simp [Lib.compareBytes]
  | cons x l ih =>
    cases m with
    | nil => simp [Lib.compareBytes]
    | cons y m =>
      unfold Lib.compareBytes
      split
      · omega
      · split
        · omega
        · exact ih m

set_option maxHeartbeats 1000000 in
theorem ref_CompareE {B C : Nat} {w : World} {kv vv ku vu : Value} {s s' : Int} {d d' : Bool} {k k' : List UInt8} (hk : BAt B w kv k) (hk' : BAt C w ku k') (hB : B ≤ w.heap.size) (hC : C ≤ w.heap.size) (hkl : Big k) (hkl' : Big k')
    (A A' : Option Addr) (n n' c c' : Nat) (hvv : vv = .slice A n c) (hvu : vu = .slice A' n' c') :
    Calls Try.prog 38 #[.agg #[kv, .int .u64 s, .bool d, vv], .agg #[ku, .int .u64 s', .bool d', vu]] w fun e w' => e = .returned (.int .i64 (cmpE k s k' s')) ∧ Below w.heap.size w w' := by
  subst hvv hvu
  have H1 := Lib.hid hk
  have H2 := Lib.hid hk'
  obtain ⟨ak, ck, rfl, hck, hrk⟩ := hk
  obtain ⟨av, cv, rfl, hcv, hrv⟩ := hk'
  clear hrk hrv
  have hb := wrap_cmp k k'
  obtain ⟨hb1, hb2⟩ := hb
  go_enter Try.func38, Try.ntmps38
  go_wp2_with fail
  refine (ref_Compare (H1.out.lift hB ?h1) (H2.out.lift hC ?h1) hkl hkl').mono ?_
  case h1 => exact ((Below.refl _ _).alloc (Nat.le_refl _) _).alloc (by simp) _
  rintro e w' ⟨rfl, nd, rfl⟩
  generalize hcmp : Lib.compareBytes k k' = q at *
  have HC := Lib.hid hcmp
  clear hcmp
  go_wp2_with fail
  all_goals
    go_ret
    refine ⟨ret_int ?_, by repeat (first | exact Below.refl _ _ | refine below_drewN ?_ _ | refine Below.alloc ?_ (by simp <;> omega) _)⟩
    unfold cmpE
    rw [HC.out]
  · have h : (q != 0) = true := by assumption
    rw [if_pos (by simpa using h)]
  · have h : (q != 0) = false := by assumption
    rw [if_neg (by simpa using h), if_pos (by assumption)]
  · have h : (q != 0) = false := by assumption
    rw [if_neg (by simpa using h), if_neg (by omega), if_pos (by assumption)]
  · have h : (q != 0) = false := by assumption
    rw [if_neg (by simpa using h), if_neg (by omega), if_neg (by omega)]

set_option maxHeartbeats 1000000 in
theorem law_sameOne {B C : Nat} {w : World} {kv vv ku vu : Value} {s s' : Int} {d d' : Bool} {k k' v v' : List UInt8} (hk : BAt B w kv k) (hk' : BAt C w ku k') (hv : BAt B w vv v) (hv' : BAt C w vu v') (hB : B ≤ w.heap.size) (hC : C ≤ w.heap.size) :
    Calls Try.prog 11 #[.agg #[kv, .int .u64 s, .bool d, vv], .agg #[ku, .int .u64 s', .bool d', vu]] w fun e w' => e = .returned (.bool (k == k' && decide (s = s') && d == d' && v == v')) ∧ Below w.heap.size w w' := by
  have hb : ∀ A C, Below w.heap.size w ((w.alloc A).alloc C) := fun A C => ((Below.refl _ _).alloc (Nat.le_refl _) _).alloc (by simp) _
  have c1 := fun A C => run_bytesEq 29 9 5 (P := Try.prog) Try.underlying29 Try.underlying5 Try.underlying9 (hk.lift hB (hb A C))
  have c2 := fun A C => run_bytesEq 29 9 5 (P := Try.prog) Try.underlying29 Try.underlying5 Try.underlying9 (hk'.lift hC (hb A C))
  have c3 := fun A C => run_bytesEq 29 9 5 (P := Try.prog) Try.underlying29 Try.underlying5 Try.underlying9 (hv.lift hB (hb A C))
  have c4 := fun A C => run_bytesEq 29 9 5 (P := Try.prog) Try.underlying29 Try.underlying5 Try.underlying9 (hv'.lift hC (hb A C))
  obtain ⟨ak, ck, rfl, hck, hrk⟩ := hk
  obtain ⟨al, cl, rfl, hcl, hrl⟩ := hk'
  obtain ⟨av, cv, rfl, hcv, hrv⟩ := hv
  obtain ⟨au, cu, rfl, hcu, hru⟩ := hv'
  clear hrk hrl hrv hru hb
  go_enter Try.func11, Try.ntmps11
  go_wp2_with fail
  all_goals
    go_ret
    refine ⟨ret_bool ?_, ((Below.refl _ _).alloc (Nat.le_refl _) _).alloc (by simp) _⟩
    simp [*]

set_option maxHeartbeats 1000000 in
theorem node_ahead {B C : Nat} {w : World} {kv ku : Value} {s s' : Int} {k k' : List UInt8} {b : Nat} {cs : Array Value} (hb : Blk w b 57 cs) (h0 : cs[0]? = some kv) (h1 : cs[1]? = some (.int .u64 s)) (hk : BAt B w kv k) (hk' : BAt C w ku k') :
    Calls Try.prog 35 #[.pointer (some ⟨b, 0, none⟩), ku, .int .u64 s'] w fun e w' => e = .returned (.bool (aheadB k s k' s')) ∧ w = w' := by
  have hc0 : w.cell? ⟨b, 0, none⟩ = some kv := by rw [hb.cells, h0]
  have hc1 : w.cell? ⟨b, 1, none⟩ = some (.int .u64 s) := by rw [hb.cells, h1]
  have H1 := Lib.hid hk
  have H2 := Lib.hid hk'
  obtain ⟨ak, ck, rfl, hck, hrk⟩ := hk
  obtain ⟨av, cv, rfl, hcv, hrv⟩ := hk'
  clear hrk hrv hb h0 h1
  obtain ⟨hb1, hb2⟩ := wrap_cmp k k'
  go_enter Try.func35, Try.ntmps35
  go_wp2_with fail
  refine (codec_Compare H1.out H2.out).mono ?_
  rintro e w' ⟨rfl, rfl⟩
  generalize hcmp : Lib.compareBytes k k' = q at *
  have HC := Lib.hid hcmp
  clear hcmp
  go_wp2_with fail
  all_goals
    go_ret
    refine ⟨ret_bool ?_, rfl⟩
    unfold aheadB
    rw [HC.out]
    rw [Bool.eq_iff_iff]
    simp
    omega
end Go.Proofs.Ytpohhlddbdepcaa
