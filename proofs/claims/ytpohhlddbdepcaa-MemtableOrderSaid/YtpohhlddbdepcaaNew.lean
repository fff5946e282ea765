/-
  The walk of the program's New.
-/
import Derived.Test.YtpohhlddbdepcaaY
namespace Go.Proofs.Ytpohhlddbdepcaa
open Go.RowKit

theorem IAt.lift {B : Nat} {w w' : World} {v : Value} {zs : List Int} (h : IAt B w v zs) (hB : B ≤ w.heap.size) (hb : Below w.heap.size w w') : IAt B w' v zs := by
  obtain ⟨a, c, rfl, hlc, hr⟩ := h
  exact ⟨a, c, rfl, hlc, hr.lift hB hb⟩

theorem fresh_skip {lo : Nat} {W : World} {t hb xh : Nat} {l : List Int} {hv : Value} (hrow : W.ownsRow lo 3 1 hv l.length (l.map (.int .i64)))
    (bT : Blk W t 59 #[hv, .pointer (some ⟨hb, 0, none⟩), .int .i64 0, .int .i64 0])
    (bH : Blk W hb 57 #[.slice none 0 0, .int .u64 0, .bool false, .slice none 0 0, .slice (some ⟨xh, 0, none⟩) 12 12])
    (bX : Blk W xh 54 #[.pointer none, .pointer none, .pointer none, .pointer none, .pointer none, .pointer none, .pointer none, .pointer none, .pointer none, .pointer none, .pointer none, .pointer none]) (h1 : lo ≤ t) (h2 : lo ≤ hb) (h3 : lo ≤ xh) : SkipAt lo W t l hv hb xh [] :=
  ⟨bT, h1, ⟨hrow, bH, h2, h3, by simp, List.Pairwise.nil, by simp⟩, fun q hq => by
    obtain rfl : q = 0 := by simpa using hq
    exact bX⟩
theorem own_lower {w : World} {lo lo' : Nat} {e : TypeId} {size n : Nat} {v : Value} {xs : List Value} (h : w.ownsRow lo e size v n xs) (hl : lo' ≤ lo) : w.ownsRow lo' e size v n xs := by
  refine ⟨h.1, ?_⟩
  rcases h.2 with h | ⟨g, cap, cur, h1, h2, h3⟩
  · exact .inl h
  · exact .inr ⟨g, cap, cur, h1, by omega, h3⟩

set_option maxHeartbeats 2000000 in
theorem skip_New {B : Nat} {w : World} {v : Value} {l : List Int} (h : IAt B w v l) (hB : B ≤ w.heap.size) (hl : l.length * 8 ≤ 140737488355328) :
    Calls Try.prog 7 #[v] w fun e w' => ∃ t hv hb xh, e = .returned (.pointer (some ⟨t, 0, none⟩)) ∧ SkipAt w.heap.size w' t l hv hb xh [] ∧ Below w.heap.size w w' := by
  have hmk : ∀ w, (Instr.makeSlice 55 (.int .i64 12) (.int .i64 12)).run Try.prog w = .ok (.slice (some ⟨w.heap.size, 0, none⟩) 12 12) (w.alloc (.cells #[.pointer none, .pointer none, .pointer none, .pointer none, .pointer none, .pointer none, .pointer none, .pointer none, .pointer none, .pointer none, .pointer none, .pointer none] 54)) := fun _ => by kernel_rfl
  go_enter Try.func7, Try.ntmps7
  go_wp2_with fail
  go_region_with (first
    | (go_at_call 27
       (with_reducible refine (slices_Clone_ints (IAt.lift h hB ?_) ?_ hl).mono ?_)
       · (repeat (first | (with_reducible exact Below.refl _ _) | (with_reducible assumption) | (with_reducible refine Below.drew ?_) | (with_reducible refine Below.alloc ?_ (by simp <;> omega) _)))
       · (first | omega | (simp; omega))
       rintro e w1 ⟨u, rfl, hown, hbk⟩
       obtain ⟨A1, c1, hA1⟩ := slice_of_row hown
       subst hA1))
  all_goals
    have hsz : w.heap.size ≤ w1.heap.size := by have := hbk.size; simp at this; omega
    have hbw : Below w.heap.size w w1 := by
      refine Below.trans ?_ (hbk.mono (by simp <;> omega))
      repeat (first | (with_reducible exact Below.refl _ _) | (with_reducible refine Below.drew ?_) | (with_reducible refine Below.alloc ?_ (by simp <;> omega) _))
    have hown2 := own_lower hown (show w.heap.size ≤ _ by simp <;> omega)
  · go_wp2_with fail
    go_ret
    refine ⟨_, _, _, _, rfl, fresh_skip (((hown2.alloc _).alloc _).alloc _) (Blk.new_at _ _ _ _ (by first | rfl | simp)) ((Blk.new_at _ _ _ _ (by first | rfl | simp)).alloc _) (((Blk.new_at _ _ _ _ (by first | rfl | simp)).alloc _).alloc _) (by omega) (by omega) (by omega), ((hbw.alloc (by omega) _).alloc (by simp; omega) _).alloc (by simp; omega) _⟩
  · go_wp2_with fail
    go_ret
    refine ⟨_, _, _, _, rfl, fresh_skip ((hown2.alloc _).alloc _) (Blk.new_at _ _ _ _ (by first | rfl | simp)) ((Blk.new_at _ _ _ _ (by first | rfl | simp)).alloc _) (((((Blk.new_at _ _ _ _ (by first | rfl | simp)).drew).old hbk).alloc _).alloc _) (by omega) (by omega) (by omega), (hbw.alloc (by omega) _).alloc (by simp; omega) _⟩
  · go_wp2_with fail
    go_ret
    refine ⟨_, _, _, _, rfl, fresh_skip (hown2.alloc _) (Blk.new_at _ _ _ _ (by first | rfl | simp)) ((((Blk.new_at _ _ _ _ (by first | rfl | simp)).drew).old hbk).alloc _) (((((Blk.new_at _ _ _ _ (by first | rfl | simp)).alloc _).drew).old hbk).alloc _) (by omega) (by omega) (by omega), hbw.alloc (by omega) _⟩
end Go.Proofs.Ytpohhlddbdepcaa
