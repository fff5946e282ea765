/-
  The walks of the functions on one entry: its copy, whether it may be, its order, equality, and its being written over; for any entry.
-/
import Derived.Test.YtpohhlddbdepcaaL
import Derived.Test.YtpohhlddbdepcaaP
import Derived.Deep.DeepCutAuto
import Derived.Deep.RegionHeld3
namespace Go.Proofs.Ytpohhlddbdepcaa
open Go.RowKit

set_option maxHeartbeats 1000000 in
theorem ref_Copy {B : Nat} {w : World} {kv vv : Value} {s : Int} {d : Bool} {k v : List UInt8} (hk : BAt B w kv k) (hv : BAt B w vv v) (hB : B ≤ w.heap.size) (hkl : Big k) (hvl : Big v) :
    Calls Try.prog 20 #[.agg #[kv, .int .u64 s, .bool d, vv]] w fun e w' => ∃ ku vu, e = .returned (.agg #[ku, .int .u64 s, .bool d, vu]) ∧
      BOwn w.heap.size w' ku k ∧ BOwn w.heap.size w' vu v ∧ Below w.heap.size w w' := by
  obtain ⟨i0, hi0, hz0, hz1, hz2⟩ := info_parts Try_infoU8
  unfold Big at hkl hvl
  obtain ⟨ak, ck, rfl, hck, hrk⟩ := hk
  obtain ⟨av, cv, rfl, hcv, hrv⟩ := hv
  have hown0 := fun (W : World) (base : Nat) => World.ownsRow_nil W base 5 1
  have hT := Lib.hid hown0
  clear hown0
  go_enter Try.func20, Try.ntmps20
  go_wp2_with (at_builtin; refine Stop.of ?_)
  refine Stop.mk ?_
  refine wpList_append_src _ rfl (.tmp 10) (.tmp 12) 29 rfl w.heap.size 5 i0 _ 1 1 Try.underlying29 hi0 hz0 hz1 hz2 rfl (by decide) (.slice none 0 0) 0 [] rfl (hT.out _ _) B ak k.length ck (k.map u8) rfl (by simp)
    (hrk.lift hB ?h1) (u8_one k) (by unfold maxLen; omega) (by omega) (by simp; omega) ?h3
  case h1 => repeat (first | exact Below.refl _ _ | refine Below.alloc ?_ (by simp <;> omega) _)
  case h3 =>
  intro v1 w1 hown1 hg1 hat1
  have hb1 := below_of_grown_none hg1
  have hs1 := hb1.size
  have hbw1 : Below w.heap.size w w1 := Below.trans (by repeat (first | exact Below.refl _ _ | refine Below.alloc ?_ (by simp <;> omega) _)) (hb1.mono (by simp <;> omega))
  have bA : Blk w1 w.heap.size _ _ := (((Blk.new w _ _).alloc _).alloc _).old hb1
  have bR : Blk w1 (w.heap.size + 1) _ _ := ((Blk.new_at _ _ _ _ (by simp)).alloc _).old hb1
  have bO : Blk w1 (w.heap.size + 1 + 1) _ _ := (Blk.new_at _ _ _ _ (by simp)).old hb1
  have hc1 := bA.cells
  have hc2 := bO.cells
  have hf2 := bO.free
  simp only [World.size_alloc] at hs1
  obtain ⟨A1, c1, rfl⟩ := slice_of_row hown1
  clear hg1 hat1 hb1
  go_wp2_with (at_builtin; refine Stop.of ?_)
  refine Stop.mk ?_
  refine wpList_append_src _ rfl (.tmp 16) (.tmp 18) 29 rfl w.heap.size 5 i0 _ 1 1 Try.underlying29 hi0 hz0 hz1 hz2 rfl (by decide) (.slice none 0 0) 0 [] rfl (hT.out _ _) B av v.length cv (v.map u8) rfl (by simp)
    (hrv.lift hB ?h1) (u8_one v) (by unfold maxLen; omega) (by omega) (by simp; omega) ?h3
  case h1 => exact hbw1.setCell (by simp <;> omega) _
  case h3 =>
  intro v2 w2 hown2 hg2 hat2
  have hb2 := below_of_grown_none hg2
  have hs2 := hb2.size
  have hbw2 : Below w.heap.size w w2 := Below.trans (hbw1.setCell (by simp <;> omega) _) (hb2.mono (by simp <;> omega))
  have bR2 := (bR.far (p := ⟨w.heap.size + 1 + 1, 0, none⟩) (by simp) _).old hb2
  have bO2 := (bO.set_ _ _).old hb2
  clear hc1 hc2 hf2 bA
  have hc1 := bR2.cells
  have hf1 := bR2.free
  have hc2 := bO2.cells
  have hf2 := bO2.free
  simp only [World.size_setCell] at hs2
  have hown1' := own_below (own_setCell_far hown1 bO (by decide) _ _) hb2
  have n1 := own_blk_ne hown1' bO2 (by decide)
  have n2 := own_blk_ne hown1' bR2 (by decide)
  have n3 := own_blk_ne hown2 bO2 (by decide)
  have n4 := own_blk_ne hown2 bR2 (by decide)
  obtain ⟨A2, c2, rfl⟩ := slice_of_row hown2
  clear hg2 hat2 hb2 bO bR bR2 bO2 hown1
  go_wp2_with fail
  refine bodyPost_ret (v := .agg #[.slice A1 k.length c1, .int .u64 s, .bool d, .slice A2 v.length c2]) (by simp [results, Try.results20, go_sem, hc1]) rfl ?_
  have hch : ∀ W, Chg (fun b => b = w.heap.size + 1 ∨ b = w.heap.size + 1 + 1) w2 W → BOwn w.heap.size W (.slice A1 k.length c1) k ∧ BOwn w.heap.size W (.slice A2 v.length c2) v ∧ Below w.heap.size w W := fun W h =>
    ⟨by have := h.own2 (l := k) hown1' n2 n1 rfl; simpa using this, by have := h.own2 (l := v) hown2 n4 n3 rfl; simpa using this, hbw2.trans (h.below (by omega) (by intro b hb; omega))⟩
  exact ⟨_, _, rfl, hch _ (by repeat (first | (with_reducible exact Chg.refl _ _) | (with_reducible refine Chg.setCell ?_ (by simp) _)))⟩
end Go.Proofs.Ytpohhlddbdepcaa
