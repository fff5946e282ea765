/-
  Walks: an entry in new memory ('own'); an entry written over ('mark').
-/
import Derived.Test.YtpohhlddbdepcaaF
namespace Go.Proofs.Ytpohhlddbdepcaa
open Go.RowKit

set_option maxHeartbeats 2000000 in
theorem mem_own {B : Nat} {w : World} {kv vv : Value} {s : Int} {d : Bool} {k v : List UInt8} (hk : BAt B w kv k) (hv : BAt B w vv v) (hB : B ≤ w.heap.size) (hkl : Big k) (hvl : Big v) :
    Calls Try.prog 30 #[.agg #[kv, .int .u64 s, .bool d, vv]] w fun e w' => ∃ ku vu, e = .returned (.agg #[ku, .int .u64 s, .bool d, vu]) ∧
      BOwn w.heap.size w' ku k ∧ BOwn w.heap.size w' vu v ∧ Below w.heap.size w w' := by
  obtain ⟨ak, nk, ck, hkv⟩ : ∃ A n c, kv = .slice A n c := by obtain ⟨A, c, h⟩ := hk.slice; exact ⟨_, _, _, h⟩
  obtain ⟨av, nv, cv, hvv⟩ : ∃ A n c, vv = .slice A n c := by obtain ⟨A, c, h⟩ := hv.slice; exact ⟨_, _, _, h⟩
  subst hkv hvv
  go_enter Try.func30, Try.ntmps30
  go_wp2_with fail
  have hs0 : w.heap.size < w.heap.size + 1 + 1 := by omega
  go_region_with (first
    | (go_at_call 37
       (with_reducible refine (bytes_Clone (BAt.lift hk hB ?_) ?_ hkl).mono ?_)
       · (repeat (first | (with_reducible exact Below.refl _ _) | (with_reducible assumption) | (with_reducible refine Below.drew ?_) | (with_reducible refine Below.alloc ?_ (by simp <;> omega) _)))
       · (first | omega | (simp; omega))
       rintro e w1 ⟨ku, rfl, hku, hbk⟩
       have hbw := Below.trans (show Below w.heap.size w _ by (repeat (first | (with_reducible exact Below.refl _ _) | (with_reducible assumption) | (with_reducible refine Below.drew ?_) | (with_reducible refine Below.alloc ?_ (by simp <;> omega) _)))) (hbk.mono (by simp <;> omega))
       have bA : Blk w1 w.heap.size _ _ := Blk.old (((Blk.new w _ _).alloc _).drew) hbk
       have bR : Blk w1 (w.heap.size + 1) _ _ := Blk.old ((Blk.new_at _ _ _ _ (by simp)).drew) hbk
       have hs1 : w.heap.size + 1 + 1 ≤ w1.heap.size := by simpa using hbk.size
       have hcA := bA.cells
       have hfA := bA.free
       clear hs0 hbk)
    | (go_at_call 36
       (with_reducible refine (slices_Clip hku).mono ?_)
       rintro e w1' ⟨ku', rfl, hku', rfl⟩
       clear hku
       have hku2 := hku'
       clear hku')
    | (go_at_call 37
       (with_reducible refine (bytes_Clone (BAt.lift hv hB ?_) ?_ hvl).mono ?_)
       · (repeat (first | (with_reducible exact Below.refl _ _) | (with_reducible assumption) | (with_reducible refine Below.drew ?_) | (with_reducible refine Below.alloc ?_ (by simp <;> omega) _)))
       · (first | omega | (simp; omega))
       rintro e w2 ⟨vu, rfl, hvu, hbv⟩
       have hbw2 := hbw.trans (hbv.mono (by omega))
       have hs2 := hbv.size
       have bA2 := bA.old hbv
       have bR2 := bR.old hbv
       have hku3 := hku2.below hbv
       clear hcA hfA bA bR hku2
       have hcA := bA2.cells
       have hfA := bA2.free
       have hcR := bR2.cells
       have hfR := bR2.free)
    | (go_at_call 36
       (with_reducible refine (slices_Clip hvu).mono ?_)
       rintro e w1' ⟨vu', rfl, hvu', rfl⟩
       clear hvu
       obtain ⟨A1, c1, hA1⟩ := hku3.slice
       obtain ⟨A2, c2, hA2⟩ := hvu'.slice
       subst hA1 hA2))
  all_goals
    have hfin : ∀ W, Chg (fun b => b = w.heap.size ∨ b = w.heap.size + 1) w2 W → BOwn w.heap.size W (.slice A1 k.length c1) k ∧ BOwn w.heap.size W (.slice A2 v.length c2) v ∧ Below w.heap.size w W := fun W h =>
      ⟨(hku3.chg h (by simp; omega)).mono (by simp; omega), (hvu'.chg h (by omega)).mono (by omega), hbw2.trans (h.below (by omega) (by intro b hb; omega))⟩
    have Hfin := Lib.hid hfin
    clear hfin hku3 hvu' bA2 bR2 hbw hbw2
    go_wp2_with fail
    refine bodyPost_ret (v := .agg #[.slice A1 k.length c1, .int .u64 s, .bool d, .slice A2 v.length c2]) (by simp [results, Try.results30, go_sem, hcR]) rfl ?_
    exact ⟨_, _, rfl, Hfin.out _ (by repeat (first | (with_reducible exact Chg.refl _ _) | (with_reducible refine Chg.setCell ?_ (by simp) _)))⟩
end Go.Proofs.Ytpohhlddbdepcaa
