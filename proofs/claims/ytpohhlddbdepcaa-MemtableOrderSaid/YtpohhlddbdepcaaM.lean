/-
  The walk of 'mark': an entry of the call's own is written over; nothing else turns.
-/
import Derived.Test.YtpohhlddbdepcaaG
namespace Go.Proofs.Ytpohhlddbdepcaa
open Go.RowKit

set_option maxHeartbeats 1000000 in
theorem law_mark {lo : Nat} {w : World} {kv vv : Value} {s : Int} {d : Bool} {k v : List UInt8} (hk : BOwn lo w kv k) (hv : BOwn lo w vv v) (hkl : Big k) (hvl : Big v) :
    Calls Try.prog 12 #[.agg #[kv, .int .u64 s, .bool d, vv]] w fun e w' => e = .returned (.tuple #[]) ∧ Chg (fun b => kv.ownBlock = some b ∨ vv.ownBlock = some b) w w' := by
  unfold Big at hkl hvl
  have hk1 := hk.below (World.below_alloc (Nat.le_refl _) (.cells #[kv, .int .u64 s, .bool d, vv] 32))
  have hv1 := hv.below (World.below_alloc (Nat.le_refl _) (.cells #[kv, .int .u64 s, .bool d, vv] 32))
  have H0 : Chg (fun b => kv.ownBlock = some b ∨ vv.ownBlock = some b) w (w.alloc (.cells #[kv, .int .u64 s, .bool d, vv] 32)) := (Chg.refl _ _).alloc _
  have bA : Blk (w.alloc (.cells #[kv, .int .u64 s, .bool d, vv] 32)) w.heap.size 32 #[kv, .int .u64 s, .bool d, vv] := Blk.new _ _ _
  have hnk : kv.ownBlock ≠ some w.heap.size := by
    rcases hk with ⟨rfl, rfl⟩ | ⟨b, c, cs, rfl, _, _, hb, _⟩
    · simp [Value.ownBlock]
    · have := lt_of_heap hb
      simp [Value.ownBlock]; omega
  have hnv : vv.ownBlock ≠ some w.heap.size := by
    rcases hv with ⟨rfl, rfl⟩ | ⟨b, c, cs, rfl, _, _, hb, _⟩
    · simp [Value.ownBlock]
    · have := lt_of_heap hb
      simp [Value.ownBlock]; omega
  clear hk hv
  generalize hKB : kv.ownBlock = KB at *
  generalize hVB : vv.ownBlock = VB at *
  obtain ⟨ak, ck, hkv⟩ := hk1.slice
  obtain ⟨av, cv, hvv⟩ := hv1.slice
  subst hkv hvv
  have HK := Lib.hid hk1
  have HV := Lib.hid hv1
  have HKB := Lib.hid hKB
  have HVB := Lib.hid hVB
  have hsz : w.heap.size < w.heap.size + 1 := by omega
  clear hk1 hv1 hKB hVB
  go_enter Try.func12, Try.ntmps12
  go_wp2_with fail
  obtain ⟨W, hW⟩ : ∃ W, W = w.alloc (.cells #[.slice ak k.length ck, .int .u64 s, .bool d, .slice av v.length cv] 32) := ⟨_, rfl⟩
  rw [← hW] at H0 bA HK HV ⊢
  have hsW : W.heap.size = w.heap.size + 1 := by rw [hW]; simp
  clear hW
  have HSW := Lib.hid hsW
  clear hsW
  go_loopw [2] (fun i wr => ∃ j : Nat, j ≤ k.length ∧ i = .int .i64 j ∧ Chg (fun b => KB = some b ∨ VB = some b) W wr) (fun i _ => k.length - (intOf i).toNat)
  case atStart => exact ⟨0, by omega, rfl, Chg.refl _ _⟩
  case round =>
    obtain ⟨j, hj, rfl, hch⟩ := hrel
    have bA1 := hch.blk bA (by rintro (h | h); exact hnk h; exact hnv h)
    have hcA := bA1.cells
    by_cases hlt : j < k.length
    · obtain ⟨b, c, u, hkv, hkb, hlo, hbs, hlc, hcell, hfree⟩ := HK.out.store hch hlt
      cases hkv
      go_wp2_with fail
      go_roundw
      case rel => exact ⟨j + 1, by omega, by go_num, hch.setCell (.inl (.inl (by rw [← HKB.out]; exact hkb))) _⟩
      case measure => simp [intOf]; omega
    · go_wp2_with fail
      go_loopw [3] (fun i wr => ∃ j : Nat, j ≤ v.length ∧ i = .int .i64 j ∧ Chg (fun b => KB = some b ∨ VB = some b) W wr) (fun i _ => v.length - (intOf i).toNat)
      case atStart => exact ⟨0, by omega, rfl, hch⟩
      case round =>
        obtain ⟨j', hj', rfl, hch'⟩ := hrel
        have bA2 := hch'.blk bA (by rintro (h | h); exact hnk h; exact hnv h)
        clear hcA
        have hcA := bA2.cells
        by_cases hlt' : j' < v.length
        · obtain ⟨b, c, u, hkv, hkb, hlo, hbs, hlc, hcell, hfree⟩ := HV.out.store hch' hlt'
          cases hkv
          go_wp2_with fail
          go_roundw
          case rel => exact ⟨j' + 1, by omega, by go_num, hch'.setCell (.inl (.inr (by rw [← HVB.out]; exact hkb))) _⟩
          case measure => simp [intOf]; omega
        · go_wp2_with fail
          go_end0
          exact ⟨rfl, H0.trans hch' (fun _ h _ => h)⟩
end Go.Proofs.Ytpohhlddbdepcaa
