/-
  The walk of the document's examples.
-/
import Derived.Test.YtpohhlddbdepcaaSho
import Derived.Deep.QuietTactic
import Derived.BigQuiet
import Derived.Outline
import Derived.Lib.SlBytesConst
namespace Go.Proofs.Ytpohhlddbdepcaa
open Go.RowKit

/-- A table that the call made, and what else it did. -/
def ShI (w W : World) (t : Nat) (L : List EH) : Prop := ∃ lo, w.heap.size ≤ lo ∧ SkipL (fun _ => False) lo W t [1, 3] L ∧ Below w.heap.size w W
theorem one_byte (W : World) (x : UInt8) (T : TypeId) (f : Nat × Nat) : BAt (W.heap.size + 1) (W.alloc (.cells #[.int .u8 (x.toNat : Int)] T f)) (.slice (some ⟨W.heap.size, 0, none⟩) 1 1) [x] := by
  refine ⟨_, 1, rfl, Nat.le_refl _, fun j hj => ?_⟩
  obtain rfl : j = 0 := by simpa using hj
  refine ⟨_, 0, rfl, by omega, ?_⟩
  rw [cell_of_row _ W.heap.size _ #[.int .u8 (x.toNat : Int)] T f (heap_alloc_new W _)]
  rfl
theorem one_fresh (W : World) (x : UInt8) (T : TypeId) (f : Nat × Nat) : Below W.heap.size W (W.alloc (.cells #[.int .u8 (x.toNat : Int)] T f)) := World.below_alloc (Nat.le_refl _) _
theorem ShI.old {w W W' : World} {t : Nat} {L : List EH} (h : ShI w W t L) (hb : Below W.heap.size W W') : ShI w W' t L := by
  obtain ⟨lo, h1, h2, h3⟩ := h
  exact ⟨lo, h1, h2.old hb, h3.trans (hb.mono h3.size)⟩
theorem sh_put {w W : World} {t : Nat} {L : List EH} (h : ShI w W t L) (hn : L.length ≤ 100) (x : UInt8) (y : Int) (hy : (x.toNat : Int) = y) (s : Int) (r : Int) (L' : List EH) (hp : putL [1, 3] L ⟨[x], s, false, []⟩ = (r, L')) :
    Calls Try.prog 21 #[.pointer (some ⟨t, 0, none⟩), .agg #[.slice (some ⟨W.heap.size, 0, none⟩) 1 1, .int .u64 s, .bool false, .slice none 0 0]] (W.alloc (.cells #[.int .u8 y] 5 (1, 2))) fun e w' => e = .returned (.int .i64 r) ∧ ShI w w' t L' ∧ W.heap.size ≤ w'.heap.size := by
  subst hy
  obtain ⟨lo, h1, h2, h3⟩ := h.old (one_fresh W x 5 (1, 2))
  refine (skipL_Put (e := ⟨[x], s, false, []⟩) h2 (fun _ h => h.elim) (by omega) (one_byte W x _ _) (BAt.nil _ _) (by simp) (by simp [Big]) (by simp [Big])).mono ?_
  rintro e w' ⟨rfl, h4, h5⟩
  rw [hp] at h4
  rw [hp]
  refine ⟨rfl, ⟨lo, h1, h4, h3.trans (h5.below h3.size fun b hb hs => by have := hs.1; omega)⟩, by have := h5.size; simp at this; omega⟩

theorem sh_get {w W : World} {t : Nat} (h : ShI w (W.alloc (.cells #[.int .u8 98] 5 (1, 2))) t [(eA2, 3), (eB5, 1), (eB1, 1)]) :
    Calls Try.prog 9 #[.pointer (some ⟨t, 0, none⟩), .slice (some ⟨W.heap.size, 0, none⟩) 1 1, .int .u64 4] (W.alloc (.cells #[.int .u8 98] 5 (1, 2))) fun e w' => ∃ Ak ck Av cv, e = .returned (.tuple #[.agg #[.slice Ak 1 ck, .int .u64 1, .bool false, .slice Av 0 cv], .bool true]) ∧ ShI w w' t [(eA2, 3), (eB5, 1), (eB1, 1)] := by
  obtain ⟨lo, h1, h2, h3⟩ := id h
  refine (skipL_Get (s := 4) h2 (by simp) (one_byte W 98 5 (1, 2)) (by simp)).mono ?_
  rintro e w6 ⟨hb6, hget⟩
  rw [shown5] at hget
  obtain ⟨kv, vv, rfl, hkv, hvv, -⟩ := hget
  obtain ⟨Ak, ck, hA⟩ := hkv.slice
  obtain ⟨Av, cv, hA'⟩ := hvv.slice
  subst hA hA'
  exact ⟨Ak, ck, Av, cv, rfl, h.old hb6⟩
theorem sh_level {w W : World} {t : Nat} (h : ShI w W t [(eA2, 3), (eB5, 1), (eB1, 1)]) :
    Calls Try.prog 16 #[.pointer (some ⟨t, 0, none⟩), .int .i64 2] W fun e w' => ∃ g o c A n, e = .returned (.slice (some ⟨g, o, none⟩) 1 c) ∧ 1 ≤ c ∧ w'.cell? ⟨g, o, none⟩ = some (.slice A 1 n) ∧ BAt w'.heap.size w' (.slice A 1 n) [97] ∧ Below W.heap.size W w' := by
  obtain ⟨lo, h1, h2, h3⟩ := id h
  refine (skipL_Level h2 (by simp) 2).mono ?_
  rintro e w' ⟨v, cs, rfl, ho, hc, hb⟩
  rw [shown6] at hc
  have hE := ho.ents
  rw [hc] at hE
  obtain ⟨g, o, c, kv, vv, rfl, hcap, hg, k0, -, -, -, hkv, -⟩ := hE.at_ (i := 0) (by simp)
  obtain ⟨A, n, rfl⟩ := hkv.slice
  exact ⟨g, o, c, A, n, rfl, hcap, by simpa [eA2] using k0, hkv, hb⟩
theorem sh_steps {w W : World} {t : Nat} (h : ShI w (W.alloc (.cells #[.int .u8 98] 5 (1, 2))) t [(eA2, 3), (eB5, 1), (eB1, 1)]) :
    Calls Try.prog 18 #[.pointer (some ⟨t, 0, none⟩), .slice (some ⟨W.heap.size, 0, none⟩) 1 1, .int .u64 1] (W.alloc (.cells #[.int .u8 98] 5 (1, 2))) fun e w' => e = .returned (.int .i64 3) ∧ Below (W.heap.size + 1) (W.alloc (.cells #[.int .u8 98] 5 (1, 2))) w' := by
  obtain ⟨lo, h1, h2, h3⟩ := id h
  refine (skipL_Steps (s := 1) h2 (by simp) (one_byte W 98 5 (1, 2)) (by simp)).mono ?_
  rintro e w6 ⟨rfl, hb6⟩
  rw [shown7]
  exact ⟨rfl, by simpa using hb6⟩

theorem sh_end {w W : World} {t : Nat} (h : ShI w W t [(eA2, 3), (eB5, 1), (eB1, 1)]) (q : Nat) :
    Calls Try.prog 23 #[.pointer (some ⟨t, 0, none⟩)] (W.drewN q) (fun e w' => e = .returned (.int .i64 3) ∧ w' = W.drewN q) ∧
    Calls Try.prog 25 #[.pointer (some ⟨t, 0, none⟩)] (W.drewN q) (fun e w' => e = .returned (.int .i64 51) ∧ w' = W.drewN q) := by
  obtain ⟨lo, h1, h2, h3⟩ := h
  have h4 := h2.old (below_drewN (Below.refl _ _) q)
  have := skipL_Bytes h4
  rw [shown8] at this
  exact ⟨skipL_Len h4, this⟩

set_option maxRecDepth 100000 in
set_option maxHeartbeats 2000000 in
theorem law_shown (w : World) :
    Calls Try.prog 6 #[] w fun e w' => e = .returned (.bool true) ∧ Below w.heap.size w w' := by
  have kc := fun (w : World) (C : Array Value) (n c : Nat) => Lib.run_convert_bytes_const (P := Try.prog) w 29 5 C n c Try.underlying29 Try.underlying5
  go_enter Try.func6, Try.ntmps6
  go_wp2_with fail
  refine (skipL_New (Z := fun _ => False) (l := [1, 3]) (B := w.heap.size + 1) ⟨_, 2, rfl, Nat.le_refl _, ?h1⟩ (by simp) (by simp)).mono ?_
  case h1 =>
    intro j hj
    refine ⟨_, 0, rfl, by omega, ?_⟩
    rw [(Blk.new w _ _).cells]
    simp at hj
    rcases j with _ | _ | j
    · rfl
    · rfl
    · omega
  rintro e w1 ⟨t, rfl, hS, hb⟩
  have H1 : ShI w w1 t [] := ⟨_, by simp, hS, (World.below_alloc (Nat.le_refl _) _).trans (hb.mono (by simp))⟩
  have H := Lib.hid H1
  clear H1 hS hb
  go_wp2_with fail
  refine (sh_put H.out (by simp) 98 98 rfl 1 _ _ shown1).mono ?_
  rintro e w2 ⟨rfl, H2, hs2⟩
  clear H
  have H := Lib.hid H2
  clear H2 hs2
  go_wp2_with fail
  refine (sh_put H.out (by simp) 97 97 rfl 2 _ _ shown2).mono ?_
  rintro e w3 ⟨rfl, H2, hs2⟩
  clear H
  have H := Lib.hid H2
  clear H2 hs2
  go_wp2_with fail
  refine (sh_put H.out (by simp) 98 98 rfl 5 _ _ shown3).mono ?_
  rintro e w4 ⟨rfl, H2, hs2⟩
  clear H
  have H := Lib.hid H2
  clear H2 hs2
  go_wp2_with fail
  refine (sh_put H.out (by simp) 98 98 rfl 5 _ _ shown4).mono ?_
  rintro e w5 ⟨rfl, H2, hs2⟩
  clear H
  have H := Lib.hid (H2.old (one_fresh w5 98 5 (1, 2)))
  clear H2 hs2
  go_wp2_with fail
  refine (sh_get H.out).mono ?_
  rintro e w6 ⟨Ak, ck, Av, cv, rfl, H6⟩
  clear H
  have H7 := Lib.hid (H6.old (World.below_alloc (Nat.le_refl _) (.cells #[.slice Ak 1 ck, .int .u64 1, .bool false, .slice Av 0 cv] 32)))
  have b6 := Lib.hid (Blk.new w6 32 #[.slice Ak 1 ck, .int .u64 1, .bool false, .slice Av 0 cv])
  clear H6
  go_wp2_with fail
  refine (sh_level H7.out).mono ?_
  rintro e w8 ⟨g, o, c, kv, n, rfl, hle, k0, hk, hb8⟩
  have H8 := Lib.hid (H7.out.old hb8)
  have B8 := Lib.hid (b6.out.old hb8)
  have hbk := hb8
  have HK := Lib.hid (And.intro k0 hk)
  clear H7 b6 hb8 k0 hk hbk
  go_wp2_with fail
  have H9 := Lib.hid (H8.out.old (one_fresh w8 98 5 (1, 2)))
  refine (sh_steps H9.out).mono ?_
  rintro e w10 ⟨rfl, hb⟩
  have h10 := H9.out.old (hb.mono (by simp) : Below (w8.alloc (.cells #[.int .u8 98] 5 (1, 2))).heap.size _ w10)
  have hb0 : Below w8.heap.size w8 w10 := (one_fresh w8 98 5 (1, 2)).trans (hb.mono (by simp))
  have hcx : w10.cell? ⟨w6.heap.size, 1, none⟩ = some (.int .u64 1) := by rw [(B8.out.old hb0).cells]; rfl
  have hck : w10.cell? ⟨g, o, none⟩ = some (.slice kv 1 n) := by
    have hlt := World.block_lt_of_cell? w8 _ HK.out.1
    rw [hb0.cell (p := ⟨g, o, none⟩) hlt, HK.out.1]
  have q1 := run_bytesEq 29 9 5 (P := Try.prog) Try.underlying29 Try.underlying5 Try.underlying9 (HK.out.2.lift (Nat.le_refl _) hb0)
  have HQ := Lib.hid (sh_end h10)
  have hfin : ∀ q, Below w.heap.size w (w10.drewN q) := fun q => by
    obtain ⟨lo, h1, h2, h3⟩ := h10
    exact below_drewN h3 q
  have HF := Lib.hid hfin
  clear hfin h10 hb0 hb HK H9 H8 B8 kc hle
  go_wp2_with (first
    | (go_at_call 23; refine (HQ.out 0).1.mono ?_; rintro e w11 ⟨rfl, rfl⟩)
    | (go_at_call 25; refine (HQ.out 0).2.mono ?_; rintro e w11 ⟨rfl, rfl⟩))
  go_ret
  exact ⟨rfl, HF.out 0⟩
end Go.Proofs.Ytpohhlddbdepcaa
