/-
  The walks of the reference's table: New, Len, Bytes, Put.
-/
import Derived.Test.YtpohhlddbdepcaaR
import Derived.Deep.AppendLies
namespace Go.Proofs.Ytpohhlddbdepcaa
open Go.RowKit

theorem Try_infoRN : (Try.prog.info? 70).map (fun i => (i.zero, i.size, i.bytes)) = some (some (.agg #[.slice none 0 0, .int .u64 0, .bool false, .slice none 0 0, .int .i64 0]), 5, 72) := by kernel_rfl

set_option maxHeartbeats 1000000 in
theorem ref_New {B : Nat} {w : World} {v : Value} {l : List Int} (h : IAt B w v l) (hB : B ≤ w.heap.size) (hl : l.length * 8 ≤ 140737488355328) :
    Calls Try.prog 8 #[v] w fun e w' => ∃ hv, e = .returned (.pointer (some ⟨w.heap.size, 0, none⟩)) ∧ RefAt w.heap.size w' w.heap.size l hv (.slice none 0 0) [] ∧ Below w.heap.size w w' := by
  obtain ⟨i0, hi0, hz0, hz1, hz2⟩ := info_parts Try_infoInt
  obtain ⟨a, c, rfl, hlc, hr⟩ := h
  have h0 := World.ownsRow_nil (w.alloc (.cells #[.slice none 0 0, .slice none 0 0] 62)) w.heap.size 3 1
  have H0 := Lib.hid h0
  clear h0
  go_enter Try.func8, Try.ntmps8
  go_wp2_with (at_builtin; refine Stop.of ?_)
  refine Stop.mk ?_
  refine wpList_append_src _ rfl (.tmp 10) (.tmp 11) 22 rfl w.heap.size 3 i0 _ 1 8 Try.underlying22 hi0 hz0 hz1 hz2 rfl (by decide) (.slice none 0 0) 0 [] rfl H0.out B a l.length c (l.map (.int .i64)) rfl (by simp)
    (hr.lift hB (World.below_alloc (Nat.le_refl _) _)) (ints_oneCell _ l) (by unfold maxLen; omega) (by omega) (by simp) ?_
  intro v1 w1 hown1 hg1 hat1
  have hb1 := below_of_grown_none hg1
  have bT : Blk w1 w.heap.size _ _ := (Blk.new w _ _).old hb1
  have hbw1 : Below w.heap.size w w1 := (World.below_alloc (Nat.le_refl _) _).trans (hb1.mono (by simp))
  have hs1 : w.heap.size + 1 ≤ w1.heap.size := by have := hb1.size; simpa using this
  have hc1 := bT.cells
  have hf1 := bT.free
  have hown2 := own_setCell_far hown1 bT (by decide) 0 v1
  obtain ⟨A1, c1, rfl⟩ := slice_of_row hown1
  clear hg1 hat1 hb1
  go_wp2_with fail
  go_ret
  simp only [Nat.zero_add, List.nil_append] at hown2
  exact ⟨_, rfl, ⟨bT.set_ 0 _, Nat.le_refl _, hown2, World.ownsRow_nil _ _ _ _, by simp, List.Pairwise.nil⟩, hbw1.setCell (by simp) _⟩

set_option maxHeartbeats 1000000 in
theorem ref_Len {lo : Nat} {w : World} {t : Nat} {hs : List Int} {hv lv : Value} {ms : List MEnt} (hR : RefAt lo w t hs hv lv ms) :
    Calls Try.prog 24 #[.pointer (some ⟨t, 0, none⟩)] w fun e w' => e = .returned (.int .i64 (ms.length : Nat)) ∧ w = w' := by
  obtain ⟨al, cl, hll⟩ := slice_of_row hR.lrow
  subst hll
  have hc := hR.tbl.cells
  clear hR
  go_enter Try.func24, Try.ntmps24
  go_wp2_with fail
  go_ret
  exact ⟨rfl, rfl⟩

/-- What a table's bytes come to. -/
def bytesOf (l : List Ent) : Nat := (l.map fun e => e.key.length + e.val.length + 16).sum
theorem bytesOf_snoc (l : List Ent) (e : Ent) : bytesOf (l ++ [e]) = bytesOf l + (e.key.length + e.val.length + 16) := by simp [bytesOf]
theorem bytesOf_le (l : List Ent) (h : ∀ e ∈ l, OkE e) : bytesOf l ≤ l.length * 70000 := by
  induction l with
  | nil => simp [bytesOf]
  | cons a l ih =>
    have ha := h a (List.mem_cons_self ..)
    have := ih fun e he => h e (List.mem_cons_of_mem _ he)
    have h1 := ha.key
    have h2 := ha.val
    simp only [bytesOf, List.map_cons, List.sum_cons, List.length_cons] at *
    omega

set_option maxHeartbeats 1000000 in
theorem ref_Bytes {lo : Nat} {w : World} {t : Nat} {hs : List Int} {hv lv : Value} {ms : List MEnt} (hR : RefAt lo w t hs hv lv ms) (hn : ms.length ≤ 100000) :
    Calls Try.prog 26 #[.pointer (some ⟨t, 0, none⟩)] w fun e w' => e = .returned (.int .i64 (bytesOf (ms.map MEnt.e) : Nat)) ∧ ∃ n, w' = w.drewN n := by
  obtain ⟨al, cl, hll⟩ := slice_of_row hR.lrow
  subst hll
  have HR := Lib.hid hR
  have hc := hR.tbl.cells
  clear hR
  go_enter Try.func26, Try.ntmps26
  go_wp2_with fail
  have hle := fun k => bytesOf_le ((ms.take k).map MEnt.e) (by
    intro e he
    obtain ⟨m, hm, rfl⟩ := List.mem_map.1 he
    exact (HR.out.each m (List.mem_of_mem_take hm)).2.2)
  have HLE := Lib.hid hle
  clear hle
  go_loopw [3, 4] (fun n i wr => ∃ k q : Nat, k ≤ ms.length ∧ i = .int .i64 k ∧ n = .int .i64 (bytesOf ((ms.take k).map MEnt.e) : Nat) ∧ wr = w.drewN q) (fun _ i _ => ms.length - (intOf i).toNat)
  case atStart => exact ⟨0, 0, by omega, rfl, rfl, rfl⟩
  case round =>
    obtain ⟨k, q, hk, rfl, rfl, rfl⟩ := hrel
    have hb := HLE.out k
    rw [List.length_map, List.length_take] at hb
    by_cases hlt : k < ms.length
    · obtain ⟨g, c', hl1, hl2, -⟩ := HR.out.slice (by omega)
      cases hl1
      obtain ⟨k0, -, -, k3, -⟩ := HR.out.at_ rfl hlt
      have hE := HR.out.each _ (List.getElem_mem hlt)
      obtain ⟨A1, c1, hA1⟩ := hE.1.slice
      obtain ⟨A2, c2, hA2⟩ := hE.2.1.slice
      have hkl := (hE.2.2).key.2
      have hvl := (hE.2.2).val
      rw [hA1] at k0
      rw [hA2] at k3
      have i0 : (0 : Int) ≤ (k : Int) := by omega
      have i1 : (k : Int) < (ms.length : Int) := by omega
      have hsn : bytesOf ((ms.take (k + 1)).map MEnt.e) = bytesOf ((ms.take k).map MEnt.e) + (ms[k].e.key.length + ms[k].e.val.length + 16) := by
        rw [List.take_succ_eq_append_getElem hlt, List.map_append, List.map_singleton, bytesOf_snoc]
      have HS := Lib.hid hsn
      clear hsn hE hA1 hA2
      generalize bytesOf ((ms.take k).map MEnt.e) = Z at *
      generalize ms[k].e.key.length = X at *
      generalize ms[k].e.val.length = Y at *
      have hb' : Z ≤ 7000000000 := by
        have : min k ms.length ≤ 100000 := by omega
        have := Nat.mul_le_mul_right 70000 this
        omega
      clear hb
      go_wp2_with fail
      go_quiet (fail)
      go_wp2_with fail
      go_roundw
      case rel => exact ⟨k + 1, _, by omega, by go_num, by rw [HS.out]; go_num, rfl⟩
      case measure => simp [intOf]; omega
    · obtain rfl : k = ms.length := by omega
      rw [List.take_length] at *
      go_wp2_with fail
      go_ret
      exact ⟨rfl, _, rfl⟩

/-- The height of the n-th entry that is put. -/
def hOf (hs : List Int) (n : Nat) : Nat := if hs.length = 0 then 1 else (min 12 (max 1 (hs.getD (n % hs.length) 0))).toNat
theorem hOf_bd (hs : List Int) (n : Nat) : 1 ≤ hOf hs n ∧ hOf hs n ≤ 12 := by
  unfold hOf
  split <;> omega

theorem IAtRow {lo : Nat} {w : World} {v : Value} {l : List Int} (h : w.ownsRow lo 3 1 v l.length (l.map (.int .i64))) {i : Nat} (hi : i < l.length) : ∃ g c, v = .slice (some ⟨g, 0, none⟩) l.length c ∧ l.length ≤ c ∧ w.cell? ⟨g, i, none⟩ = some (.int .i64 (l.getD i 0)) := by
  rcases h.2 with ⟨_, h0⟩ | ⟨g, cap, cur, rfl, hlo, hg, hc, rest⟩
  · omega
  · refine ⟨g, cap, rfl, hc, ?_⟩
    rw [h.cellAt i (by omega)]
    simp [List.getD, List.getElem?_eq_getElem hi]

set_option maxHeartbeats 1000000 in
theorem ref_Put_not {lo B : Nat} {w : World} {t : Nat} {kv vv : Value} {s : Int} {d : Bool} {k v : List UInt8} (hk : BAt B w kv k) (hv : BAt B w vv v) (hB : B ≤ w.heap.size) (hkl : Big k) (hvl : Big v) (hm : mayB k s d v = false) :
    Calls Try.prog 22 #[.pointer (some ⟨t, 0, none⟩), .agg #[kv, .int .u64 s, .bool d, vv]] w fun e w' => e = .returned (.int .i64 50) ∧ Below w.heap.size w w' := by
  have H1 := Lib.hid hk
  have H2 := Lib.hid hv
  obtain ⟨ak, ck, hkv⟩ := hk.slice
  obtain ⟨av, cv, hvv⟩ := hv.slice
  subst hkv hvv
  clear hk hv
  have hb0 : ∀ o, Below w.heap.size w (w.alloc o) := fun o => World.below_alloc (Nat.le_refl _) o
  go_enter Try.func22, Try.ntmps22
  go_wp2_with fail
  refine (ref_May (H1.out.lift hB (hb0 _)) (H2.out.lift hB (hb0 _)) hkl hvl).mono ?_
  rintro e w' ⟨rfl, hb⟩
  rw [hm]
  have hbw : Below w.heap.size w w' := (hb0 _).trans (hb.mono (by simp))
  clear hb hb0
  go_wp2_with fail
  go_ret
  exact ⟨rfl, hbw⟩
end Go.Proofs.Ytpohhlddbdepcaa
