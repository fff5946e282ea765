/-
  The reference's table in memory, and its search.
-/
import Derived.Test.YtpohhlddbdepcaaM
namespace Go.Proofs.Ytpohhlddbdepcaa
open Go.RowKit

theorem flat_get {α : Type} (f : α → List Value) (k : Nat) (hf : ∀ a, (f a).length = k) : ∀ (l : List α) (i : Nat) (h : i < l.length) (j : Nat), j < k → (l.flatMap f)[i * k + j]? = (f l[i])[j]?
  | [], i, h, _, _ => by simp at h
  | a :: l, 0, _, j, hj => by
    rw [List.flatMap_cons, List.getElem?_append_left (by rw [hf]; omega)]
    simp
  | a :: l, i + 1, h, j, hj => by
    rw [List.flatMap_cons, List.getElem?_append_right (by rw [hf, Nat.add_mul]; omega), hf]
    have := flat_get f k hf l i (by simpa using h) j hj
    rw [show (i + 1) * k + j - k = i * k + j from by rw [Nat.add_mul]; omega, this]
    simp
theorem flat_length {α : Type} (f : α → List Value) (k : Nat) (hf : ∀ a, (f a).length = k) (l : List α) : (l.flatMap f).length = l.length * k := by
  induction l with
  | nil => simp
  | cons a l ih => simp only [List.flatMap_cons, List.length_append, hf, ih, List.length_cons, Nat.add_mul]; omega

/-- An entry of the reference's list, where it lies. -/
structure MEnt where
  e : Ent
  h : Nat
  kv : Value
  vv : Value
def MEnt.cells (m : MEnt) : List Value := [m.kv, .int .u64 m.e.seq, .bool m.e.del, m.vv, .int .i64 (m.h : Int)]
def MEnt.key (m : MEnt) : List UInt8 := m.e.key
def MEnt.seq (m : MEnt) : Int := m.e.seq
theorem MEnt.cells_len (m : MEnt) : m.cells.length = 5 := rfl

def OkE (e : Ent) : Prop := mayB e.key e.seq e.del e.val = true
theorem OkE.key {e : Ent} (h : OkE e) : 1 ≤ e.key.length ∧ e.key.length ≤ 256 := by
  unfold OkE mayB at h; simp at h; omega
theorem OkE.val {e : Ent} (h : OkE e) : e.val.length ≤ 65536 := by
  unfold OkE mayB at h; simp at h; omega
theorem OkE.seq {e : Ent} (h : OkE e) : 1 ≤ e.seq ∧ e.seq ≤ 4611686018427387904 := by
  unfold OkE mayB at h; simp at h; omega

/-- The reference's table: a list in order, and each entry's height. -/
structure RefAt (lo : Nat) (w : World) (t : Nat) (hs : List Int) (hv lv : Value) (ms : List MEnt) : Prop where
  tbl : Blk w t 62 #[hv, lv]
  base : lo ≤ t
  hrow : w.ownsRow lo 3 1 hv hs.length (hs.map (.int .i64))
  lrow : w.ownsRow lo 70 5 lv ms.length (ms.flatMap MEnt.cells)
  each : ∀ m ∈ ms, BOwn lo w m.kv m.e.key ∧ BOwn lo w m.vv m.e.val ∧ OkE m.e
  order : InOrder MEnt.key MEnt.seq ms

section
variable {lo : Nat} {w w' : World} {t : Nat} {hs : List Int} {hv lv : Value} {ms : List MEnt}
theorem RefAt.old (h : RefAt lo w t hs hv lv ms) (hb : Below w.heap.size w w') : RefAt lo w' t hs hv lv ms :=
  ⟨h.tbl.old hb, h.base, own_below h.hrow hb, own_below h.lrow hb, fun m hm => ⟨(h.each m hm).1.below hb, (h.each m hm).2.1.below hb, (h.each m hm).2.2⟩, h.order⟩
theorem RefAt.slice (h : RefAt lo w t hs hv lv ms) (hn : 0 < ms.length) : ∃ g c, lv = .slice (some ⟨g, 0, none⟩) ms.length c ∧ ms.length ≤ c ∧ ∀ j, j < ms.length * 5 → w.cell? ⟨g, j, none⟩ = (ms.flatMap MEnt.cells)[j]? := by
  rcases h.lrow.2 with ⟨_, h0⟩ | ⟨g, cap, cur, hlv, hlo, hg, hc, rest⟩
  · omega
  · refine ⟨g, cap, hlv, hc, fun j hj => ?_⟩
    subst hlv
    exact h.lrow.cellAt j hj
theorem RefAt.at_ (h : RefAt lo w t hs hv lv ms) {g c : Nat} (hlv : lv = .slice (some ⟨g, 0, none⟩) ms.length c) {i : Nat} (hi : i < ms.length) :
    w.cell? ⟨g, i * 5, none⟩ = some ms[i].kv ∧ w.cell? ⟨g, i * 5 + 1, none⟩ = some (.int .u64 ms[i].e.seq) ∧ w.cell? ⟨g, i * 5 + 2, none⟩ = some (.bool ms[i].e.del) ∧ w.cell? ⟨g, i * 5 + 3, none⟩ = some ms[i].vv ∧
      w.cell? ⟨g, i * 5 + 4, none⟩ = some (.int .i64 (ms[i].h : Int)) := by
  have key : ∀ j, j < 5 → w.cell? ⟨g, i * 5 + j, none⟩ = ms[i].cells[j]? := fun j hj => by
    subst hlv
    have hlt : i * 5 + j < ms.length * 5 := by omega
    rw [h.lrow.cellAt _ hlt]
    exact flat_get MEnt.cells 5 MEnt.cells_len ms i hi j hj
  exact ⟨key 0 (by omega), key 1 (by omega), key 2 (by omega), key 3 (by omega), key 4 (by omega)⟩
end

theorem ret_ib {a b : Int} {c d : Bool} (h : a = b) (k : c = d) : Ending.returned (.tuple #[.int .i64 a, .bool c]) = .returned (.tuple #[.int .i64 b, .bool d]) := by rw [h, k]
/-- Is one of this key and Seq there? -/
def isAt (ms : List MEnt) (k : List UInt8) (s : Int) : Bool :=
  match ms[posOf MEnt.key MEnt.seq ms k s]? with
  | some m => decide (m.e.key = k ∧ m.e.seq = s)
  | none => false

set_option maxHeartbeats 1000000 in
theorem ref_place {lo B : Nat} {w : World} {t : Nat} {hs : List Int} {hv lv : Value} {ms : List MEnt} (hR : RefAt lo w t hs hv lv ms) (hn : ms.length ≤ 100000) {ku : Value} {k : List UInt8} {s : Int} {d : Bool} (hk : BAt B w ku k) (hB : B ≤ w.heap.size) (hkl : Big k)
    (A : Option Addr) (n c : Nat) :
    Calls Try.prog 31 #[.pointer (some ⟨t, 0, none⟩), .agg #[ku, .int .u64 s, .bool d, .slice A n c]] w fun e w' =>
      e = .returned (.tuple #[.int .i64 (posOf MEnt.key MEnt.seq ms k s : Nat), .bool (isAt ms k s)]) ∧ Below w.heap.size w w' := by
  obtain ⟨al, cl, hll⟩ := slice_of_row hR.lrow
  have hcl : ms.length ≤ cl := by
    rcases hR.lrow.2 with ⟨_, h0⟩ | ⟨g, cap, cur, hlv, hlo, hg, hc, rest⟩
    · omega
    · rw [hll] at hlv; cases hlv; exact hc
  subst hll
  have HR := Lib.hid hR
  have HK := Lib.hid hk
  have hc0 := hR.tbl.cells
  have hlt := hR.tbl.lt
  have hklt := hk
  obtain ⟨ak, ck, hku⟩ := hk.slice
  subst hku
  have hple := posOf_le MEnt.key MEnt.seq ms k s
  have htest : ∀ i (hi : i < ms.length), decide (cmpE ms[i].e.key ms[i].e.seq k s < 0) = decide (i < posOf MEnt.key MEnt.seq ms k s) := fun i hi => by
    rw [← ahead_cmp]; exact hR.order.test hi
  have his : isAt ms k s = (match ms[posOf MEnt.key MEnt.seq ms k s]? with | some m => decide (m.e.key = k ∧ m.e.seq = s) | none => false) := rfl
  generalize hp : posOf MEnt.key MEnt.seq ms k s = p at *
  have HT := Lib.hid htest
  have HI := Lib.hid his
  clear hR hk hklt hp htest his
  go_enter Try.func31, Try.ntmps31
  go_wp2_with fail
  go_loopw [6, 7, 8, 9] (fun i j _ _ wr => ∃ a b : Nat, a ≤ p ∧ p ≤ b ∧ b ≤ ms.length ∧ i = .int .i64 a ∧ j = .int .i64 b ∧ Below w.heap.size w wr ∧ w.heap.size < wr.heap.size ∧ Blk wr w.heap.size 32 #[.slice ak k.length ck, .int .u64 s, .bool d, .slice A n c]) (fun i j _ _ _ => (intOf j).toNat - (intOf i).toNat)
  case atStart => exact ⟨0, ms.length, by omega, hple, by omega, rfl, rfl, World.below_alloc (Nat.le_refl _) _, by simp, Blk.new _ _ _⟩
  case round =>
    obtain ⟨a, b, ha, hb, hbn, rfl, rfl, hbw, hsz, bX⟩ := hrel
    have hRr := HR.out.old hbw
    have hcT := hRr.tbl.cells
    have hcX := bX.cells
    clear hc0
    by_cases hlt : a < b
    · obtain ⟨m, hmd⟩ : ∃ m : Nat, m = (a + b) / 2 := ⟨_, rfl⟩
      have hm : m < ms.length := by omega
      have hmi : ((a : Int) + (b : Int)) / 2 = (m : Int) := by omega
      have HMD := Lib.hid hmd
      clear hmd
      obtain ⟨g, c', hl1, hl2, -⟩ := hRr.slice (by omega)
      cases hl1
      obtain ⟨k0, k1, k2, k3, -⟩ := hRr.at_ rfl hm
      have hE := hRr.each _ (List.getElem_mem hm)
      have hkm := (hE.1).reads
      obtain ⟨A1, c1, hA1⟩ := hE.1.slice
      obtain ⟨A2, c2, hA2⟩ := hE.2.1.slice
      rw [hA1] at k0 hkm
      rw [hA2] at k3
      have hgl : g < wr.heap.size := World.block_lt_of_cell? wr _ k0
      have htl : t < wr.heap.size := hRr.tbl.lt
      have i0 : (0 : Int) ≤ (m : Int) := by omega
      have i1 : (m : Int) < (ms.length : Int) := by omega
      go_wp2_with fail
      go_region_held3 (fun W => W.cell? ⟨t, 1, none⟩ = some (.slice (some ⟨g, 0, none⟩) ms.length cl) ∧ W.cell? ⟨g, m * 5, none⟩ = some (.slice A1 ms[m].e.key.length c1) ∧ W.cell? ⟨g, m * 5 + 1, none⟩ = some (.int .u64 ms[m].e.seq) ∧
          W.cell? ⟨g, m * 5 + 2, none⟩ = some (.bool ms[m].e.del) ∧ W.cell? ⟨g, m * 5 + 3, none⟩ = some (.slice A2 ms[m].e.val.length c2) ∧ W.cell? ⟨w.heap.size, 0, none⟩ = some (.slice ak k.length ck) ∧
          W.cell? ⟨w.heap.size, 1, none⟩ = some (.int .u64 s) ∧ W.cell? ⟨w.heap.size, 2, none⟩ = some (.bool d) ∧ W.cell? ⟨w.heap.size, 3, none⟩ = some (.slice A n c))
        (first
          | go_keep
          | (have hcc := below_cells hb1
             simp only [World.size_drew, World.cell?_drew] at hcc
             simp [hcc, *]))
        ((go_at_call 38
          (with_reducible refine (ref_CompareE (C := B) (hkm.drew) (BAt.lift (HK.out) hB (hbw.drew)) ?_ ?_ ?_ hkl _ _ _ _ _ _ rfl rfl).mono ?_)
          · simp
          · (simp; omega)
          · (have := (hE.2.2).key; unfold Big; omega)
          rintro e w1 ⟨rfl, hb1⟩))
      have hbw1 : Below w.heap.size w w1 := hbw.drew.trans (hb1.mono (show w.heap.size ≤ wr.drew.heap.size by simp; omega))
      have hs1 : wr.heap.size ≤ w1.heap.size := by have := hb1.size; simpa using this
      have bX1 : Blk w1 w.heap.size _ _ := (bX.drew).old hb1
      have ht := HT.out m hm
      clear hcT hcX bX k0 k1 k2 k3 hkm hE hA1 hA2 hb1 hmi hRr
      have HMD' := HMD.out
      generalize cmpE ms[m].e.key ms[m].e.seq k s = q at *
      by_cases hq : q < 0
      · have hmp : m < p := by simp [hq] at ht; exact ht
        clear ht HMD'
        go_wp2_with fail
        go_roundw
        case rel => exact ⟨m + 1, b, by omega, by omega, by omega, by go_num, rfl, hbw1, by omega, bX1⟩
        case measure => have := HMD.out; simp [intOf]; omega
      · have hmp : ¬ m < p := by simp [hq] at ht; omega
        clear ht HMD'
        go_wp2_with fail
        go_roundw
        case rel => exact ⟨a, m, by omega, by omega, by omega, rfl, rfl, hbw1, by omega, bX1⟩
        case measure => have := HMD.out; simp [intOf]; omega
    · obtain rfl : a = p := by omega
      obtain rfl : b = a := by omega
      by_cases hend : b = ms.length
      · have HE := Lib.hid hend
        have hd1 : ((b : Int) == (ms.length : Int)) = true := by simp [hend]
        clear hend
        go_wp2_with fail
        go_ret2
        refine ⟨ret_ib rfl ?_, hbw⟩
        have h1 := HI.out
        rw [List.getElem?_eq_none (by have := HE.out; omega)] at h1
        rw [h1]
      · have hd1 : ((b : Int) == (ms.length : Int)) = false := by simp; omega
        have hm : b < ms.length := by omega
        have hmd := HI.out
        rw [List.getElem?_eq_getElem hm] at hmd
        have HD := Lib.hid hmd
        clear hmd
        obtain ⟨g, c', hl1, hl2, -⟩ := hRr.slice (by omega)
        cases hl1
        obtain ⟨k0, k1, k2, k3, -⟩ := hRr.at_ rfl hm
        have hE := hRr.each _ (List.getElem_mem hm)
        have hkm := (hE.1).reads
        obtain ⟨A1, c1, hA1⟩ := hE.1.slice
        obtain ⟨A2, c2, hA2⟩ := hE.2.1.slice
        rw [hA1] at k0 hkm
        rw [hA2] at k3
        have hgl : g < wr.heap.size := World.block_lt_of_cell? wr _ k0
        have htl : t < wr.heap.size := hRr.tbl.lt
        have i0 : (0 : Int) ≤ (b : Int) := by omega
        have i1 : (b : Int) < (ms.length : Int) := by omega
        go_wp2_with fail
        go_region_held3 (fun W => W.cell? ⟨t, 1, none⟩ = some (.slice (some ⟨g, 0, none⟩) ms.length cl) ∧ W.cell? ⟨g, b * 5, none⟩ = some (.slice A1 ms[b].e.key.length c1) ∧ W.cell? ⟨g, b * 5 + 1, none⟩ = some (.int .u64 ms[b].e.seq) ∧
            W.cell? ⟨g, b * 5 + 2, none⟩ = some (.bool ms[b].e.del) ∧ W.cell? ⟨g, b * 5 + 3, none⟩ = some (.slice A2 ms[b].e.val.length c2) ∧ W.cell? ⟨w.heap.size, 0, none⟩ = some (.slice ak k.length ck) ∧
            W.cell? ⟨w.heap.size, 1, none⟩ = some (.int .u64 s) ∧ W.cell? ⟨w.heap.size, 2, none⟩ = some (.bool d) ∧ W.cell? ⟨w.heap.size, 3, none⟩ = some (.slice A n c))
          (first
            | go_keep
            | (have hcc := below_cells hb1
               simp only [World.size_drew, World.cell?_drew] at hcc
               simp [hcc, *]))
          ((go_at_call 38
            (with_reducible refine (ref_CompareE (C := B) (hkm.drew) (BAt.lift (HK.out) hB (hbw.drew)) ?_ ?_ ?_ hkl _ _ _ _ _ _ rfl rfl).mono ?_)
            · simp
            · (simp; omega)
            · (have := (hE.2.2).key; unfold Big; omega)
            rintro e w1 ⟨rfl, hb1⟩))
        have hbw1 : Below w.heap.size w w1 := hbw.drew.trans (hb1.mono (show w.heap.size ≤ wr.drew.heap.size by simp; omega))
        have h1 : (cmpE ms[b].e.key ms[b].e.seq k s == 0) = decide (ms[b].e.key = k ∧ ms[b].e.seq = s) := by
          rw [Bool.eq_iff_iff, beq_iff_eq, decide_eq_true_eq]; exact cmpE_zero
        have H1 := Lib.hid h1
        clear h1 hcT hcX bX k0 k1 k2 k3 hkm hE hA1 hA2 hb1 hRr
        go_wp2_with fail
        go_ret2
        refine ⟨ret_ib rfl ?_, hbw1⟩
        rw [HD.out, ← H1.out]
end Go.Proofs.Ytpohhlddbdepcaa
