/-
  The walks of the reference's Level, Scan, Steps.
-/
import Derived.Test.YtpohhlddbdepcaaU
namespace Go.Proofs.Ytpohhlddbdepcaa
open Go.RowKit

theorem Try_infoEn : (Try.prog.info? 32).map (fun i => (i.zero, i.size, i.bytes)) = some (some (.agg #[.slice none 0 0, .int .u64 0, .bool false, .slice none 0 0]), 4, 64) := by kernel_rfl

def MEnt.cells4 (m : MEnt) : List Value := [m.kv, .int .u64 m.e.seq, .bool m.e.del, m.vv]
theorem MEnt.cells4_len (m : MEnt) : m.cells4.length = 4 := rfl

/-- A slice of entries of the call's own. -/
structure OutAt (lo : Nat) (w : World) (v : Value) (cs : List MEnt) : Prop where
  row : w.ownsRow lo 32 4 v cs.length (cs.flatMap MEnt.cells4)
  each : ∀ m ∈ cs, BOwn lo w m.kv m.e.key ∧ BOwn lo w m.vv m.e.val ∧ OkE m.e

theorem OutAt.nil (lo : Nat) (w : World) : OutAt lo w (.slice none 0 0) [] := ⟨World.ownsRow_nil _ _ _ _, by simp⟩
theorem OutAt.old {lo : Nat} {w w' : World} {v : Value} {cs : List MEnt} (h : OutAt lo w v cs) (hb : Below w.heap.size w w') : OutAt lo w' v cs :=
  ⟨own_below h.row hb, fun m hm => ⟨(h.each m hm).1.below hb, (h.each m hm).2.1.below hb, (h.each m hm).2.2⟩⟩
theorem OutAt.mono {lo lo' : Nat} {w : World} {v : Value} {cs : List MEnt} (h : OutAt lo w v cs) (hl : lo' ≤ lo) : OutAt lo' w v cs := by
  refine ⟨⟨h.row.1, ?_⟩, fun m hm => ⟨(h.each m hm).1.mono hl, (h.each m hm).2.1.mono hl, (h.each m hm).2.2⟩⟩
  rcases h.row.2 with h | ⟨g, cap, cur, h1, h2, h3⟩
  · exact .inl h
  · exact .inr ⟨g, cap, cur, h1, by omega, h3⟩

/-- One entry more behind an append. -/
theorem OutAt.snoc {lo n : Nat} {w w1 : World} {v v1 : Value} {cs : List MEnt} {m : MEnt} {tmp : Obj} (h : OutAt lo w v cs) (hlo : lo ≤ w.heap.size) (hown : w1.ownsRow lo 32 4 v1 n (cs.flatMap MEnt.cells4 ++ m.cells4)) (hn : n = cs.length + 1)
    (hg : (w.alloc tmp).grownBy w1 v.ownBlock) (hk : BOwn lo w m.kv m.e.key) (hv : BOwn lo w m.vv m.e.val) (hok : OkE m.e) : OutAt lo w1 v1 (cs ++ [m]) := by
  subst hn
  refine ⟨by simpa using hown, fun m' hm' => ?_⟩
  have hkeep : ∀ {u : Value} {l : List UInt8}, BOwn lo w u l → BOwn lo w1 u l := by
    intro u l hb
    rcases hb with hb | ⟨b, c, x, rfl, h1, h2, h3, h4⟩
    · exact .inl hb
    · refine .inr ⟨b, c, x, rfl, h1, h2, ?_, h4⟩
      rw [hg.block b (by simp; have := lt_of_heap h3; omega), Below.heap_alloc _ _ _ (lt_of_heap h3)]
      · exact h3
      · intro he
        rcases own_blk_ne h.row (show Blk w b 5 x from h3) (by decide) with e | e
        · rw [e] at he; cases he
        · exact e he.symm
  rcases List.mem_append.1 hm' with hm' | hm'
  · obtain ⟨h1, h2, h3⟩ := h.each m' hm'
    exact ⟨hkeep h1, hkeep h2, h3⟩
  · obtain rfl := List.mem_singleton.1 hm'
    exact ⟨hkeep hk, hkeep hv, hok⟩

def lvlE (ms : List MEnt) (i : Int) : List Ent := (ms.filter fun m => decide (i < (m.h : Int))).map MEnt.e

def lvlSpec (ms : List MEnt) (i : Int) : List Ent := if 0 ≤ i then lvlE ms i else []

/-- The cells of a new block, to be appended. -/
theorem RAt.fresh (w : World) (t : TypeId) (cs : List Value) : RAt (w.heap.size + 1) (w.alloc (.cells cs.toArray t)) (some ⟨w.heap.size, 0, none⟩) cs := fun j hj => by
  refine ⟨_, _, rfl, by omega, ?_⟩
  rw [(Blk.new _ _ _).cells]
  simp [List.getElem?_eq_getElem hj]

set_option maxHeartbeats 2000000 in
theorem ref_Level {lo : Nat} {w : World} {t : Nat} {hs : List Int} {hv lv : Value} {ms : List MEnt} (hR : RefAt lo w t hs hv lv ms) (hn : ms.length ≤ 100000) (i : Int) :
    Calls Try.prog 17 #[.pointer (some ⟨t, 0, none⟩), .int .i64 i] w fun e w' => ∃ v cs, e = .returned v ∧ OutAt w.heap.size w' v cs ∧ cs.map MEnt.e = lvlSpec ms i ∧ Below w.heap.size w w' := by
  obtain ⟨i0, hi0, hz0, hz1, hz2⟩ := info_parts Try_infoEn
  obtain ⟨al, cl, hll⟩ := slice_of_row hR.lrow
  have hcl : ms.length ≤ cl := by
    rcases hR.lrow.2 with ⟨_, h0⟩ | ⟨g, cap, cur, hlv, hlo, hg, hc, rest⟩
    · omega
    · rw [hll] at hlv; cases hlv; exact hc
  subst hll
  have HR := Lib.hid hR
  clear hR
  go_enter Try.func17, Try.ntmps17
  go_wp2_with fail
  go_loopw [5, 6] (fun o j wr => ∃ (k : Nat) (cs : List MEnt), k ≤ ms.length ∧ j = .int .i64 k ∧ OutAt w.heap.size wr o cs ∧ cs.length ≤ k ∧ cs.map MEnt.e = lvlSpec (ms.take k) i ∧ Below w.heap.size w wr) (fun _ j _ => ms.length - (intOf j).toNat)
  case atStart => exact ⟨0, [], by omega, rfl, OutAt.nil _ _, by simp, by simp [lvlSpec, lvlE], Below.refl _ _⟩
  case round =>
    obtain ⟨k, cs, hk, rfl, hout, hlen, hcs, hbw⟩ := hrel
    have hRr := HR.out.old hbw
    have hcT := hRr.tbl.cells
    have htl : t < wr.heap.size := hRr.tbl.lt
    have HCS := Lib.hid hcs
    have hw0 : w.heap.size ≤ wr.heap.size := hbw.size
    clear hcs
    by_cases hlt : k < ms.length ∧ 0 ≤ i
    · obtain ⟨hlt, hi⟩ := hlt
      obtain ⟨g, c', hl1, hl2, -⟩ := hRr.slice (by omega)
      cases hl1
      obtain ⟨k0, k1, k2, k3, k4⟩ := hRr.at_ rfl hlt
      have hE := hRr.each _ (List.getElem_mem hlt)
      have hkm := (hE.1).reads
      have hvm := (hE.2.1).reads
      obtain ⟨A1, c1, hA1⟩ := hE.1.slice
      obtain ⟨A2, c2, hA2⟩ := hE.2.1.slice
      rw [hA1] at k0 hkm
      rw [hA2] at k3 hvm
      have i1 : (0 : Int) ≤ (k : Int) := by omega
      have i2 : (k : Int) < (ms.length : Int) := by omega
      have hgl : g < wr.heap.size := World.block_lt_of_cell? wr _ k0
      have hsn : lvlSpec (ms.take (k + 1)) i = lvlSpec (ms.take k) i ++ (if i < (ms[k].h : Int) then [ms[k].e] else []) := by
        unfold lvlSpec lvlE
        rw [if_pos hi, if_pos hi]
        rw [List.take_succ_eq_append_getElem hlt, List.filter_append, List.map_append]
        congr 1
        by_cases h : i < (ms[k].h : Int) <;> simp [List.filter_cons, h]
      have HSN := Lib.hid hsn
      have HE := Lib.hid hE
      clear hsn hE hA1 hA2
      by_cases hgt : i < (ms[k].h : Int)
      · go_wp2_with fail
        refine (ref_Copy hkm hvm (Nat.le_refl _) (by have := HE.out.2.2.key; unfold Big; omega) (by have := HE.out.2.2.val; unfold Big; omega)).mono ?_
        rintro e w2 ⟨kc, vc, rfl, hkc, hvc, hb2⟩
        have hbw2 := hbw.trans (hb2.mono hw0)
        have hs2 := hb2.size
        have hout2 := hout.old hb2
        obtain ⟨Ak, cck, hAk⟩ := hkc.slice
        obtain ⟨Av, ccv, hAv⟩ := hvc.slice
        subst hAk hAv
        clear hcT k0 k1 k2 k3 k4 hkm hvm hout hRr hb2
        go_wp2_with (at_builtin; refine Stop.of ?_)
        refine Stop.mk ?_
        have hal : ∀ A, Below w2.heap.size w2 (w2.alloc A) := fun A => World.below_alloc (Nat.le_refl _) A
        have hout3 := hout2.old (hal (.cells #[.slice Ak ms[k].e.key.length cck, .int .u64 ms[k].e.seq, .bool ms[k].e.del, .slice Av ms[k].e.val.length ccv] 32))
        have hkc3 := (hkc.below (hal (.cells #[.slice Ak ms[k].e.key.length cck, .int .u64 ms[k].e.seq, .bool ms[k].e.del, .slice Av ms[k].e.val.length ccv] 32))).mono hw0
        have hvc3 := (hvc.below (hal (.cells #[.slice Ak ms[k].e.key.length cck, .int .u64 ms[k].e.seq, .bool ms[k].e.del, .slice Av ms[k].e.val.length ccv] 32))).mono hw0
        have hnew : RAt (w2.heap.size + 1 + 1) ((w2.alloc (.cells #[.slice Ak ms[k].e.key.length cck, .int .u64 ms[k].e.seq, .bool ms[k].e.del, .slice Av ms[k].e.val.length ccv] 32)).alloc (.cells #[.slice Ak ms[k].e.key.length cck, .int .u64 ms[k].e.seq, .bool ms[k].e.del, .slice Av ms[k].e.val.length ccv] 32)) (some ⟨w2.heap.size + 1, 0, none⟩) [.slice Ak ms[k].e.key.length cck, .int .u64 ms[k].e.seq, .bool ms[k].e.del, .slice Av ms[k].e.val.length ccv] := by
          have := RAt.fresh (w2.alloc (.cells #[.slice Ak ms[k].e.key.length cck, .int .u64 ms[k].e.seq, .bool ms[k].e.del, .slice Av ms[k].e.val.length ccv] 32)) 32 [.slice Ak ms[k].e.key.length cck, .int .u64 ms[k].e.seq, .bool ms[k].e.del, .slice Av ms[k].e.val.length ccv]
          simpa using this
        refine wpList_append_src _ rfl (.tmp 40) (.tmp 42) 39 rfl w.heap.size 32 i0 _ 4 64 Try.underlying39 hi0 hz0 hz1 hz2 rfl (by decide) _ cs.length _ rfl (hout3.row.alloc _) (w2.heap.size + 1 + 1) (some ⟨w2.heap.size + 1, 0, none⟩) 1 1 [.slice Ak ms[k].e.key.length cck, .int .u64 ms[k].e.seq, .bool ms[k].e.del, .slice Av ms[k].e.val.length ccv] rfl rfl
          hnew (by simp [Value.oneCell']) (by unfold maxLen; omega) (by omega) (by simp; omega) ?_
        intro v1 w3 hown1 hg1 hat1
        have hout4 := OutAt.snoc (m := ⟨ms[k].e, ms[k].h, .slice Ak ms[k].e.key.length cck, .slice Av ms[k].e.val.length ccv⟩) hout3 (by simp; omega) hown1 rfl hg1 hkc3 hvc3 HE.out.2.2
        have hv0 : ∀ j, Value.ownBlock _ = some j → w.heap.size ≤ j := fun j hj => (hout3.row.lt j hj).1
        have hbw4 : Below w.heap.size w w3 := ((hbw2.alloc (by omega) _).alloc (by simp; omega) _).grown hg1 (by simp; omega) hv0
        clear hout2 hout3 hkc3 hvc3 hown1 hg1 hat1 hkc hvc hal
        go_wp2_with fail
        go_roundw
        case rel => exact ⟨k + 1, _, by omega, by go_num, hout4, by simp; omega, by rw [HSN.out, if_pos hgt, List.map_append, HCS.out]; rfl, hbw4⟩
        case measure => simp [intOf]; omega
      · go_wp2_with fail
        go_roundw
        case rel => exact ⟨k + 1, cs, by omega, by go_num, hout, by omega, by rw [HCS.out, HSN.out, if_neg hgt, List.append_nil], hbw⟩
        case measure => simp [intOf]; omega
    · by_cases hlt2 : k < ms.length
      · have hi : i < 0 := by omega
        go_wp2_with fail
        go_ret
        exact ⟨_, cs, rfl, hout, by rw [HCS.out, lvlSpec, lvlSpec, if_neg (by omega), if_neg (by omega)], hbw⟩
      · obtain rfl : k = ms.length := by omega
        rw [List.take_length] at HCS
        go_wp2_with fail
        go_ret
        exact ⟨_, cs, rfl, hout, HCS.out, hbw⟩
def scanE (ms : List MEnt) (fr : List UInt8) : List Ent := (ms.filter fun m => decide (0 ≤ Lib.compareBytes m.e.key fr)).map MEnt.e

set_option maxHeartbeats 2000000 in
theorem ref_Scan {lo B : Nat} {w : World} {t : Nat} {hs : List Int} {hv lv : Value} {ms : List MEnt} (hR : RefAt lo w t hs hv lv ms) (hn : ms.length ≤ 100000) {fv : Value} {fr : List UInt8} (hf : BAt B w fv fr) (hB : B ≤ w.heap.size) (hfl : Big fr) :
    Calls Try.prog 14 #[.pointer (some ⟨t, 0, none⟩), fv] w fun e w' => ∃ v cs, e = .returned v ∧ OutAt w.heap.size w' v cs ∧ cs.map MEnt.e = scanE ms fr ∧ Below w.heap.size w w' := by
  obtain ⟨i0, hi0, hz0, hz1, hz2⟩ := info_parts Try_infoEn
  obtain ⟨al, cl, hll⟩ := slice_of_row hR.lrow
  have hcl : ms.length ≤ cl := by
    rcases hR.lrow.2 with ⟨_, h0⟩ | ⟨g, cap, cur, hlv, hlo, hg, hc, rest⟩
    · omega
    · rw [hll] at hlv; cases hlv; exact hc
  subst hll
  have HR := Lib.hid hR
  have HF := Lib.hid hf
  obtain ⟨af, cf, hfv⟩ := hf.slice
  subst hfv
  clear hR hf
  go_enter Try.func14, Try.ntmps14
  go_wp2_with fail
  go_loopw [5, 6] (fun o j wr => ∃ (k : Nat) (cs : List MEnt), k ≤ ms.length ∧ j = .int .i64 k ∧ OutAt w.heap.size wr o cs ∧ cs.length ≤ k ∧ cs.map MEnt.e = scanE (ms.take k) fr ∧ Below w.heap.size w wr) (fun _ j _ => ms.length - (intOf j).toNat)
  case atStart => exact ⟨0, [], by omega, rfl, OutAt.nil _ _, by simp, by simp [scanE], Below.refl _ _⟩
  case round =>
    obtain ⟨k, cs, hk, rfl, hout, hlen, hcs, hbw⟩ := hrel
    have hRr := HR.out.old hbw
    have hcT := hRr.tbl.cells
    have htl : t < wr.heap.size := hRr.tbl.lt
    have HCS := Lib.hid hcs
    have hw0 : w.heap.size ≤ wr.heap.size := hbw.size
    clear hcs
    by_cases hlt : k < ms.length
    · obtain ⟨g, c', hl1, hl2, -⟩ := hRr.slice (by omega)
      cases hl1
      obtain ⟨k0, k1, k2, k3, k4⟩ := hRr.at_ rfl hlt
      have hE := hRr.each _ (List.getElem_mem hlt)
      have hkm := (hE.1).reads
      have hvm := (hE.2.1).reads
      obtain ⟨A1, c1, hA1⟩ := hE.1.slice
      obtain ⟨A2, c2, hA2⟩ := hE.2.1.slice
      rw [hA1] at k0 hkm
      rw [hA2] at k3 hvm
      have i1 : (0 : Int) ≤ (k : Int) := by omega
      have i2 : (k : Int) < (ms.length : Int) := by omega
      have hgl : g < wr.heap.size := World.block_lt_of_cell? wr _ k0
      have hsn : scanE (ms.take (k + 1)) fr = scanE (ms.take k) fr ++ (if 0 ≤ Lib.compareBytes ms[k].e.key fr then [ms[k].e] else []) := by
        unfold scanE
        rw [List.take_succ_eq_append_getElem hlt, List.filter_append, List.map_append]
        congr 1
        by_cases h : 0 ≤ Lib.compareBytes ms[k].e.key fr <;> simp [List.filter_cons, h]
      have HSN := Lib.hid hsn
      have HE := Lib.hid hE
      clear hsn hE hA1 hA2
      go_wp2_with fail
      refine (ref_Compare hkm (HF.out.lift hB hbw) (by have := HE.out.2.2.key; unfold Big; omega) hfl).mono ?_
      rintro e wq ⟨rfl, nq, rfl⟩
      obtain ⟨hw1, hw2⟩ := wrap_cmp ms[k].e.key fr
      generalize hqq : Lib.compareBytes ms[k].e.key fr = q at *
      clear hqq
      by_cases hgt : 0 ≤ q
      · go_wp2_with fail
        refine (ref_Copy (hkm.drewN nq) (hvm.drewN nq) (Nat.le_refl _) (by have := HE.out.2.2.key; unfold Big; omega) (by have := HE.out.2.2.val; unfold Big; omega)).mono ?_
        rintro e w2 ⟨kc, vc, rfl, hkc, hvc, hb2⟩
        have hbw2 := (below_drewN hbw nq).trans (hb2.mono hw0)
        have hs2 : wr.heap.size ≤ w2.heap.size := hb2.size
        have hout2 : OutAt w.heap.size w2 _ cs := (show OutAt w.heap.size (wr.drewN nq) _ cs from ⟨hout.row, hout.each⟩).old hb2
        obtain ⟨Ak, cck, hAk⟩ := hkc.slice
        obtain ⟨Av, ccv, hAv⟩ := hvc.slice
        subst hAk hAv
        clear hcT k0 k1 k2 k3 k4 hkm hvm hout hRr hb2
        go_wp2_with (at_builtin; refine Stop.of ?_)
        refine Stop.mk ?_
        have hal : ∀ A, Below w2.heap.size w2 (w2.alloc A) := fun A => World.below_alloc (Nat.le_refl _) A
        have hout3 := hout2.old (hal (.cells #[.slice Ak ms[k].e.key.length cck, .int .u64 ms[k].e.seq, .bool ms[k].e.del, .slice Av ms[k].e.val.length ccv] 32))
        have hkc3 := (hkc.below (hal (.cells #[.slice Ak ms[k].e.key.length cck, .int .u64 ms[k].e.seq, .bool ms[k].e.del, .slice Av ms[k].e.val.length ccv] 32))).mono hw0
        have hvc3 := (hvc.below (hal (.cells #[.slice Ak ms[k].e.key.length cck, .int .u64 ms[k].e.seq, .bool ms[k].e.del, .slice Av ms[k].e.val.length ccv] 32))).mono hw0
        have hnew : RAt (w2.heap.size + 1 + 1) ((w2.alloc (.cells #[.slice Ak ms[k].e.key.length cck, .int .u64 ms[k].e.seq, .bool ms[k].e.del, .slice Av ms[k].e.val.length ccv] 32)).alloc (.cells #[.slice Ak ms[k].e.key.length cck, .int .u64 ms[k].e.seq, .bool ms[k].e.del, .slice Av ms[k].e.val.length ccv] 32)) (some ⟨w2.heap.size + 1, 0, none⟩) [.slice Ak ms[k].e.key.length cck, .int .u64 ms[k].e.seq, .bool ms[k].e.del, .slice Av ms[k].e.val.length ccv] := by
          have := RAt.fresh (w2.alloc (.cells #[.slice Ak ms[k].e.key.length cck, .int .u64 ms[k].e.seq, .bool ms[k].e.del, .slice Av ms[k].e.val.length ccv] 32)) 32 [.slice Ak ms[k].e.key.length cck, .int .u64 ms[k].e.seq, .bool ms[k].e.del, .slice Av ms[k].e.val.length ccv]
          simpa using this
        refine wpList_append_src _ rfl (.tmp 40) (.tmp 42) 39 rfl w.heap.size 32 i0 _ 4 64 Try.underlying39 hi0 hz0 hz1 hz2 rfl (by decide) _ cs.length _ rfl (hout3.row.alloc _) (w2.heap.size + 1 + 1) (some ⟨w2.heap.size + 1, 0, none⟩) 1 1 [.slice Ak ms[k].e.key.length cck, .int .u64 ms[k].e.seq, .bool ms[k].e.del, .slice Av ms[k].e.val.length ccv] rfl rfl
          hnew (by simp [Value.oneCell']) (by unfold maxLen; omega) (by omega) (by simp; omega) ?_
        intro v1 w3 hown1 hg1 hat1
        have hout4 := OutAt.snoc (m := ⟨ms[k].e, ms[k].h, .slice Ak ms[k].e.key.length cck, .slice Av ms[k].e.val.length ccv⟩) hout3 (by simp; omega) hown1 rfl hg1 hkc3 hvc3 HE.out.2.2
        have hv0 : ∀ j, Value.ownBlock _ = some j → w.heap.size ≤ j := fun j hj => (hout3.row.lt j hj).1
        have hbw4 : Below w.heap.size w w3 := ((hbw2.alloc (by omega) _).alloc (by simp; omega) _).grown hg1 (by simp; omega) hv0
        clear hout2 hout3 hkc3 hvc3 hown1 hg1 hat1 hkc hvc hal
        go_wp2_with fail
        go_roundw
        case rel => exact ⟨k + 1, _, by omega, by go_num, hout4, by simp; omega, by rw [HSN.out, if_pos hgt, List.map_append, HCS.out]; rfl, hbw4⟩
        case measure => simp [intOf]; omega
      · go_wp2_with fail
        go_roundw
        case rel => exact ⟨k + 1, cs, by omega, by go_num, ⟨hout.row, hout.each⟩, by omega, by rw [HCS.out, HSN.out, if_neg (by omega), List.append_nil], below_drewN hbw nq⟩
        case measure => simp [intOf]; omega
    · obtain rfl : k = ms.length := by omega
      rw [List.take_length] at HCS
      go_wp2_with fail
      go_ret
      exact ⟨_, cs, rfl, hout, HCS.out, hbw⟩
end Go.Proofs.Ytpohhlddbdepcaa
