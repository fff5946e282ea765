/-
  The walk of the program's Put: what is taken, or is there already.
-/
import Derived.Test.YtpohhlddbdepcaaPut
import Derived.StillTailTactics
namespace Go.Proofs.Ytpohhlddbdepcaa
open Go.RowKit

theorem Try_infoPtr : (Try.prog.info? 54).map (fun i => (i.zero, i.size, i.bytes)) = some (some (.pointer none), 1, 8) := by kernel_rfl
theorem run_make_links (ns : List SN) (p : Nat) {h : Nat} (hh : h ≤ 12) (W : World) : (Instr.makeSlice 55 (.int .i64 (h : Int)) (.int .i64 (h : Int))).run Try.prog W = .ok (.slice (some ⟨W.heap.size, 0, none⟩) h h) (W.alloc (.cells (newAt ns p h 0) 54)) := by
  obtain ⟨i0, hi0, hz0, hz1, hz2⟩ := info_parts Try_infoPtr
  rw [run_make (P := Try.prog) W 55 54 i0 _ Try.underlying55 hi0 hz0 .i64 .i64 h h (by omega) (by omega) (by rw [hz2]; omega) (by omega), hz1]
  have e : madeCells (Value.pointer none).cells ((h : Int).toNat * 1) = newAt ns p h 0 := by
    refine Array.ext_getElem? fun j => ?_
    rw [newAt_get]
    by_cases hj : j < h
    · rw [if_pos hj, if_neg (by omega)]
      simp [madeCells, hj, Value.cells, Nat.mod_one]
    · rw [if_neg hj, Array.getElem?_eq_none (by rw [size_madeCells]; omega)]
  rw [e]
  rfl

/-- The new node, as it was made. -/
structure MadeNode (lo : Nat) (ns : List SN) (p : Nat) (w : World) (n : SN) : Prop where
  node : Blk w n.nb 57 #[n.kv, .int .u64 n.e.seq, .bool n.e.del, n.vv, .slice (some ⟨n.xb, 0, none⟩) n.h n.h]
  row : Blk w n.xb 54 (newAt ns p n.h 0)
  kv : BOwn lo w n.kv n.e.key
  vv : BOwn lo w n.vv n.e.val
  lnb : lo ≤ n.nb
  lxb : lo ≤ n.xb

theorem nxt_ptr (l : List SN) (j : Nat) : ∃ a, nxt l j = .pointer a := by
  unfold nxt
  split
  · exact ⟨_, rfl⟩
  · exact ⟨_, rfl⟩

/-- While the links are set: those on the levels below j have been. -/
structure LinkInv (ns : List SN) (xh : Nat) (qf : Nat → Nat) (p : Nat) (n : SN) (w5 : World) (j : Nat) (wr : World) : Prop where
  rows : ∀ q, q ≤ ns.length → Blk wr (xbOf xh ns q) 54 (rowAt ns qf n.nb j q)
  new : Blk wr n.xb 54 (newAt ns p n.h j)
  chg : Chg (fun b => b = n.xb ∨ ∃ q, q ≤ ns.length ∧ b = xbOf xh ns q) w5 wr
section
variable {ns : List SN} {xh : Nat} {qf : Nat → Nat} {p : Nat} {n : SN} {w5 wr : World} {j : Nat}
theorem LinkInv.far (h : LinkInv ns xh qf p n w5 j wr) (h0 : LinkInv ns xh qf p n w5 0 w5) {b : Nat} {t : TypeId} {cs : Array Value} (hb : Blk w5 b t cs) (ht : t ≠ 54) : Blk wr b t cs := by
  refine h.chg.blk hb ?_
  rintro (rfl | ⟨q, hq, rfl⟩)
  · exact Blk.ne_ hb h0.new ht rfl
  · exact Blk.ne_ hb (h0.rows q hq) ht rfl
theorem LinkInv.step (h : LinkInv ns xh qf p n w5 j wr) (hd : (xh :: ns.map SN.xb).Nodup) (hq : qf j ≤ ns.length) (hx : ∀ q, q ≤ ns.length → xbOf xh ns q ≠ n.xb) :
    LinkInv ns xh qf p n w5 (j + 1) ((wr.setCell ⟨n.xb, j, none⟩ (nxt (ns.drop p) j)).setCell ⟨xbOf xh ns (qf j), j, none⟩ (.pointer (some ⟨n.nb, 0, none⟩))) := by
  refine ⟨fun q hq' => ?_, ?_, ?_⟩
  · have h1 := (h.rows q hq').far (p := ⟨n.xb, j, none⟩) (hx q hq') (nxt (ns.drop p) j)
    by_cases e : q = qf j
    · subst e
      have := h1.set_ j (.pointer (some ⟨n.nb, 0, none⟩))
      rw [rowAt_same] at this
      exact this
    · rw [rowAt_other _ _ _ _ e]
      exact h1.far (p := ⟨xbOf xh ns (qf j), j, none⟩) (fun e' => e (xb_inj hd hq' hq e')) _
  · have h1 := (h.new.set_ j (nxt (ns.drop p) j)).far (p := ⟨xbOf xh ns (qf j), j, none⟩) (fun e => hx _ hq e.symm) (.pointer (some ⟨n.nb, 0, none⟩))
    rw [newAt_step] at h1
    exact h1
  · exact (h.chg.setCell (p := ⟨n.xb, j, none⟩) (.inl (.inl rfl)) _).setCell (p := ⟨xbOf xh ns (qf j), j, none⟩) (.inl (.inr ⟨_, hq, rfl⟩)) _
end

/-- Is one of this key and Seq there? -/
def isAtN (ns : List SN) (k : List UInt8) (s : Int) : Bool :=
  match ns[posOf SN.key SN.seq ns k s]? with
  | some n => decide (n.e.key = k ∧ n.e.seq = s)
  | none => false

set_option maxRecDepth 100000 in
set_option maxHeartbeats 2000000 in
theorem skip_Put_twice {lo B : Nat} {w : World} {t : Nat} {hs : List Int} {hv : Value} {hb xh : Nat} {ns : List SN} (hS : SkipAt lo w t hs hv hb xh ns) (hn : ns.length ≤ 100000) {kv vv : Value} {s : Int} {d : Bool} {k v : List UInt8} (hk : BAt B w kv k) (hvv : BAt B w vv v) (hB : B ≤ w.heap.size)
    (hm : mayB k s d v = true) (hi : isAtN ns k s = true) :
    Calls Try.prog 21 #[.pointer (some ⟨t, 0, none⟩), .agg #[kv, .int .u64 s, .bool d, vv]] w fun e w' => e = .returned (.int .i64 51) ∧ Below w.heap.size w w' := by
  obtain ⟨m1, m2, m3, m4, m5, m6⟩ := mayB_true hm
  have HK := Lib.hid hk
  obtain ⟨ak, ck, hkv⟩ := hk.slice
  obtain ⟨av, cv, hvv'⟩ := hvv.slice
  subst hkv hvv'
  clear hk hvv hm
  have HS := Lib.hid hS
  have hple := posOf_le SN.key SN.seq ns k s
  have hi' := hi
  unfold isAtN at hi'
  generalize hpp : posOf SN.key SN.seq ns k s = p at *
  have HPP := Lib.hid hpp
  clear hi hS hpp
  have hplt : p < ns.length := by
    rcases Nat.lt_or_ge p ns.length with h | h
    · exact h
    · rw [List.getElem?_eq_none h] at hi'; cases hi'
  rw [List.getElem?_eq_getElem hplt] at hi'
  simp only [decide_eq_true_eq] at hi'
  obtain ⟨hik, his⟩ := hi'
  have HIK := Lib.hid hik
  have HIS := Lib.hid his
  have HM := Lib.hid (show k.length ≤ 256 ∧ v.length ≤ 65536 from ⟨m2, m5⟩)
  clear hik his
  have hb0 : ∀ o, Below w.heap.size w (w.alloc o) := fun o => World.below_alloc (Nat.le_refl _) o
  go_enter Try.func21, Try.ntmps21
  go_upto_region 1 with fail
  go_cut [46] (fun sh wc => sh = .bool false ∧ wc = w.alloc (.cells #[.slice ak k.length ck, .int .u64 s, .bool d, .slice av v.length cv] 32))
  case first =>
    generalize k.length = kn at *
    generalize v.length = vn at *
    cases d
    · go_wp2_with fail
      all_goals first | (exfalso; omega) | (go_meet; case rel => exact ⟨rfl, rfl⟩)
    · obtain rfl := m6 rfl
      go_wp2_with fail
      all_goals first | (exfalso; omega) | (go_meet; case rel => exact ⟨rfl, rfl⟩)
  case rest =>
    obtain ⟨rfl, rfl⟩ := hcut
    have bE := Blk.new w 32 #[.slice ak k.length ck, .int .u64 s, .bool d, .slice av v.length cv]
    go_wp2_with fail
    refine (skip_place (HS.out.old (hb0 _)) hn (HK.out.lift hB (hb0 _)) (by simp; omega)).mono ?_
    rintro e w1 ⟨hp, hbw1⟩
    rw [HPP.out] at hp
    obtain ⟨C, w2, rfl, hw2, hP⟩ := hp.placed w1
    have hh1 : ∀ n ∈ ns, 1 ≤ n.h := fun n h => (HS.out.base.each n h).h1
    have hs1 : w.heap.size + 1 ≤ w1.heap.size := by have := hbw1.size; simpa using this
    have hbw : Below w.heap.size w w2 := ((hb0 _).trans (hbw1.mono (by simp))).trans (hP.bel.mono (by omega))
    have bE2 := (bE.old hbw1).old hP.bel
    have hR0 := hP.zero hh1 hple
    have HP := Lib.hid hP
    have HW := Lib.hid hw2
    clear hw2 hP hbw1 hp bE
    generalize stepsOf (ns.map SN.h) p 12 0 = tot
    go_wp2_with (with_reducible show wpList _ _ _ (Oper.mk none (.store 63 _ _) _ _ _ _ :: _) _ _; refine wpList_store_mid rfl 63 (.tmp 5) (.tmp 54) rfl w1.heap.size 0 C rfl rfl (by rw [HP.out.sz]; exact HP.out.thr) (by rw [HP.out.sz]; exact Try_info63) HP.out.one ?_; rw [HW.out]; refine Stop.of ?_)
    refine Stop.mk ?_
    have hcW := HP.out.row.cells 0
    rw [hR0] at hcW
    have hwl := HP.out.row.lt
    have hcE := bE2.cells
    have hel := bE2.lt
    have hS2 := HS.out.old hbw
    obtain ⟨csq, bq, hq4, hq1, hq12⟩ := hS2.base.pos hple
    have bx := hS2.links p hple
    have h4 : w2.cell? ⟨nbOf hb ns p, 4, none⟩ = some (.slice (some ⟨xbOf xh ns p, 0, none⟩) (htOf ns p) (htOf ns p)) := (bq.cells 4).trans hq4
    have hx : w2.cell? ⟨xbOf xh ns p, 0, none⟩ = some (nxt (ns.drop p) 0) := (bx.cells 0).trans (arr_get _ _ (by omega))
    have hi0 : (0 : Int) < (htOf ns p : Int) := by omega
    rw [nxt_zero hplt hh1] at hx
    have hE := hS2.base.each _ (List.getElem_mem hplt)
    have kb := hE.blk.cells
    have hkm := hE.kv.reads
    obtain ⟨A1, c1, hA1⟩ := hE.kv.slice
    have k0 := kb 0
    have k1 := kb 1
    have hgl := hE.blk.lt
    simp only [List.getElem?_toArray, List.getElem?_cons_zero, List.getElem?_cons_succ, hA1] at k0 k1 hkm
    rw [HIS.out] at k1
    have hkb : (ns[p].e.key == k) = true := by rw [HIK.out]; simp
    have hq : ∀ q, Calls Try.prog 29 #[.slice A1 ns[p].e.key.length c1, .slice ak k.length ck] (w2.drewN q) fun e w' => e = .returned (.bool true) ∧ w' = w2.drewN q := fun q =>
      (bytes_Equal (hkm.drewN q) ((HK.out.lift hB hbw).drewN q)).mono fun e w' h => ⟨by rw [h.1, hkb], h.2.symm⟩
    have HQ := Lib.hid hq
    have HBW := Lib.hid hbw
    clear bq bx hq4 hE hA1 kb hS2 hbw bE2 hR0 hkb hkm hb0 hq
    go_wp2_with fail
    go_quiet (first | (go_at_call 29; exact Calls.quiet_of_same (HQ.out _)))
    go_wp2_with fail
    go_ret
    exact ⟨rfl, below_drewN HBW.out _⟩
end Go.Proofs.Ytpohhlddbdepcaa
