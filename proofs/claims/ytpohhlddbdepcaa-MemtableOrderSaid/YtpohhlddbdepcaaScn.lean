/-
  The walks of the program's Scan and of its iterator.
-/
import Derived.Test.YtpohhlddbdepcaaRel
import Derived.Test.YtpohhlddbdepcaaY
import Derived.Test.YtpohhlddbdepcaaLnk
import Derived.Shelf.RegionOpen
import Derived.OwnWalkIn
import Derived.TacticsInMore
import Derived.LoopNIn
import Derived.LoopIn
namespace Go.Proofs.Ytpohhlddbdepcaa
open Go.RowKit Go.Shelf
attribute [local go_sem] Oper.semAt_some

set_option maxHeartbeats 1000000 in
theorem skip_Scan {B : Nat} {w : World} {t : Nat} {fv : Value} {fr : List UInt8} (hf : BAt B w fv fr) (hB : B ≤ w.heap.size) (hfl : Big fr) :
    Calls Try.prog 32 #[.pointer (some ⟨t, 0, none⟩), fv] w fun e w' => ∃ b2 b3 u, e = .returned (.func (.func 39) #[] #[.pointer (some ⟨b2, 0, none⟩), .pointer (some ⟨b3, 0, none⟩)]) ∧
      Blk w' b2 25 #[.pointer (some ⟨t, 0, none⟩)] ∧ Blk w' b3 29 #[u] ∧ BOwn w.heap.size w' u fr ∧ Below w.heap.size w w' := by
  have HF := Lib.hid hf
  obtain ⟨af, cf, hfv⟩ := hf.slice
  subst hfv
  clear hf
  go_enter Try.func32, Try.ntmps32
  have hb0 : ∀ o o', Below w.heap.size w ((w.alloc o).alloc o') := fun o o' => (World.below_alloc (Nat.le_refl _) _).alloc (by simp) _
  go_wp2_with fail
  refine (bytes_Clone (HF.out.lift hB (hb0 _ _)) (by simp; omega) hfl).mono ?_
  rintro e w1 ⟨u, rfl, hu, hb⟩
  have b2 := ((Blk.new w 25 #[.pointer (some ⟨t, 0, none⟩)]).alloc (.cells #[.slice af fr.length cf] 29)).old hb
  have b3 := (Blk.new_at (w.alloc (.cells #[.pointer (some ⟨t, 0, none⟩)] 25)) (w.heap.size + 1) 29 #[.slice af fr.length cf] (by simp)).old hb
  have hbw := (hb0 _ _).trans (hb.mono (by simp; omega))
  have hs1 := hb.size
  simp only [World.size_alloc] at hs1
  obtain ⟨A1, c1, hA1⟩ := hu.slice
  subst hA1
  have hu2 : ∀ W, Chg (fun b => b = w.heap.size + 1) w1 W → BOwn w.heap.size W (.slice A1 fr.length c1) fr := fun W h => (hu.chg h (by simp; omega)).mono (by simp; omega)
  have HU := Lib.hid hu2
  have HB2 := Lib.hid b2
  have HB3 := Lib.hid b3
  have HBW := Lib.hid hbw
  have hc3 := b3.cells
  have hf3 := b3.free
  have hl3 := b3.lt
  clear hu hu2 b2 b3 hb hbw hb0
  go_wp2_with fail
  go_ret
  exact ⟨_, _, _, rfl, HB2.out.far (p := ⟨w.heap.size + 1, 0, none⟩) (by simp) _, HB3.out.set_ 0 _, HU.out _ (Chg.setCell1 (fun b => b = w.heap.size + 1) w1 (p := ⟨w.heap.size + 1, 0, none⟩) rfl _), HBW.out.setCell (p := ⟨w.heap.size + 1, 0, none⟩) (by simp) _⟩

/-- How many nodes are still to come, read off the world. -/
def leftOf (ns : List SN) (j : Value) (W : World) : Nat :=
  match j with
  | .pointer (some a) => (match W.cell? ⟨a.block, 4, none⟩ with
    | some (.slice (some x) _ _) => ns.length - ns.findIdx (fun n => n.xb == x.block)
    | _ => 0)
  | _ => 0
theorem findIdx_xb {ns : List SN} {xh q : Nat} (hd : (xh :: ns.map SN.xb).Nodup) (hq : q < ns.length) : ns.findIdx (fun n => n.xb == ns[q].xb) = q := by
  refine List.findIdx_eq hq |>.2 ⟨by simp, fun j hj => ?_⟩
  have hne : ns[j].xb ≠ ns[q].xb := fun e => by
    have := xb_inj (q := j + 1) (q' := q + 1) hd (by omega) (by omega) (by rw [xbOf_succ (by omega), xbOf_succ hq]; exact e)
    omega
  simpa using hne
theorem leftOf_at {ns : List SN} {xh q : Nat} {W : World} (hd : (xh :: ns.map SN.xb).Nodup) (h1 : ∀ n ∈ ns, 1 ≤ n.h) (hq : q < ns.length) (hc : W.cell? ⟨ns[q].nb, 4, none⟩ = some (.slice (some ⟨ns[q].xb, 0, none⟩) ns[q].h ns[q].h)) :
    leftOf ns (nxt (ns.drop q) 0) W = ns.length - q := by
  rw [nxt_zero hq h1]
  simp only [leftOf, hc, findIdx_xb hd hq]
theorem leftOf_nil (ns : List SN) (W : World) : leftOf ns (.pointer none) W = 0 := rfl

/-- What the k-th yield hands over. -/
def YieldsE (es : List Ent) (k : Nat) (xs : Array Value) (W0 W : World) : Prop :=
  ∃ (h : k < es.length) (kv vv : Value), xs = #[.agg #[kv, .int .u64 es[k].seq, .bool es[k].del, vv]] ∧ BOwn W0.heap.size W kv es[k].key ∧ BOwn W0.heap.size W vv es[k].val ∧ OkE es[k]

theorem YieldsE.of {ns : List SN} {p k : Nat} (h : p + k < ns.length) {kv vv : Value} {W0 W : World} (hk : BOwn W0.heap.size W kv ns[p + k].e.key) (hv : BOwn W0.heap.size W vv ns[p + k].e.val) (ho : OkE ns[p + k].e) :
    YieldsE ((ns.drop p).map SN.e) k #[.agg #[kv, .int .u64 ns[p + k].e.seq, .bool ns[p + k].e.del, vv]] W0 W := by
  have hl : k < ((ns.drop p).map SN.e).length := by simp; omega
  have e : ((ns.drop p).map SN.e)[k] = ns[p + k].e := by simp
  refine ⟨hl, kv, vv, ?_, ?_, ?_, ?_⟩ <;> rw [e]
  · exact hk
  · exact hv
  · exact ho

set_option maxHeartbeats 2000000 in
theorem scan1_seq {n lo : Nat} {w0 w : World} {t : Nat} {hs : List Int} {hv : Value} {hb xh : Nat} {ns : List SN} (hS : SkipAt lo w0 t hs hv hb xh ns) (hn : ns.length ≤ 100000) (h1 : 2 ≤ n) (hbw : Below w0.heap.size w0 w) {b2 b3 : Nat} {u : Value} {fr : List UInt8}
    (h2 : Blk w b2 25 #[.pointer (some ⟨t, 0, none⟩)]) (h3 : Blk w b3 29 #[u]) (hu : BAt w.heap.size w u fr) :
    SeqRel Fence.wide n Try.prog 39 #[.pointer (some ⟨b2, 0, none⟩), .pointer (some ⟨b3, 0, none⟩)]
      (YieldsE ((ns.drop (posOf SN.key SN.seq ns fr 4611686018427387905)).map SN.e)) w0.heap.size (ns.length - posOf SN.key SN.seq ns fr 4611686018427387905) w := by
  intro l J Jx W hW hJ hJx hY h0
  refine (callsIn_wide (n := n)).2 ?_
  have hbW := hbw.trans (hW.mono hbw.size)
  have HS := Lib.hid (hS.old hbW)
  have HU := Lib.hid (hu.below hW)
  obtain ⟨au, cu, huv⟩ := hu.slice
  subst huv
  have hc2 := (h2.old hW).cells
  have hl2 := (h2.old hW).lt
  have hc3 := (h3.old hW).cells
  have hl3 := (h3.old hW).lt
  have hple := posOf_le SN.key SN.seq ns fr 4611686018427387905
  generalize hpp : posOf SN.key SN.seq ns fr 4611686018427387905 = p at *
  have HPP := Lib.hid hpp
  have HY := Lib.hid hY
  have HJ := Lib.hid hJ
  have HJX := Lib.hid hJx
  have HJ0 := Lib.hid h0
  have HS0 := Lib.hid hS
  have HBW := Lib.hid hbW
  have hh1 : ∀ n ∈ ns, 1 ≤ n.h := fun n h => (hS.base.each n h).h1
  have HH1 := Lib.hid hh1
  clear hS hu hpp hY hJ hJx h0 h2 h3 hbW hh1
  have hwW := hW.size
  go_enter Try.func39, Try.ntmps39
  go_wp2_with fail
  refine (skip_place HS.out hn HU.out hwW).mono ?_
  rintro e w1 ⟨hp, hbw1⟩
  rw [HPP.out] at hp
  obtain ⟨C, w2, rfl, hw2, hP⟩ := hp.placed w1
  have hb2 : Below W.heap.size W w2 := hbw1.trans (hP.bel.mono hbw1.size)
  have HB2 := Lib.hid (HBW.out.trans (hb2.mono HBW.out.size))
  have HJ2 := Lib.hid (HJ.out _ _ _ HJ0.out hb2)
  have HSZ := Lib.hid hb2.size
  have HR0 := Lib.hid (hP.zero HH1.out hple)
  have HP := Lib.hid hP
  have HW := Lib.hid hw2
  clear hw2 hP hbw1 hp hb2
  generalize stepsOf (ns.map SN.h) p 12 0 = tot
  go_wp2_with (with_reducible show wpList _ _ _ (Oper.mk none (.store 63 _ _) _ _ _ _ :: _) _ _; refine wpList_store_mid rfl 63 (.tmp 4) (.tmp 11) rfl w1.heap.size 0 C rfl rfl (by rw [HP.out.sz]; exact HP.out.thr) (by rw [HP.out.sz]; exact Try_info63) HP.out.one ?_; rw [HW.out]; refine Stop.of ?_)
  refine Stop.mk ?_
  have hcW := HP.out.row.cells 0
  rw [HR0.out] at hcW
  have hwl := HP.out.row.lt
  have hS2 := HS0.out.old HB2.out
  obtain ⟨csq, bq, hq4, hq1, hq12⟩ := hS2.base.pos hple
  have bx := hS2.links p hple
  have h4 : w2.cell? ⟨nbOf hb ns p, 4, none⟩ = some (.slice (some ⟨xbOf xh ns p, 0, none⟩) (htOf ns p) (htOf ns p)) := (bq.cells 4).trans hq4
  have hx : w2.cell? ⟨xbOf xh ns p, 0, none⟩ = some (nxt (ns.drop p) 0) := (bx.cells 0).trans (arr_get _ _ (by omega))
  have hi0 : (0 : Int) < (htOf ns p : Int) := by omega
  clear bq bx hq4 hS2 hc2 hc3 hl2 hl3
  go_wp2_with fail
  go_loopw [6] (fun j wr => ∃ k, p + k ≤ ns.length ∧ j = nxt (ns.drop (p + k)) 0 ∧ J k wr ∧ Below w0.heap.size w0 wr ∧ w.heap.size ≤ wr.heap.size) (fun j wr => leftOf ns j wr)
  case atStart => exact ⟨0, hple, rfl, HJ2.out, HB2.out, by have := HSZ.out; omega⟩
  case round =>
    obtain ⟨k, hk, rfl, hJk, hbr, hwr⟩ := hrel
    have HJK := Lib.hid hJk
    have HBR := Lib.hid hbr
    have hSr := HS0.out.old hbr
    clear hcW hwl h4 hx hi0 hq1 hq12 hJk hbr
    by_cases hend : p + k = ns.length
    · rw [hend, nxt_end]
      go_wp2_with fail
      go_end0
      exact ⟨⟨_, rfl⟩, .inl (by rw [show ns.length - p = k from by omega]; exact HJK.out)⟩
    · have hlt : p + k < ns.length := by omega
      have hE := hSr.base.each _ (List.getElem_mem hlt)
      have kb := hE.blk.cells
      have hkm := hE.kv.reads
      have hvm := hE.vv.reads
      obtain ⟨A1, c1, hA1⟩ := hE.kv.slice
      obtain ⟨A2, c2, hA2⟩ := hE.vv.slice
      have k0 := kb 0
      have k1 := kb 1
      have k2 := kb 2
      have k3 := kb 3
      have k4 := kb 4
      have hgl := hE.blk.lt
      simp only [List.getElem?_toArray, List.getElem?_cons_zero, List.getElem?_cons_succ, hA1, hA2] at k0 k1 k2 k3 k4 hkm hvm
      have HM := Lib.hid (leftOf_at hSr.base.dist HH1.out hlt k4)
      rw [nxt_zero hlt HH1.out] at HM ⊢
      have HE := Lib.hid hE
      have hsw := hSr.tbl.lt
      clear hE hA1 hA2 kb hSr
      go_upto_region 4 with fail
      refine (wpIn_wide (n := n)).1 ?_
      gi_wp2_with fail
      refine ⟨trivial, fun _ => by omega, (callsIn_wide.2 (mem_own hkm hvm (Nat.le_refl _) (by have := HE.out.ok.key; unfold Big; omega) (by have := HE.out.ok.val; unfold Big; omega))).mono ?_⟩
      rintro e w3 ⟨kc, vc, rfl, hkc, hvc, hb3⟩
      obtain ⟨fn, tmps, assign, body, hy, hR⟩ := HY.out k _ wr w3 HJK.out hb3 (by omega) (YieldsE.of hlt hkc hvc HE.out.ok)
      have HB3 := Lib.hid (HBR.out.trans (hb3.mono HBR.out.size))
      have hs3 := hb3.size
      clear hkc hvc hb3 hkm hvm k0 k1 k2 k3 k4 hgl
      gi_wp2
      refine ⟨fun _ => by omega, hR.mono ?_⟩
      rintro e W3 (⟨rfl, hJ3, hk3⟩ | ⟨rfl, hJx3⟩)
      · have hb5 := HB3.out.trans hk3
        have hS5 := HS0.out.old hb5
        have bn := (hS5.base.each _ (List.getElem_mem hlt)).blk
        have bx := hS5.links (p + k + 1) (by omega)
        have q1 := (hS5.base.each _ (List.getElem_mem hlt)).h1
        rw [xbOf_succ hlt, htOf_succ hlt] at bx
        have k4 := bn.cells 4
        simp only [List.getElem?_toArray, List.getElem?_cons_zero, List.getElem?_cons_succ] at k4
        have hx : W3.cell? ⟨ns[p + k].xb, 0, none⟩ = some (nxt (ns.drop (p + k + 1)) 0) := (bx.cells 0).trans (arr_get _ _ (by omega))
        have hi0 : (0 : Int) < (ns[p + k].h : Int) := by omega
        have hgl := bn.lt
        have HS5 := Lib.hid hS5
        have HB5 := Lib.hid hb5
        have HJ3 := Lib.hid hJ3
        have HSZ3 := Lib.hid (show w.heap.size ≤ W3.heap.size by have := hk3.size; omega)
        clear hb5 hS5 bn bx hJ3 hk3 q1
        gi_wp2
        go_wp2_with fail
        go_roundw
        case rel => exact ⟨k + 1, by omega, by rw [Nat.add_assoc], HJ3.out, HB5.out, HSZ3.out⟩
        case measure =>
          rw [HM.out]
          by_cases he : p + k + 1 = ns.length
          · rw [he, nxt_end, leftOf_nil]; omega
          · rw [leftOf_at HS5.out.base.dist HH1.out (show p + k + 1 < ns.length by omega) ((HS5.out.base.each _ (List.getElem_mem (show p + k + 1 < ns.length by omega))).blk.cells 4)]
            omega
      · gi_wp2
        go_wp2_with fail
        refine bodyPost_ret (results_none rfl _ _ _) rfl ?_
        exact ⟨⟨_, rfl⟩, .inr ⟨k + 1, by omega, hJx3⟩⟩
end Go.Proofs.Ytpohhlddbdepcaa
