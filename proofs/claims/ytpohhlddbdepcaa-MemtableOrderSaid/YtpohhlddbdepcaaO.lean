/-
  The walks of the program's Steps, Len, Bytes, Get.
-/
import Derived.Test.YtpohhlddbdepcaaN
import Derived.Test.YtpohhlddbdepcaaG
import Derived.Test.YtpohhlddbdepcaaU
namespace Go.Proofs.Ytpohhlddbdepcaa
open Go.RowKit

section
variable {ns : List SN}
theorem IsBp.zero {p q : Nat} (h : IsBp ns p 0 q) (h1 : ∀ n ∈ ns, 1 ≤ n.h) (hp : p ≤ ns.length) : q = p := by
  obtain ⟨h2, h3, h4, _⟩ := h
  by_cases e : q = p
  · exact e
  · have := h4 q (by omega) (Nat.le_refl _) (by omega)
    have := h1 _ (List.getElem_mem (by omega : q < ns.length))
    omega
theorem nxt_zero {p : Nat} (hp : p < ns.length) (h1 : ∀ n ∈ ns, 1 ≤ n.h) : nxt (ns.drop p) 0 = .pointer (some ⟨ns[p].nb, 0, none⟩) := by
  have := h1 _ (List.getElem_mem hp)
  rw [List.drop_eq_getElem_cons hp]
  simp only [nxt, List.find?_cons, decide_eq_true (show 0 < ns[p].h from this)]
theorem nxt_end (j : Nat) : nxt (ns.drop ns.length) j = .pointer none := by simp [nxt]
end

theorem skip_Len {lo : Nat} {w : World} {t : Nat} {hs : List Int} {hv : Value} {hb xh : Nat} {ns : List SN} (hS : SkipAt lo w t hs hv hb xh ns) :
    Calls Try.prog 23 #[.pointer (some ⟨t, 0, none⟩)] w fun e w' => e = .returned (.int .i64 (ns.length : Nat)) ∧ w' = w := by
  have hcT := hS.tbl.cells
  have htl : t < w.heap.size := hS.tbl.lt
  go_enter Try.func23, Try.ntmps23
  go_wp2_with fail
  go_ret
  exact ⟨rfl, rfl⟩

theorem skip_Bytes {lo : Nat} {w : World} {t : Nat} {hs : List Int} {hv : Value} {hb xh : Nat} {ns : List SN} (hS : SkipAt lo w t hs hv hb xh ns) :
    Calls Try.prog 25 #[.pointer (some ⟨t, 0, none⟩)] w fun e w' => e = .returned (.int .i64 (bytesOf (ns.map SN.e) : Nat)) ∧ w' = w := by
  have hcT := hS.tbl.cells
  have htl : t < w.heap.size := hS.tbl.lt
  go_enter Try.func25, Try.ntmps25
  go_wp2_with fail
  go_ret
  exact ⟨rfl, rfl⟩

/-- A whole row is stored over. -/
theorem Blk.setRow {g : Nat} {t : TypeId} : ∀ (vs pre old : List Value) (w : World), old.length = vs.length → Blk w g t (pre ++ old).toArray → Blk (w.setCells g pre.length vs) g t (pre ++ vs).toArray
  | [], pre, old, w, hl, h => by
    obtain rfl : old = [] := List.length_eq_zero_iff.1 hl
    exact h
  | v :: r, pre, [], w, hl, h => by simp at hl
  | v :: r, pre, o :: old, w, hl, h => by
    have h2 := h.set_ pre.length v
    have e : (pre ++ o :: old).toArray.setIfInBounds pre.length v = ((pre ++ [v]) ++ old).toArray := by simp
    rw [e] at h2
    have := Blk.setRow r (pre ++ [v]) old _ (by simpa using hl) h2
    rw [List.length_append, List.length_singleton] at this
    rw [show pre ++ v :: r = pre ++ [v] ++ r from by simp]
    exact this
theorem Blk.there {w : World} {g : Nat} {t : TypeId} {cs : Array Value} (h : Blk w g t cs) {n : Nat} (hn : n ≤ cs.size) : w.there g 0 n := by
  intro j hj
  rw [Nat.zero_add, h.cells, h.free]
  exact ⟨by rw [Array.getElem?_eq_getElem (by omega)]; rfl, rfl⟩

/-- The row of places as a literal. -/
def row12 (hb : Nat) (ns : List SN) (q : Nat → Nat) : Array Value := #[.pointer (some ⟨nbOf hb ns (q 0), 0, none⟩), .pointer (some ⟨nbOf hb ns (q 1), 0, none⟩), .pointer (some ⟨nbOf hb ns (q 2), 0, none⟩), .pointer (some ⟨nbOf hb ns (q 3), 0, none⟩), .pointer (some ⟨nbOf hb ns (q 4), 0, none⟩), .pointer (some ⟨nbOf hb ns (q 5), 0, none⟩), .pointer (some ⟨nbOf hb ns (q 6), 0, none⟩), .pointer (some ⟨nbOf hb ns (q 7), 0, none⟩), .pointer (some ⟨nbOf hb ns (q 8), 0, none⟩), .pointer (some ⟨nbOf hb ns (q 9), 0, none⟩), .pointer (some ⟨nbOf hb ns (q 10), 0, none⟩), .pointer (some ⟨nbOf hb ns (q 11), 0, none⟩)]
theorem row12_get (hb : Nat) (ns : List SN) (q : Nat → Nat) {j : Nat} (hj : j < 12) : (row12 hb ns q)[j]? = some (.pointer (some ⟨nbOf hb ns (q j), 0, none⟩)) := by
  match j, hj with
  | 0, _ => rfl
  | 1, _ => rfl
  | 2, _ => rfl
  | 3, _ => rfl
  | 4, _ => rfl
  | 5, _ => rfl
  | 6, _ => rfl
  | 7, _ => rfl
  | 8, _ => rfl
  | 9, _ => rfl
  | 10, _ => rfl
  | 11, _ => rfl
theorem PlacePost.row {ns : List SN} {hb p : Nat} {e : Ending} (h : PlacePost ns hb p e) : ∃ q : Nat → Nat, (∀ j, j < 12 → IsBp ns p j (q j)) ∧ e = .returned (.tuple #[.agg (row12 hb ns q), .int .i64 (stepsOf (ns.map SN.h) p 12 0 : Nat)]) := by
  obtain ⟨cs, hsz, he, hall⟩ := h
  have hall' : ∀ j, ∃ q, j < 12 → IsBp ns p j q ∧ cs[j]? = some (.pointer (some ⟨nbOf hb ns q, 0, none⟩)) := fun j => by
    by_cases hj : j < 12
    · obtain ⟨q, h⟩ := hall j hj
      exact ⟨q, fun _ => h⟩
    · exact ⟨0, fun h => absurd h hj⟩
  obtain ⟨q, hq⟩ := Classical.skolem.1 hall'
  refine ⟨q, fun j hj => (hq j hj).1, ?_⟩
  rw [he]
  refine congrArg (fun c => Ending.returned (.tuple #[.agg c, .int .i64 (stepsOf (ns.map SN.h) p 12 0 : Nat)])) ?_
  refine Array.ext_getElem? fun j => ?_
  by_cases hj : j < 12
  · rw [row12_get _ _ _ hj, (hq j hj).2]
  · rw [Array.getElem?_eq_none (by omega), Array.getElem?_eq_none (by simp [row12]; omega)]

theorem Try_info63 : (Try.prog.info? 63).map (·.size) = some 12 := by kernel_rfl

/-- The places, stored: w1 the world of the call's end, w2 that behind the store. -/
structure Placed (ns : List SN) (hb p : Nat) (w1 w2 : World) (C : Array Value) : Prop where
  one : C.all (·.oneCell') = true
  sz : C.size = 12
  thr : (w1.alloc (.cells #[.pointer none, .pointer none, .pointer none, .pointer none, .pointer none, .pointer none, .pointer none, .pointer none, .pointer none, .pointer none, .pointer none, .pointer none] 63)).there w1.heap.size 0 12
  row : Blk w2 w1.heap.size 63 C
  bel : Below w1.heap.size w1 w2
  bps : ∃ q : Nat → Nat, (∀ j, j < 12 → IsBp ns p j (q j)) ∧ ∀ j, j < 12 → C[j]? = some (.pointer (some ⟨nbOf hb ns (q j), 0, none⟩))
theorem PlacePost.placed {ns : List SN} {hb p : Nat} {e : Ending} (h : PlacePost ns hb p e) (w1 : World) : ∃ (C : Array Value) (w2 : World), e = .returned (.tuple #[.agg C, .int .i64 (stepsOf (ns.map SN.h) p 12 0 : Nat)]) ∧
    (w1.alloc (.cells #[.pointer none, .pointer none, .pointer none, .pointer none, .pointer none, .pointer none, .pointer none, .pointer none, .pointer none, .pointer none, .pointer none, .pointer none] 63)).setCells w1.heap.size 0 C.toList = w2 ∧ Placed ns hb p w1 w2 C := by
  obtain ⟨q, hq, rfl⟩ := h.row
  refine ⟨_, _, rfl, rfl, by simp [row12, Value.oneCell'], rfl, (Blk.new _ _ _).there (Nat.le_refl 12), ?_, below_setCells (Nat.le_refl _) _ _ _ (World.below_alloc (Nat.le_refl _) _), q, hq, fun j hj => row12_get _ _ _ hj⟩
  exact Blk.setRow (row12 hb ns q).toList [] [.pointer none, .pointer none, .pointer none, .pointer none, .pointer none, .pointer none, .pointer none, .pointer none, .pointer none, .pointer none, .pointer none, .pointer none] _ rfl (Blk.new w1 63 _)
/-- What lies at the place itself. -/
theorem Placed.zero {ns : List SN} {hb p : Nat} {w1 w2 : World} {C : Array Value} (h : Placed ns hb p w1 w2 C) (h1 : ∀ n ∈ ns, 1 ≤ n.h) (hp : p ≤ ns.length) : C[0]? = some (.pointer (some ⟨nbOf hb ns p, 0, none⟩)) := by
  obtain ⟨q, hq, hC⟩ := h.bps
  rw [hC 0 (by omega), (hq 0 (by omega)).zero h1 hp]

theorem skip_Steps {lo B : Nat} {w : World} {t : Nat} {hs : List Int} {hv : Value} {hb xh : Nat} {ns : List SN} (hS : SkipAt lo w t hs hv hb xh ns) (hn : ns.length ≤ 100000) {ku : Value} {k : List UInt8} {s : Int} (hk : BAt B w ku k) (hB : B ≤ w.heap.size) :
    Calls Try.prog 18 #[.pointer (some ⟨t, 0, none⟩), ku, .int .u64 s] w fun e w' => e = .returned (.int .i64 (stepsOf (ns.map SN.h) (posOf SN.key SN.seq ns k s) 12 0 : Nat)) ∧ Below w.heap.size w w' := by
  have HK := Lib.hid hk
  obtain ⟨ak, ck, hku⟩ := hk.slice
  subst hku
  clear hk
  go_enter Try.func18, Try.ntmps18
  go_wp2_with fail
  refine (skip_place hS hn HK.out hB).mono ?_
  rintro e w1 ⟨hp, hbw⟩
  obtain ⟨C, w2, rfl, hw2, hP⟩ := hp.placed w1
  clear hp
  have HP := Lib.hid hP
  have HW := Lib.hid hw2
  clear hw2 hP
  generalize htot : stepsOf (ns.map SN.h) (posOf SN.key SN.seq ns k s) 12 0 = tot
  have HT := Lib.hid htot
  clear htot
  go_wp2_with (with_reducible show wpList _ _ _ (Oper.mk none (.store 63 _ _) _ _ _ _ :: _) _ _; refine wpList_store_mid rfl 63 (.tmp 7) (.tmp 14) rfl w1.heap.size 0 C rfl rfl (by rw [HP.out.sz]; exact HP.out.thr) (by rw [HP.out.sz]; exact Try_info63) HP.out.one ?_; rw [HW.out]; refine Stop.of ?_)
  refine Stop.mk ?_
  go_wp2_with fail
  go_ret
  exact ⟨ret_int (by rw [HT.out]), hbw.trans (HP.out.bel.mono hbw.size)⟩

set_option maxHeartbeats 1000000 in
theorem skip_Get {lo B : Nat} {w : World} {t : Nat} {hs : List Int} {hv : Value} {hb xh : Nat} {ns : List SN} (hS : SkipAt lo w t hs hv hb xh ns) (hn : ns.length ≤ 100000) {ku : Value} {k : List UInt8} {s : Int} (hk : BAt B w ku k) (hB : B ≤ w.heap.size) :
    Calls Try.prog 9 #[.pointer (some ⟨t, 0, none⟩), ku, .int .u64 s] w fun e w' => Below w.heap.size w w' ∧ GetPost w.heap.size w' e (getE (ns.map SN.e) k s) := by
  have HK := Lib.hid hk
  obtain ⟨ak, ck, hku⟩ := hk.slice
  subst hku
  have hple := posOf_le SN.key SN.seq ns k s
  have hge : getE (ns.map SN.e) k s = (ns[posOf SN.key SN.seq ns k s]?).bind fun m => if m.e.key = k then some m.e else none := by
    unfold getE
    rw [posOf_map SN.key SN.seq SN.e (fun _ => rfl) (fun _ => rfl), List.getElem?_map]
    cases ns[posOf SN.key SN.seq ns k s]? <;> rfl
  have HG := Lib.hid hge
  clear hge hk
  have hb0 : ∀ o, Below w.heap.size w (w.alloc o) := fun o => World.below_alloc (Nat.le_refl _) o
  go_enter Try.func9, Try.ntmps9
  go_wp2_with fail
  refine (skip_place (hS.old (hb0 _)) hn (HK.out.lift hB (hb0 _)) (by simp; omega)).mono ?_
  rintro e w1 ⟨hp, hbw1⟩
  generalize hpp : posOf SN.key SN.seq ns k s = p at *
  obtain ⟨C, w2, rfl, hw2, hP⟩ := hp.placed w1
  clear hp
  have hh1 : ∀ n ∈ ns, 1 ≤ n.h := fun n h => (hS.base.each n h).h1
  have hbw : Below w.heap.size w w1 := (hb0 _).trans (hbw1.mono (by simp))
  have bX : Blk w1 w.heap.size _ _ := (Blk.new w _ _).old hbw1
  have hs1 : w.heap.size + 1 ≤ w1.heap.size := by have := hbw1.size; simpa using this
  have HBW := Lib.hid (hbw.trans (hP.bel.mono hbw.size))
  have HBX := Lib.hid (bX.old hP.bel)
  have HR0 := Lib.hid (hP.zero hh1 hple)
  have HP := Lib.hid hP
  have HW := Lib.hid hw2
  have HS := Lib.hid hS
  have HPP := Lib.hid hpp
  have HH1 := Lib.hid hh1
  clear hw2 hP bX hbw hS hh1 hpp hbw1
  generalize stepsOf (ns.map SN.h) p 12 0 = tot
  go_wp2_with (with_reducible show wpList _ _ _ (Oper.mk none (.store 63 _ _) _ _ _ _ :: _) _ _; refine wpList_store_mid rfl 63 (.tmp 8) (.tmp 16) rfl w1.heap.size 0 C rfl rfl (by rw [HP.out.sz]; exact HP.out.thr) (by rw [HP.out.sz]; exact Try_info63) HP.out.one ?_; rw [HW.out]; refine Stop.of ?_)
  refine Stop.mk ?_
  have hcW := HP.out.row.cells 0
  rw [HR0.out] at hcW
  have hwl := HP.out.row.lt
  have hbw2 := HBW.out
  have hcX := HBX.out.cells
  have hfX := HBX.out.free
  have hxl := HBX.out.lt
  have hS2 := HS.out.old HBW.out
  have hbp := hS2.base.pos hple
  obtain ⟨csq, bq, hq4, hq1, hq12⟩ := hS2.base.pos hple
  have bx := hS2.links p hple
  have h4 : w2.cell? ⟨nbOf hb ns p, 4, none⟩ = some (.slice (some ⟨xbOf xh ns p, 0, none⟩) (htOf ns p) (htOf ns p)) := (bq.cells 4).trans hq4
  have hx : w2.cell? ⟨xbOf xh ns p, 0, none⟩ = some (nxt (ns.drop p) 0) := (bx.cells 0).trans (arr_get _ _ (by omega))
  have hi0 : (0 : Int) < (htOf ns p : Int) := by omega
  clear bq bx hq4 hbp HS
  have HS := Lib.hid hS2
  clear hS2
  have hcT := HS.out.tbl.cells
  have hout : ∀ W, Chg (fun b => b = w.heap.size) w2 W → Below w.heap.size w W := fun W h => hbw2.trans (h.below (by omega) (by intro b hb; omega))
  have HOUT := Lib.hid hout
  clear hbw2 hout
  by_cases hend : p = ns.length
  · have hg := HG.out
    rw [List.getElem?_eq_none (by omega)] at hg
    clear HG
    have HG := Lib.hid hg
    clear hg hple
    rw [hend, nxt_end] at hx
    rw [← hend] at hx
    clear hend
    go_wp2_with fail
    refine bodyPost_ret (v := .tuple #[.agg #[.slice none 0 0, .int .u64 0, .bool false, .slice none 0 0], .bool false]) (by simp [results, Try.results9, go_sem, hcX]) rfl ⟨HOUT.out _ ?_, ?_⟩
    · repeat (first | (with_reducible exact Chg.refl _ _) | (with_reducible refine Chg.setCell ?_ (by simp) _))
    · rw [HG.out]; rfl
  · have hm : p < ns.length := by omega
    have hg := HG.out
    rw [List.getElem?_eq_getElem hm] at hg
    rw [nxt_zero hm HH1.out] at hx
    clear HG hend
    have hE := HS.out.base.each _ (List.getElem_mem hm)
    have kb := hE.blk.cells
    have hkm := hE.kv.reads
    have hvm := hE.vv.reads
    obtain ⟨A1, c1, hA1⟩ := hE.kv.slice
    obtain ⟨A2, c2, hA2⟩ := hE.vv.slice
    have k0 := kb 0
    have k1 := kb 1
    have k2 := kb 2
    have k3 := kb 3
    have k4 := kb 4
    have hgl := hE.blk.lt
    simp only [List.getElem?_toArray, List.getElem?_cons_zero, List.getElem?_cons_succ, hA1, hA2] at k0 k1 k2 k3 k4 hkm hvm
    have HQ := Lib.hid (bytes_Equal hkm (HK.out.lift hB HBW.out))
    have HE := Lib.hid hE
    clear hE hA1 hA2 kb
    by_cases hkk : ns[p].e.key = k
    · have hkb : (ns[p].e.key == k) = true := by simp [hkk]
      simp only [hkk, if_true, Option.bind_some] at hg
      have HG := Lib.hid hg
      have HKK := Lib.hid hkk
      clear hg hkk
      go_wp2_with fail
      refine HQ.out.mono ?_
      rintro e w3 ⟨rfl, rfl⟩
      rw [hkb]
      go_wp2_with fail
      refine (mem_own hkm hvm (Nat.le_refl _) (by have := HE.out.ok.key; unfold Big; omega) (by have := HE.out.ok.val; unfold Big; omega)).mono ?_
      rintro e w3 ⟨kc, vc, rfl, hkc, hvc, hb3⟩
      have hs3 : w2.heap.size ≤ w3.heap.size := hb3.size
      have bX3 := HBX.out.old hb3
      have hcX3 := bX3.cells
      have hfX3 := bX3.free
      have hxl3 := bX3.lt
      obtain ⟨Ak, cck, hAk⟩ := hkc.slice
      obtain ⟨Av, ccv, hAv⟩ := hvc.slice
      subst hAk hAv
      have hw02 : w.heap.size ≤ w2.heap.size := HBW.out.size
      have hfin : ∀ W, Chg (fun b => b = w.heap.size) w3 W → Below w.heap.size w W ∧ GetPost w.heap.size W (.returned (.tuple #[.agg #[.slice Ak ns[p].e.key.length cck, .int .u64 ns[p].e.seq, .bool ns[p].e.del, .slice Av ns[p].e.val.length ccv], .bool true])) (getE (ns.map SN.e) k s) := fun W h => by
        refine ⟨(HBW.out.trans (hb3.mono hw02)).trans (h.below (by omega) (by intro b hb; omega)), ?_⟩
        rw [HG.out]
        exact ⟨_, _, rfl, (hkc.chg h (by omega)).mono hw02, (hvc.chg h (by omega)).mono hw02, HE.out.ok⟩
      have HF := Lib.hid hfin
      clear hfin hkc hvc hb3 hcX hfX hxl k0 k1 k2 k3 k4 hkm hvm hcT hx h4 hcW hb0
      go_wp2_with fail
      refine bodyPost_ret (v := .tuple #[.agg #[.slice Ak ns[p].e.key.length cck, .int .u64 ns[p].e.seq, .bool ns[p].e.del, .slice Av ns[p].e.val.length ccv], .bool true]) (by simp [results, Try.results9, go_sem, hcX3]) rfl ?_
      refine HF.out _ ?_
      repeat (first | (with_reducible exact Chg.refl _ _) | (with_reducible refine Chg.setCell ?_ (by simp) _))
    · have hkb : (ns[p].e.key == k) = false := by simp [hkk]
      simp only [hkk, if_false, Option.bind_some] at hg
      have HG := Lib.hid hg
      clear hg hkk
      go_wp2_with fail
      refine HQ.out.mono ?_
      rintro e w3 ⟨rfl, rfl⟩
      rw [hkb]
      go_wp2_with fail
      refine bodyPost_ret (v := .tuple #[.agg #[.slice none 0 0, .int .u64 0, .bool false, .slice none 0 0], .bool false]) (by simp [results, Try.results9, go_sem, hcX]) rfl ⟨HOUT.out _ ?_, ?_⟩
      · repeat (first | (with_reducible exact Chg.refl _ _) | (with_reducible refine Chg.setCell ?_ (by simp) _))
      · rw [HG.out]; rfl
end Go.Proofs.Ytpohhlddbdepcaa
