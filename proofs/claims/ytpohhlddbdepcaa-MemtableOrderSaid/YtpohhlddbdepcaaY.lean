/-
  The walk of the program's Level.
-/
import Derived.Test.YtpohhlddbdepcaaO
import Derived.Test.YtpohhlddbdepcaaV
namespace Go.Proofs.Ytpohhlddbdepcaa
open Go.RowKit

theorem filt_same {α : Type} (P : α → Bool) {l : List α} {q : Nat} : ∀ n, q + n ≤ l.length → (∀ j (h : j < l.length), q ≤ j → j < q + n → P l[j] = false) → (l.take (q + n)).filter P = (l.take q).filter P
  | 0, _, _ => rfl
  | n + 1, hl, h => by
    rw [show q + (n + 1) = q + n + 1 from rfl, List.take_succ_eq_append_getElem (by omega), List.filter_append, filt_same P n (by omega) (fun j hj h1 h2 => h j hj h1 (by omega))]
    simp [List.filter_cons, h (q + n) (by omega) (by omega) (by omega)]
theorem filt_step {α : Type} (P : α → Bool) {l : List α} {q m : Nat} (hm : m < l.length) (hqm : q ≤ m) (h : ∀ j (h : j < l.length), q ≤ j → j < m → P l[j] = false) (hp : P l[m] = true) :
    (l.take (m + 1)).filter P = (l.take q).filter P ++ [l[m]] := by
  have := filt_same P (l := l) (q := q) (m - q) (by omega) (fun j hj h1 h2 => h j hj h1 (by omega))
  rw [show q + (m - q) = m from by omega] at this
  rw [List.take_succ_eq_append_getElem hm, List.filter_append, this]
  simp [List.filter_cons, hp]
theorem filt_end {α : Type} (P : α → Bool) {l : List α} {q : Nat} (hq : q ≤ l.length) (h : ∀ j (h : j < l.length), q ≤ j → P l[j] = false) : l.filter P = (l.take q).filter P := by
  have := filt_same P (l := l) (q := q) (l.length - q) (by omega) (fun j hj h1 _ => h j hj h1)
  rw [show q + (l.length - q) = l.length from by omega, List.take_length] at this
  exact this

/-- What the program's Level tells: of the first q nodes those on level i. -/
def lvlN (ns : List SN) (i : Nat) : List Ent := (ns.filter fun n => decide (i < n.h)).map SN.e
def lvlNSpec (ns : List SN) (i : Int) : List Ent := if 0 ≤ i ∧ i < 12 then lvlN ns i.toNat else []

def lenOf : Value → Nat
  | .slice _ n _ => n
  | _ => 0

set_option maxHeartbeats 2000000 in
theorem skip_Level {lo : Nat} {w : World} {t : Nat} {hs : List Int} {hv : Value} {hb xh : Nat} {ns : List SN} (hS : SkipAt lo w t hs hv hb xh ns) (hn : ns.length ≤ 100000) (i : Int) :
    Calls Try.prog 16 #[.pointer (some ⟨t, 0, none⟩), .int .i64 i] w fun e w' => ∃ v cs, e = .returned v ∧ OutAt w.heap.size w' v cs ∧ cs.map MEnt.e = lvlNSpec ns i ∧ Below w.heap.size w w' := by
  obtain ⟨i0, hi0, hz0, hz1, hz2⟩ := info_parts Try_infoEn
  have HS := Lib.hid hS
  have hcT := hS.tbl.cells
  have htl : t < w.heap.size := hS.tbl.lt
  clear hS
  go_enter Try.func16, Try.ntmps16
  by_cases hneg : i < 0
  · go_wp2_with fail
    go_ret
    exact ⟨_, [], rfl, OutAt.nil _ _, by rw [lvlNSpec, if_neg (by omega)]; rfl, Below.refl _ _⟩
  by_cases hbig : 12 ≤ i
  · go_wp2_with fail
    go_ret
    exact ⟨_, rfl, [], OutAt.nil _ _, by rw [lvlNSpec, if_neg (by omega)]; rfl, Below.refl _ _⟩
  obtain ⟨l, rfl⟩ : ∃ l : Nat, i = l := ⟨i.toNat, by omega⟩
  have hl12 : l < 12 := by omega
  have hsp : lvlNSpec ns l = lvlN ns l := by rw [lvlNSpec, if_pos (by omega)]; rfl
  have HSP := Lib.hid hsp
  clear hsp
  obtain ⟨csq, bq, hq4, hq1, hq12⟩ := HS.out.base.pos (Nat.zero_le ns.length)
  have bx := HS.out.links 0 (by omega)
  have h4 : w.cell? ⟨hb, 4, none⟩ = some (.slice (some ⟨xh, 0, none⟩) 12 12) := (bq.cells 4).trans hq4
  have hx : w.cell? ⟨xh, l, none⟩ = some (nxt ns l) := (bx.cells l).trans (arr_get _ _ hl12)
  have j0 : (0 : Int) ≤ (l : Int) := by omega
  have j1 : (l : Int) < 12 := by omega
  clear bq bx hq4 hq1 hq12
  go_wp2_with fail
  go_loopw [5, 6] (fun o j wr => ∃ (q : Nat) (cs : List MEnt), q ≤ ns.length ∧ j = nxt (ns.drop q) l ∧ OutAt w.heap.size wr o cs ∧ cs.length ≤ q ∧ cs.map MEnt.e = lvlN (ns.take q) l ∧ l < htOf ns q ∧ Below w.heap.size w wr) (fun o _ _ => ns.length - lenOf o)
  case atStart => exact ⟨0, [], by omega, rfl, OutAt.nil _ _, by simp, by simp [lvlN], by simp [htOf]; omega, Below.refl _ _⟩
  case round =>
    obtain ⟨q, cs, hq, rfl, hout, hlen, hcs, hlq, hbw⟩ := hrel
    have HCS := Lib.hid hcs
    have hw0 : w.heap.size ≤ wr.heap.size := hbw.size
    obtain ⟨al, cl, hll⟩ := slice_of_row hout.row
    subst hll
    have HSr := Lib.hid (HS.out.old hbw)
    clear hcs hcT htl h4 hx
    rcases nxt_cases ns l q with ⟨hnx, hall⟩ | ⟨m, hmn, hqm, hih, hbetween, hnx⟩
    · rw [hnx]
      have hend : lvlN ns l = lvlN (ns.take q) l := by
        unfold lvlN
        rw [filt_end (fun n => decide (l < n.h)) hq (fun j hj h => by have := hall j hj h; simp; omega)]
      clear hall hnx
      go_wp2_with fail
      go_ret
      exact ⟨_, cs, rfl, hout, by rw [HCS.out, HSP.out, hend], hbw⟩
    · rw [hnx]
      clear hnx
      have hst : lvlN (ns.take (m + 1)) l = lvlN (ns.take q) l ++ [ns[m].e] := by
        unfold lvlN
        rw [filt_step (fun n => decide (l < n.h)) hmn hqm (fun j hj h1 h2 => by have := hbetween j hj h1 h2; simp; omega) (by simpa using hih), List.map_append]
        rfl
      have HST := Lib.hid hst
      have hE := HSr.out.base.each _ (List.getElem_mem hmn)
      have kb := hE.blk.cells
      have hkm := hE.kv.reads
      have hvm := hE.vv.reads
      obtain ⟨A1, c1, hA1⟩ := hE.kv.slice
      obtain ⟨A2, c2, hA2⟩ := hE.vv.slice
      have k0 := kb 0
      have k1 := kb 1
      have k2 := kb 2
      have k3 := kb 3
      have k4 := kb 4
      have hgl := hE.blk.lt
      simp only [List.getElem?_toArray, List.getElem?_cons_zero, List.getElem?_cons_succ, hA1, hA2] at k0 k1 k2 k3 k4 hkm hvm
      have bx := (HSr.out.links (m + 1) (by omega)).cells l
      rw [xbOf_succ hmn, htOf_succ hmn] at bx
      have hx : wr.cell? ⟨ns[m].xb, l, none⟩ = some (nxt (ns.drop (m + 1)) l) := bx.trans (arr_get _ _ hih)
      have i2 : (l : Int) < (ns[m].h : Int) := by omega
      have HE := Lib.hid hE
      clear hst hE hA1 hA2 kb bx hbetween
      go_wp2_with fail
      refine (mem_own hkm hvm (Nat.le_refl _) (by have := HE.out.ok.key; unfold Big; omega) (by have := HE.out.ok.val; unfold Big; omega)).mono ?_
      rintro e w2 ⟨kc, vc, rfl, hkc, hvc, hb2⟩
      have hbw2 := hbw.trans (hb2.mono hw0)
      have hs2 := hb2.size
      have hout2 := hout.old hb2
      obtain ⟨Ak, cck, hAk⟩ := hkc.slice
      obtain ⟨Av, ccv, hAv⟩ := hvc.slice
      subst hAk hAv
      clear k0 k1 k2 k3 k4 hkm hvm hout hb2 hx hgl
      go_wp2_with (at_builtin; refine Stop.of ?_)
      refine Stop.mk ?_
      have hnew := RAt.fresh w2 32 [.slice Ak ns[m].e.key.length cck, .int .u64 ns[m].e.seq, .bool ns[m].e.del, .slice Av ns[m].e.val.length ccv]
      refine wpList_append_src _ rfl (.tmp 32) (.tmp 38) 39 rfl w.heap.size 32 i0 _ 4 64 Try.underlying39 hi0 hz0 hz1 hz2 rfl (by decide) _ cs.length _ rfl (hout2.row.alloc _) (w2.heap.size + 1) (some ⟨w2.heap.size, 0, none⟩) 1 1 [.slice Ak ns[m].e.key.length cck, .int .u64 ns[m].e.seq, .bool ns[m].e.del, .slice Av ns[m].e.val.length ccv] rfl rfl
        hnew (by simp [Value.oneCell']) (by unfold maxLen; omega) (by omega) (by simp; omega) ?_
      intro v1 w3 hown1 hg1 hat1
      have hout4 := OutAt.snoc (m := ⟨ns[m].e, ns[m].h, .slice Ak ns[m].e.key.length cck, .slice Av ns[m].e.val.length ccv⟩) hout2 (by omega) hown1 rfl hg1 (hkc.mono hw0) (hvc.mono hw0) HE.out.ok
      have hv0 : ∀ j, Value.ownBlock _ = some j → w.heap.size ≤ j := fun j hj => (hout2.row.lt j hj).1
      have hbw4 : Below w.heap.size w w3 := (hbw2.alloc (by omega) _).grown hg1 (by simp; omega) hv0
      have bxw := HS.out.links (m + 1) (by omega)
      rw [xbOf_succ hmn, htOf_succ hmn] at bxw
      have bnw := (HS.out.base.each _ (List.getElem_mem hmn)).blk
      have hx3 : w3.cell? ⟨ns[m].xb, l, none⟩ = some (nxt (ns.drop (m + 1)) l) := ((below_cells hbw4 _ _ bxw.lt).trans (bxw.cells l)).trans (arr_get _ _ hih)
      have k43 : w3.cell? ⟨ns[m].nb, 4, none⟩ = some (.slice (some ⟨ns[m].xb, 0, none⟩) ns[m].h ns[m].h) := (below_cells hbw4 _ _ bnw.lt).trans (bnw.cells 4)
      have hgl3 : ns[m].nb < w3.heap.size := World.block_lt_of_cell? w3 _ k43
      obtain ⟨cs', hcs', hlen', hout5⟩ : ∃ cs' : List MEnt, cs'.map MEnt.e = cs.map MEnt.e ++ [ns[m].e] ∧ cs'.length = cs.length + 1 ∧ OutAt w.heap.size w3 v1 cs' := ⟨_, List.map_append, by simp, hout4⟩
      have HCS' := Lib.hid hcs'
      obtain ⟨al', cl', hll'⟩ := slice_of_row hout5.row
      subst hll'
      have HLEN' := Lib.hid hlen'
      clear hlen'
      clear hout2 hout4 hown1 hg1 hat1 hkc hvc hnew bxw bnw hcs'
      go_wp2_with fail
      go_roundw
      case rel => exact ⟨m + 1, _, by omega, rfl, hout5, by rw [HLEN'.out]; omega, by rw [HCS'.out, HST.out, HCS.out], by rw [htOf_succ hmn]; exact hih, hbw4⟩
      case measure => simp only [lenOf]; have := HLEN'.out; omega
end Go.Proofs.Ytpohhlddbdepcaa
