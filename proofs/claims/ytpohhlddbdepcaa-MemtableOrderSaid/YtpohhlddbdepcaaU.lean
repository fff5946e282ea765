/-
  The walks of the reference's Get, Scan, Level, Steps.
-/
import Derived.Test.YtpohhlddbdepcaaT
namespace Go.Proofs.Ytpohhlddbdepcaa
open Go.RowKit

/-- What Get finds. -/
def getE (l : List Ent) (k : List UInt8) (s : Int) : Option Ent := (l[posOf Ent.key Ent.seq l k s]?).bind fun e => if e.key = k then some e else none

theorem posOf_map {α : Type} (kf : α → List UInt8) (sf : α → Int) (g : α → Ent) (hk : ∀ a, (g a).key = kf a) (hs : ∀ a, (g a).seq = sf a) (l : List α) (k : List UInt8) (s : Int) : posOf Ent.key Ent.seq (l.map g) k s = posOf kf sf l k s := by
  unfold posOf
  induction l with
  | nil => rfl
  | cons a l ih =>
    rw [List.map_cons, List.takeWhile_cons, List.takeWhile_cons, hk, hs]
    split
    · simp only [List.length_cons, ih]
    · rfl

/-- What Get hands back. -/
def GetPost (lo : Nat) (w' : World) (e : Ending) : Option Ent → Prop
  | none => e = .returned (.tuple #[.agg #[.slice none 0 0, .int .u64 0, .bool false, .slice none 0 0], .bool false])
  | some x => ∃ kv vv, e = .returned (.tuple #[.agg #[kv, .int .u64 x.seq, .bool x.del, vv], .bool true]) ∧ BOwn lo w' kv x.key ∧ BOwn lo w' vv x.val ∧ OkE x

set_option maxHeartbeats 1000000 in
theorem ref_Get {lo B : Nat} {w : World} {t : Nat} {hs : List Int} {hv lv : Value} {ms : List MEnt} (hR : RefAt lo w t hs hv lv ms) (hn : ms.length ≤ 100000) {ku : Value} {k : List UInt8} {s : Int} (hk : BAt B w ku k) (hB : B ≤ w.heap.size) (hkl : Big k) :
    Calls Try.prog 10 #[.pointer (some ⟨t, 0, none⟩), ku, .int .u64 s] w fun e w' => Below w.heap.size w w' ∧
      GetPost w.heap.size w' e (getE (ms.map MEnt.e) k s) := by
  obtain ⟨al, cl, hll⟩ := slice_of_row hR.lrow
  have hcl : ms.length ≤ cl := by
    rcases hR.lrow.2 with ⟨_, h0⟩ | ⟨g, cap, cur, hlv, hlo, hg, hc, rest⟩
    · omega
    · rw [hll] at hlv; cases hlv; exact hc
  subst hll
  have HK := Lib.hid hk
  obtain ⟨ak, ck, hku⟩ := hk.slice
  subst hku
  have hple := posOf_le MEnt.key MEnt.seq ms k s
  have hge : getE (ms.map MEnt.e) k s = (ms[posOf MEnt.key MEnt.seq ms k s]?).bind fun m => if m.e.key = k then some m.e else none := by
    unfold getE
    rw [posOf_map MEnt.key MEnt.seq MEnt.e (fun _ => rfl) (fun _ => rfl), List.getElem?_map]
    cases ms[posOf MEnt.key MEnt.seq ms k s]? <;> rfl
  have HG := Lib.hid hge
  clear hge hk
  have hb0 : ∀ o, Below w.heap.size w (w.alloc o) := fun o => World.below_alloc (Nat.le_refl _) o
  go_enter Try.func10, Try.ntmps10
  go_wp2_with fail
  refine (ref_place (hR.old (hb0 _)) hn (HK.out.lift hB (hb0 _)) (by simp; omega) hkl _ _ _).mono ?_
  rintro e w1 ⟨rfl, hb⟩
  have hbw : Below w.heap.size w w1 := (hb0 _).trans (hb.mono (by simp))
  have bX : Blk w1 w.heap.size _ _ := (Blk.new w _ _).old hb
  have hs1 : w.heap.size + 1 ≤ w1.heap.size := by have := hb.size; simpa using this
  have hR1 := hR.old hbw
  have hcT := hR1.tbl.cells
  have htl : t < w1.heap.size := hR1.tbl.lt
  have hcX := bX.cells
  have hfX := bX.free
  have hxl := bX.lt
  generalize isAt ms k s = b0
  generalize hpp : posOf MEnt.key MEnt.seq ms k s = p at *
  have HPP := Lib.hid hpp
  clear hb hb0 hpp
  by_cases hend : p = ms.length
  · have hg := HG.out
    rw [List.getElem?_eq_none (by omega)] at hg
    clear HG
    have HG := Lib.hid hg
    clear hg hple
    subst hend
    have hd1 : ((ms.length : Int) == (ms.length : Int)) = true := by simp
    go_wp2_with fail
    go_quiet (fail)
    go_wp2_with fail
    refine bodyPost_ret (v := .tuple #[.agg #[.slice none 0 0, .int .u64 0, .bool false, .slice none 0 0], .bool false]) (by simp [results, Try.results10, go_sem, hcX]) rfl ⟨?_, ?_⟩
    · exact below_drewN ((((hbw.setCell (by simp) _).setCell (by simp) _).setCell (by simp) _).setCell (by simp) _) _
    · rw [HG.out]; rfl
  · have hm : p < ms.length := by omega
    have hg := HG.out
    rw [List.getElem?_eq_getElem hm] at hg
    clear HG
    have hd1 : ((p : Int) == (ms.length : Int)) = false := by simp; omega
    obtain ⟨g, c', hl1, hl2, -⟩ := hR1.slice (by omega)
    cases hl1
    obtain ⟨k0, k1, k2, k3, -⟩ := hR1.at_ rfl hm
    have hE := hR1.each _ (List.getElem_mem hm)
    have hkm := (hE.1).reads
    have hvm := (hE.2.1).reads
    obtain ⟨A1, c1, hA1⟩ := hE.1.slice
    obtain ⟨A2, c2, hA2⟩ := hE.2.1.slice
    rw [hA1] at k0 hkm
    rw [hA2] at k3 hvm
    have q1 := fun q => run_bytesEq 29 9 5 (P := Try.prog) Try.underlying29 Try.underlying5 Try.underlying9 (hkm.drewN q)
    have q2 := fun q => run_bytesEq 29 9 5 (P := Try.prog) Try.underlying29 Try.underlying5 Try.underlying9 ((HK.out.lift hB hbw).drewN q)
    have i0 : (0 : Int) ≤ (p : Int) := by omega
    have i1 : (p : Int) < (ms.length : Int) := by omega
    have HE := Lib.hid hE
    have hgl : g < w1.heap.size := World.block_lt_of_cell? w1 _ k0
    clear hE hA1 hA2
    by_cases hkk : ms[p].e.key = k
    · have hkb : (ms[p].e.key == k) = true := by simp [hkk]
      simp only [hkk, if_true, Option.bind_some] at hg
      have HG := Lib.hid hg
      have HKK := Lib.hid hkk
      clear hg hkk
      go_wp2_with fail
      go_quiet (fail)
      go_wp2_with fail
      have hb1 : ∀ q, Below w.heap.size w (w1.drewN q) := fun q => below_drewN hbw q
      refine (ref_Copy (hkm.drewN _) (hvm.drewN _) (by simp) (by have := HE.out.2.2.key; unfold Big; omega) (by have := HE.out.2.2.val; unfold Big; omega)).mono ?_
      rintro e w2 ⟨kc, vc, rfl, hkc, hvc, hb2⟩
      have hbw2 := (hb1 _).trans (hb2.mono (by simp; omega))
      have hs2 : w1.heap.size ≤ w2.heap.size := hb2.size
      have bX2 := (bX.drewN _).old hb2
      have hcX2 := bX2.cells
      have hfX2 := bX2.free
      obtain ⟨Ak, cck, hAk⟩ := hkc.slice
      obtain ⟨Av, ccv, hAv⟩ := hvc.slice
      subst hAk hAv
      have hfin : ∀ W, Chg (fun b => b = w.heap.size) w2 W → Below w.heap.size w W ∧ GetPost w.heap.size W (.returned (.tuple #[.agg #[.slice Ak ms[p].e.key.length cck, .int .u64 ms[p].e.seq, .bool ms[p].e.del, .slice Av ms[p].e.val.length ccv], .bool true])) (getE (ms.map MEnt.e) k s) := fun W h => by
        refine ⟨hbw2.trans (h.below (by omega) (by intro b hb; omega)), ?_⟩
        rw [HG.out]
        exact ⟨_, _, rfl, (hkc.chg h (by simp; omega)).mono (by simp; omega), (hvc.chg h (by simp; omega)).mono (by simp; omega), HE.out.2.2⟩
      have HF := Lib.hid hfin
      clear hfin hkc hvc hb2 hb1 q1 q2 hcX hfX k0 k1 k2 k3 hkm hvm hcT
      go_wp2_with fail
      refine bodyPost_ret (v := .tuple #[.agg #[.slice Ak ms[p].e.key.length cck, .int .u64 ms[p].e.seq, .bool ms[p].e.del, .slice Av ms[p].e.val.length ccv], .bool true]) (by simp [results, Try.results10, go_sem, hcX2]) rfl ?_
      refine HF.out _ ?_
      repeat (first | (with_reducible exact Chg.refl _ _) | (with_reducible refine Chg.setCell ?_ (by simp) _))
    · have hkb : (ms[p].e.key == k) = false := by simp [hkk]
      simp only [hkk, if_false, Option.bind_some] at hg
      have HG := Lib.hid hg
      clear hg hkk
      go_wp2_with fail
      go_quiet (fail)
      go_wp2_with fail
      refine bodyPost_ret (v := .tuple #[.agg #[.slice none 0 0, .int .u64 0, .bool false, .slice none 0 0], .bool false]) (by simp [results, Try.results10, go_sem, hcX]) rfl ⟨?_, ?_⟩
      · exact below_drewN ((((hbw.setCell (by simp) _).setCell (by simp) _).setCell (by simp) _).setCell (by simp) _) _
      · rw [HG.out]; rfl
end Go.Proofs.Ytpohhlddbdepcaa
