/-
  The walk of the reference's Steps.
-/
import Derived.Test.YtpohhlddbdepcaaV
import Derived.Test.YtpohhlddbdepcaaQ
namespace Go.Proofs.Ytpohhlddbdepcaa
open Go.RowKit

set_option maxHeartbeats 2000000 in
theorem ref_Steps {lo B : Nat} {w : World} {t : Nat} {hs : List Int} {hv lv : Value} {ms : List MEnt} (hR : RefAt lo w t hs hv lv ms) (hn : ms.length ≤ 100000) {ku : Value} {k : List UInt8} {s : Int} (hk : BAt B w ku k) (hB : B ≤ w.heap.size) (hkl : Big k) :
    Calls Try.prog 19 #[.pointer (some ⟨t, 0, none⟩), ku, .int .u64 s] w fun e w' => e = .returned (.int .i64 (stepsOf (ms.map MEnt.h) (posOf MEnt.key MEnt.seq ms k s) 12 0 : Nat)) ∧ Below w.heap.size w w' := by
  obtain ⟨al, cl, hll⟩ := slice_of_row hR.lrow
  have hcl : ms.length ≤ cl := by
    rcases hR.lrow.2 with ⟨_, h0⟩ | ⟨g, cap, cur, hlv, hlo, hg, hc, rest⟩
    · omega
    · rw [hll] at hlv; cases hlv; exact hc
  subst hll
  have HK := Lib.hid hk
  obtain ⟨ak, ck, hku⟩ := hk.slice
  subst hku
  have HR := Lib.hid hR
  have hlen : (ms.map MEnt.h).length = ms.length := List.length_map _
  have hge : ∀ j (h : j < ms.length) (h2 : j < (ms.map MEnt.h).length), (ms.map MEnt.h)[j] = ms[j].h := fun j h h2 => List.getElem_map _
  have HLEN := Lib.hid hlen
  have HGE := Lib.hid hge
  clear hlen hge hR hk
  go_enter Try.func19, Try.ntmps19
  go_wp2_with fail
  refine (ref_place HR.out hn HK.out hB hkl _ _ _).mono ?_
  rintro e w1 ⟨rfl, hb⟩
  generalize isAt ms k s = b0
  generalize hpp : posOf MEnt.key MEnt.seq ms k s = p at *
  have HPP := Lib.hid hpp
  clear hpp
  have hR1 := HR.out.old hb
  have hcT := hR1.tbl.cells
  have HR1 := Lib.hid hR1
  clear hR1
  have hto := stepsOf_le (hts := ms.map MEnt.h) (e := p) 12 0
  rw [HLEN.out] at hto
  generalize htot : stepsOf (ms.map MEnt.h) p 12 0 = tot at *
  have HT := Lib.hid htot
  clear htot
  go_wp2_with fail
  go_loop [9, 10, 11, 12] (fun n a i _ => ∃ (x q j : Nat), n = .int .i64 x ∧ a = .int .i64 ((q : Int) - 1) ∧ i = .int .i64 ((j : Int) - 1) ∧ j ≤ 12 ∧ q ≤ ms.length ∧ Hid (x + stepsOf (ms.map MEnt.h) p j q = tot)) (fun _ _ i _ => (intOf i + 1).toNat)
  case atStart => exact ⟨0, 0, 12, rfl, rfl, rfl, by omega, by omega, Lib.hid (by rw [HT.out]; omega)⟩
  case round =>
    obtain ⟨x, q, j, rfl, rfl, rfl, hj, hq, HI⟩ := hrel
    have hx : x ≤ tot := by have := HI.out; omega
    by_cases hj0 : j = 0
    · subst hj0
      have hx2 := HI.out
      simp only [stepsOf, Nat.add_zero] at hx2
      have HX2 := Lib.hid hx2
      clear hx2
      go_wp2_with fail
      go_ret
      exact ⟨ret_int (by rw [HX2.out, HPP.out, HT.out]), hb⟩
    · obtain ⟨i, rfl⟩ : ∃ i, j = i + 1 := ⟨j - 1, by omega⟩
      have e1 : ((i + 1 : Nat) : Int) - 1 = (i : Int) := by omega
      rw [e1]
      clear e1 hj0
      go_wp2_with fail
      go_loop [9, 10, 12] (fun n a c => ∃ (x' q' k' : Nat), n = .int .i64 x' ∧ a = .int .i64 ((q' : Int) - 1) ∧ c = .int .i64 (k' : Int) ∧ q' ≤ ms.length ∧ k' ≤ ms.length ∧
          Hid (x' + (lvl i p ((ms.map MEnt.h).drop k') k' q').1 + stepsOf (ms.map MEnt.h) p i (lvl i p ((ms.map MEnt.h).drop k') k' q').2 = tot)) (fun _ _ c => ms.length - (intOf c).toNat)
      case atStart => exact ⟨x, q, q, rfl, rfl, rfl, hq, hq, Lib.hid (by have := HI.out; rw [stepsOf] at this; omega)⟩
      case round =>
        obtain ⟨x', q', k', rfl, rfl, rfl, hq', hk', HI'⟩ := hrel
        have hx' : x' ≤ tot := by have := HI'.out; omega
        by_cases hlt : k' < ms.length
        · obtain ⟨g, c', hl1, hl2, -⟩ := HR1.out.slice (by omega)
          cases hl1
          obtain ⟨-, -, -, -, k4⟩ := HR1.out.at_ rfl hlt
          have i1 : (0 : Int) ≤ (k' : Int) := by omega
          have i2 : (k' : Int) < (ms.length : Int) := by omega
          have hlt' : k' < (ms.map MEnt.h).length := by rw [HLEN.out]; exact hlt
          have hgg := HGE.out k' hlt hlt'
          have HGG := Lib.hid hgg
          clear hgg
          generalize ms[k'].h = h at *
          by_cases hh : h ≤ i
          · have e0 := HI'.out
            rw [lvl_skip hlt' (by rw [HGG.out]; exact hh)] at e0
            have E0 := Lib.hid e0
            clear e0 HI' HI HGG hlt'
            go_wp2_with fail
            go_round
            case rel => exact ⟨x', q', k' + 1, rfl, rfl, by go_num, hq', by omega, E0⟩
            case measure => simp [intOf]; omega
          · by_cases he : p ≤ k'
            · have e0 := HI'.out
              rw [lvl_stop hlt' (by rw [HGG.out]; exact hh) he] at e0
              have E0 := Lib.hid e0
              clear e0 HI' HI HGG hlt'
              go_wp2_with fail
              go_round
              case rel => exact ⟨x' + 1, q', i, by go_num, rfl, rfl, by omega, hq', E0⟩
              case measure => simp [intOf]
            · have e0 := HI'.out
              rw [lvl_move hlt' (by rw [HGG.out]; exact hh) he] at e0
              dsimp only at e0
              have E0 : Hid (x' + 1 + (lvl i p ((ms.map MEnt.h).drop (k' + 1)) (k' + 1) (k' + 1)).1 + stepsOf (ms.map MEnt.h) p i (lvl i p ((ms.map MEnt.h).drop (k' + 1)) (k' + 1) (k' + 1)).2 = tot) := Lib.hid (by omega)
              clear e0 HI' HI HGG hlt'
              go_wp2_with fail
              go_round
              case rel => exact ⟨x' + 1, k' + 1, k' + 1, by go_num, by go_num, by go_num, by omega, by omega, E0⟩
              case measure => simp [intOf]; omega
        · have e0 := HI'.out
          rw [lvl_end (by rw [HLEN.out]; omega)] at e0
          have E0 : Hid (x' + stepsOf (ms.map MEnt.h) p i q' = tot) := Lib.hid (by simpa using e0)
          clear e0 HI' HI
          go_wp2_with fail
          go_round
          case rel => exact ⟨x', q', i, rfl, rfl, rfl, by omega, hq', E0⟩
          case measure => simp [intOf]
end Go.Proofs.Ytpohhlddbdepcaa
