/-
  The walk of MemtablePlays.
-/
import Derived.Test.YtpohhlddbdepcaaDee
import Derived.Deep.CutBlock
namespace Go.Proofs.Ytpohhlddbdepcaa
open Go.RowKit

theorem take_min {α : Type} (l : List α) (k : Nat) : l.take (min l.length k) = l.take k := by
  rcases Nat.le_total l.length k with h | h
  · rw [Nat.min_eq_left h, List.take_of_length_le (Nat.le_refl _), List.take_of_length_le h]
  · rw [Nat.min_eq_right h]
theorem row_cap {w : World} {base : Nat} {e : TypeId} {size n c : Nat} {A : Option Addr} {xs : List Value} (h : w.ownsRow base e size (.slice A n c) n xs) : n ≤ c := by
  rcases h.2 with ⟨h, h'⟩ | ⟨g, cap, cur, hv, _, _, hc, _⟩
  · omega
  · cases hv; exact hc

set_option maxRecDepth 100000 in
set_option maxHeartbeats 20000000 in
theorem law_plays {w : World} {hv v : Value} {hs : List Int} {ds : List MDeed} (hH : IAt w.heap.size w hv hs) (hD : DeedsAt w v ds) (hl : hs.length * 8 ≤ 140737488355328) (hmax : ds.length ≤ 9223372036854775807) :
    Calls Try.prog 3 #[hv, v] w fun e w' => e = .returned (.bool true) ∧ Below w.heap.size w w' := by
  obtain ⟨i0, hi0, hz0, hz1, hz2⟩ := info_parts Try_infoInt
  obtain ⟨iE, hiE, hzE0, hzE1, -⟩ := info_parts Try_infoEn
  obtain ⟨A, c, hvv, hc, -⟩ := id hD
  subst hvv
  have HD := Lib.hid hD
  have HH := Lib.hid hH
  obtain ⟨a, ch, rfl, hch, hra⟩ := hH
  clear hD
  go_enter Try.func3, Try.ntmps3
  go_wp2_with fail
  refine (law_shown w).mono ?_
  rintro e w1 ⟨rfl, hb1⟩
  have hs1 := hb1.size
  have HB1 := Lib.hid hb1
  clear hb1
  go_wp2_with (at_builtin; refine Stop.of ?_)
  refine Stop.mk ?_
  have hown0 : (w1.alloc (.cells #[] 3)).ownsRow w.heap.size 3 1 (.slice (some ⟨w1.heap.size, 0, none⟩) 0 0) 0 [] := World.ownsRow_made w1 #[] 0 hs1 (by unfold maxLen; omega) rfl
  refine wpList_append_src _ rfl (.tmp 31) (.tmp 32) 22 rfl w.heap.size 3 i0 _ 1 8 Try.underlying22 hi0 hz0 hz1 hz2 rfl (by decide) _ 0 _ rfl hown0 w.heap.size a hs.length ch (hs.map (.int .i64)) rfl (by simp)
    (hra.lift (Nat.le_refl _) (HB1.out.alloc hs1 _)) (by simp [Value.oneCell']) (by unfold maxLen; omega) (by omega) (by simp; omega) ?_
  intro v2 w2 hown2 hg2 _
  simp only [Nat.zero_add, List.nil_append] at hown2
  have hbw2 : Below w.heap.size w w2 := ((HB1.out.alloc hs1 _)).grown hg2 (by simp; omega) (fun j hj => (hown0.lt j hj).1)
  have hs2 := hbw2.size
  obtain ⟨a2, c2, rfl⟩ := slice_of_row hown2
  have HB2 := Lib.hid hbw2
  have HO2 := Lib.hid hown2
  have hI2 : IAt w2.heap.size w2 (.slice a2 hs.length c2) hs := ⟨a2, c2, rfl, row_cap hown2, RAt.of_row hown2⟩
  have HI2 := Lib.hid hI2
  clear hown0 hown2 hbw2 hg2 hI2 hra hch
  go_wp2_with fail
  refine (skipL_New (Z := fun _ => False) HI2.out (Nat.le_refl _) hl).mono ?_
  rintro e w3 ⟨t, rfl, hT, hb3⟩
  have HT := Lib.hid hT
  have HB3 := Lib.hid hb3
  have hs3 := hb3.size
  clear hT hb3
  go_wp2_with fail
  refine (refL_New (Z := fun _ => False) (HH.out.lift (Nat.le_refl _) (HB2.out.trans (HB3.out.mono hs2))) (by omega) hl).mono ?_
  rintro e w4 ⟨r, rfl, hR, hb4⟩
  have hT4 := HT.out.old hb4
  have hO4 := own_below (own_below HO2.out HB3.out) hb4
  have hB4 := (HB2.out.trans (HB3.out.mono hs2)).trans (hb4.mono (by omega))
  have hs4 := hb4.size
  have hg2 : ∀ b, (Value.slice a2 hs.length c2).ownBlock = some b → b < w2.heap.size := fun b hb => (HO2.out.lt b hb).2
  have hg1 : ∀ b, (Value.slice a2 hs.length c2).ownBlock = some b → w.heap.size ≤ b := fun b hb => (HO2.out.lt b hb).1
  clear HT HB2 HB3 HO2 HI2
  have HT := Lib.hid hT4
  have HR := Lib.hid hR
  have HO := Lib.hid hO4
  have HB4 := Lib.hid hB4
  have HG := Lib.hid (And.intro hg1 hg2)
  clear hT4 hR hO4 hB4 hb4 hg1 hg2
  go_wp2_with fail
  have hhl : hs.length ≤ 9223372036854775807 := by omega
  go_loopw [9] (fun i wr => ∃ j : Nat, i = .int .i64 j ∧ j ≤ hs.length ∧ Chg (fun b => (Value.slice a2 hs.length c2).ownBlock = some b) w4 wr) (fun i _ => hs.length - (intOf i).toNat)
  case atStart => exact ⟨0, rfl, by omega, Chg.refl _ _⟩
  case round =>
    obtain ⟨j, rfl, hj, hch⟩ := hrel
    by_cases hlt : j < hs.length
    · obtain ⟨g, c3, u, e1, e2, e3, e4, hcell, hfree⟩ := row_cell HO.out hch hlt
      cases e1
      have i1 : (0 : Int) ≤ (j : Int) := by omega
      have i2 : (j : Int) < (hs.length : Int) := by omega
      have HCH := Lib.hid (hch.setCell (p := ⟨g, j, none⟩) (.inl e2) (.int .i64 9))
      clear hch e2
      go_wp2_with fail
      go_roundw
      case rel => exact ⟨j + 1, by go_num, by omega, HCH.out⟩
      case measure => simp [intOf]; omega
    · obtain rfl : j = hs.length := by omega
      have hP : PlI (fun _ => False) w wr t r hs [] [] := ⟨_, _, hs2, (by omega : w.heap.size ≤ w3.heap.size), HT.out.far hch (fun b hb he => by have := HG.out.2 b he; omega), HR.out.far hch (fun b hb he => by have := HG.out.2 b he; omega), HB4.out.trans (hch.below HB4.out.size fun b hb he => by have := HG.out.1 b he; omega)⟩
      have HP := Lib.hid hP
      clear hP hch HT HR HO HB4 HG HB1
      go_wp2_with fail
      go_loopw [10] (fun i wr => ∃ (j : Nat) (L : List EH), i = .int .i64 j ∧ j ≤ ds.length ∧ j ≤ 200 ∧ L.length ≤ j ∧ PlI (fun _ => False) w wr t r hs L L) (fun i _ => 200 - (intOf i).toNat)
      case atStart => exact ⟨0, [], rfl, by omega, by omega, by simp, HP.out⟩
      case round =>
        obtain ⟨j, L, rfl, hj, hj2, hL, hP⟩ := hrel
        clear HP
        have HP := Lib.hid hP
        have HBL := Lib.hid hP.bel
        have hsz := hP.bel.size
        clear hP
        by_cases hlt : j < ds.length ∧ j < 200
        · obtain ⟨h1, h2⟩ := hlt
          obtain ⟨g, o, c1, e1, e3, k0, k1, k2, k3, k4, k5⟩ := (HD.out).at_ h1
          cases e1
          have keep : ∀ (q : Nat) (u : Value), w.cell? ⟨g, q, none⟩ = some u → wr.cell? ⟨g, q, none⟩ = some u := fun q u h => (HBL.out.cell (p := ⟨g, q, none⟩) e3).trans h
          have k0 := keep _ _ k0
          have k1 := keep _ _ k1
          have k2 := keep _ _ k2
          have k3 := keep _ _ k3
          have k4 := keep _ _ k4
          have k5 := keep _ _ k5
          have hbb := HD.out
          obtain ⟨_, _, _, _, _, hbb⟩ := hbb
          have hbb := hbb _ (List.getElem_mem h1)
          generalize ds[j] = d at *
          obtain ⟨kd, ⟨x, hh, kv, vv⟩, n⟩ := d
          simp only at k0 k1 k2 k3 k4 k5 hbb
          obtain ⟨bk, bv, hbk, hbv⟩ := hbb
          obtain ⟨Ak, nk, hA1⟩ := bk.slice
          obtain ⟨Av, nv, hA2⟩ := bv.slice
          subst hA1 hA2
          have hgl : g < wr.heap.size := by omega
          have i1 : (0 : Int) ≤ (j : Int) := by omega
          have i2 : (j : Int) < (ds.length : Int) := by omega
          have hwal : Below wr.heap.size wr (wr.alloc (.cells #[.int .i64 kd, .slice Ak x.key.length nk, .int .u64 x.seq, .bool x.del, .slice Av x.val.length nv, .int .i64 n] 34)) := World.below_alloc (Nat.le_refl _) _
          have HK := Lib.hid (And.intro ((bk.lift (Nat.le_refl _) HBL.out).below (hwal.mono hsz)) ((bv.lift (Nat.le_refl _) HBL.out).below (hwal.mono hsz)))
          have HBK := Lib.hid (And.intro hbk hbv)
          have hPX := HP.out.old hwal
          have bX := Blk.new wr 34 #[.int .i64 kd, .slice Ak x.key.length nk, .int .u64 x.seq, .bool x.del, .slice Av x.val.length nv, .int .i64 n]
          clear keep hbk hbv HP HBL hwal
          have HP := Lib.hid hPX
          have HX := Lib.hid bX
          have hcX := bX.cells
          have hlX := bX.lt
          clear hPX bX
          have HK0 := Lib.hid (And.intro bk bv)
          clear bk bv
          go_upto_region 22 with fail
          by_cases t1 : kd = 1
          · subst t1
            have hP1 := HP.out.fresh (Z' := fun b => wr.heap.size + 1 ≤ b) (fun b hb => by simpa using hb)
            clear HP
            have HP := Lib.hid hP1
            clear hP1
            go_wp2_with fail
            refine (HP.out.getS (by omega) HK.out.1 (by simp; omega)).mono ?_
            rintro e w5 ⟨ka, va, rfl, hka, hva, hbka, hbva, hP5, hb5⟩
            have hBX := HX.out.old hb5
            have hsz5 := hb5.size
            simp only [World.size_alloc] at hsz5 hka hva
            obtain ⟨B1, n1, hB1⟩ := hka.slice
            obtain ⟨B2, n2, hB2⟩ := hva.slice
            subst hB1 hB2
            have HK5 := Lib.hid (And.intro ((HK.out.1.below (hb5.mono (by simp; omega)))) (HK.out.2.below (hb5.mono (by simp; omega))))
            clear HP HX HK hcX hlX
            have HP := Lib.hid hP5
            have HX := Lib.hid hBX
            have hcX := hBX.cells
            have hlX := hBX.lt
            have HA := Lib.hid (And.intro hka hva)
            have HBA := Lib.hid (And.intro hbka hbva)
            clear hP5 hBX hka hva hbka hbva hb5
            go_wp2_with fail
            have hbal : ∀ o, Below w5.heap.size w5 (w5.alloc o) := fun o => World.below_alloc (Nat.le_refl _) _
            refine ((HP.out.old (hbal _)).getR' (by omega) (HK5.out.1.below ((hbal _).mono (by omega))) (by simp; omega) HBK.out.1).mono ?_
            rintro e w6 ⟨kb, vb, rfl, hkb, hvb, hP6, hb6⟩
            have hb56 := (hbal (.cells #[.slice B1 (getR (getL L x.key x.seq)).1.key.length n1, .int .u64 (getR (getL L x.key x.seq)).1.seq, .bool (getR (getL L x.key x.seq)).1.del, .slice B2 (getR (getL L x.key x.seq)).1.val.length n2] 32)).trans (hb6.mono (by simp))
            have hbA := (Blk.new w5 32 #[.slice B1 (getR (getL L x.key x.seq)).1.key.length n1, .int .u64 (getR (getL L x.key x.seq)).1.seq, .bool (getR (getL L x.key x.seq)).1.del, .slice B2 (getR (getL L x.key x.seq)).1.val.length n2]).old hb6
            have hsz6 := hb56.size
            have hA6 := And.intro (HA.out.1.below hb56) (HA.out.2.below hb56)
            have hB6 := And.intro hkb hvb
            clear hkb hvb
            generalize hgr : getR (getL L x.key x.seq) = gr at *
            clear hgr
            obtain ⟨y, b⟩ := gr
            simp only at hbA hA6 hB6 HBA ⊢
            obtain ⟨B3, n3, hB3⟩ := hB6.1.slice
            obtain ⟨B4, n4, hB4⟩ := hB6.2.slice
            subst hB3 hB4
            clear HP HX HA HK5 hcX hlX
            have HP := Lib.hid hP6
            have HA := Lib.hid hA6
            have HB6 := Lib.hid hB6
            have HBX := Lib.hid hbA
            have hcA := hbA.cells
            have hlA := hbA.lt
            clear hP6 hA6 hB6 hbA hb6 hb56 hbal
            go_wp2_with fail
            have hbal : ∀ o, Below w6.heap.size w6 (w6.alloc o) := fun o => World.below_alloc (Nat.le_refl _) _
            refine (law_sameOne ((HA.out.1.below (hbal _)).reads) ((HB6.out.1.below (hbal _)).reads) ((HA.out.2.below (hbal _)).reads) ((HB6.out.2.below (hbal _)).reads) (Nat.le_refl _) (Nat.le_refl _)).mono ?_
            rintro e w7 ⟨rfl, hb7⟩
            have htr : (y.key == y.key && decide (y.seq = y.seq) && y.del == y.del && y.val == y.val) = true := by simp
            rw [htr]
            have hb67 := (hbal (.cells #[.slice B3 y.key.length n3, .int .u64 y.seq, .bool y.del, .slice B4 y.val.length n4] 32)).trans (hb7.mono (by simp))
            have hP7 := HP.out.old hb67
            have hA7 := And.intro (HA.out.1.below hb67) (HA.out.2.below hb67)
            have hbA := HBX.out.old hb67
            clear HP HA HB6 HBX hcA hlA htr
            have HP := Lib.hid hP7
            have HA := Lib.hid hA7
            have hcA := hbA.cells
            have hlA := hbA.lt
            clear hP7 hA7 hbA hb7 hb67 hbal
            go_wp2_with fail
            refine (law_mark HA.out.1 HA.out.2 HBA.out.1 HBA.out.2).mono ?_
            rintro e w8 ⟨rfl, hc8⟩
            have hP8 := (HP.out.turn hc8 (fun b hb => by
              rcases hb with hb | hb
              · obtain ⟨h1, h2⟩ := HA.out.1.block hb
                exact ⟨h1, by omega, h2⟩
              · obtain ⟨h1, h2⟩ := HA.out.2.block hb
                exact ⟨h1, by omega, h2⟩)).less
            clear HP HA hcA hlA hc8
            have HP := Lib.hid hP8
            clear hP8
            cases b
            all_goals
              go_wp2_with (first
                | (go_at_call 23; (with_reducible refine (PlI.lenS HP.out).mono ?_); rintro e w11 ⟨rfl, rfl⟩)
                | (go_at_call 24; (with_reducible refine (PlI.lenR HP.out).mono ?_); rintro e w11 ⟨rfl, rfl⟩)
                | (go_at_call 25; (with_reducible refine (PlI.bytesS HP.out).mono ?_); rintro e w11 ⟨rfl, rfl⟩)
                | (go_at_call 26; (with_reducible refine (PlI.bytesR HP.out (by omega)).mono ?_); rintro e w11 ⟨rfl, nd, rfl⟩))
              go_roundw
              case rel => exact ⟨j + 1, L, by go_num, by omega, by omega, by omega, HP.out.old (below_drewN (Below.refl _ _) _)⟩
              case measure => simp [intOf]; omega
          have d1 : (kd == 1) = false := beq_false_of_ne t1
          by_cases t2 : kd = 2
          · subst t2
            obtain ⟨most, hmost⟩ : ∃ m : Int, m = max 1 (min n 300) := ⟨_, rfl⟩
            have HMO := Lib.hid hmost
            have hmo1 : 1 ≤ most := by omega
            have hmo2 : most ≤ 300 := by omega
            clear hmost
            go_upto_region 30 with fail
            go_cut [17] (fun sm wd => sm = .int .i64 most ∧ wd = wr.alloc (.cells #[.int .i64 2, .slice Ak x.key.length nk, .int .u64 x.seq, .bool x.del, .slice Av x.val.length nv, .int .i64 n] 34))
            case first =>
              go_wp2_with fail
              all_goals
                go_meet
                case rel => exact ⟨val_int (by rw [HMO.out]; omega), rfl⟩
            case rest =>
              obtain ⟨rfl, rfl⟩ := hcut
              go_wp2_with fail
              refine (HP.out.scanS (by omega) HK.out.1 (by simp; omega) HBK.out.1 most (by omega)).mono ?_
              rintro e w5 ⟨va, rfl, hva, hP5, hb5⟩
              have hBX := HX.out.old hb5
              have hsz5 := hb5.size
              simp only [World.size_alloc] at hsz5
              have HK5 := Lib.hid (HK.out.1.below (hb5.mono (by simp; omega)))
              clear HP HX HK hcX hlX
              have HP := Lib.hid hP5
              have HVA := Lib.hid hva
              have hcX := hBX.cells
              have hlX := hBX.lt
              obtain ⟨B1, N1, n1, hB1⟩ : ∃ A N c, va = .slice A N c := by obtain ⟨A, c, h, _⟩ := hva.slice; exact ⟨_, _, _, h⟩
              subst hB1
              clear hP5 hBX hva hb5
              go_wp2_with fail
              refine (HP.out.scanR (by omega) HK5.out (by omega) HBK.out.1).mono ?_
              rintro e w6 ⟨vb, rfl, hvb, hP6, hb6⟩
              have hVA6 := HVA.out.old hb6
              obtain ⟨B2, n2, hB2, -⟩ := hvb.slice
              subst hB2
              have hsl := scanL_length L x.key
              obtain ⟨m, hm1, hm2, hm3⟩ : ∃ m : Nat, m ≤ (scanL L x.key).length ∧ (scanL L x.key).take m = (scanL L x.key).take (most : Int).toNat ∧ (m : Int) = min ((scanL L x.key).length : Int) most := by
                exact ⟨min (scanL L x.key).length (most : Int).toNat, Nat.min_le_left _ _, take_min _ _, by omega⟩
              obtain ⟨q1, q2, hpre⟩ := hvb.pre hm1
              rw [hm2] at hpre
              have hsli := run_prefix (P := Try.prog) 39 32 iE 4 Try.underlying39 hiE hzE1 B2 (scanL L x.key).length n2 m q1
              have HVA6 := Lib.hid hVA6
              have HPRE := Lib.hid hpre
              have HSL := Lib.hid hsl
              have htl : ((scanL L x.key).take (most : Int).toNat).length ≤ 100000 := by rw [List.length_take]; omega
              generalize ((scanL L x.key).take (most : Int).toNat) = es at *
              generalize (scanL L x.key).length = N at *
              clear HP HVA HK5 hcX hlX hm1 hm2 q1 q2 hpre hVA6 hvb hb6 hsl
              have HP := Lib.hid hP6
              clear hP6
              rcases (by omega : (N : Int) ≤ most ∨ most < (N : Int)) with hle | hle
              · have hmN : m = N := by omega
                subst hmN
                clear hm3
                go_wp2_with fail
                refine (law_same HVA6.out HPRE.out htl).mono ?_
                rintro e w7 ⟨rfl, hb7⟩
                have hP7 := HP.out.old hb7
                clear HP HVA6 HPRE hsli
                have HP := Lib.hid hP7
                clear hP7 hb7
                go_wp2_with (first
                  | (go_at_call 23; (with_reducible refine (PlI.lenS HP.out).mono ?_); rintro e w11 ⟨rfl, rfl⟩)
                  | (go_at_call 24; (with_reducible refine (PlI.lenR HP.out).mono ?_); rintro e w11 ⟨rfl, rfl⟩)
                  | (go_at_call 25; (with_reducible refine (PlI.bytesS HP.out).mono ?_); rintro e w11 ⟨rfl, rfl⟩)
                  | (go_at_call 26; (with_reducible refine (PlI.bytesR HP.out (by omega)).mono ?_); rintro e w11 ⟨rfl, nd, rfl⟩))
                go_roundw
                case rel => exact ⟨j + 1, L, by go_num, by omega, by omega, by omega, HP.out.old (below_drewN (Below.refl _ _) _)⟩
                case measure => simp [intOf]; omega
              · have hmN : (m : Int) = most := by omega
                clear hm3
                rw [hmN] at hsli
                go_wp2_with fail
                refine (law_same HVA6.out HPRE.out htl).mono ?_
                rintro e w7 ⟨rfl, hb7⟩
                have hP7 := HP.out.old hb7
                clear HP HVA6 HPRE hsli
                have HP := Lib.hid hP7
                clear hP7 hb7
                go_wp2_with (first
                  | (go_at_call 23; (with_reducible refine (PlI.lenS HP.out).mono ?_); rintro e w11 ⟨rfl, rfl⟩)
                  | (go_at_call 24; (with_reducible refine (PlI.lenR HP.out).mono ?_); rintro e w11 ⟨rfl, rfl⟩)
                  | (go_at_call 25; (with_reducible refine (PlI.bytesS HP.out).mono ?_); rintro e w11 ⟨rfl, rfl⟩)
                  | (go_at_call 26; (with_reducible refine (PlI.bytesR HP.out (by omega)).mono ?_); rintro e w11 ⟨rfl, nd, rfl⟩))
                go_roundw
                case rel => exact ⟨j + 1, L, by go_num, by omega, by omega, by omega, HP.out.old (below_drewN (Below.refl _ _) _)⟩
                case measure => simp [intOf]; omega
          have d2 : (kd == 2) = false := beq_false_of_ne t2
          by_cases t3 : kd = 3
          · subst t3
            have hP1 := HP.out.fresh (Z' := fun b => wr.heap.size + 1 ≤ b) (fun b hb => by simpa using hb)
            clear HP
            have HP := Lib.hid hP1
            clear hP1
            go_wp2_with fail
            refine (HP.out.levelS (by omega) n).mono ?_
            rintro e w5 ⟨va, cs, rfl, hva, hcs, hP5, hb5⟩
            have hBX := HX.out.old hb5
            have hsz5 := hb5.size
            simp only [World.size_alloc] at hsz5 hva
            clear HP HX HK hcX hlX
            have HP := Lib.hid hP5
            have HVA := Lib.hid hva
            have HCS := Lib.hid hcs
            have hcX := hBX.cells
            have hlX := hBX.lt
            obtain ⟨B1, n1, hB1⟩ := slice_of_row hva.row
            subst hB1
            clear hP5 hBX hva hb5 hcs
            go_wp2_with fail
            refine (HP.out.levelR (by omega) n).mono ?_
            rintro e w6 ⟨vb, rfl, hvb, hP6, hb6⟩
            have hVA6 := HVA.out.old hb6
            have hll := levelL_length L n
            rw [← HCS.out] at hvb hll
            obtain ⟨B2, n2, hB2, -⟩ := hvb.slice
            subst hB2
            have hcl : (cs.map MEnt.e).length = cs.length := by simp
            rw [hcl] at hll ⊢
            rw [hcl] at hvb
            have HVA6 := Lib.hid hVA6
            have HVB := Lib.hid hvb
            clear HP HVA hcX hlX hVA6 hvb hcl hb6
            have HP := Lib.hid hP6
            have hsz6 := hP6.bel.size
            clear hP6
            go_wp2_with fail
            refine (law_same HVA6.out.ents HVB.out (by simp; omega)).mono ?_
            rintro e w7 ⟨rfl, hb7⟩
            have hP7 := HP.out.old hb7
            have hVA7 := HVA6.out.old hb7
            clear HP HVA6 HVB HCS
            have HP := Lib.hid hP7
            have HVA := Lib.hid hVA7
            have hsz7 := hb7.size
            clear hP7 hb7 hVA7
            go_wp2_with fail
            go_loopw [24] (fun i wr2 => ∃ k : Nat, i = .int .i64 k ∧ k ≤ cs.length ∧ Chg (fun b => wr.heap.size + 1 ≤ b ∧ ∃ cs', Blk w7 b 5 cs') w7 wr2) (fun i _ => cs.length - (intOf i).toNat)
            case atStart => exact ⟨0, rfl, by omega, Chg.refl _ _⟩
            case round =>
              obtain ⟨k, rfl, hk, hch⟩ := hrel
              by_cases hkl : k < cs.length
              · obtain ⟨g2, o2, c4, B3, n3, B4, n4, e4, q0, q1, q2, q3, m1, m2, m3⟩ := HVA.out.mark_at hch (fun b hb cs2 he => by obtain ⟨_, cs', h⟩ := hb; exact Blk.ne_ h he (by decide) rfl) hkl
                cases e4
                have i7 : (0 : Int) ≤ (k : Int) := by omega
                have i8 : (k : Int) < (cs.length : Int) := by omega
                have HCH := Lib.hid hch
                have HM1 := Lib.hid m1
                have HM2 := Lib.hid m2
                have HM3 := Lib.hid m3
                clear hch m1 m2 m3
                go_wp2_with fail
                refine (law_mark2 HM1.out HM2.out HCH.out HM3.out.1 HM3.out.2).mono ?_
                rintro e w9 ⟨rfl, hc9⟩
                have hch9 := HCH.out.trans hc9 (fun b hb _ => by
                  rcases hb with hb | hb
                  · obtain ⟨h1, h2⟩ := HM1.out.block hb
                    exact ⟨h1, h2⟩
                  · obtain ⟨h1, h2⟩ := HM2.out.block hb
                    exact ⟨h1, h2⟩)
                have HCH9 := Lib.hid hch9
                clear hch9 hc9 HCH HM1 HM2 HM3 q0 q1 q2 q3
                go_wp2_with fail
                go_roundw
                case rel => exact ⟨k + 1, by go_num, by omega, HCH9.out⟩
                case measure => simp [intOf]; omega
              · have hP8 := (HP.out.turn hch (fun b hb => ⟨hb.1, by have := hb.1; omega, hb.2⟩)).less
                clear HP HVA hch
                have HP := Lib.hid hP8
                clear hP8
                go_wp2_with (first
                  | (go_at_call 23; (with_reducible refine (PlI.lenS HP.out).mono ?_); rintro e w11 ⟨rfl, rfl⟩)
                  | (go_at_call 24; (with_reducible refine (PlI.lenR HP.out).mono ?_); rintro e w11 ⟨rfl, rfl⟩)
                  | (go_at_call 25; (with_reducible refine (PlI.bytesS HP.out).mono ?_); rintro e w11 ⟨rfl, rfl⟩)
                  | (go_at_call 26; (with_reducible refine (PlI.bytesR HP.out (by omega)).mono ?_); rintro e w11 ⟨rfl, nd, rfl⟩))
                go_roundw
                case rel => exact ⟨j + 1, L, by go_num, by omega, by omega, by omega, HP.out.old (below_drewN (Below.refl _ _) _)⟩
                case measure => simp [intOf]; omega
          have d3 : (kd == 3) = false := beq_false_of_ne t3
          by_cases t4 : kd = 4
          · subst t4
            go_wp2_with fail
            refine (HP.out.stepsS (by omega) HK.out.1 (by simp; omega)).mono ?_
            rintro e w5 ⟨rfl, hP5, hb5⟩
            have hBX := HX.out.old hb5
            have hsz5 := hb5.size
            simp only [World.size_alloc] at hsz5
            have HK5 := Lib.hid (HK.out.1.below (hb5.mono (by simp; omega)))
            clear HP HX HK hcX hlX
            have HP := Lib.hid hP5
            have hcX := hBX.cells
            have hlX := hBX.lt
            clear hP5 hBX hb5
            go_wp2_with fail
            refine (HP.out.stepsR (by omega) HK5.out (by omega) HBK.out.1).mono ?_
            rintro e w6 ⟨rfl, hP6, hb6⟩
            clear HP HK5 hcX hlX hb6
            have HP := Lib.hid hP6
            clear hP6
            generalize stepsL L x.key x.seq = st
            go_wp2_with (first
              | (go_at_call 23; (with_reducible refine (PlI.lenS HP.out).mono ?_); rintro e w11 ⟨rfl, rfl⟩)
              | (go_at_call 24; (with_reducible refine (PlI.lenR HP.out).mono ?_); rintro e w11 ⟨rfl, rfl⟩)
              | (go_at_call 25; (with_reducible refine (PlI.bytesS HP.out).mono ?_); rintro e w11 ⟨rfl, rfl⟩)
              | (go_at_call 26; (with_reducible refine (PlI.bytesR HP.out (by omega)).mono ?_); rintro e w11 ⟨rfl, nd, rfl⟩))
            go_roundw
            case rel => exact ⟨j + 1, L, by go_num, by omega, by omega, by omega, HP.out.old (below_drewN (Below.refl _ _) _)⟩
            case measure => simp [intOf]; omega
          have d4 : (kd == 4) = false := beq_false_of_ne t4
          clear t1 t2 t3 t4
          go_wp2_with fail
          refine (ref_Copy HK.out.1 HK.out.2 (by simp; omega) HBK.out.1 HBK.out.2).mono ?_
          rintro e w5 ⟨ka, va, rfl, hka, hva, hb5⟩
          have hsz5 := hb5.size
          simp only [World.size_alloc] at hsz5 hka hva
          have hP5 := (HP.out.fresh (Z' := fun b => wr.heap.size + 1 ≤ b ∧ b < w5.heap.size) (fun b hb => by simpa using hb.1)).old hb5
          have hBX := HX.out.old hb5
          have HK5 := Lib.hid (And.intro (HK.out.1.below (hb5.mono (by simp; omega))) (HK.out.2.below (hb5.mono (by simp; omega))))
          obtain ⟨B1, n1, hB1⟩ := hka.slice
          obtain ⟨B2, n2, hB2⟩ := hva.slice
          subst hB1 hB2
          clear HP HX HK hcX hlX
          have HP := Lib.hid hP5
          have HX := Lib.hid hBX
          have hcX := hBX.cells
          have hlX := hBX.lt
          have HA := Lib.hid (And.intro hka hva)
          have hal1 : ∀ b, (Value.slice B1 x.key.length n1).ownBlock = some b → b < w5.heap.size := fun b hb => by obtain ⟨_, _, h⟩ := hka.block hb; exact h.lt
          have hal2 : ∀ b, (Value.slice B2 x.val.length n2).ownBlock = some b → b < w5.heap.size := fun b hb => by obtain ⟨_, _, h⟩ := hva.block hb; exact h.lt
          have HAL := Lib.hid (And.intro hal1 hal2)
          clear hP5 hBX hka hva hb5 hal1 hal2
          have hbal : Below w5.heap.size w5 (w5.alloc (.cells #[.slice B1 x.key.length n1, .int .u64 x.seq, .bool x.del, .slice B2 x.val.length n2] 32)) := World.below_alloc (Nat.le_refl _) _
          have hbE := Blk.new w5 32 #[.slice B1 x.key.length n1, .int .u64 x.seq, .bool x.del, .slice B2 x.val.length n2]
          have hPb := HP.out.old hbal
          have hXb := HX.out.old hbal
          have hKb := And.intro (HK5.out.1.below (hbal.mono (by omega))) (HK5.out.2.below (hbal.mono (by omega)))
          have hAb := And.intro (HA.out.1.below hbal) (HA.out.2.below hbal)
          have hszb := hbal.size
          have HZ := Lib.hid hbal
          go_upto_region 17 with fail
          clear HP HX HK5 HA hcX hlX hbal HZ
          generalize w5.alloc (.cells #[.slice B1 x.key.length n1, .int .u64 x.seq, .bool x.del, .slice B2 x.val.length n2] 32) = w6 at *
          have HP := Lib.hid hPb
          have HX := Lib.hid hXb
          have HK5 := Lib.hid hKb
          have HA := Lib.hid hAb
          have HE := Lib.hid hbE
          have hcE := hbE.cells
          have hlE := hbE.lt
          clear hPb hXb hKb hAb hbE
          go_wp2_with fail
          refine (HP.out.putS (e := x) (fun b hb => by have := hb.2; omega) (by omega) HA.out.1.reads HA.out.2.reads (Nat.le_refl _) HBK.out.1 HBK.out.2).mono ?_
          rintro e w7 ⟨rfl, hP7, hst7⟩
          have hX7 := hst7.2 _ _ _ HX.out (by decide) (by decide) (by decide)
          have hE7 := hst7.2 _ _ _ HE.out (by decide) (by decide) (by decide)
          have hA7 := And.intro (HA.out.1.typed2 fun b cs _ h => hst7.2 _ _ _ h (by decide) (by decide) (by decide)) (HA.out.2.typed2 fun b cs _ h => hst7.2 _ _ _ h (by decide) (by decide) (by decide))
          have hsz7 := hst7.1
          have hbw7 := hP7.bel
          have hkv7 := And.intro (HK0.out.1.lift (Nat.le_refl _) hbw7) (HK0.out.2.lift (Nat.le_refl _) hbw7)
          clear HP HX HE HA HK5 hcE hlE hst7
          have HP := Lib.hid hP7
          have HE := Lib.hid hE7
          have HA := Lib.hid hA7
          have HK7 := Lib.hid hkv7
          have hcX := hX7.cells
          have hlX := hX7.lt
          have hbs7 := hbw7.size
          clear hP7 hX7 hE7 hA7 hkv7 hbw7
          generalize hpl : putL hs L x = pl at *
          obtain ⟨pa, L'⟩ := pl
          simp only at HP ⊢
          go_wp2_with fail
          refine (HP.out.putR (e := x) (fun b hb => by have := hb.2; omega) (by omega) HK7.out.1 HK7.out.2 hbs7 HBK.out.1 HBK.out.2).mono ?_
          rw [hpl]
          rintro e w8 ⟨rfl, hP8, hst8⟩
          have hE8 := hst8.2 _ _ _ HE.out (by decide) (by decide) (by decide)
          have hA8 := And.intro (HA.out.1.typed2 fun b cs _ h => hst8.2 _ _ _ h (by decide) (by decide) (by decide)) (HA.out.2.typed2 fun b cs _ h => hst8.2 _ _ _ h (by decide) (by decide) (by decide))
          have hL8 : L'.length ≤ j + 1 := by
            have := putL_len hs L x
            rw [hpl] at this
            simp only at this
            omega
          simp only at hP8 ⊢
          clear HP HE HA HK7 hcX hlX hst8 hpl
          have HP := Lib.hid hP8
          have HA := Lib.hid hA8
          have hcE := hE8.cells
          have hlE := hE8.lt
          clear hP8 hA8 hE8
          go_wp2_with fail
          refine (law_mark HA.out.1 HA.out.2 HBK.out.1 HBK.out.2).mono ?_
          rintro e w9 ⟨rfl, hc9⟩
          have hP9 := (HP.out.turn hc9 (fun b hb => by
            rcases hb with hb | hb
            · obtain ⟨h1, h2⟩ := HA.out.1.block hb
              exact ⟨⟨h1, HAL.out.1 b hb⟩, by omega, h2⟩
            · obtain ⟨h1, h2⟩ := HA.out.2.block hb
              exact ⟨⟨h1, HAL.out.2 b hb⟩, by omega, h2⟩)).less
          clear HP HA hcE hlE hc9
          have HP := Lib.hid hP9
          clear hP9
          go_wp2_with (first
            | (go_at_call 23; (with_reducible refine (PlI.lenS HP.out).mono ?_); rintro e w11 ⟨rfl, rfl⟩)
            | (go_at_call 24; (with_reducible refine (PlI.lenR HP.out).mono ?_); rintro e w11 ⟨rfl, rfl⟩)
            | (go_at_call 25; (with_reducible refine (PlI.bytesS HP.out).mono ?_); rintro e w11 ⟨rfl, rfl⟩)
            | (go_at_call 26; (with_reducible refine (PlI.bytesR HP.out (by omega)).mono ?_); rintro e w11 ⟨rfl, nd, rfl⟩))
          go_roundw
          case rel => exact ⟨j + 1, L', by go_num, by omega, by omega, hL8, HP.out.old (below_drewN (Below.refl _ _) _)⟩
          case measure => simp [intOf]; omega
        · have hstop : (j < ds.length ∧ 200 ≤ j) ∨ ds.length ≤ j := by omega
          clear hlt
          rcases hstop with ⟨h1, h2⟩ | h1
          all_goals
            go_wp2_with fail
            go_ret
            exact ⟨rfl, HBL.out⟩
end Go.Proofs.Ytpohhlddbdepcaa
