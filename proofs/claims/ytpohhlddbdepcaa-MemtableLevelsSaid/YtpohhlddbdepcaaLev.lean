/-
  The walk of MemtableLevels.
-/
import Derived.Test.YtpohhlddbdepcaaTab
import Derived.StillTailTactics
namespace Go.Proofs.Ytpohhlddbdepcaa
open Go.RowKit

section
variable {w W : World} {t : Nat} {hs : List Int} {L : List EH}
theorem TabI.scan (h : TabI w W t hs L) (hn : L.length ≤ 200) (most : Int) (hm : 200 ≤ most) :
    Calls Try.prog 13 #[.pointer (some ⟨t, 0, none⟩), .slice none 0 0, .int .i64 most] W fun e w' => ∃ v, e = .returned v ∧ EntsAt w' v (L.map Prod.fst) ∧ TabI w w' t hs L := by
  obtain ⟨lo, h1, h2, h3⟩ := id h
  refine (skipL_scan h2 (by omega) (BAt.nil W.heap.size W) (Nat.le_refl _) (by simp [Big]) most (by omega)).mono ?_
  rintro e w' ⟨v, cs, rfl, ho, hc, hb⟩
  refine ⟨v, rfl, ?_, h.old hb⟩
  have := ho.ents
  rw [hc, scanL_all, List.take_of_length_le (by simp; omega)] at this
  exact this
theorem TabI.len (h : TabI w W t hs L) :
    Calls Try.prog 23 #[.pointer (some ⟨t, 0, none⟩)] W fun e w' => e = .returned (.int .i64 (L.length : Nat)) ∧ W = w' := by
  obtain ⟨lo, h1, h2, h3⟩ := h
  exact (skipL_Len h2).mono fun e w' ⟨h, h'⟩ => ⟨h, h'.symm⟩
theorem TabI.bytes (h : TabI w W t hs L) :
    Calls Try.prog 25 #[.pointer (some ⟨t, 0, none⟩)] W fun e w' => e = .returned (.int .i64 (bytesL L : Nat)) ∧ W = w' := by
  obtain ⟨lo, h1, h2, h3⟩ := h
  exact (skipL_Bytes h2).mono fun e w' ⟨h, h'⟩ => ⟨h, h'.symm⟩
theorem TabI.level (h : TabI w W t hs L) (hn : L.length ≤ 100000) (i : Int) :
    Calls Try.prog 16 #[.pointer (some ⟨t, 0, none⟩), .int .i64 i] W fun e w' => ∃ v, e = .returned v ∧ EntsAt w' v (levelL L i) ∧ TabI w w' t hs L ∧ Below W.heap.size W w' := by
  obtain ⟨lo, h1, h2, h3⟩ := id h
  refine (skipL_Level h2 (by omega) i).mono ?_
  rintro e w' ⟨v, cs, rfl, ho, hc, hb⟩
  refine ⟨v, rfl, ?_, h.old hb, hb⟩
  have := ho.ents
  rw [hc] at this
  exact this
end

set_option maxRecDepth 100000 in
set_option maxHeartbeats 4000000 in
theorem law_levels {w : World} {hv v : Value} {hs : List Int} {es : List Ent} (hH : IAt w.heap.size w hv hs) (hE : EntsAt w v es) (hl : hs.length * 8 ≤ 140737488355328) (hbig : ∀ e ∈ es, Big e.key ∧ Big e.val) (hmax : es.length ≤ 9223372036854775807) :
    Calls Try.prog 5 #[hv, v] w fun e w' => e = .returned (.bool true) ∧ Below w.heap.size w w' := by
  obtain ⟨A, c, hvv, hc⟩ := hE.slice
  subst hvv
  have HE := Lib.hid hE
  have HH := Lib.hid hH
  have HB := Lib.hid hbig
  obtain ⟨a, ch, hhv, -⟩ := id hH
  subst hhv
  clear hE hH hbig
  go_enter Try.func5, Try.ntmps5
  go_wp2_with fail
  refine (law_shown w).mono ?_
  rintro e w1 ⟨rfl, hb1⟩
  have hs1 := hb1.size
  have HB1 := Lib.hid hb1
  clear hb1
  go_wp2_with fail
  refine (skipL_New (Z := fun _ => False) (HH.out.lift (Nat.le_refl _) HB1.out) hs1 hl).mono ?_
  rintro e w2 ⟨t, rfl, hS, hb2⟩
  have HT : Hid (TabI w w2 t hs []) := Lib.hid ⟨_, hs1, hS, HB1.out.trans (hb2.mono hs1)⟩
  clear hS hb2
  go_wp2_with fail
  clear hs1
  go_loopw [7] (fun i wr => ∃ (j : Nat) (L : List EH), i = .int .i64 j ∧ j ≤ es.length ∧ j ≤ 200 ∧ L.length ≤ j ∧ TabI w wr t hs L) (fun i _ => 200 - (intOf i).toNat)
  case atStart => exact ⟨0, [], rfl, by omega, by omega, by simp, HT.out⟩
  case round =>
    obtain ⟨j, L, rfl, hj, hj2, hL, hT⟩ := hrel
    clear HT
    have HT := Lib.hid hT
    have hsz := hT.bel.size
    have HBL := Lib.hid hT.bel
    clear hT
    by_cases hlt : j < es.length ∧ j < 200
    · obtain ⟨h1, h2⟩ := hlt
      obtain ⟨g, o, c1, kv, vv, e1, e2, e3, k0, k1, k2, k3, bk, bv⟩ := (HE.out).at_ h1
      cases e1
      obtain ⟨Ak, nk, hA1⟩ := bk.slice
      obtain ⟨Av, nv, hA2⟩ := bv.slice
      subst hA1 hA2
      have keep : ∀ (q : Nat) (u : Value), w.cell? ⟨g, q, none⟩ = some u → wr.cell? ⟨g, q, none⟩ = some u := fun q u h => (HBL.out.cell (p := ⟨g, q, none⟩) e3).trans h
      have k0 := keep _ _ k0
      have k1 := keep _ _ k1
      have k2 := keep _ _ k2
      have k3 := keep _ _ k3
      have HK := Lib.hid (And.intro (bk.lift (Nat.le_refl _) HBL.out) (bv.lift (Nat.le_refl _) HBL.out))
      have hbg := Lib.hid (HB.out _ (List.getElem_mem h1))
      have i1 : (0 : Int) ≤ (j : Int) := by omega
      have i2 : (j : Int) < (es.length : Int) := by omega
      clear keep bk bv
      go_wp2_with fail
      refine (HT.out.put (e := es[j]) (by omega) HK.out.1 HK.out.2 hsz hbg.out.1 hbg.out.2).mono ?_
      rintro e w3 ⟨rfl, hT3, hs3⟩
      have HT3 := Lib.hid hT3
      have hL3 : (putL hs L es[j]).2.length ≤ j + 1 := by have := putL_len hs L es[j]; omega
      clear hT3 k0 k1 k2 k3 HT
      go_wp2_with fail
      go_roundw
      case rel => exact ⟨j + 1, _, by go_num, by omega, by omega, hL3, HT3.out⟩
      case measure => simp [intOf]; omega
    · have hLl : L.length ≤ 200 := by omega
      have hstop : (j < es.length ∧ 200 ≤ j) ∨ es.length ≤ j := by omega
      clear hlt
      rcases hstop with ⟨h1, h2⟩ | h1
      all_goals
        go_wp2_with fail
        refine (TabI.scan HT.out (by omega) 300 (by omega)).mono ?_
        rintro e w3 ⟨v0, rfl, hv0, hT3⟩
        clear HT
        have HT := Lib.hid hT3
        obtain ⟨A0, c0, hv0', hc0⟩ := hv0.slice
        subst hv0'
        have HV := Lib.hid hv0
        clear hT3 hv0
        have hlen0 : (L.map Prod.fst).length = L.length := by simp
        rw [hlen0] at hc0 ⊢
        go_wp2_with (go_at_call 23; refine (TabI.len HT.out).mono ?_; rintro e w11 ⟨rfl, rfl⟩)
        have hts : ∀ p ∈ L, 1 ≤ p.2 ∧ p.2 ≤ 12 := HT.out.hts
        have HTS := Lib.hid hts
        have hLlen := hlen0
        clear hts hlen0
        go_loopw [8, 9] (fun b i wr => ∃ (k : Nat) (A1 : Option Addr) (c1 : Nat), i = .int .i64 k ∧ k ≤ 12 ∧ b = .slice A1 (belowL L k).length c1 ∧ EntsAt wr b (belowL L k) ∧ TabI w wr t hs L) (fun _ i _ => 12 - (intOf i).toNat)
        case atStart => exact ⟨0, A0, c0, rfl, by omega, by show _ = Value.slice A0 (L.map Prod.fst).length c0; rw [hLlen], by rw [← hLlen]; exact HV.out, HT.out⟩
        case round =>
          obtain ⟨i, A1, c1, rfl, hi, rfl, hvb, hT⟩ := hrel
          clear HT HV
          have HT := Lib.hid hT
          have HV := Lib.hid hvb
          clear hvb hT h1 hLlen
          by_cases hi12 : i < 12
          · go_wp2_with fail
            refine (TabI.level HT.out (by omega) (i : Int)).mono ?_
            rintro e w4 ⟨v1, rfl, hv1, hT4, hb4⟩
            have hV4 := HV.out.old hb4
            clear HT HV
            have HT := Lib.hid hT4
            have HV := Lib.hid hV4
            have HV1 := Lib.hid hv1
            obtain ⟨A2, c2, hv1', hc2⟩ := hv1.slice
            subst hv1'
            have hsub := level_below L i
            have HS := Lib.hid hsub
            have hll := levelL_length L i
            have hbl := belowL_length L i
            clear hT4 hV4 hv1 hb4 hsub
            by_cases hi0 : i = 0
            · have e0 : levelL L (i : Int) = belowL L i := by
                subst hi0
                exact level_zero HTS.out
              have hE0 : EntsAt w4 (.slice A2 (levelL L (i : Int)).length c2) (belowL L i) := by rw [← e0]; exact HV1.out
              have HE0 := Lib.hid hE0
              have hi0' : ((i : Int) == 0) = true := by simp [hi0]
              clear e0 hE0 hi0
              go_wp2_with fail
              refine (law_same HE0.out HV.out (by omega)).mono ?_
              rintro e w5 ⟨rfl, hb5⟩
              have hT5 := HT.out.old hb5
              have hV5 := HV.out.old hb5
              have hV15 := HV1.out.old hb5
              clear HT HV HV1 HE0
              have HT := Lib.hid hT5
              have HV := Lib.hid hV5
              have HV1 := Lib.hid hV15
              clear hT5 hV5 hV15 hb5
              go_wp2_with fail
              clear hi0'
              have hl1 : (levelL L (i : Int)).length ≤ 200 := by omega
              have hl2 : (belowL L i).length ≤ 200 := by omega
              have hc1 : (belowL L i).length ≤ c1 := by obtain ⟨_, _, h, h'⟩ := HV.out.slice; cases h; exact h'
              generalize hls : levelL L (i : Int) = ls at *
              have HLS := Lib.hid hls
              clear hls
              generalize belowL L i = bs at *
              clear hll hbl
              go_loopw [12, 13] (fun kv jv wr => ∃ (j k : Nat), jv = .int .i64 j ∧ kv = .int .i64 k ∧ j ≤ ls.length ∧ k ≤ bs.length ∧ (ls.drop j).Sublist (bs.drop k) ∧ Below w5.heap.size w5 wr) (fun _ jv _ => ls.length - (intOf jv).toNat)
              case atStart => exact ⟨0, 0, rfl, rfl, by omega, by omega, by simpa using HS.out, Below.refl _ _⟩
              case round =>
                obtain ⟨q, k, rfl, rfl, hq, hk, hsub, hb6⟩ := hrel
                have HB6 := Lib.hid hb6
                have HSB := Lib.hid hsub
                clear hb6 hsub
                by_cases hql : q < ls.length
                · obtain ⟨w6, rfl⟩ : ∃ w6 : World, w6 = wr := ⟨_, rfl⟩
                  go_wp2_with fail
                  go_loopw [12] (fun kv wr => ∃ (k : Nat), kv = .int .i64 k ∧ k ≤ bs.length ∧ (ls.drop q).Sublist (bs.drop k) ∧ Below w5.heap.size w5 wr) (fun kv _ => bs.length - (intOf kv).toNat)
                  case atStart => exact ⟨k, rfl, hk, HSB.out, HB6.out⟩
                  case round =>
                    obtain ⟨k2, rfl, hk2, hsub2, hb7⟩ := hrel
                    clear HB6 HSB
                    have HB7 := Lib.hid hb7
                    obtain ⟨hkl, hst⟩ := sub_step hsub2 hql
                    have HST := Lib.hid (hst hkl)
                    clear hb7 hsub2 hst
                    obtain ⟨g, o, c3, kv, vv, e1, e2, e3, k0, k1, k2', k3, bk, bv⟩ := (HV.out.old HB7.out).at_ hkl
                    obtain ⟨g', o', c3', kv', vv', e1', e2', e3', k0', k1', k2'', k3', bk', bv'⟩ := (HV1.out.old HB7.out).at_ hql
                    cases e1
                    cases e1'
                    obtain ⟨B1, n1, hB1⟩ := bk.slice
                    obtain ⟨B2, n2, hB2⟩ := bv.slice
                    obtain ⟨B3, n3, hB3⟩ := bk'.slice
                    obtain ⟨B4, n4, hB4⟩ := bv'.slice
                    subst hB1 hB2 hB3 hB4
                    have i1 : (0 : Int) ≤ (k2 : Int) := by omega
                    have i2 : (k2 : Int) < (bs.length : Int) := by omega
                    have i3 : (0 : Int) ≤ (q : Int) := by omega
                    have i4 : (q : Int) < (ls.length : Int) := by omega
                    have i5 : decide ((k2 : Int) < (bs.length : Int)) = true := by simp; omega
                    have HK := Lib.hid (And.intro bk bv)
                    have HK' := Lib.hid (And.intro bk' bv')
                    clear bk bv bk' bv'
                    go_wp2_with fail
                    go_still_tail 13, (by kernel_rfl)
                    change wpList _ _ _ _ _ wr.drew
                    go_wp2_with fail
                    refine (law_sameOne HK.out.1.drew HK'.out.1.drew HK.out.2.drew HK'.out.2.drew (Nat.le_refl _) (Nat.le_refl _)).mono ?_
                    rintro e w8 ⟨rfl, hb8⟩
                    have hb9 := HB7.out.drew.trans (hb8.mono HB7.out.size)
                    have HB9 := Lib.hid hb9
                    clear hb8 hb9 HB7 k0 k1 k2' k3 k0' k1' k2'' k3'
                    by_cases he : bs[k2] = ls[q]
                    · have htr : (bs[k2].key == ls[q].key && decide (bs[k2].seq = ls[q].seq) && bs[k2].del == ls[q].del && bs[k2].val == ls[q].val) = true := (sameE_iff _ _).2 he
                      rw [htr]
                      have hnext := HST.out.1 he
                      have HN := Lib.hid hnext
                      have hne : ((k2 : Int) == (bs.length : Int)) = false := by simp; omega
                      clear htr hnext HST he
                      go_wp2_with fail
                      go_roundw
                      case rel => exact ⟨q + 1, k2 + 1, by go_num, by go_num, by omega, by omega, HN.out, HB9.out⟩
                      case measure => simp [intOf]; omega
                    · have htr : (bs[k2].key == ls[q].key && decide (bs[k2].seq = ls[q].seq) && bs[k2].del == ls[q].del && bs[k2].val == ls[q].val) = false := by
                        rw [Bool.eq_false_iff]
                        exact fun h => he ((sameE_iff _ _).1 h)
                      rw [htr]
                      have hnext := HST.out.2 he
                      have HN := Lib.hid hnext
                      clear htr hnext HST he
                      go_wp2_with fail
                      go_roundw
                      case rel => exact ⟨k2 + 1, by go_num, by omega, HN.out, HB9.out⟩
                      case measure => simp [intOf]; omega
                · have hT6 := HT.out.old HB6.out
                  have hV6 := HV1.out.old HB6.out
                  have HT6 := Lib.hid hT6
                  have HV6 := Lib.hid hV6
                  clear hT6 hV6 HT HV HV1
                  go_wp2_with fail
                  go_roundw
                  case rel => exact ⟨i + 1, A2, c2, by go_num, by omega, by show _ = Value.slice A2 (levelL L (i : Int)).length c2; rw [HLS.out], by show EntsAt _ _ (levelL L (i : Int)); rw [HLS.out]; exact HV6.out, HT6.out⟩
                  case measure => simp [intOf]; omega
            · have hi0' : ((i : Int) == 0) = false := by simp; omega
              clear hi0
              obtain ⟨w5, rfl⟩ : ∃ w5 : World, w5 = w4 := ⟨_, rfl⟩
              go_wp2_with fail
              clear hi0'
              have hl1 : (levelL L (i : Int)).length ≤ 200 := by omega
              have hl2 : (belowL L i).length ≤ 200 := by omega
              have hc1 : (belowL L i).length ≤ c1 := by obtain ⟨_, _, h, h'⟩ := HV.out.slice; cases h; exact h'
              generalize hls : levelL L (i : Int) = ls at *
              have HLS := Lib.hid hls
              clear hls
              generalize belowL L i = bs at *
              clear hll hbl
              go_loopw [12, 13] (fun kv jv wr => ∃ (j k : Nat), jv = .int .i64 j ∧ kv = .int .i64 k ∧ j ≤ ls.length ∧ k ≤ bs.length ∧ (ls.drop j).Sublist (bs.drop k) ∧ Below w5.heap.size w5 wr) (fun _ jv _ => ls.length - (intOf jv).toNat)
              case atStart => exact ⟨0, 0, rfl, rfl, by omega, by omega, by simpa using HS.out, Below.refl _ _⟩
              case round =>
                obtain ⟨q, k, rfl, rfl, hq, hk, hsub, hb6⟩ := hrel
                have HB6 := Lib.hid hb6
                have HSB := Lib.hid hsub
                clear hb6 hsub
                by_cases hql : q < ls.length
                · obtain ⟨w6, rfl⟩ : ∃ w6 : World, w6 = wr := ⟨_, rfl⟩
                  go_wp2_with fail
                  go_loopw [12] (fun kv wr => ∃ (k : Nat), kv = .int .i64 k ∧ k ≤ bs.length ∧ (ls.drop q).Sublist (bs.drop k) ∧ Below w5.heap.size w5 wr) (fun kv _ => bs.length - (intOf kv).toNat)
                  case atStart => exact ⟨k, rfl, hk, HSB.out, HB6.out⟩
                  case round =>
                    obtain ⟨k2, rfl, hk2, hsub2, hb7⟩ := hrel
                    clear HB6 HSB
                    have HB7 := Lib.hid hb7
                    obtain ⟨hkl, hst⟩ := sub_step hsub2 hql
                    have HST := Lib.hid (hst hkl)
                    clear hb7 hsub2 hst
                    obtain ⟨g, o, c3, kv, vv, e1, e2, e3, k0, k1, k2', k3, bk, bv⟩ := (HV.out.old HB7.out).at_ hkl
                    obtain ⟨g', o', c3', kv', vv', e1', e2', e3', k0', k1', k2'', k3', bk', bv'⟩ := (HV1.out.old HB7.out).at_ hql
                    cases e1
                    cases e1'
                    obtain ⟨B1, n1, hB1⟩ := bk.slice
                    obtain ⟨B2, n2, hB2⟩ := bv.slice
                    obtain ⟨B3, n3, hB3⟩ := bk'.slice
                    obtain ⟨B4, n4, hB4⟩ := bv'.slice
                    subst hB1 hB2 hB3 hB4
                    have i1 : (0 : Int) ≤ (k2 : Int) := by omega
                    have i2 : (k2 : Int) < (bs.length : Int) := by omega
                    have i3 : (0 : Int) ≤ (q : Int) := by omega
                    have i4 : (q : Int) < (ls.length : Int) := by omega
                    have i5 : decide ((k2 : Int) < (bs.length : Int)) = true := by simp; omega
                    have HK := Lib.hid (And.intro bk bv)
                    have HK' := Lib.hid (And.intro bk' bv')
                    clear bk bv bk' bv'
                    go_wp2_with fail
                    go_still_tail 13, (by kernel_rfl)
                    change wpList _ _ _ _ _ wr.drew
                    go_wp2_with fail
                    refine (law_sameOne HK.out.1.drew HK'.out.1.drew HK.out.2.drew HK'.out.2.drew (Nat.le_refl _) (Nat.le_refl _)).mono ?_
                    rintro e w8 ⟨rfl, hb8⟩
                    have hb9 := HB7.out.drew.trans (hb8.mono HB7.out.size)
                    have HB9 := Lib.hid hb9
                    clear hb8 hb9 HB7 k0 k1 k2' k3 k0' k1' k2'' k3'
                    by_cases he : bs[k2] = ls[q]
                    · have htr : (bs[k2].key == ls[q].key && decide (bs[k2].seq = ls[q].seq) && bs[k2].del == ls[q].del && bs[k2].val == ls[q].val) = true := (sameE_iff _ _).2 he
                      rw [htr]
                      have hnext := HST.out.1 he
                      have HN := Lib.hid hnext
                      have hne : ((k2 : Int) == (bs.length : Int)) = false := by simp; omega
                      clear htr hnext HST he
                      go_wp2_with fail
                      go_roundw
                      case rel => exact ⟨q + 1, k2 + 1, by go_num, by go_num, by omega, by omega, HN.out, HB9.out⟩
                      case measure => simp [intOf]; omega
                    · have htr : (bs[k2].key == ls[q].key && decide (bs[k2].seq = ls[q].seq) && bs[k2].del == ls[q].del && bs[k2].val == ls[q].val) = false := by
                        rw [Bool.eq_false_iff]
                        exact fun h => he ((sameE_iff _ _).1 h)
                      rw [htr]
                      have hnext := HST.out.2 he
                      have HN := Lib.hid hnext
                      clear htr hnext HST he
                      go_wp2_with fail
                      go_roundw
                      case rel => exact ⟨k2 + 1, by go_num, by omega, HN.out, HB9.out⟩
                      case measure => simp [intOf]; omega
                · have hT6 := HT.out.old HB6.out
                  have hV6 := HV1.out.old HB6.out
                  have HT6 := Lib.hid hT6
                  have HV6 := Lib.hid hV6
                  clear hT6 hV6 HT HV HV1
                  go_wp2_with fail
                  go_roundw
                  case rel => exact ⟨i + 1, A2, c2, by go_num, by omega, by show _ = Value.slice A2 (levelL L (i : Int)).length c2; rw [HLS.out], by show EntsAt _ _ (levelL L (i : Int)); rw [HLS.out]; exact HV6.out, HT6.out⟩
                  case measure => simp [intOf]; omega
          · obtain rfl : i = 12 := by omega
            go_wp2_with fail
            refine (TabI.level HT.out (by omega) 12).mono ?_
            rintro e w4 ⟨v1, rfl, hv1, hT4, hb4⟩
            rw [level_twelve HTS.out] at hv1
            obtain ⟨A2, c2, hv1', hc2⟩ := hv1.slice
            subst hv1'
            have HT4 := Lib.hid hT4
            clear hv1 hT4 hb4 HT HV
            go_wp2_with fail
            go_ret
            exact ⟨rfl, HT4.out.bel⟩
end Go.Proofs.Ytpohhlddbdepcaa
