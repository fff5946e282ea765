/-
  The walk of the program's Put: what is taken.
-/
import Derived.Test.YtpohhlddbdepcaaPutD
namespace Go.Proofs.Ytpohhlddbdepcaa
open Go.RowKit

set_option maxRecDepth 100000 in
set_option maxHeartbeats 2000000 in
theorem skip_Put_ok {lo B : Nat} {w : World} {t : Nat} {hs : List Int} {hv : Value} {hb xh : Nat} {ns : List SN} (hS : SkipAt lo w t hs hv hb xh ns) (hn : ns.length ≤ 100000) {kv vv : Value} {s : Int} {d : Bool} {k v : List UInt8} (hk : BAt B w kv k) (hvv : BAt B w vv v) (hB : B ≤ w.heap.size)
    (hm : mayB k s d v = true) (hi : isAtN ns k s = false) :
    Calls Try.prog 21 #[.pointer (some ⟨t, 0, none⟩), .agg #[kv, .int .u64 s, .bool d, vv]] w fun e w' => e = .returned (.int .i64 0) ∧
      (∃ n : SN, n.e = ⟨k, s, d, v⟩ ∧ n.h = hOf hs ns.length ∧ (BOwn w.heap.size w' n.kv n.e.key ∧ BOwn w.heap.size w' n.vv n.e.val ∧ w.heap.size ≤ n.xb) ∧ SkipAt lo w' t hs hv hb xh (putAt ns (posOf SN.key SN.seq ns k s) n)) ∧ Chg (fun b => lo ≤ b ∧ (b = t ∨ ∃ q, q ≤ ns.length ∧ b = xbOf xh ns q)) w w' := by
  obtain ⟨m1, m2, m3, m4, m5, m6⟩ := mayB_true hm
  have HK := Lib.hid hk
  have HV := Lib.hid hvv
  obtain ⟨ak, ck, hkv⟩ := hk.slice
  obtain ⟨av, cv, hvv'⟩ := hvv.slice
  subst hkv hvv'
  clear hk hvv
  have HS := Lib.hid hS
  have hple := posOf_le SN.key SN.seq ns k s
  have hi' := hi
  unfold isAtN at hi'
  generalize hpp : posOf SN.key SN.seq ns k s = p at *
  have HPP := Lib.hid hpp
  clear hi hS hpp
  have HI := Lib.hid hi'
  clear hi'
  have HMT := Lib.hid hm
  have HM := Lib.hid (show k.length ≤ 256 ∧ v.length ≤ 65536 from ⟨m2, m5⟩)
  have hb0 : ∀ o, Below w.heap.size w (w.alloc o) := fun o => World.below_alloc (Nat.le_refl _) o
  go_enter Try.func21, Try.ntmps21
  go_upto_region 1 with fail
  go_cut [46] (fun sh wc => sh = .bool false ∧ wc = w.alloc (.cells #[.slice ak k.length ck, .int .u64 s, .bool d, .slice av v.length cv] 32))
  case first =>
    generalize k.length = kn at *
    generalize v.length = vn at *
    cases d
    · go_wp2_with fail
      all_goals first | (exfalso; omega) | (go_meet; case rel => exact ⟨rfl, rfl⟩)
    · obtain rfl := m6 rfl
      go_wp2_with fail
      all_goals first | (exfalso; omega) | (go_meet; case rel => exact ⟨rfl, rfl⟩)
  case rest =>
    obtain ⟨rfl, rfl⟩ := hcut
    have bE := Blk.new w 32 #[.slice ak k.length ck, .int .u64 s, .bool d, .slice av v.length cv]
    go_wp2_with fail
    refine (skip_place (HS.out.old (hb0 _)) hn (HK.out.lift hB (hb0 _)) (by simp; omega)).mono ?_
    rintro e w1 ⟨hp, hbw1⟩
    rw [HPP.out] at hp
    obtain ⟨C, w2, rfl, hw2, hP⟩ := hp.placed w1
    have hh1 : ∀ n ∈ ns, 1 ≤ n.h := fun n h => (HS.out.base.each n h).h1
    have hs1 : w.heap.size + 1 ≤ w1.heap.size := by have := hbw1.size; simpa using this
    have hbw : Below w.heap.size w w2 := ((hb0 _).trans (hbw1.mono (by simp))).trans (hP.bel.mono (by omega))
    have bE2 := (bE.old hbw1).old hP.bel
    have hR0 := hP.zero hh1 hple
    have HP := Lib.hid hP
    have HW := Lib.hid hw2
    have HH1 := Lib.hid hh1
    clear hw2 hP hbw1 hp bE hh1
    generalize stepsOf (ns.map SN.h) p 12 0 = tot
    go_wp2_with (with_reducible show wpList _ _ _ (Oper.mk none (.store 63 _ _) _ _ _ _ :: _) _ _; refine wpList_store_mid rfl 63 (.tmp 5) (.tmp 54) rfl w1.heap.size 0 C rfl rfl (by rw [HP.out.sz]; exact HP.out.thr) (by rw [HP.out.sz]; exact Try_info63) HP.out.one ?_; rw [HW.out]; refine Stop.of ?_)
    refine Stop.mk ?_
    have hcW := HP.out.row.cells 0
    rw [hR0] at hcW
    have hwl := HP.out.row.lt
    have hcE := bE2.cells
    have hel := bE2.lt
    have hS2 := HS.out.old hbw
    obtain ⟨csq, bq, hq4, hq1, hq12⟩ := hS2.base.pos hple
    have bx := hS2.links p hple
    have h4 : w2.cell? ⟨nbOf hb ns p, 4, none⟩ = some (.slice (some ⟨xbOf xh ns p, 0, none⟩) (htOf ns p) (htOf ns p)) := (bq.cells 4).trans hq4
    have hx : w2.cell? ⟨xbOf xh ns p, 0, none⟩ = some (nxt (ns.drop p) 0) := (bx.cells 0).trans (arr_get _ _ (by omega))
    have hi0 : (0 : Int) < (htOf ns p : Int) := by omega
    have HBW := Lib.hid hbw
    have HBE := Lib.hid bE2
    have HS2 := Lib.hid hS2
    clear bq bx hq4 hS2 hbw bE2 hR0 hb0
    obtain ⟨nv, hnv⟩ : ∃ nv, nv = nxt (ns.drop p) 0 := ⟨_, rfl⟩
    rw [← hnv] at hx
    have HNV := Lib.hid hnv
    clear hnv
    go_upto_region 5 with fail
    go_cut [84] (fun sh wc => sh = .bool false ∧ ∃ n, wc = w2.drewN n)
    case first =>
      by_cases hend : p = ns.length
      · have hnv := HNV.out
        rw [hend, nxt_end] at hnv
        clear HNV
        subst hnv
        clear hend
        go_wp2_with fail
        go_quiet (fail)
        go_wp2_with fail
        go_meet
        case rel => exact ⟨rfl, _, rfl⟩
      · have hplt : p < ns.length := by omega
        have hnv := HNV.out
        rw [nxt_zero hplt HH1.out] at hnv
        clear HNV
        subst hnv
        have hi' := HI.out
        rw [List.getElem?_eq_getElem hplt] at hi'
        simp only [decide_eq_false_iff_not] at hi'
        have hE := HS2.out.base.each _ (List.getElem_mem hplt)
        have kb := hE.blk.cells
        have hkm := hE.kv.reads
        obtain ⟨A1, c1, hA1⟩ := hE.kv.slice
        have k0 := kb 0
        have k1 := kb 1
        have hgl := hE.blk.lt
        simp only [List.getElem?_toArray, List.getElem?_cons_zero, List.getElem?_cons_succ, hA1] at k0 k1 hkm
        clear hE hA1 kb
        by_cases his : ns[p].e.seq = s
        · have hkb : (ns[p].e.key == k) = false := by
            have : ¬ ns[p].e.key = k := fun h => hi' ⟨h, his⟩
            simp [this]
          rw [his] at k1
          have hq : ∀ q, Calls Try.prog 29 #[.slice A1 ns[p].e.key.length c1, .slice ak k.length ck] (w2.drewN q) fun e w' => e = .returned (.bool false) ∧ w' = w2.drewN q := fun q =>
            (bytes_Equal (hkm.drewN q) ((HK.out.lift hB HBW.out).drewN q)).mono fun e w' h => ⟨by rw [h.1, hkb], h.2.symm⟩
          have HQ := Lib.hid hq
          clear hq hkb hkm hi' his
          go_wp2_with fail
          go_quiet (first | (go_at_call 29; exact Calls.quiet_of_same (HQ.out _)))
          go_wp2_with fail
          go_meet
          case rel => exact ⟨rfl, _, rfl⟩
        · have hsb : (ns[p].e.seq == s) = false := by simp [his]
          clear hkm hi' his
          go_wp2_with fail
          go_quiet (fail)
          go_wp2_with fail
          go_meet
          case rel => exact ⟨rfl, _, rfl⟩
    case rest =>
      obtain ⟨rfl, nd, hnd⟩ := hcut
      obtain ⟨w3, rfl⟩ : ∃ w3, w3 = wc := ⟨_, rfl⟩
      have hbw3 : Below w.heap.size w w3 := by rw [hnd]; exact below_drewN HBW.out _
      have bE3 : Blk w3 w.heap.size 32 #[.slice ak k.length ck, .int .u64 s, .bool d, .slice av v.length cv] := by rw [hnd]; exact HBE.out.drewN _
      have bC : Blk w3 w1.heap.size 63 C := by rw [hnd]; exact HP.out.row.drewN _
      have HBW3 := Lib.hid hbw3
      have HBE3 := Lib.hid bE3
      have HBC := Lib.hid bC
      obtain ⟨q, hq, hC⟩ := HP.out.bps
      have HC := Lib.hid hC
      have HQF := Lib.hid hq
      clear hcW hwl hcE hel h4 hx hnd hi0 hq1 hq12 HBW HBE HS2 hbw3 bE3 bC hq hC
      obtain ⟨ah, ch, hhv⟩ := slice_of_row HS.out.base.hrow
      subst hhv
      have hS3 := HS.out.old HBW3.out
      have hcT := hS3.tbl.cells
      have htl := hS3.tbl.lt
      go_upto_if 90 with fail
      go_cut [8] (fun sh wd => sh = .int .i64 (hOf hs ns.length : Nat) ∧ ∃ n, wd = w3.drewN n)
      case first =>
        by_cases hh : hs.length = 0
        · have hh1 : (decide (0 < hs.length)) = false := by simp [hh]
          have HH := Lib.hid hh
          have hh2 : hs.length ≤ 0 := by omega
          clear hh
          go_wp2_with fail
          go_meet
          case rel => exact ⟨by simp [hOf, HH.out], 0, rfl⟩
        · obtain ⟨gh, ch', hA, hch, hcell⟩ := IAtRow hS3.base.hrow (Nat.mod_lt ns.length (by omega))
          cases hA
          have hz : (hOf hs ns.length : Int) = min 12 (max 1 (hs.getD (ns.length % hs.length) 0)) := by unfold hOf; rw [if_neg hh]; omega
          have HZ := Lib.hid hz
          clear hz
          generalize hs.getD (ns.length % hs.length) 0 = z at *
          have hh1 : (0 : Int) < (hs.length : Int) := by omega
          obtain ⟨q, hq⟩ : ∃ q : Nat, q = ns.length % hs.length := ⟨_, rfl⟩
          have hqi : (ns.length : Int) % (hs.length : Int) = (q : Int) := by rw [hq]; omega
          rw [← hq] at hcell
          have hq1 : (0:Int) ≤ (q : Int) := by omega
          have hq2 : (q : Int) < (hs.length : Int) := by have := Nat.mod_lt ns.length (show hs.length > 0 by omega); omega
          clear hq
          go_wp2_with fail
          go_quiet (fail)
          go_wp2_with fail
          all_goals
            go_meet
            case rel => exact ⟨val_int (by rw [HZ.out]; omega), _, rfl⟩
      case rest =>
        obtain ⟨rfl, nd, hnd⟩ := hcut
        obtain ⟨w4, rfl⟩ : ∃ w4, w4 = wc := ⟨_, rfl⟩
        have hbw4 : Below w.heap.size w w4 := by rw [hnd]; exact below_drewN HBW3.out _
        have bE4 : Blk w4 w.heap.size 32 #[.slice ak k.length ck, .int .u64 s, .bool d, .slice av v.length cv] := by rw [hnd]; exact HBE3.out.drewN _
        have bC4 : Blk w4 w1.heap.size 63 C := by rw [hnd]; exact HBC.out.drewN _
        have HBE4 := Lib.hid bE4
        have HBC4 := Lib.hid bC4
        have HBW4 := Lib.hid hbw4
        obtain ⟨hh1, hh12⟩ := hOf_bd hs ns.length
        generalize hhe : hOf hs ns.length = h at *
        have HN := Lib.hid hhe
        clear hhe
        have hcE := bE4.cells
        have hel := bE4.lt
        have hmk := fun W => run_make_links ns p hh12 W
        clear hcT htl hnd HBW3 HBE3 HBC hS3 bE4 bC4
        go_upto_region 10 with fail
        go_cut [9] (fun sh wd => ∃ n : SN, sh = .pointer (some ⟨n.nb, 0, none⟩) ∧ n.e = ⟨k, s, d, v⟩ ∧ n.h = h ∧ MadeNode w4.heap.size ns p wd n ∧ Below w4.heap.size w4 wd)
        case first =>
          have hsz : w.heap.size ≤ w4.heap.size := HBW4.out.size
          go_wp2_with fail
          go_region_with (first
            | (go_at_call 30
               (with_reducible refine (mem_own (BAt.lift HK.out hB ?_) (BAt.lift HV.out hB ?_) ?_ ?_ ?_).mono ?_)
               · (repeat (first | (with_reducible exact Below.refl _ _) | (with_reducible assumption) | (with_reducible refine Below.drew ?_) | (with_reducible refine Below.alloc ?_ (by first | omega | (simp; omega)) _)))
               · (repeat (first | (with_reducible exact Below.refl _ _) | (with_reducible assumption) | (with_reducible refine Below.drew ?_) | (with_reducible refine Below.alloc ?_ (by first | omega | (simp; omega)) _)))
               · (first | omega | (simp; omega))
               · (have := HM.out; unfold Big; omega)
               · (have := HM.out; unfold Big; omega)
               rintro e w5 ⟨ku, vu, rfl, hku, hvu, hb5⟩
               obtain ⟨A1, c1, hA1⟩ := hku.slice
               obtain ⟨A2, c2, hA2⟩ := hvu.slice
               subst hA1 hA2))
          all_goals
            have hs5 : w4.heap.size ≤ w5.heap.size := by have := hb5.size; simp at this; omega
            have hb45 : Below w4.heap.size w4 w5 := by
              refine Below.trans ?_ (hb5.mono (by first | omega | (simp; omega) | simp))
              repeat (first | (with_reducible exact Below.refl _ _) | (with_reducible refine Below.drew ?_) | (with_reducible refine Below.alloc ?_ (by first | omega | (simp; omega) | simp) _))
            have hku2 := hku.mono (show w4.heap.size ≤ _ by first | omega | (simp; omega) | simp)
            have hvu2 := hvu.mono (show w4.heap.size ≤ _ by first | omega | (simp; omega) | simp)
            clear hku hvu
          · go_wp2_with fail
            go_meet
            case rel =>
              have hal : ∀ o o', Below w5.heap.size w5 ((w5.alloc o).alloc o') := fun o o' => (World.below_alloc (Nat.le_refl _) _).alloc (by simp) _
              exact ⟨⟨⟨k, s, d, v⟩, h, .slice A1 k.length c1, .slice A2 v.length c2, _, _⟩, rfl, rfl, rfl, ⟨Blk.new_at _ _ _ _ (by first | rfl | simp), (Blk.new_at _ _ _ _ (by first | rfl | simp)).alloc _, hku2.below (hal _ _), hvu2.below (hal _ _), by simp; omega, by simp; omega⟩, (hb45.alloc hs5 _).alloc (by simp; omega) _⟩
          all_goals
            go_wp2_with fail
            go_meet
            case rel =>
              have hal : ∀ o, Below w5.heap.size w5 (w5.alloc o) := fun o => World.below_alloc (Nat.le_refl _) _
              exact ⟨⟨⟨k, s, d, v⟩, h, .slice A1 k.length c1, .slice A2 v.length c2, _, _⟩, rfl, rfl, rfl, ⟨Blk.new_at _ _ _ _ (by first | rfl | simp), (((Blk.new_at _ _ _ _ (by first | rfl | simp)).drew).old hb5).alloc _, hku2.below (hal _), hvu2.below (hal _), by simp; omega, by simp⟩, hb45.alloc hs5 _⟩
        case rest =>
          obtain ⟨n, rfl, hne, hnh, hM, hbw5⟩ := hcut
          obtain ⟨w5, rfl⟩ : ∃ w5, w5 = wc := ⟨_, rfl⟩
          subst hnh
          have hbw5w := HBW4.out.trans (hbw5.mono HBW4.out.size)
          have hS5 := HS.out.old hbw5w
          have HBW5 := Lib.hid hbw5w
          have HBE5 := Lib.hid (HBE4.out.old hbw5)
          have HBC5 := Lib.hid (HBC4.out.old hbw5)
          have HS5 := Lib.hid hS5
          have HM5 := Lib.hid hM
          have HNE := Lib.hid hne
          have hxn : ∀ q, q ≤ ns.length → xbOf xh ns q ≠ n.xb := fun q hq e => by
            have h1 := (HS.out.links q hq).lt
            have h2 := hM.lxb
            have h3 := HBW4.out.size
            omega
          have HXN := Lib.hid hxn
          have hinv : LinkInv ns xh q p n w5 0 w5 := ⟨fun q' hq' => by rw [rowAt_zero]; exact hS5.links q' hq', hM.row, Chg.refl _ _⟩
          have HI0 := Lib.hid hinv
          have hcN := hM.node.cells
          have hnl := hM.node.lt
          clear hcE hel hmk hM hne hbw5 hbw5w hS5 HBE4 HBC4 hxn hinv
          go_wp2_with fail
          go_loopw [120] (fun i wr => ∃ j : Nat, i = .int .i64 j ∧ j ≤ n.h ∧ LinkInv ns xh q p n w5 j wr) (fun i _ => n.h - (intOf i).toNat)
          case atStart => exact ⟨0, rfl, by omega, HI0.out⟩
          case round =>
            obtain ⟨j, rfl, hjn, hL⟩ := hrel
            by_cases hlt : j < n.h
            · have bn := hL.far HI0.out HM5.out.node (by decide)
              have bC := hL.far HI0.out HBC5.out (by decide)
              have hbp := HQF.out j (by omega)
              have hqn : q j ≤ ns.length := hbp.2.1
              obtain ⟨csq, bq0, hq4, hq1, hq12⟩ := HS5.out.base.pos hqn
              have bq := hL.far HI0.out bq0 (by decide)
              have n4 := bn.cells 4
              have hcC := bC.cells j
              rw [HC.out j (by omega)] at hcC
              have q4 := bq.cells 4
              rw [hq4] at q4
              have qj := (hL.rows (q j) hqn).cells j
              rw [rowAt_get, if_pos hbp.2.2.2, if_neg (by omega), nxt_bp hbp hple] at qj
              have xj := hL.new.cells j
              rw [newAt_get, if_pos hlt, if_neg (by omega)] at xj
              have fx := hL.new.free
              have fq := (hL.rows (q j) hqn).free
              have d1 := Blk.ne_ bn hL.new (by decide)
              have d2 := Blk.ne_ bC hL.new (by decide)
              have d3 := Blk.ne_ bq hL.new (by decide)
              have d4 := HXN.out (q j) hqn
              have l1 := bn.lt
              have l2 := bC.lt
              have l3 := bq.lt
              have l4 := hL.new.lt
              have l5 := (hL.rows (q j) hqn).lt
              have i1 : (0 : Int) ≤ (j : Int) := by omega
              have i2 : (j : Int) < (n.h : Int) := by omega
              have i3 : (j : Int) < 12 := by omega
              have i4 : (j : Int) < (htOf ns (q j) : Int) := by have := hbp.2.2.2; omega
              have HST := Lib.hid (hL.step HS5.out.base.dist hqn HXN.out)
              simp only [List.getElem?_toArray, List.getElem?_cons_zero, List.getElem?_cons_succ] at n4
              obtain ⟨na, hna⟩ := nxt_ptr (ns.drop p) j
              rw [hna] at qj HST
              clear hL bn bC bq bq0 hbp hcN hq4 hq1 hq12 hnl
              go_wp2_with fail
              go_still_tail 15, (by kernel_rfl)
              change wpList _ _ _ _ _ wr.drew
              go_wp2_with fail
              exact ⟨⟨j + 1, by go_num, by omega, HST.out.drew⟩, by simp [intOf]; omega⟩
            · obtain rfl : j = n.h := by omega
              have HL := Lib.hid hL
              have bT := hL.far HI0.out HS5.out.tbl (by decide)
              have bE := hL.far HI0.out HBE5.out (by decide)
              have hcT := bT.cells
              have hfT := bT.free
              have htl := bT.lt
              have hcE := bE.cells
              have hel := bE.lt
              have hte := Blk.ne_ bT bE (by decide)
              have hble := bytesOf_le (ns.map SN.e) (fun e he => by
                obtain ⟨m, hm, rfl⟩ := List.mem_map.1 he
                exact (HS.out.base.each m hm).ok)
              rw [List.length_map] at hble
              have HBT := Lib.hid bT
              have hkl := HM.out.1
              have hvl := HM.out.2
              generalize hZ : bytesOf (ns.map SN.e) = Z at *
              have HZ := Lib.hid hZ
              have hZb : Z ≤ 7000000000 := by omega
              generalize hkn : k.length = kn at *
              generalize hvn : v.length = vn at *
              have HKN := Lib.hid hkn
              have HVN := Lib.hid hvn
              have s1 : IntKind.i64.wrap ((ns.length : Int) + 1) = (ns.length : Int) + 1 := by rw [IntKind.wrap_i64]; omega
              have s2 : IntKind.i64.wrap ((kn : Int) + (vn : Int)) = (kn : Int) + (vn : Int) := by rw [IntKind.wrap_i64]; omega
              have s3 : IntKind.i64.wrap ((kn : Int) + (vn : Int) + 16) = (kn : Int) + (vn : Int) + 16 := by rw [IntKind.wrap_i64]; omega
              have s4 : IntKind.i64.wrap ((Z : Int) + ((kn : Int) + (vn : Int) + 16)) = (Z : Int) + ((kn : Int) + (vn : Int) + 16) := by rw [IntKind.wrap_i64]; omega
              have bT7 := bT.set_ 2 (.int .i64 ((ns.length : Int) + 1))
              have bE7 := bE.far (p := ⟨t, 2, none⟩) (fun e => hte e.symm) (.int .i64 ((ns.length : Int) + 1))
              have hch7 := Chg.setCell1 (fun b => b = t) wr (p := ⟨t, 2, none⟩) rfl (.int .i64 ((ns.length : Int) + 1))
              clear hL hcN bT bE hble hZ hkn hvn hnl
              go_upto_region 18 with fail
              clear hcT hfT htl hcE hel
              generalize wr.setCell ⟨t, 2, none⟩ (.int .i64 ((ns.length : Int) + 1)) = w7 at *
              have HT7 := Lib.hid bT7
              have HC7 := Lib.hid hch7
              have hcT := bT7.cells
              have hfT := bT7.free
              have htl := bT7.lt
              have hcE := bE7.cells
              have hel := bE7.lt
              simp only [List.setIfInBounds_toArray, List.set_cons_zero, List.set_cons_succ] at hcT
              clear bT7 bE7 hch7
              go_wp2_with fail
              go_still_tail 15, (by kernel_rfl)
              change wpList _ _ _ _ _ w7.drew
              go_wp2_with fail
              go_ret
              have hkey : SN.key n = k := by unfold SN.key; rw [HNE.out]
              have hseq : SN.seq n = s := by unfold SN.seq; rw [HNE.out]
              have hpos : posOf SN.key SN.seq ns (SN.key n) (SN.seq n) = p := by rw [hkey, hseq]; exact HPP.out
              have hord := HS.out.base.order.put (x := n) (fun hp ⟨e1, e2⟩ => by
                have hi := HI.out
                have g : ns[p]? = some (ns[posOf SN.key SN.seq ns (SN.key n) (SN.seq n)]'hp) := by rw [← hpos]; exact List.getElem?_eq_getElem hp
                rw [g] at hi
                simp only [decide_eq_false_iff_not] at hi
                exact hi ⟨e1.trans hkey, e2.trans hseq⟩)
              rw [hpos] at hord
              have hT := (HT7.out.set_ 3 (.int .i64 ((Z : Int) + ((kn : Int) + (vn : Int) + 16)))).drew
              have e1 : n.e.key.length = kn := by rw [HNE.out]; exact HKN.out
              have e2 : n.e.val.length = vn := by rw [HNE.out]; exact HVN.out
              have hok : OkE n.e := by rw [HNE.out]; exact HMT.out
              have hw4 := HBW4.out.size
              have hT' : Blk (w7.setCell ⟨t, 3, none⟩ (.int .i64 ((Z : Int) + ((kn : Int) + (vn : Int) + 16)))).drew t 59 #[.slice ah hs.length ch, .pointer (some ⟨hb, 0, none⟩), .int .i64 ((ns.length + 1 : Nat)), .int .i64 ((bytesOf (ns.map SN.e) + (n.e.key.length + n.e.val.length + 16) : Nat))] := by
                rw [e1, e2, HZ.out, show ((ns.length + 1 : Nat) : Int) = (ns.length : Int) + 1 from by omega, show ((Z + (kn + vn + 16) : Nat) : Int) = (Z : Int) + ((kn : Int) + (vn : Int) + 16) from by omega]
                exact hT
              have hf : Chg (fun b => b = t) wr (w7.setCell ⟨t, 3, none⟩ (.int .i64 ((Z : Int) + ((kn : Int) + (vn : Int) + 16)))).drew := (HC7.out.setCell (p := ⟨t, 3, none⟩) (.inl rfl) _).drew
              have hbT := HL.out.far HI0.out HS5.out.tbl (by decide)
              have hown : ∀ b cs', w4.heap.size ≤ b → Blk w5 b 5 cs' → Blk (w7.setCell ⟨t, 3, none⟩ (.int .i64 ((Z : Int) + ((kn : Int) + (vn : Int) + 16)))).drew b 5 cs' := fun b cs' _ h =>
                hf.blk (HL.out.far HI0.out h (by decide)) (fun e => Blk.ne_ (HL.out.far HI0.out h (by decide)) hbT (by decide) e)
              refine ⟨rfl, ⟨n, HNE.out, HN.out.symm, ⟨(HM5.out.kv.typed2 hown).mono hw4, (HM5.out.vv.typed2 hown).mono hw4, Nat.le_trans hw4 HM5.out.lxb⟩, ?_⟩, ?_⟩
              · exact LinkInv.done HS5.out HM5.out (by have := HS.out.lt; have := HS.out.tbl.lt; omega) HI0.out HL.out hple HQF.out hh1 hh12 HXN.out hok hord hT' hf
              · refine Chg.trans (Chg.trans (Chg.of_below HBW5.out) HL.out.chg ?_) hf (fun b h _ => ⟨by rw [h]; exact HS.out.lt, .inl h⟩)
                rintro b (rfl | ⟨q', hq', rfl⟩) hlt
                · have := HM5.out.lxb; omega
                · exact ⟨HS.out.base.lxbOf hq', .inr ⟨q', hq', rfl⟩⟩
end Go.Proofs.Ytpohhlddbdepcaa
