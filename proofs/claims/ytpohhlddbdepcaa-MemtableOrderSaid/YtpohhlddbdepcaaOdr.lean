/-
  The walk of MemtableOrder.
-/
import Derived.Test.YtpohhlddbdepcaaSkY
import Derived.StillTailTactics
namespace Go.Proofs.Ytpohhlddbdepcaa
open Go.RowKit

theorem row_cap {w : World} {base : Nat} {e : TypeId} {size n c : Nat} {A : Option Addr} {xs : List Value} (h : w.ownsRow base e size (.slice A n c) n xs) : n ≤ c := by
  rcases h.2 with ⟨h, h'⟩ | ⟨g, cap, cur, hv, _, _, hc, _⟩
  · omega
  · cases hv; exact hc

theorem EntsAt.at_take {w : World} {v : Value} {es : List Ent} {j : Nat} (h : EntsAt w v (es.take j)) (hj : j ≤ es.length) {q : Nat} (hq : q < j) (hq' : q < es.length) : ∃ g o c kv vv, v = .slice (some ⟨g, o, none⟩) j c ∧
    w.cell? ⟨g, o + q * 4, none⟩ = some kv ∧ w.cell? ⟨g, o + q * 4 + 1, none⟩ = some (.int .u64 es[q].seq) ∧ w.cell? ⟨g, o + q * 4 + 2, none⟩ = some (.bool es[q].del) ∧ w.cell? ⟨g, o + q * 4 + 3, none⟩ = some vv ∧
    BAt w.heap.size w kv es[q].key ∧ BAt w.heap.size w vv es[q].val := by
  have hl : (es.take j).length = j := by rw [List.length_take, Nat.min_eq_left hj]
  obtain ⟨g, o, c3, kv, vv, e1, e2, e3, k0, k1, k2, k3, bk, bv⟩ := h.at_ (i := q) (by omega)
  simp only [List.getElem_take] at k0 k1 k2 k3 bk bv
  rw [hl] at e1
  exact ⟨g, o, c3, kv, vv, e1, k0, k1, k2, k3, bk, bv⟩
theorem rat_at {w : World} {A : Option Addr} {ms : List MEnt} {es : List Ent} (h : RAt w.heap.size w A (ms.flatMap MEnt.cells4) ∧ ∀ m ∈ ms, BAt w.heap.size w m.kv m.e.key ∧ BAt w.heap.size w m.vv m.e.val) (hms : ms.map MEnt.e = es) {j : Nat} (hj : j < es.length) :
    ∃ g o B3 n3 B4 n4, A = some ⟨g, o, none⟩ ∧ g < w.heap.size ∧ (ms.take (j + 1)).flatMap MEnt.cells4 = (ms.take j).flatMap MEnt.cells4 ++ [.slice B3 es[j].key.length n3, .int .u64 es[j].seq, .bool es[j].del, .slice B4 es[j].val.length n4] ∧
    w.cell? ⟨g, o + j * 4, none⟩ = some (.slice B3 es[j].key.length n3) ∧ w.cell? ⟨g, o + j * 4 + 1, none⟩ = some (.int .u64 es[j].seq) ∧ w.cell? ⟨g, o + j * 4 + 2, none⟩ = some (.bool es[j].del) ∧ w.cell? ⟨g, o + j * 4 + 3, none⟩ = some (.slice B4 es[j].val.length n4) ∧
    BAt w.heap.size w (.slice B3 es[j].key.length n3) es[j].key ∧ BAt w.heap.size w (.slice B4 es[j].val.length n4) es[j].val := by
  subst hms
  have hj' : j < ms.length := by simpa using hj
  have hlen : (ms.flatMap MEnt.cells4).length = ms.length * 4 := flat_length MEnt.cells4 4 MEnt.cells4_len ms
  obtain ⟨g, o, rfl, hg, hcell⟩ := h.1.at_ (by omega)
  have hget : ∀ i, i < 4 → (ms.flatMap MEnt.cells4)[j * 4 + i]? = ms[j].cells4[i]? := fun i hi => flat_get MEnt.cells4 4 MEnt.cells4_len ms j hj' i hi
  have e : (ms.map MEnt.e)[j] = ms[j].e := by simp
  obtain ⟨b1, b2⟩ := h.2 _ (List.getElem_mem hj')
  obtain ⟨B3, n3, h3⟩ := b1.slice
  obtain ⟨B4, n4, h4⟩ := b2.slice
  have h0 : ms[j].cells4 = [.slice B3 ms[j].e.key.length n3, .int .u64 ms[j].e.seq, .bool ms[j].e.del, .slice B4 ms[j].e.val.length n4] := by
    unfold MEnt.cells4
    rw [h3, h4]
  rw [h3] at b1
  rw [h4] at b2
  simp only [e]
  refine ⟨g, o, B3, n3, B4, n4, rfl, hg, ?_, ?_, ?_, ?_, ?_, b1, b2⟩
  · rw [List.take_succ_eq_append_getElem hj', List.flatMap_append]
    simp [h0]
  · have := hcell (j * 4 + 0) _ (by rw [hget 0 (by omega), h0]; rfl)
    simpa using this
  · have := hcell (j * 4 + 1) _ (by rw [hget 1 (by omega), h0]; rfl)
    rw [Nat.add_assoc]; exact this
  · have := hcell (j * 4 + 2) _ (by rw [hget 2 (by omega), h0]; rfl)
    rw [Nat.add_assoc]; exact this
  · have := hcell (j * 4 + 3) _ (by rw [hget 3 (by omega), h0]; rfl)
    rw [Nat.add_assoc]; exact this
section
variable {w W : World} {t : Nat} {hs : List Int} {L : List EH}
theorem TabI.scan2 (h : TabI w W t hs L) (hn : L.length ≤ 200) (most : Int) (hm : 200 ≤ most) :
    Calls Try.prog 13 #[.pointer (some ⟨t, 0, none⟩), .slice none 0 0, .int .i64 most] W fun e w' => ∃ v, e = .returned v ∧ EntsAt w' v (L.map Prod.fst) ∧ TabI w w' t hs L ∧ Below W.heap.size W w' := by
  obtain ⟨lo, h1, h2, h3⟩ := id h
  refine (skipL_scan h2 (by omega) (BAt.nil W.heap.size W) (Nat.le_refl _) (by simp [Big]) most (by omega)).mono ?_
  rintro e w' ⟨v, cs, rfl, ho, hc, hb⟩
  refine ⟨v, rfl, ?_, h.old hb, hb⟩
  have := ho.ents
  rw [hc, scanL_all, List.take_of_length_le (by simp; omega)] at this
  exact this
theorem TabI.len (h : TabI w W t hs L) :
    Calls Try.prog 23 #[.pointer (some ⟨t, 0, none⟩)] W fun e w' => e = .returned (.int .i64 (L.length : Nat)) ∧ W = w' := by
  obtain ⟨lo, h1, h2, h3⟩ := h
  exact (skipL_Len h2).mono fun e w' ⟨h, h'⟩ => ⟨h, h'.symm⟩
theorem TabI.bytes (h : TabI w W t hs L) :
    Calls Try.prog 25 #[.pointer (some ⟨t, 0, none⟩)] W fun e w' => e = .returned (.int .i64 (bytesL L : Nat)) ∧ W = w' := by
  obtain ⟨lo, h1, h2, h3⟩ := h
  exact (skipL_Bytes h2).mono fun e w' ⟨h, h'⟩ => ⟨h, h'.symm⟩
end

/-- Two places hold entries of different key or Seq. -/
def DifE (es : List Ent) (a b : Nat) : Prop := ∀ (ha : a < es.length) (hb : b < es.length), ¬ (es[a].seq = es[b].seq ∧ es[a].key = es[b].key)

set_option maxRecDepth 100000 in
set_option maxHeartbeats 4000000 in
theorem law_order {w : World} {h0 h1 v : Value} {hs0 hs1 : List Int} {es : List Ent} {z : Int} (hH0 : IAt w.heap.size w h0 hs0) (hH1 : IAt w.heap.size w h1 hs1) (hE : EntsAt w v es) (hl0 : hs0.length * 8 ≤ 140737488355328) (hl1 : hs1.length * 8 ≤ 140737488355328) (hbig : ∀ e ∈ es, Big e.key ∧ Big e.val) (hmax : es.length ≤ 9223372036854775807) (hz1 : -9223372036854775808 ≤ z) (hz2 : z ≤ 9223372036854775807) :
    Calls Try.prog 4 #[.agg #[h0, h1], v, .int .i64 z] w fun e w' => e = .returned (.bool true) ∧ Below w.heap.size w w' := by
  obtain ⟨i0, hi0, hzi0, hzi1, hzi2⟩ := info_parts Try_infoEn
  obtain ⟨A, c, hvv, hc⟩ := hE.slice
  subst hvv
  have HE := Lib.hid hE
  have HH0 := Lib.hid hH0
  have HH1 := Lib.hid hH1
  have HB := Lib.hid hbig
  obtain ⟨a0, ch0, rfl, -⟩ := id hH0
  obtain ⟨a1, ch1, rfl, -⟩ := id hH1
  clear hE hH0 hH1 hbig
  go_enter Try.func4, Try.ntmps4
  go_wp2_with fail
  refine (law_shown _).mono ?_
  rintro e w1 ⟨rfl, hb1⟩
  have hbox := (Blk.new w 50 #[.slice a0 hs0.length ch0, .slice a1 hs1.length ch1]).old hb1
  have hbw1 : Below w.heap.size w w1 := (World.below_alloc (Nat.le_refl _) _).trans (hb1.mono (by simp))
  have HB1 := Lib.hid hbw1
  have HBOX := Lib.hid hbox
  have hcb := hbox.cells
  have hcl := hbox.lt
  have hs1' := hbw1.size
  clear hb1 hbw1 hbox
  go_wp2_with fail
  refine (skipY_New (HH0.out.lift (Nat.le_refl _) HB1.out) hs1' hl0).mono ?_
  rintro e w2 ⟨ta, rfl, hSA, hb2⟩
  have hbox := HBOX.out.old hb2
  have hbw2 : Below w.heap.size w w2 := HB1.out.trans (hb2.mono hs1')
  have HB2 := Lib.hid hbw2
  have hss2 := hb2.size
  clear hcb hcl HBOX
  have HBOX := Lib.hid hbox
  have hcb := hbox.cells
  have hcl := hbox.lt
  have hs2' := hbw2.size
  have HSA := Lib.hid hSA
  clear hb2 hbw2 hbox hSA
  go_wp2_with fail
  refine (skipY_New (HH1.out.lift (Nat.le_refl _) HB2.out) hs2' hl1).mono ?_
  rintro e w3 ⟨tb, rfl, hSB, hb3⟩
  have hss3 := hb3.size
  have hbw3 : Below w.heap.size w w3 := HB2.out.trans (hb3.mono hs2')
  have hSA3 := (HSA.out.old hb3).also (Y' := fun b => w2.heap.size ≤ b ∧ b < w3.heap.size) (fun b h _ => by omega)
  have HB3 := Lib.hid hbw3
  clear HSA
  have HSA := Lib.hid hSA3
  have HSB := Lib.hid hSB
  have hs3' := hbw3.size
  clear hSA3 hSB hbw3 hb3 hcb hcl HBOX HB2 HB1
  by_cases e0 : es.length = 0
  · have d0 : ((es.length : Int) == 0) = true := by rw [e0]; rfl
    clear e0
    go_wp2_with fail
    go_ret
    exact ⟨rfl, HB3.out⟩
  have d0 : ((es.length : Int) == 0) = false := beq_false_of_ne (by omega)
  have d0' : 0 < es.length := by omega
  clear e0
  by_cases e1 : 200 < es.length
  · go_wp2_with fail
    go_ret
    exact ⟨rfl, HB3.out⟩
  have d1 : es.length ≤ 200 := by omega
  clear e1
  by_cases e2 : z < 0
  · go_wp2_with fail
    go_ret
    exact ⟨rfl, HB3.out⟩
  obtain ⟨zn, rfl⟩ : ∃ n : Nat, z = (n : Int) := ⟨z.toNat, by omega⟩
  have d2 : (0 : Int) ≤ (zn : Int) := by omega
  obtain ⟨k, hk⟩ : ∃ k : Nat, k = zn % es.length := ⟨_, rfl⟩
  have hkl : k < es.length := by rw [hk]; exact Nat.mod_lt _ d0'
  have hkm : (zn : Int) % (es.length : Int) = (k : Int) := by rw [hk]; exact (Int.natCast_emod _ _).symm
  clear e2 hk hz1
  go_wp2_with fail
  clear d0 hkm d2 hz2 hmax
  obtain ⟨ms, hms, hE⟩ : ∃ ms : List MEnt, ms.map MEnt.e = es ∧ RAt w.heap.size w A (ms.flatMap MEnt.cells4) ∧ ∀ m ∈ ms, BAt w.heap.size w m.kv m.e.key ∧ BAt w.heap.size w m.vv m.e.val := by
    obtain ⟨A', c', ms, h1, h2, h3, h4⟩ := HE.out
    cases h1
    exact ⟨ms, h3, h4⟩
  have hml : ms.length = es.length := by rw [← hms]; simp
  have HMS := Lib.hid hms
  have HM := Lib.hid hE
  have HML := Lib.hid hml
  clear hms hE hml
  go_loopw [11, 12] (fun v i wr => ∃ (j : Nat) (A1 : Option Addr) (c1 : Nat) (L : List EH), i = .int .i64 j ∧ v = .slice A1 j c1 ∧ j ≤ es.length ∧ L.length ≤ j ∧ wr.ownsRow w.heap.size 32 4 v j ((ms.take j).flatMap MEnt.cells4) ∧
    HoldsE es (fun m => m < j) L ∧ (∀ a b, a < j → b < a → DifE es b a) ∧
    SkipY (fun b => w2.heap.size ≤ b ∧ b < w3.heap.size) w1.heap.size wr ta hs0 L ∧ SkipY (fun b => b < w2.heap.size ∨ w3.heap.size ≤ b) w2.heap.size wr tb hs1 [] ∧ Below w.heap.size w wr ∧ w3.heap.size ≤ wr.heap.size) (fun _ i _ => es.length - (intOf i).toNat)
  case atStart => exact ⟨0, none, 0, [], rfl, rfl, by omega, by simp, World.ownsRow_nil _ _ _ _, HoldsE.nil _ _ (fun m _ h => by omega), fun a b ha => by omega, HSA.out, HSB.out, HB3.out, Nat.le_refl _⟩
  case round =>
    obtain ⟨j, A1, c1, L, rfl, rfl, hj, hL, hrow, hH, hD, hSA, hSB, hb, hs3⟩ := hrel
    clear HSA HSB HB3
    have HSA := Lib.hid hSA
    have HSB := Lib.hid hSB
    have HBw := Lib.hid hb
    have HROW := Lib.hid hrow
    have HH := Lib.hid hH
    have HD := Lib.hid hD
    clear hSA hSB hb hrow hH hD
    by_cases hlt : j < es.length
    · have hc1 : j ≤ c1 := row_cap HROW.out
      have hlj : (es.take j).length = j := by rw [List.length_take, Nat.min_eq_left hj]
      have hme : EntsAt wr (.slice A1 j c1) (es.take j) := ⟨A1, c1, ms.take j, by rw [hlj], by omega, by rw [List.map_take, HMS.out], RAt.of_row HROW.out, fun m hm =>
        ⟨((HM.out.2 m (List.mem_of_mem_take hm)).1.lift (Nat.le_refl _) HBw.out).mono HBw.out.size, ((HM.out.2 m (List.mem_of_mem_take hm)).2.lift (Nat.le_refl _) HBw.out).mono HBw.out.size⟩⟩
      have HME := Lib.hid hme
      obtain ⟨g', o', B3, n3, B4, n4, e1', e3', hnews, k0', k1', k2', k3', bk', bv'⟩ := rat_at HM.out HMS.out hlt
      cases e1'
      have HNW := Lib.hid hnews
      have HC0 := Lib.hid (And.intro k0' (And.intro k1' (And.intro k2' k3')))
      clear hnews
      have keep : ∀ (q : Nat) (u : Value), w.cell? ⟨g', q, none⟩ = some u → wr.cell? ⟨g', q, none⟩ = some u := fun q u h => (HBw.out.cell (p := ⟨g', q, none⟩) e3').trans h
      have k0' := keep _ _ k0'
      have k1' := keep _ _ k1'
      have k2' := keep _ _ k2'
      have k3' := keep _ _ k3'
      have HK' := Lib.hid (And.intro ((bk'.lift (Nat.le_refl _) HBw.out).mono HBw.out.size) ((bv'.lift (Nat.le_refl _) HBw.out).mono HBw.out.size))
      have i3 : (0 : Int) ≤ (j : Int) := by omega
      have i4 : (j : Int) < (es.length : Int) := by omega
      have hgl : g' < wr.heap.size := World.block_lt_of_cell? wr _ k0'
      have BK := Lib.hid bk'
      have BV := Lib.hid bv'
      clear keep bk' bv' hme hlj
      obtain ⟨wo, rfl⟩ : ∃ wo : World, wo = wr := ⟨_, rfl⟩
      go_wp2_with fail
      go_loopw [13] (fun q wr => ∃ (q' n : Nat), q = .int .i64 q' ∧ q' ≤ j ∧ wr = wo.drewN n ∧ ∀ b, b < q' → DifE es b j) (fun q _ => j - (intOf q).toNat)
      case atStart => exact ⟨0, 0, rfl, by omega, rfl, fun b hb => by omega⟩
      case round =>
        obtain ⟨q, n, rfl, hq, rfl, hno⟩ := hrel
        have HNO := Lib.hid hno
        clear hno
        by_cases hqj : q < j
        · obtain ⟨g, o, c3, kv, vv, e1, k0, k1, k2, k3, bk, bv⟩ := HME.out.at_take hj hqj (by omega)
          cases e1
          obtain ⟨B1, n1, hB1⟩ := bk.slice
          obtain ⟨B2, n2, hB2⟩ := bv.slice
          subst hB1 hB2
          have i1 : (0 : Int) ≤ (q : Int) := by omega
          have i2 : (q : Int) < (j : Int) := by omega
          have q1 := fun q => run_bytesEq 29 9 5 (P := Try.prog) Try.underlying29 Try.underlying5 Try.underlying9 (bk.drewN q)
          have q2 := fun q => run_bytesEq 29 9 5 (P := Try.prog) Try.underlying29 Try.underlying5 Try.underlying9 (HK'.out.1.drewN q)
          have hgl2 : g < wo.heap.size := World.block_lt_of_cell? wo _ k0
          clear bk bv
          by_cases hsq : es[q].seq = es[j].seq
          · rw [hsq] at k1
            by_cases hkq : es[q].key = es[j].key
            · have hkb : (es[q].key == es[j].key) = true := by simp [hkq]
              clear hsq hkq
              go_wp2_with fail
              go_quiet (fail)
              go_wp2_with fail
              go_ret
              exact ⟨rfl, below_drewN (below_drewN HBw.out _) _⟩
            · have hkb : (es[q].key == es[j].key) = false := by simp [hkq]
              have hno2 : ∀ b, b < q + 1 → DifE es b j := fun b hb => by
                by_cases hbq : b = q
                · subst hbq
                  exact fun _ _ h => hkq h.2
                · exact HNO.out b (by omega)
              have HNO2 := Lib.hid hno2
              clear hsq hkq hno2
              go_wp2_with fail
              go_quiet (fail)
              go_wp2_with fail
              go_roundw
              case rel => exact ⟨q + 1, _, by go_num, by omega, rfl, HNO2.out⟩
              case measure => simp [intOf]; omega
          · have hsb : (es[q].seq == es[j].seq) = false := by simp [hsq]
            have hno2 : ∀ b, b < q + 1 → DifE es b j := fun b hb => by
              by_cases hbq : b = q
              · subst hbq
                exact fun _ _ h => hsq h.1
              · exact HNO.out b (by omega)
            have HNO2 := Lib.hid hno2
            clear hsq hno2
            go_wp2_with fail
            go_quiet (fail)
            go_wp2_with fail
            go_roundw
            case rel => exact ⟨q + 1, _, by go_num, by omega, rfl, HNO2.out⟩
            case measure => simp [intOf]; omega
        · obtain rfl : q = j := by omega
          go_wp2_with (at_builtin; refine Stop.of ?_)
          refine Stop.mk ?_
          have hbD : Below wo.heap.size wo (wo.drewN n) := below_drewN (Below.refl _ _) n
          have hszD : (wo.drewN n).heap.size = wo.heap.size := rfl
          have hAd := HSA.out.old hbD
          have hBd := HSB.out.old hbD
          have hRd := own_below HROW.out hbD
          have hbwD := below_drewN HBw.out n
          generalize hwd : wo.drewN n = wd at *
          clear hwd hbD k0' k1' k2' k3' HME
          have hal : ∀ o, Below wd.heap.size wd (wd.alloc o) := fun o => World.below_alloc (Nat.le_refl _) _
          have hnew : RAt (wd.heap.size + 1) (wd.alloc (.cells #[.slice B3 es[q].key.length n3, .int .u64 es[q].seq, .bool es[q].del, .slice B4 es[q].val.length n4] 32)) (some ⟨wd.heap.size, 0, none⟩) [.slice B3 es[q].key.length n3, .int .u64 es[q].seq, .bool es[q].del, .slice B4 es[q].val.length n4] :=
            RAt.fresh wd 32 [.slice B3 es[q].key.length n3, .int .u64 es[q].seq, .bool es[q].del, .slice B4 es[q].val.length n4]
          rw [hszD] at hnew
          have hrow1 := hRd.alloc (.cells #[.slice B3 es[q].key.length n3, .int .u64 es[q].seq, .bool es[q].del, .slice B4 es[q].val.length n4] 32)
          refine wpList_append_own _ rfl (.tmp 89) (.tmp 94) 39 rfl w.heap.size 32 i0 _ 4 64 Try.underlying39 hi0 hzi0 hzi1 hzi2 rfl (by decide) _ q _ rfl hrow1 ⟨wo.heap.size, 0, none⟩ 1 1 [.slice B3 es[q].key.length n3, .int .u64 es[q].seq, .bool es[q].del, .slice B4 es[q].val.length n4] rfl rfl
            hnew.cells (by simp [Value.oneCell']) (by unfold maxLen; omega) (by omega) (by have := hbwD.size; simp; omega) ?_
          intro v1 w5 hown1 hg1 _
          have hv0 : ∀ j, Value.ownBlock (.slice A1 q c1) = some j → w.heap.size ≤ j := fun j hj => (hrow1.lt j hj).1
          have hbw5 : Below w.heap.size w w5 := (hbwD.trans ((hal _).mono hbwD.size)).grown hg1 (by have := hbwD.size; simp; omega) hv0
          have hs5 : wo.heap.size ≤ w5.heap.size := by have := hg1.size; simp at this; omega
          have hA5 := (hAd.old (hal _)).grown hrow1 hg1
          have hB5 := (hBd.old (hal _)).grown hrow1 hg1
          rw [← HNW.out] at hown1
          obtain ⟨A5, c5, rfl⟩ := slice_of_row hown1
          have HA5 := Lib.hid hA5
          have HB5 := Lib.hid hB5
          have HR5 := Lib.hid hown1
          have HW5 := Lib.hid hbw5
          have hK5 := Lib.hid (And.intro (BK.out.lift (Nat.le_refl _) hbw5) (BV.out.lift (Nat.le_refl _) hbw5))
          have hbg := Lib.hid (HB.out _ (List.getElem_mem hlt))
          have keep5 : ∀ (q : Nat) (u : Value), w.cell? ⟨g', q, none⟩ = some u → w5.cell? ⟨g', q, none⟩ = some u := fun q u h => (hbw5.cell (p := ⟨g', q, none⟩) e3').trans h
          have k0' := keep5 _ _ HC0.out.1
          have k1' := keep5 _ _ HC0.out.2.1
          have k2' := keep5 _ _ HC0.out.2.2.1
          have k3' := keep5 _ _ HC0.out.2.2.2
          clear keep5 hal hnew hrow1 hown1 hg1 hv0 hbw5 hA5 hB5 hAd hBd hRd hbwD hszD
          go_wp2_with fail
          refine (HA5.out.put (e := es[q]) (fun b hb => by omega) (by omega) hK5.out.1 hK5.out.2 HW5.out.size hbg.out.1 hbg.out.2).mono ?_
          rintro e w6 ⟨rfl, hA6, hc6⟩
          have hB6 := HB5.out.turn hc6 (fun b hb => by omega)
          have hR6 := row_put HR5.out hc6
          have hs6 := hc6.size
          have hbw6 : Below w.heap.size w w6 := HW5.out.trans (hc6.below HW5.out.size fun b hb hs => by have := hs.1; omega)
          have hL6 : (putL hs0 L es[q]).2.length ≤ q + 1 := by have := putL_len hs0 L es[q]; omega
          have hH6 := (HH.out.put hs0 hlt (fun m hm hmq => HNO.out m hmq hm hlt)).same (Q := fun m => m < q + 1) (fun m hm => by omega)
          have hD6 : ∀ a b, a < q + 1 → b < a → DifE es b a := fun a b ha hba => by
            by_cases h : a = q
            · subst h; exact HNO.out b hba
            · exact HD.out a b (by omega) hba
          have HALL := Lib.hid (And.intro hR6 (And.intro hH6 (And.intro hD6 (And.intro hA6 (And.intro hB6 hbw6)))))
          clear hA6 hB6 hR6 hbw6 hH6 hD6 hc6 k0' k1' k2' k3'
          go_wp2_with fail
          go_roundw
          case rel => exact ⟨q + 1, A5, c5, _, by go_num, rfl, by omega, hL6, HALL.out.1, HALL.out.2.1, HALL.out.2.2.1, HALL.out.2.2.2.1, HALL.out.2.2.2.2.1, HALL.out.2.2.2.2.2, by omega⟩
          case measure => simp [intOf]; omega
    · obtain rfl : j = es.length := by omega
      have s1 : IntKind.i64.wrap ((es.length : Int) - 1) = (es.length : Int) - 1 := IntWalk.i64_in _ (by omega)
      go_wp2_with fail
      clear s1
      have hA2 := HSA.out.also (Y' := fun b => (w2.heap.size ≤ b ∧ b < w3.heap.size) ∨ wr.heap.size ≤ b) (fun b h _ => by omega)
      have hB2 := HSB.out.also (Y' := fun b => b < w2.heap.size ∨ (w3.heap.size ≤ b ∧ b < wr.heap.size)) (fun b h _ => by omega)
      have HA2 := Lib.hid hA2
      have HB2 := Lib.hid hB2
      clear HSA HSB HROW hA2 hB2
      obtain ⟨wm, rfl⟩ : ∃ wm : World, wm = wr := ⟨_, rfl⟩
      go_loopw [14] (fun zv wr => ∃ (y : Int) (M : List EH), zv = .int .i64 y ∧ -1 ≤ y ∧ y < es.length ∧ M.length ≤ es.length ∧ (M.length : Int) ≤ es.length - 1 - y ∧ HoldsE es (Been es.length k y) M ∧
        SkipY (fun b => (w2.heap.size ≤ b ∧ b < w3.heap.size) ∨ wm.heap.size ≤ b) w1.heap.size wr ta hs0 L ∧ SkipY (fun b => b < w2.heap.size ∨ (w3.heap.size ≤ b ∧ b < wm.heap.size)) w2.heap.size wr tb hs1 M ∧ Below w.heap.size w wr ∧ wm.heap.size ≤ wr.heap.size) (fun zv _ => (intOf zv + 1).toNat)
      case atStart => exact ⟨(es.length : Int) - 1, [], rfl, by omega, by omega, by simp, by simp, HoldsE.nil _ _ (fun m _ h => Been.start h), HA2.out, HB2.out, HBw.out, Nat.le_refl _⟩
      case round =>
        obtain ⟨y, M, rfl, hy1, hy2, hM1, hM2, hH2, hA3, hB3, hbw, hsm⟩ := hrel
        clear HA2 HB2 HBw
        have HA2 := Lib.hid hA3
        have HB2 := Lib.hid hB3
        have HBw := Lib.hid hbw
        have HH2 := Lib.hid hH2
        clear hA3 hB3 hbw hH2
        by_cases hy0 : 0 ≤ y
        · obtain ⟨yn, rfl⟩ : ∃ n : Nat, y = (n : Int) := ⟨y.toNat, by omega⟩
          have hyl : yn < es.length := by omega
          obtain ⟨r, hr⟩ : ∃ r, r = rot es.length k yn := ⟨_, rfl⟩
          have hrl : r < es.length := by rw [hr]; exact rot_lt hkl hyl
          have hrm : ((yn : Int) + (k : Int)) % (es.length : Int) = (r : Int) := by
            rw [hr, ← rot_mod hkl hyl]
            exact (Int.natCast_emod _ _).symm
          have HR := Lib.hid hr
          clear hr hy0
          have i5 : (0 : Int) ≤ (r : Int) := by omega
          have i6 : (r : Int) < (es.length : Int) := by omega
          obtain ⟨g', o', B3, n3, B4, n4, e1', e3', -, k0', k1', k2', k3', bk', bv'⟩ := rat_at HM.out HMS.out hrl
          cases e1'
          have keep : ∀ (q : Nat) (u : Value), w.cell? ⟨g', q, none⟩ = some u → wr.cell? ⟨g', q, none⟩ = some u := fun q u h => (HBw.out.cell (p := ⟨g', q, none⟩) e3').trans h
          have k0' := keep _ _ k0'
          have k1' := keep _ _ k1'
          have k2' := keep _ _ k2'
          have k3' := keep _ _ k3'
          have hK5 := Lib.hid (And.intro (bk'.lift (Nat.le_refl _) HBw.out) (bv'.lift (Nat.le_refl _) HBw.out))
          have hbg := Lib.hid (HB.out _ (List.getElem_mem hrl))
          have hgl : g' < wr.heap.size := World.block_lt_of_cell? wr _ k0'
          clear keep bk' bv'
          go_wp2_with fail
          refine (HB2.out.put (e := es[r]) (fun b hb => by omega) (by omega) hK5.out.1 hK5.out.2 HBw.out.size hbg.out.1 hbg.out.2).mono ?_
          rintro e w6 ⟨rfl, hB6, hc6⟩
          have hA6 := HA2.out.turn hc6 (fun b hb => by omega)
          have hs6 := hc6.size
          have hs2w : w.heap.size ≤ w2.heap.size := by omega
          have hbw6 : Below w.heap.size w w6 := HBw.out.trans (hc6.below HBw.out.size fun b hb hs => by have := hs.1; omega)
          have hL6 : (putL hs1 M es[r]).2.length ≤ M.length + 1 := putL_len hs1 M es[r]
          have hH6 := (HH2.out.put hs1 hrl (fun m hm hmq => by
            have hne := Been.new hkl hyl hmq
            rw [← HR.out] at hne
            rcases Nat.lt_or_gt_of_ne hne with h | h
            · exact HD.out r m hrl h hm hrl
            · exact fun hx => HD.out m r hm h hrl hm ⟨hx.1.symm, hx.2.symm⟩)).same (Q := Been es.length k ((yn : Int) - 1)) (fun m hm => by rw [HR.out]; exact Been.step hkl hyl m)
          have HALL := Lib.hid (And.intro hH6 (And.intro hA6 (And.intro hB6 hbw6)))
          clear hA6 hB6 hbw6 hH6 hc6 k0' k1' k2' k3' hrm
          go_wp2_with fail
          go_roundw
          case rel => exact ⟨(yn : Int) - 1, _, by go_num, by omega, by omega, by omega, by omega, HALL.out.1, HALL.out.2.1, HALL.out.2.2.1, HALL.out.2.2.2, by omega⟩
          case measure => first | (simp [intOf]; done) | (simp [intOf]; omega)
        · obtain rfl : y = -1 := by omega
          have hs2w : w.heap.size ≤ w2.heap.size := by omega
          have hTA : TabI w wr ta hs0 L := ⟨_, hs1', HA2.out.toL, HBw.out⟩
          have hTB : TabI w wr tb hs1 M := ⟨_, hs2w, HB2.out.toL, HBw.out⟩
          have hLM := HH.out.eq HH2.out (fun m hm => hm) (fun m hm => Been.all hkl hm)
          have HTA := Lib.hid hTA
          have HTB := Lib.hid hTB
          have HLM := Lib.hid hLM
          have hLl : L.length ≤ 200 := by omega
          have hMl : M.length ≤ 200 := by omega
          clear hTA hTB hLM HA2 HB2 HBw HH HH2 HD
          go_wp2_with fail
          refine (HTA.out.scan2 hLl 300 (by omega)).mono ?_
          rintro e w7 ⟨x, rfl, hx, hTA7, hb7⟩
          have hTB7 := HTB.out.old hb7
          clear HTA HTB
          have HTA := Lib.hid hTA7
          have HTB := Lib.hid hTB7
          have HX := Lib.hid hx
          clear hTA7 hTB7 hx hb7
          go_wp2_with fail
          refine (HTB.out.scan2 hMl 300 (by omega)).mono ?_
          rintro e w8 ⟨y, rfl, hy, hTB8, hb8⟩
          have hTA8 := HTA.out.old hb8
          have hx8 := HX.out.old hb8
          rw [← HLM.out] at hy
          clear HTA HTB HX
          have HTA := Lib.hid hTA8
          have HTB := Lib.hid hTB8
          have HX := Lib.hid hx8
          have HY := Lib.hid hy
          clear hTA8 hTB8 hx8 hy hb8
          go_wp2_with fail
          refine (law_same HX.out HY.out (by simp; omega)).mono ?_
          rintro e w9 ⟨rfl, hb9⟩
          have hTA9 := HTA.out.old hb9
          have hTB9 := HTB.out.old hb9
          clear HTA HTB HX HY
          have HTA := Lib.hid hTA9
          have HTB := Lib.hid hTB9
          have hlen : M.length = L.length := by
            have := congrArg List.length HLM.out
            simpa using this.symm
          have hbyt : bytesL M = bytesL L := by unfold bytesL; rw [HLM.out]
          have HLN := Lib.hid hlen
          have HBY := Lib.hid hbyt
          clear hTA9 hTB9 hb9 hlen hbyt
          go_wp2_with (first
            | (go_at_call 23; (first | ((with_reducible refine (TabI.len HTA.out).mono ?_); rintro e w11 ⟨rfl, rfl⟩) | ((with_reducible refine (TabI.len HTB.out).mono ?_); rintro e w11 ⟨rfl, rfl⟩; rw [HLN.out])))
            | (go_at_call 25; (first | ((with_reducible refine (TabI.bytes HTA.out).mono ?_); rintro e w11 ⟨rfl, rfl⟩) | ((with_reducible refine (TabI.bytes HTB.out).mono ?_); rintro e w11 ⟨rfl, rfl⟩; rw [HBY.out]))))
          go_ret
          exact ⟨rfl, HTA.out.bel⟩
end Go.Proofs.Ytpohhlddbdepcaa
