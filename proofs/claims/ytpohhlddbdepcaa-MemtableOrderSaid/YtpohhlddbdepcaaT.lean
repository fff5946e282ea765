/-
  The walk of the reference's Put.
-/
import Derived.Test.YtpohhlddbdepcaaS
namespace Go.Proofs.Ytpohhlddbdepcaa
open Go.RowKit

theorem RAt.of_row {w : World} {base : Nat} {e : TypeId} {size : Nat} {al : Option Addr} {n c : Nat} {xs : List Value} (h : w.ownsRow base e size (.slice al n c) n xs) : RAt w.heap.size w al xs := by
  rcases h.2 with ⟨hv, h0⟩ | ⟨g, cap, cur, hv, hlo, hg, hc, hm, hsz, ht⟩
  · cases hv
    have : xs = [] := List.eq_nil_of_length_eq_zero (by have := h.1; rw [h0] at this; simpa using this)
    subst this
    intro j hj; simp at hj
  · cases hv
    intro j hj
    refine ⟨g, 0, rfl, lt_of_heap hg, ?_⟩
    rw [cell_of_row w g _ cur e (0, 0) hg]
    have := getElem?_of_take ht (List.getElem?_eq_getElem hj)
    simpa using this
theorem RAt.prefix {B : Nat} {w : World} {a : Option Addr} {xs : List Value} (h : RAt B w a xs) (n : Nat) : RAt B w a (xs.take n) := fun j hj => by
  obtain ⟨b, o, ha, hb, hc⟩ := h j (by simp at hj; omega)
  exact ⟨b, o, ha, hb, by rw [hc]; simp⟩
theorem RAt.suffix {B : Nat} {w : World} {b o : Nat} {xs : List Value} (h : RAt B w (some ⟨b, o, none⟩) xs) (n : Nat) : RAt B w (some ⟨b, o + n, none⟩) (xs.drop n) := fun j hj => by
  obtain ⟨b', o', ha, hb, hc⟩ := h (n + j) (by simp at hj; omega)
  cases ha
  exact ⟨_, _, rfl, hb, by rw [Nat.add_assoc, hc]; simp⟩
theorem flat_take {α : Type} (f : α → List Value) (k : Nat) (hf : ∀ a, (f a).length = k) : ∀ (l : List α) (p : Nat), (l.take p).flatMap f = (l.flatMap f).take (p * k)
  | [], p => by simp
  | a :: l, 0 => by simp
  | a :: l, p + 1 => by
    rw [List.take_succ_cons, List.flatMap_cons, List.flatMap_cons, flat_take f k hf l p, Nat.add_mul, Nat.one_mul, Nat.add_comm, ← hf a, List.take_length_add_append]
theorem flat_drop {α : Type} (f : α → List Value) (k : Nat) (hf : ∀ a, (f a).length = k) : ∀ (l : List α) (p : Nat), (l.drop p).flatMap f = (l.flatMap f).drop (p * k)
  | [], p => by simp
  | a :: l, 0 => by simp
  | a :: l, p + 1 => by
    rw [List.drop_succ_cons, List.flatMap_cons, flat_drop f k hf l p, Nat.add_mul, Nat.one_mul, Nat.add_comm, ← hf a, List.drop_length_add_append]

theorem MEnt.one (m : MEnt) (hk : m.kv.oneCell' = true) (hv : m.vv.oneCell' = true) : ∀ u ∈ m.cells, u.oneCell' = true := by
  intro u hu
  simp [MEnt.cells] at hu
  rcases hu with rfl | rfl | rfl | rfl | rfl
  · exact hk
  · rfl
  · rfl
  · exact hv
  · rfl
theorem val_int {k : IntKind} {a b : Int} (h : a = b) : Value.int k a = Value.int k b := by rw [h]
set_option maxHeartbeats 1000000 in
theorem ref_Put_twice {lo B : Nat} {w : World} {t : Nat} {hs : List Int} {hv lv : Value} {ms : List MEnt} (hR : RefAt lo w t hs hv lv ms) (hn : ms.length ≤ 100000) {kv vv : Value} {s : Int} {d : Bool} {k v : List UInt8} (hk : BAt B w kv k) (hvv : BAt B w vv v) (hB : B ≤ w.heap.size) (hkl : Big k) (hvl : Big v)
    (hm : mayB k s d v = true) (hi : isAt ms k s = true) :
    Calls Try.prog 22 #[.pointer (some ⟨t, 0, none⟩), .agg #[kv, .int .u64 s, .bool d, vv]] w fun e w' => e = .returned (.int .i64 51) ∧ Below w.heap.size w w' := by
  have H1 := Lib.hid hk
  have H2 := Lib.hid hvv
  obtain ⟨ak, ck, hkv⟩ := hk.slice
  obtain ⟨av, cv, hvv'⟩ := hvv.slice
  subst hkv hvv'
  clear hk hvv
  have hb0 : ∀ o, Below w.heap.size w (w.alloc o) := fun o => World.below_alloc (Nat.le_refl _) o
  go_enter Try.func22, Try.ntmps22
  go_wp2_with fail
  refine (ref_May (H1.out.lift hB (hb0 _)) (H2.out.lift hB (hb0 _)) hkl hvl).mono ?_
  rintro e w1 ⟨rfl, hb⟩
  rw [hm]
  have hbw : Below w.heap.size w w1 := (hb0 _).trans (hb.mono (by simp))
  have bX : Blk w1 w.heap.size _ _ := (Blk.new w _ _).old hb
  have hcX := bX.cells
  have hs1 : w.heap.size + 1 ≤ w1.heap.size := by have := hb.size; simpa using this
  clear hb hb0 hm
  go_wp2_with fail
  refine (ref_place (hR.old hbw) hn (H1.out.lift hB hbw) (by omega) hkl _ _ _).mono ?_
  rintro e w2 ⟨rfl, hb⟩
  rw [hi]
  have hbw2 : Below w.heap.size w w2 := hbw.trans (hb.mono (by omega))
  clear hb hi
  go_wp2_with fail
  go_ret
  exact ⟨rfl, hbw2⟩

set_option maxHeartbeats 2000000 in
theorem ref_Put_ok {lo B : Nat} {w : World} {t : Nat} {hs : List Int} {hv lv : Value} {ms : List MEnt} (hR : RefAt lo w t hs hv lv ms) (hn : ms.length ≤ 100000) {kv vv : Value} {s : Int} {d : Bool} {k v : List UInt8} (hk : BAt B w kv k) (hvv : BAt B w vv v) (hB : B ≤ w.heap.size) (hkl : Big k) (hvl : Big v)
    (hm : mayB k s d v = true) (hi : isAt ms k s = false) :
    Calls Try.prog 22 #[.pointer (some ⟨t, 0, none⟩), .agg #[kv, .int .u64 s, .bool d, vv]] w fun e w' => e = .returned (.int .i64 0) ∧
      (∃ lv' kv' vv', (BOwn w.heap.size w' kv' k ∧ BOwn w.heap.size w' vv' v) ∧ RefAt lo w' t hs hv lv' (putAt ms (posOf MEnt.key MEnt.seq ms k s) ⟨⟨k, s, d, v⟩, hOf hs ms.length, kv', vv'⟩)) ∧ Chg (fun b => b = t) w w' := by
  obtain ⟨i0, hi0, hz0, hz1, hz2⟩ := info_parts Try_infoRN
  have H1 := Lib.hid hk
  have H2 := Lib.hid hvv
  obtain ⟨ak, ck, hkv⟩ := hk.slice
  obtain ⟨av, cv, hvv'⟩ := hvv.slice
  subst hkv hvv'
  clear hk hvv
  have hb0 : ∀ o, Below w.heap.size w (w.alloc o) := fun o => World.below_alloc (Nat.le_refl _) o
  go_enter Try.func22, Try.ntmps22
  go_wp2_with fail
  refine (ref_May (H1.out.lift hB (hb0 _)) (H2.out.lift hB (hb0 _)) hkl hvl).mono ?_
  rintro e w1 ⟨rfl, hb⟩
  rw [hm]
  have hmo : OkE ⟨k, s, d, v⟩ := hm
  have hbw : Below w.heap.size w w1 := (hb0 _).trans (hb.mono (by simp))
  have bX : Blk w1 w.heap.size _ _ := (Blk.new w _ _).old hb
  have hcX := bX.cells
  have hs1 : w.heap.size + 1 ≤ w1.heap.size := by have := hb.size; simpa using this
  clear hb hb0 hm
  go_wp2_with fail
  refine (ref_place (hR.old hbw) hn (H1.out.lift hB hbw) (by omega) hkl _ _ _).mono ?_
  rintro e w2 ⟨rfl, hb⟩
  rw [hi]
  have hbw2 : Below w.heap.size w w2 := hbw.trans (hb.mono (by omega))
  have hs2 := hb.size
  have bX2 := bX.old hb
  clear hb hcX
  have hcX := bX2.cells
  have hR2 := hR.old hbw2
  have hcT := hR2.tbl.cells
  obtain ⟨ah, ch, hhv⟩ := slice_of_row hR.hrow
  obtain ⟨al, cl, hlv⟩ := slice_of_row hR.lrow
  subst hhv hlv
  go_upto_if 27 with fail
  go_cut [8] (fun sh wc => sh = .int .i64 (hOf hs ms.length : Nat) ∧ Below w.heap.size w wc ∧ Blk wc w.heap.size 32 #[.slice ak k.length ck, .int .u64 s, .bool d, .slice av v.length cv] ∧ w.heap.size < wc.heap.size)
  case first =>
    by_cases hh : hs.length = 0
    · have hh1 : (decide (0 < hs.length)) = false := by simp [hh]
      have HH := Lib.hid hh
      have hh2 : hs.length ≤ 0 := by omega
      clear hh
      go_wp2_with fail
      go_meet
      case rel => exact ⟨by simp [hOf, HH.out], hbw2, bX2, by omega⟩
    · obtain ⟨gh, ch', hA, hch, hcell⟩ := IAtRow hR2.hrow (Nat.mod_lt ms.length (by omega))
      cases hA
      have hz : (hOf hs ms.length : Int) = min 12 (max 1 (hs.getD (ms.length % hs.length) 0)) := by unfold hOf; rw [if_neg hh]; omega
      have HZ := Lib.hid hz
      clear hz
      generalize hs.getD (ms.length % hs.length) 0 = z at *
      have hh1 : (0 : Int) < (hs.length : Int) := by omega
      obtain ⟨q, hq⟩ : ∃ q : Nat, q = ms.length % hs.length := ⟨_, rfl⟩
      have hqi : (ms.length : Int) % (hs.length : Int) = (q : Int) := by rw [hq]; omega
      rw [← hq] at hcell
      have hq1 : (0:Int) ≤ (q : Int) := by omega
      have hq2 : (q : Int) < (hs.length : Int) := by have := Nat.mod_lt ms.length (show hs.length > 0 by omega); omega
      clear hq
      go_wp2_with fail
      go_quiet (fail)
      go_wp2_with fail
      all_goals
        go_meet
        case rel => exact ⟨val_int (by rw [HZ.out]; omega), below_drewN hbw2 _, bX2.drewN _, by simp; omega⟩
  case rest =>
    obtain ⟨rfl, hbc, bXc, hsc⟩ := hcut
    have hRc := hR.old hbc
    have hcTc := hRc.tbl.cells
    have hcXc := bXc.cells
    have htl := hRc.tbl.lt
    clear hcT hcX bX2 hbw2 hR2 bX hbw hs2 hs1
    go_wp2_with fail
    refine (ref_Copy (H1.out.lift hB hbc) (H2.out.lift hB hbc) (by omega) hkl hvl).mono ?_
    rintro e w3 ⟨kc, vc, rfl, hkc, hvc, hb3⟩
    have hbw3 := hbc.trans (hb3.mono (by omega))
    have hs3 := hb3.size
    have hR3 := hRc.old hb3
    have bX3 := bXc.old hb3
    obtain ⟨Ak, cck, hAk⟩ := hkc.slice
    obtain ⟨Av, ccv, hAv⟩ := hvc.slice
    subst hAk hAv
    clear hcTc hcXc bXc hRc
    have hcT := hR3.tbl.cells
    have htl3 : t < w3.heap.size := by omega
    have hple := posOf_le MEnt.key MEnt.seq ms k s
    have hclr : ms.length ≤ cl := by
      rcases hR.lrow.2 with ⟨hv0, h0⟩ | ⟨g, cap, cur, hlv, hlo, hg, hc, rest⟩
      · omega
      · cases hlv; exact hc
    have hput : RefAt lo w3 t hs (.slice ah hs.length ch) (.slice al ms.length cl) ms := hR3
    have hno := hi
    generalize hpp : posOf MEnt.key MEnt.seq ms k s = p at *
    have HPP := Lib.hid hpp
    have hno' : ∀ x : MEnt, MEnt.key x = k → MEnt.seq x = s → ∀ (hp : posOf MEnt.key MEnt.seq ms (MEnt.key x) (MEnt.seq x) < ms.length), ¬ (MEnt.key (ms[posOf MEnt.key MEnt.seq ms (MEnt.key x) (MEnt.seq x)]) = MEnt.key x ∧ MEnt.seq (ms[posOf MEnt.key MEnt.seq ms (MEnt.key x) (MEnt.seq x)]) = MEnt.seq x) := by
      rintro x rfl rfl hp ⟨e1, e2⟩
      unfold isAt at hno
      rw [List.getElem?_eq_getElem hp] at hno
      simp only [decide_eq_false_iff_not] at hno
      exact hno ⟨e1, e2⟩
    have HNO := Lib.hid (hno' ⟨⟨k, s, d, v⟩, hOf hs ms.length, .slice Ak k.length cck, .slice Av v.length ccv⟩ rfl rfl)
    clear hpp hput hno hno'
    go_wp2_with (at_builtin; refine Stop.of ?_)
    refine Stop.mk ?_
    have hrow3 := RAt.of_row hR3.lrow
    have hone : ∀ l : List MEnt, (∀ m ∈ l, m ∈ ms) → ∀ u ∈ l.flatMap MEnt.cells, u.oneCell' = true := by
      intro l hl u hu
      obtain ⟨m, hm, hum⟩ := List.mem_flatMap.1 hu
      obtain ⟨h1, h2, _⟩ := hR.each m (hl m hm)
      obtain ⟨a1, c1, e1⟩ := h1.slice
      obtain ⟨a2, c2, e2⟩ := h2.slice
      exact MEnt.one m (by rw [e1]; rfl) (by rw [e2]; rfl) u hum
    have hlo : lo ≤ w3.heap.size := by have := hR.base; omega
    have hrow4 := (hrow3.lift (Nat.le_refl _) (World.below_alloc (Nat.le_refl _) (.cells #[.slice Ak k.length cck, .int .u64 s, .bool d, .slice Av v.length ccv] 32))).prefix (p * 5)
    rw [← flat_take MEnt.cells 5 MEnt.cells_len] at hrow4
    refine wpList_append_src _ rfl (.tmp 49) (.tmp 55) 60 rfl lo 70 i0 _ 5 72 Try.underlying60 hi0 hz0 hz1 hz2 rfl (by decide) (.slice none 0 0) 0 [] rfl (World.ownsRow_nil _ _ _ _) w3.heap.size al p cl ((ms.take p).flatMap MEnt.cells) rfl
      (by rw [flat_length MEnt.cells 5 MEnt.cells_len, List.length_take]; congr 1; omega) hrow4 (hone _ fun m hm => List.mem_of_mem_take hm) (by unfold maxLen; omega) (by omega) (by simp; omega) ?_
    intro v1 w4 hown1 hg1 hat1
    simp only [Nat.zero_add, List.nil_append] at hown1
    have hb4 := below_of_grown_none hg1
    have hs4 : w3.heap.size + 1 ≤ w4.heap.size := by have := hb4.size; simpa using this
    have hbw4 := hbw3.trans (((World.below_alloc (Nat.le_refl _) _).trans (hb4.mono (by simp))).mono (show w.heap.size ≤ w3.heap.size by omega))
    have bN := (Blk.new w3 32 #[.slice Ak k.length cck, .int .u64 s, .bool d, .slice Av v.length ccv]).old hb4
    have hR4 := hR.old hbw4
    have h34 : Below w3.heap.size w3 w4 := (World.below_alloc (Nat.le_refl _) _).trans (hb4.mono (by simp))
    have hv1 : ∀ k, v1.ownBlock = some k → w3.heap.size + 1 ≤ k := by
      intro k hk
      rcases hat1 with h | h
      · rw [h] at hk; simp [Value.ownBlock] at hk
      · rw [h] at hk; simp at hk; omega
    have htl4 : t < w4.heap.size := by omega
    have hnl4 : w3.heap.size < w4.heap.size := by omega
    clear hcT hg1 hat1 hb4 hrow3 hrow4 hb3
    have hcT := hR4.tbl.cells
    have hcN := bN.cells
    have hfN := bN.free
    go_wp2_with (at_builtin; refine Stop.of ?_)
    refine Stop.mk ?_
    have hnew : RAt (w4.heap.size + 1) (w4.alloc (.cells #[.slice Ak k.length cck, .int .u64 s, .bool d, .slice Av v.length ccv, .int .i64 (hOf hs ms.length : Nat)] 70)) (some ⟨w4.heap.size, 0, none⟩)
        [.slice Ak k.length cck, .int .u64 s, .bool d, .slice Av v.length ccv, .int .i64 (hOf hs ms.length : Nat)] := fun j hj => by
      refine ⟨_, _, rfl, by omega, ?_⟩
      rw [(Blk.new _ _ _).cells]
      simp [List.getElem?_eq_getElem hj]
    refine wpList_append_src _ rfl (.tmp 57) (.tmp 61) 60 rfl lo 70 i0 _ 5 72 Try.underlying60 hi0 hz0 hz1 hz2 rfl (by decide) v1 p _ rfl (hown1.alloc _) (w4.heap.size + 1) (some ⟨w4.heap.size, 0, none⟩) 1 1 _ rfl
      rfl hnew (by simp [Value.oneCell']) (by unfold maxLen; omega) (by omega) (by simp; omega) ?_
    intro v2 w5 hown2 hg2 hat2
    have h45 : Below (w3.heap.size + 1) w4 w5 := ((Below.refl _ _).alloc hs4 _).grown hg2 (by simp; omega) hv1
    have h35 : Below w3.heap.size w3 w5 := h34.trans (h45.mono (by omega))
    have hs5 : w4.heap.size + 1 ≤ w5.heap.size := by have := hg2.size; simpa using this
    have hbw5 := hbw3.trans (h35.mono (show w.heap.size ≤ w3.heap.size by omega))
    have hR5 := hR.old hbw5
    have hv2 : ∀ k, v2.ownBlock = some k → w3.heap.size + 1 ≤ k := by
      intro k hk
      rcases hat2 with h | h
      · rw [h] at hk; exact hv1 k hk
      · rw [h] at hk; simp at hk; omega
    have htl5 : t < w5.heap.size := by omega
    clear hcT hcN hfN hg2 hat2 hv1 bN hR4 hnew hown1 h34 h45
    have hcT := hR5.tbl.cells
    have hfT := hR5.tbl.free
    obtain ⟨A5, hsl, hA5⟩ := slice_from (P := Try.prog) 60 70 i0 5 Try.underlying60 hi0 hz1 (by decide) al ms.length cl p hple hclr
    have HA5 := Lib.hid hA5
    clear hA5
    go_wp2_with (at_builtin; refine Stop.of ?_)
    refine Stop.mk ?_
    have hrow5 := HA5.out _ _ _ (RAt.of_row hR5.lrow) (flat_length MEnt.cells 5 MEnt.cells_len ms)
    rw [← flat_drop MEnt.cells 5 MEnt.cells_len] at hrow5
    refine wpList_append_src _ rfl (.tmp 64) (.tmp 70) 60 rfl lo 70 i0 _ 5 72 Try.underlying60 hi0 hz0 hz1 hz2 rfl (by decide) v2 (p + 1) _ rfl hown2 w5.heap.size A5 (ms.length - p) (cl - p) ((ms.drop p).flatMap MEnt.cells) rfl
      (by rw [flat_length MEnt.cells 5 MEnt.cells_len, List.length_drop]) hrow5 (hone _ fun m hm => List.mem_of_mem_drop hm) (by unfold maxLen; omega) (by omega) (by omega) ?_
    intro v3 w6 hown3 hg3 hat3
    have h56 : Below (w3.heap.size + 1) w5 w6 := (Below.refl _ _).grown hg3 (by omega) hv2
    have h36 : Below w3.heap.size w3 w6 := h35.trans (h56.mono (by omega))
    have hbw6 := hbw3.trans (h36.mono (show w.heap.size ≤ w3.heap.size by omega))
    have hR6 := hR.old hbw6
    have hs6 : w5.heap.size ≤ w6.heap.size := hg3.size
    have hkc6 := hkc.below h36
    have hvc6 := hvc.below h36
    have htl6 : t < w6.heap.size := by omega
    have bT := hR6.tbl
    have hfin : RefAt lo (w6.setCell ⟨t, 1, none⟩ v3) t hs (.slice ah hs.length ch) v3 (putAt ms p ⟨⟨k, s, d, v⟩, hOf hs ms.length, .slice Ak k.length cck, .slice Av v.length ccv⟩) := by
      have hone1 := Chg.setCell1 (fun b => b = t) w6 (p := ⟨t, 1, none⟩) rfl v3
      have hn1 : ∀ {v : Value} {l : List UInt8} {L : Nat}, BOwn L w6 v l → BOwn L (w6.setCell ⟨t, 1, none⟩ v3) v l := by
        intro v l L h
        rcases h with h | ⟨b, c, cs, rfl, h1, h2, h3, h4⟩
        · exact .inl h
        · exact .inr ⟨b, c, cs, rfl, h1, h2, (hone1.block b (lt_of_heap h3) (Blk.ne_ (t := 5) h3 bT (by decide))).trans h3, h4⟩
      refine ⟨bT.set_ 1 v3, hR.base, own_setCell_far hR6.hrow bT (by decide) _ _, ?_, ?_, ?_⟩
      · have := own_setCell_far hown3 bT (by decide) 1 v3
        have e1 : (putAt ms p ⟨⟨k, s, d, v⟩, hOf hs ms.length, .slice Ak k.length cck, .slice Av v.length ccv⟩).length = p + 1 + (ms.length - p) := by rw [putAt_length _ _ hple]; omega
        rw [e1]
        simpa [putAt, MEnt.cells] using this
      · intro m hm
        rcases List.mem_append.1 hm with hm | hm
        · obtain ⟨h1, h2, h3⟩ := hR6.each m (List.mem_of_mem_take hm)
          exact ⟨hn1 h1, hn1 h2, h3⟩
        · rcases List.mem_cons.1 hm with rfl | hm
          · exact ⟨(hn1 hkc6).mono (by have := hR.base; omega), (hn1 hvc6).mono (by have := hR.base; omega), hmo⟩
          · obtain ⟨h1, h2, h3⟩ := hR6.each m (List.mem_of_mem_drop hm)
            exact ⟨hn1 h1, hn1 h2, h3⟩
      · have := hR.order.put (x := (⟨⟨k, s, d, v⟩, hOf hs ms.length, .slice Ak k.length cck, .slice Av v.length ccv⟩ : MEnt)) (HNO.out)
        rw [show posOf MEnt.key MEnt.seq ms (MEnt.key ⟨⟨k, s, d, v⟩, hOf hs ms.length, .slice Ak k.length cck, .slice Av v.length ccv⟩) (MEnt.seq ⟨⟨k, s, d, v⟩, hOf hs ms.length, .slice Ak k.length cck, .slice Av v.length ccv⟩) = p from HPP.out] at this
        exact this
    have hchg : Chg (fun b => b = t) w (w6.setCell ⟨t, 1, none⟩ v3) := (Chg.of_below (S := fun b => b = t) hbw6).setCell (p := ⟨t, 1, none⟩) (.inl rfl) v3
    obtain ⟨A3, c3, hA3⟩ := slice_of_row hown3
    subst hA3
    have HF := Lib.hid hfin
    have HC := Lib.hid hchg
    have hown6 : ∀ {L : Nat} {v : Value} {l : List UInt8}, BOwn L w6 v l → BOwn L (w6.setCell ⟨t, 1, none⟩ (.slice A3 (p + 1 + (ms.length - p)) c3)) v l := by
      intro L v l h
      rcases h with h | ⟨b, c, cs, rfl, h1, h2, h3, h4⟩
      · exact .inl h
      · exact .inr ⟨b, c, cs, rfl, h1, h2, (Blk.far (t := 5) h3 (p := ⟨t, 1, none⟩) (Blk.ne_ (t := 5) h3 bT (by decide)) _), h4⟩
    have HO := Lib.hid (And.intro ((hown6 hkc6).mono (Nat.le_of_lt hsc)) ((hown6 hvc6).mono (Nat.le_of_lt hsc)))
    clear hown6
    clear hcT hfT hsl hown2 hown3 hg3 hat3 hv2 hR5 hR6 h35 h56 h36 hkc6 hvc6 hfin hchg hrow5
    have hcT := bT.cells
    have hfT := bT.free
    clear bT
    go_wp2_with fail
    go_ret
    have hex : ∀ W lv', (BOwn w.heap.size W (.slice Ak k.length cck) k ∧ BOwn w.heap.size W (.slice Av v.length ccv) v) → RefAt lo W t hs (.slice ah hs.length ch) lv' (putAt ms p ⟨⟨k, s, d, v⟩, hOf hs ms.length, .slice Ak k.length cck, .slice Av v.length ccv⟩) →
        ∃ lv' kv' vv', (BOwn w.heap.size W kv' k ∧ BOwn w.heap.size W vv' v) ∧ RefAt lo W t hs (.slice ah hs.length ch) lv' (putAt ms (posOf MEnt.key MEnt.seq ms k s) ⟨⟨k, s, d, v⟩, hOf hs ms.length, kv', vv'⟩) := fun W lv' ho h =>
      ⟨lv', .slice Ak k.length cck, .slice Av v.length ccv, ho, by rw [HPP.out]; exact h⟩
    exact ⟨rfl, hex _ _ HO.out HF.out, HC.out⟩
end Go.Proofs.Ytpohhlddbdepcaa
