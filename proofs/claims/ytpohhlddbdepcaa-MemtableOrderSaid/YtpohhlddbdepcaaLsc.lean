/-
  The walk of the law's scan.
-/
import Derived.Test.YtpohhlddbdepcaaScn
import Derived.Test.YtpohhlddbdepcaaM
import Derived.Test.YtpohhlddbdepcaaPutD
namespace Go.Proofs.Ytpohhlddbdepcaa
open Go.RowKit Go.Shelf
attribute [local go_sem] Oper.semAt_some

theorem blk_four (W : World) (t : TypeId) (x0 x1 x2 x3 a b c d : Value) :
    Blk (((((W.alloc (.cells #[x0, x1, x2, x3] t)).setCell ⟨W.heap.size, 0, none⟩ a).setCell ⟨W.heap.size, 1, none⟩ b).setCell ⟨W.heap.size, 2, none⟩ c).setCell ⟨W.heap.size, 3, none⟩ d) W.heap.size t #[a, b, c, d] := by
  have h := ((((Blk.new W t #[x0, x1, x2, x3]).set_ 0 a).set_ 1 b).set_ 2 c).set_ 3 d
  simpa using h

theorem Blk.grown_own {w w' : World} {base : Nat} {e : TypeId} {size n : Nat} {v : Value} {xs : List Value} {g : Nat} {t : TypeId} {cs : Array Value} (hg : Blk w g t cs) (h : w.ownsRow base e size v n xs) (hne : e ≠ t) (hgr : w.grownBy w' v.ownBlock) : Blk w' g t cs := by
  refine hg.grown hgr fun he => ?_
  rcases own_blk_ne h hg hne with h | h
  · rw [h] at he; cases he
  · exact h he.symm

theorem own_isCells {w : World} {base : Nat} {e : TypeId} {size n : Nat} {v : Value} {xs : List Value} (h : w.ownsRow base e size v n xs) : ∀ (j : Nat) (o : Obj), v.ownBlock = some j → w.heap[j]? = some o → o.isCells = true := by
  intro j o hj ho
  rcases h.2 with ⟨rfl, _⟩ | ⟨g, cap, cur, rfl, _, hg, _⟩
  · simp [Value.ownBlock] at hj
  · have : g = j := by simpa [Value.ownBlock] using hj
    subst this
    rw [hg] at ho
    cases ho
    rfl
theorem BOwn.block {lo : Nat} {w : World} {v : Value} {l : List UInt8} (h : BOwn lo w v l) {b : Nat} (hb : v.ownBlock = some b) : lo ≤ b ∧ ∃ cs, Blk w b 5 cs := by
  rcases h with ⟨rfl, _⟩ | ⟨b', c, cs, rfl, _, h1, h2, _⟩
  · simp [Value.ownBlock] at hb
  · have : b' = b := by simpa [Value.ownBlock] using hb
    subst this
    exact ⟨h1, cs, h2⟩

/-- Between two rounds: the box of the bound, the box of what has come. -/
structure ScI (w : World) (es : List Ent) (most : Int) (k : Nat) (W : World) : Prop where
  box5 : Blk W w.heap.size 3 #[.int .i64 most]
  out : ∃ v cs, Blk W (w.heap.size + 1) 39 #[v] ∧ OutAt w.heap.size W v cs ∧ cs.length = k ∧ cs.map MEnt.e = es.take k
  bel : Below w.heap.size w W
theorem ScI.keep {w A A' : World} {es : List Ent} {most : Int} {k B : Nat} (h : ScI w es most k A) (hk : KeepC B A A') (hB : w.heap.size ≤ B) : ScI w es most k A' := by
  obtain ⟨v, cs, h1, h2, h3, h4⟩ := h.out
  exact ⟨hk.blk h.box5, ⟨v, cs, hk.blk h1, hk.out h2, h3, h4⟩, h.bel.trans (hk.bel.mono hB)⟩
theorem take_succ_ent {es : List Ent} {k : Nat} (h : k < es.length) : es.take (k + 1) = es.take k ++ [es[k]] := List.take_succ_eq_append_getElem h

set_option maxRecDepth 100000 in
set_option maxHeartbeats 4000000 in
theorem law_scan {lo B : Nat} {w : World} {t : Nat} {hs : List Int} {hv : Value} {hb xh : Nat} {ns : List SN} (hS : SkipAt lo w t hs hv hb xh ns) (hn : ns.length ≤ 100000) {fv : Value} {fr : List UInt8} (hf : BAt B w fv fr) (hB : B ≤ w.heap.size) (hfl : Big fr) (most : Int) (hm : 1 ≤ most) :
    Calls Try.prog 13 #[.pointer (some ⟨t, 0, none⟩), fv, .int .i64 most] w fun e w' => ∃ v cs, e = .returned v ∧ OutAt w.heap.size w' v cs ∧ cs.map MEnt.e = ((ns.drop (posOf SN.key SN.seq ns fr 4611686018427387905)).map SN.e).take most.toNat ∧ Below w.heap.size w w' := by
  obtain ⟨i0, hi0, hz0, hz1, hz2⟩ := info_parts Try_infoEn
  have HF := Lib.hid hf
  have HS := Lib.hid hS
  obtain ⟨af, cf, hfv⟩ := hf.slice
  subst hfv
  clear hf hS
  have hb0 : ∀ o o', Below w.heap.size w ((w.alloc o).alloc o') := fun o o' => (World.below_alloc (Nat.le_refl _) _).alloc (by simp) _
  refine (callsIn_wide (n := 6)).1 ?_
  refine callsIn_of_wp_marks Try.func13 rfl trivial ?_ rfl
  simp only [Try.ntmps13, List.size_toArray, List.length_cons, List.length_nil, Nat.reduceAdd, Nat.reduceSub, Array.replicate_succ, Array.replicate_zero, List.push_toArray, List.append_toArray, List.nil_append, List.cons_append]
  gi_wp2_with fail
  refine ⟨trivial, (callsIn_wide.2 (skip_Scan (HF.out.lift hB (hb0 _ _)) (by simp; omega) hfl)).mono ?_⟩
  rintro e w1 ⟨b2, b3, u, rfl, hB2, hB3, hu, hb1⟩
  have b5 := ((Blk.new w 3 #[.int .i64 most]).alloc (.cells #[.slice none 0 0] 39)).old hb1
  have b7 := (Blk.new_at (w.alloc (.cells #[.int .i64 most] 3)) (w.heap.size + 1) 39 #[.slice none 0 0] (by simp)).old hb1
  have hbw1 : Below w.heap.size w w1 := (hb0 _ _).trans (hb1.mono (by simp; omega))
  have hs1 := hb1.size
  simp only [World.size_alloc] at hs1
  have hseq := scan1_seq (n := 5) HS.out hn (by omega) hbw1 hB2 hB3 hu.reads
  have HSEQ := Lib.hid hseq
  have HB5 := Lib.hid b5
  have HB7 := Lib.hid b7
  have HBW1 := Lib.hid hbw1
  clear hseq b5 b7 hbw1 hB2 hB3 hu hb1 hb0
  gi_wp2_with fail
  have hlen : ((ns.drop (posOf SN.key SN.seq ns fr 4611686018427387905)).map SN.e).length = ns.length - posOf SN.key SN.seq ns fr 4611686018427387905 := by simp
  have hes : ((ns.drop (posOf SN.key SN.seq ns fr 4611686018427387905)).map SN.e).length ≤ 100000 := by rw [hlen]; omega
  generalize hES : (ns.drop (posOf SN.key SN.seq ns fr 4611686018427387905)).map SN.e = es at *
  have HES := Lib.hid hES
  clear hES
  generalize ns.length - posOf SN.key SN.seq ns fr 4611686018427387905 = N at *
  subst hlen
  refine range_rel (F := Fence.wide) (n := 6) rfl (by omega) (gf := 39) (lb := #[.pointer (some ⟨b2, 0, none⟩), .pointer (some ⟨b3, 0, none⟩)]) rfl trivial (enters_of Try.func39 (by kernel_rfl) rfl)
    HSEQ.out (Below.refl _ _) HBW1.out.size ?hps
    (fun k W => (k : Int) < most ∧ ScI w es most k W)
    (fun c k W => c = .exit 0 ∧ (k : Int) = most ∧ ScI w es most k W)
    (fun k a' W => ∃ (W0 : World) (b8 : Nat) (kv vv : Value) (hk : k < es.length), (k : Int) < most ∧ ScI w es most k W0 ∧ KeepC w1.heap.size W0 W ∧ w1.heap.size ≤ W0.heap.size ∧ W0.heap.size ≤ b8 ∧
      Blk W b8 32 #[kv, .int .u64 es[k].seq, .bool es[k].del, vv] ∧ BOwn W0.heap.size W kv es[k].key ∧ BOwn W0.heap.size W vv es[k].val ∧ OkE es[k] ∧
      a' = { tmps := #[.pointer (some ⟨t, 0, none⟩), .slice af fr.length cf, .int .i64 most, undef, undef, .pointer (some ⟨w.heap.size, 0, none⟩), .slice none 0 0, .pointer (some ⟨w.heap.size + 1, 0, none⟩), .pointer (some ⟨b8, 0, none⟩), undef, .pointer (some ⟨t, 0, none⟩), .slice af fr.length cf, .func (.func 39) #[] #[.pointer (some ⟨b2, 0, none⟩), .pointer (some ⟨b3, 0, none⟩)], .agg #[kv, .int .u64 es[k].seq, .bool es[k].del, vv], undef, undef, undef, undef, undef, undef, undef, undef, undef, undef, undef, undef, undef], defers := [] })
    ?hI ?hIx ?hAx ?h0 ?assign ?body ?done ?stop
  case hps =>
    rintro k xs W0 W ⟨_, kv, vv, rfl, _⟩
    rfl
  case hI =>
    rintro k A B' ⟨h1, h2⟩ hk
    exact ⟨h1, h2.keep hk HBW1.out.size⟩
  case hIx =>
    rintro c k A B' ⟨h0, h1, h2⟩ hk
    exact ⟨h0, h1, h2.keep hk HBW1.out.size⟩
  case hAx =>
    rintro k a' A B' ⟨W0, b8, kv, vv, hk, h1, h2, h3, h4, h5, h6, h7, h8, h9, h10⟩ hkc
    exact ⟨W0, b8, kv, vv, hk, h1, h2, h3.trans hkc, h4, h5, hkc.blk h6, hkc.bown h7, hkc.bown h8, h9, h10⟩
  case h0 => exact ⟨by omega, HB5.out, ⟨_, [], HB7.out, OutAt.nil _ _, rfl, rfl⟩, HBW1.out⟩
  case assign =>
    rintro l k xs W0 W K ⟨hi1, hi2⟩ hb01 hk ⟨hk', kv, vv, rfl, hkv, hvv, hok⟩ h10 hK
    obtain ⟨A1, c1, hA1⟩ := hkv.slice
    obtain ⟨A2, c2, hA2⟩ := hvv.slice
    subst hA1 hA2
    have HKC := Lib.hid (KeepC.of_below hb01 h10)
    have hs01 := hb01.size
    have hfin : ∀ a' W', Below W.heap.size W W' → Blk W' W.heap.size 32 #[.slice A1 es[k].key.length c1, .int .u64 es[k].seq, .bool es[k].del, .slice A2 es[k].val.length c2] →
        a' = { tmps := #[.pointer (some ⟨t, 0, none⟩), .slice af fr.length cf, .int .i64 most, undef, undef, .pointer (some ⟨w.heap.size, 0, none⟩), .slice none 0 0, .pointer (some ⟨w.heap.size + 1, 0, none⟩), .pointer (some ⟨W.heap.size, 0, none⟩), undef, .pointer (some ⟨t, 0, none⟩), .slice af fr.length cf, .func (.func 39) #[] #[.pointer (some ⟨b2, 0, none⟩), .pointer (some ⟨b3, 0, none⟩)], .agg #[.slice A1 es[k].key.length c1, .int .u64 es[k].seq, .bool es[k].del, .slice A2 es[k].val.length c2], undef, undef, undef, undef, undef, undef, undef, undef, undef, undef, undef, undef, undef], defers := [] } → K a' W' := fun a' W' hb hB e =>
      hK a' W' ((Chg.of_below (S := fun _ => False) hb).keeps.from _) (hb.mono (by have := hi2.bel.size; omega)) ⟨W0, W.heap.size, _, _, hk', hi1, hi2, HKC.out.trans (KeepC.of_below hb (by omega)), h10, hs01, hB, hkv.below hb, hvv.below hb, hok, e⟩
    have HFIN := Lib.hid hfin
    clear hfin hK hkv hvv hi2 hb01
    gi_wp2
    exact HFIN.out _ _ (World.below_alloc (Nat.le_refl _) _) (Blk.new _ _ _) rfl
  case body =>
    rintro l k a' W hkN ⟨W0, b8, kv, vv, hk, hkm, hI0, hKC, h10, hb8, hB8, hkv, hvv, hok, rfl⟩ hsz
    obtain ⟨v, cs, hv7, hout, hlen, hcs⟩ := hI0.out
    obtain ⟨A1, c1, hA1⟩ := hkv.slice
    obtain ⟨A2, c2, hA2⟩ := hvv.slice
    subst hA1 hA2
    obtain ⟨al, cl, hll⟩ := slice_of_row hout.row
    subst hll
    subst hlen
    have HI0 := Lib.hid hI0
    have HKC := Lib.hid hKC
    have HB8 := Lib.hid hB8
    have HV7 := Lib.hid hv7
    have HOUT := Lib.hid hout
    have HCS := Lib.hid hcs
    have HKV := Lib.hid hkv
    have HVV := Lib.hid hvv
    have HOK := Lib.hid hok
    have hkmR := hkv.reads
    have hvmR := hvv.reads
    have c8 := hB8.cells
    have l8 := hB8.lt
    have hsz0 := hI0.bel.size
    have hszW := hKC.bel.size
    clear hI0 hKC hB8 hv7 hout hcs hkv hvv hok
    gi_wp2_with fail
    refine ⟨trivial, (CallsIn.inRound l (callsIn_wide.2 (ref_Copy hkmR hvmR (Nat.le_refl _) (by have := HOK.out.key; unfold Big; omega) (by have := HOK.out.val; unfold Big; omega)))).mono ?_⟩
    rintro e w2 ⟨kc, vc, rfl, hkc, hvc, hb2⟩
    obtain ⟨Ak, cck, hAk⟩ := hkc.slice
    obtain ⟨Av, ccv, hAv⟩ := hvc.slice
    subst hAk hAv
    have hs2 := hb2.size
    have b7 := (HKC.out.blk HV7.out).old hb2
    have c7 := b7.cells
    have l7 := b7.lt
    have f7 := b7.free
    have c8' := (HB8.out.old hb2).cells
    have HB2 := Lib.hid hb2
    have HKC2 := Lib.hid hkc
    have HVC2 := Lib.hid hvc
    have HB7 := Lib.hid b7
    clear hkmR hvmR c8 hkc hvc hb2 b7
    gi_wp2_with (gi_at_builtin; refine Stop.of ?_)
    refine Stop.mk ?_
    have bel2 : Below w2.heap.size w2 (w2.alloc (.cells #[.slice Ak es[cs.length].key.length cck, .int .u64 es[cs.length].seq, .bool es[cs.length].del, .slice Av es[cs.length].val.length ccv] 32)) := World.below_alloc (Nat.le_refl _) _
    have bel23 : Below w2.heap.size w2 ((w2.alloc (.cells #[.slice Ak es[cs.length].key.length cck, .int .u64 es[cs.length].seq, .bool es[cs.length].del, .slice Av es[cs.length].val.length ccv] 32)).alloc (.cells #[.slice Ak es[cs.length].key.length cck, .int .u64 es[cs.length].seq, .bool es[cs.length].del, .slice Av es[cs.length].val.length ccv] 32)) := bel2.trans ((World.below_alloc (Nat.le_refl _) _).mono (by simp))
    have hout2 := (HKC.out.out HOUT.out).old HB2.out
    have hout3 := hout2.old bel2
    have hnew : RAt (w2.heap.size + 1 + 1) ((w2.alloc (.cells #[.slice Ak es[cs.length].key.length cck, .int .u64 es[cs.length].seq, .bool es[cs.length].del, .slice Av es[cs.length].val.length ccv] 32)).alloc (.cells #[.slice Ak es[cs.length].key.length cck, .int .u64 es[cs.length].seq, .bool es[cs.length].del, .slice Av es[cs.length].val.length ccv] 32)) (some ⟨w2.heap.size + 1, 0, none⟩) [.slice Ak es[cs.length].key.length cck, .int .u64 es[cs.length].seq, .bool es[cs.length].del, .slice Av es[cs.length].val.length ccv] := by
      have := RAt.fresh (w2.alloc (.cells #[.slice Ak es[cs.length].key.length cck, .int .u64 es[cs.length].seq, .bool es[cs.length].del, .slice Av es[cs.length].val.length ccv] 32)) 32 [.slice Ak es[cs.length].key.length cck, .int .u64 es[cs.length].seq, .bool es[cs.length].del, .slice Av es[cs.length].val.length ccv]
      simpa using this
    have hks : cs.length ≤ 100000 := by omega
    refine wpListIn_append_own _ rfl (.tmp 16) (.tmp 18) 39 rfl w.heap.size 32 i0 _ 4 64 Try.underlying39 hi0 hz0 hz1 hz2 rfl (by decide) _ cs.length _ rfl (hout3.row.alloc _) ⟨w2.heap.size + 1, 0, none⟩ 1 1 [.slice Ak es[cs.length].key.length cck, .int .u64 es[cs.length].seq, .bool es[cs.length].del, .slice Av es[cs.length].val.length ccv] rfl rfl
      hnew.cells (by simp [Value.oneCell']) (by unfold maxLen; omega) (by omega) (by simp; omega) ?_
    intro v1 w3 hown1 hg1 _
    have hout4 := OutAt.snoc (m := ⟨es[cs.length], 0, .slice Ak es[cs.length].key.length cck, .slice Av es[cs.length].val.length ccv⟩) hout3 (by simp; omega) hown1 rfl hg1 ((HKC2.out.below bel2).mono (by omega)) ((HVC2.out.below bel2).mono (by omega)) HOK.out
    have hrow3 := hout3.row.alloc (.cells #[.slice Ak es[cs.length].key.length cck, .int .u64 es[cs.length].seq, .bool es[cs.length].del, .slice Av es[cs.length].val.length ccv] 32)
    have grow : ∀ {g : Nat} {ty : TypeId} {cs' : Array Value}, Blk w2 g ty cs' → 32 ≠ ty → Blk w3 g ty cs' := fun h ht => (h.old bel23).grown_own hrow3 ht hg1
    have b73 := grow HB7.out (by decide)
    have b53 := grow ((HKC.out.blk HI0.out.box5).old HB2.out) (by decide)
    have b83 := ((HB8.out.old HB2.out).old bel23).grown hg1 (fun he => by have := (HOUT.out.row.lt b8 he.symm).2; omega)
    have kv3 := (HKV.out.below HB2.out).typed2 (fun b cs' _ h => grow h (by decide))
    have vv3 := (HVV.out.below HB2.out).typed2 (fun b cs' _ h => grow h (by decide))
    have hv0 : ∀ j, Value.ownBlock (.slice al cs.length cl) = some j → w.heap.size ≤ j := fun j hj => (hrow3.lt j hj).1
    have hwW : Below w.heap.size W w3 := ((HB2.out.mono (by omega)).trans (bel23.mono (by omega))).grown hg1 (by simp; omega) hv0
    have hkeep3 : KeepsOthers W w3 := ((Chg.of_below (S := fun _ => False) HB2.out).keeps.trans (Chg.of_below (S := fun _ => False) bel23).keeps).trans (KeepsOthers.of_grownBy hg1 (own_isCells hrow3))
    obtain ⟨al', cl', hv1⟩ := slice_of_row hown1
    subst hv1
    have far4 : ∀ {g : Nat} {ty : TypeId} {cs' : Array Value}, Blk w3 g ty cs' → ty ≠ 39 → Blk (w3.setCell ⟨w.heap.size + 1, 0, none⟩ (.slice al' (cs.length + 1) cl')) g ty cs' := fun h ht => h.far (p := ⟨w.heap.size + 1, 0, none⟩) (Blk.ne_ h b73 ht) _
    have b74 := b73.set_ 0 (.slice al' (cs.length + 1) cl')
    have b54 := far4 b53 (by decide)
    have b84 := far4 b83 (by decide)
    have kv4 := kv3.typed2 (fun b cs' _ h => far4 h (by decide))
    have vv4 := vv3.typed2 (fun b cs' _ h => far4 h (by decide))
    have hrow4 := own_setCell_far hout4.row b73 (by decide) 0 (.slice al' (cs.length + 1) cl')
    have hwW4 := hwW.setCell (p := ⟨w.heap.size + 1, 0, none⟩) (by simp) (.slice al' (cs.length + 1) cl')
    have hkeep4 := hkeep3.trans (KeepsOthers.setCell w3 ⟨w.heap.size + 1, 0, none⟩ (.slice al' (cs.length + 1) cl'))
    have c7 := b73.cells
    have l7 := b73.lt
    have f7 := b73.free
    have c8 := b83.cells
    have l8 := b83.lt
    have d78 : b8 ≠ w.heap.size + 1 := Blk.ne_ b83 b73 (by decide)
    -- what the mark may turn
    have hS4 : ∀ b, ((Value.slice A1 es[cs.length].key.length c1).ownBlock = some b ∨ (Value.slice A2 es[cs.length].val.length c2).ownBlock = some b) → W0.heap.size ≤ b ∧ b < W.heap.size ∧ ∃ cs', Blk (w3.setCell ⟨w.heap.size + 1, 0, none⟩ (.slice al' (cs.length + 1) cl')) b 5 cs' := by
      rintro b (h | h)
      · obtain ⟨h1, cs1, h2⟩ := HKV.out.block h
        exact ⟨h1, h2.lt, (kv4.block h).2⟩
      · obtain ⟨h1, cs1, h2⟩ := HVV.out.block h
        exact ⟨h1, h2.lt, (vv4.block h).2⟩
    have hfin : ∀ w5, Chg (fun b => (Value.slice A1 es[cs.length].key.length c1).ownBlock = some b ∨ (Value.slice A2 es[cs.length].val.length c2).ownBlock = some b) (w3.setCell ⟨w.heap.size + 1, 0, none⟩ (.slice al' (cs.length + 1) cl')) w5 →
        KeepsFrom w1.heap.size W w5 ∧ Below w.heap.size W w5 ∧ ScI w es most (cs.length + 1) w5 := fun w5 hch => by
      have keep5 : ∀ {g : Nat} {ty : TypeId} {cs' : Array Value}, Blk (w3.setCell ⟨w.heap.size + 1, 0, none⟩ (.slice al' (cs.length + 1) cl')) g ty cs' → ty ≠ 5 → Blk w5 g ty cs' := fun h ht => hch.blk h fun hs => by
        obtain ⟨_, _, cs'', h3⟩ := hS4 _ hs
        exact Blk.ne_ h h3 ht rfl
      have hb5 : Below w.heap.size W w5 := hwW4.trans (hch.below (by have := hwW4.size; omega) (fun b hb hs => by have := (hS4 b hs).1; omega))
      refine ⟨(hkeep4.trans hch.keeps).from _, hb5, keep5 b54 (by decide), ⟨_, cs ++ [⟨es[cs.length], 0, .slice Ak es[cs.length].key.length cck, .slice Av es[cs.length].val.length ccv⟩], keep5 b74 (by decide), ⟨?_, ?_⟩, by simp, ?_⟩, (HI0.out.bel.trans (HKC.out.bel.mono HBW1.out.size)).trans hb5⟩
      · refine hch.own hrow4 fun k hk hs => ?_
        obtain ⟨_, _, cs'', h3⟩ := hS4 _ hs
        rcases own_blk_ne hrow4 h3 (by decide) with h | h
        · rw [h] at hk; cases hk
        · exact h hk
      · intro m' hm'
        rcases List.mem_append.1 hm' with hm' | hm'
        · obtain ⟨h1, h2, h3⟩ := HOUT.out.each m' hm'
          have hold : ∀ b cs', w.heap.size ≤ b → Blk W0 b 5 cs' → Blk w5 b 5 cs' := fun b cs' _ h => hch.blk (far4 (grow ((HKC.out.blk h).old HB2.out) (by decide)) (by decide)) (fun hs => by have := (hS4 b hs).1; have := h.lt; omega)
          exact ⟨h1.typed2 hold, h2.typed2 hold, h3⟩
        · obtain rfl := List.mem_singleton.1 hm'
          have hnew5 : ∀ b cs', W.heap.size ≤ b → Blk w2 b 5 cs' → Blk w5 b 5 cs' := fun b cs' hb h => hch.blk (far4 (grow h (by decide)) (by decide)) (fun hs => by have := (hS4 b hs).2.1; omega)
          exact ⟨(HKC2.out.typed2 hnew5).mono (by omega), (HVC2.out.typed2 hnew5).mono (by omega), HOK.out⟩
      · rw [take_succ_ent hk, List.map_append, HCS.out]
        rfl
    have HFIN := Lib.hid hfin
    have HK4 := Lib.hid kv4
    have HV4 := Lib.hid vv4
    have HB54 := Lib.hid b54
    have HB74 := Lib.hid b74
    have HS4 := Lib.hid hS4
    clear hfin kv4 vv4 b54 b74 b84 hrow4 hwW4 hkeep4 hS4 far4 hkeep3 hwW hv0 kv3 vv3 b83 b53 b73 grow hrow3 hout4 hout3 hout2 hnew bel2 bel23 hown1 hg1 c8'
    gi_wp2_with fail
    refine ⟨trivial, (CallsIn.inRound l (callsIn_wide.2 (law_mark HK4.out HV4.out (by have := HOK.out.key; unfold Big; omega) (by have := HOK.out.val; unfold Big; omega)))).mono ?_⟩
    rintro e w5 ⟨rfl, hch⟩
    obtain ⟨g1, g2, g3⟩ := HFIN.out w5 hch
    have b75 := hch.blk HB74.out (fun hs => by
      obtain ⟨_, _, cs'', h3⟩ := HS4.out _ hs
      exact Blk.ne_ h3 HB74.out (by decide) rfl)
    have c75 : w5.cell? ⟨w.heap.size + 1, 0, none⟩ = some (.slice al' (cs.length + 1) cl') := by rw [b75.cells]; simp
    have c5 : w5.cell? ⟨w.heap.size, 0, none⟩ = some (.int .i64 most) := by rw [g3.box5.cells]; rfl
    have G1 := Lib.hid g1
    have G2 := Lib.hid g2
    have G3 := Lib.hid g3
    clear g1 g2 g3 b75 hch c7 l7 f7 c8 l8
    by_cases hge : most ≤ (cs.length : Int) + 1
    · gi_wp2_with fail
      exact ⟨G1.out, rfl, by omega, G3.out⟩
    · gi_wp2_with fail
      exact ⟨G1.out, G2.out, by omega, G3.out⟩
  case done =>
    rintro D W hD ⟨hlt, hI⟩ hK
    obtain ⟨v, cs, hv7, hout, hlen, hcs⟩ := hI.out
    have c7 : W.cell? ⟨w.heap.size + 1, 0, none⟩ = some v := by rw [hv7.cells]; rfl
    have HCS := Lib.hid hcs
    have HOUT := Lib.hid hout
    have HI := Lib.hid hI
    have HK := Lib.hid hK
    obtain ⟨al, cl, hll⟩ := slice_of_row hout.row
    rw [hlen] at hll
    subst hll
    clear hI hv7 hout hcs hK
    gi_wp2_with fail
    have hkc := KeepC.put (B := w1.heap.size) (o' := .deferred none) HK.out rfl hD
    refine ⟨by simp, .inl ⟨_, _, rfl, run_takeDeferred HK.out, ?_⟩⟩
    exact ⟨_, results_tmp rfl _ _ _, .slice al es.length cl, cs, rfl, hkc.out HOUT.out, by rw [HES.out, HCS.out, List.take_of_length_le (Nat.le_refl _), List.take_of_length_le (show es.length ≤ most.toNat by omega)], HI.out.bel.trans (hkc.bel.mono HBW1.out.size)⟩
  case stop =>
    rintro D c k W hD hk ⟨rfl, hke, hI⟩ hK
    obtain ⟨v, cs, hv7, hout, hlen, hcs⟩ := hI.out
    have c7 : W.cell? ⟨w.heap.size + 1, 0, none⟩ = some v := by rw [hv7.cells]; rfl
    have HCS := Lib.hid hcs
    have HOUT := Lib.hid hout
    have HI := Lib.hid hI
    have HK := Lib.hid hK
    obtain ⟨al, cl, hll⟩ := slice_of_row hout.row
    rw [hlen] at hll
    subst hll
    clear hI hv7 hout hcs hK
    gi_wp2_with fail
    have hkc := KeepC.put (B := w1.heap.size) (o' := .deferred none) HK.out rfl hD
    refine ⟨by simp, .inl ⟨_, _, rfl, run_takeDeferred HK.out, ?_⟩⟩
    exact ⟨_, results_tmp rfl _ _ _, .slice al k cl, cs, rfl, hkc.out HOUT.out, by rw [HES.out, HCS.out, show most.toNat = k from by omega], HI.out.bel.trans (hkc.bel.mono HBW1.out.size)⟩
end Go.Proofs.Ytpohhlddbdepcaa
