/-
  The walk of the skiplist's search.
-/
import Derived.Test.YtpohhlddbdepcaaK
import Derived.Test.YtpohhlddbdepcaaF
import Derived.WalkMore
import Derived.ScopeJumps
import Derived.Deep.MidRow
namespace Go.Proofs.Ytpohhlddbdepcaa
open Go.RowKit

theorem twelve {cs : Array Value} (h : cs.size = 12) : ∃ c0 c1 c2 c3 c4 c5 c6 c7 c8 c9 c10 c11, cs = #[c0, c1, c2, c3, c4, c5, c6, c7, c8, c9, c10, c11] := by
  obtain ⟨l⟩ := cs
  match l, h with
  | [c0, c1, c2, c3, c4, c5, c6, c7, c8, c9, c10, c11], _ => exact ⟨c0, c1, c2, c3, c4, c5, c6, c7, c8, c9, c10, c11, rfl⟩

/-- What the search hands back. -/
def PlacePost (ns : List SN) (hb p : Nat) (e : Ending) : Prop :=
  ∃ cs : Array Value, cs.size = 12 ∧ e = .returned (.tuple #[.agg cs, .int .i64 (stepsOf (ns.map SN.h) p 12 0 : Nat)]) ∧ ∀ j, j < 12 → ∃ q, IsBp ns p j q ∧ cs[j]? = some ((.pointer (some ⟨nbOf hb ns q, 0, none⟩)))

section
variable {ns : List SN} {p i q : Nat}
theorem hts_get {k : Nat} (h : k < ns.length) (h2 : k < (ns.map SN.h).length) : (ns.map SN.h)[k] = ns[k].h := List.getElem_map _
theorem lvl_to (m : Nat) (hm : m ≤ ns.length) (hqm : q ≤ m) (hb : ∀ j (hj : j < ns.length), q ≤ j → j < m → ns[j].h ≤ i) : lvl i p ((ns.map SN.h).drop q) q q = lvl i p ((ns.map SN.h).drop m) m q := by
  have := lvl_skips (i := i) (e := p) (hts := ns.map SN.h) (p := q) (m - q) q (fun j hj h1 h2 => by
    rw [hts_get (by simpa using hj)]
    exact hb j (by simpa using hj) h1 (by omega))
  rw [this]
  congr 2 <;> omega
theorem steps_none (hq : q ≤ ns.length) (hall : ∀ k (h : k < ns.length), q ≤ k → ns[k].h ≤ i) : stepsOf (ns.map SN.h) p (i + 1) q = stepsOf (ns.map SN.h) p i q := by
  rw [stepsOf, lvl_to ns.length (Nat.le_refl _) hq (fun j hj h1 _ => hall j hj h1), lvl_end (by rw [List.length_map]; exact Nat.le_refl _)]
  simp
theorem steps_stop {m : Nat} (hm : m < ns.length) (hqm : q ≤ m) (hb : ∀ j (hj : j < ns.length), q ≤ j → j < m → ns[j].h ≤ i) (hi : i < ns[m].h) (hp : p ≤ m) : stepsOf (ns.map SN.h) p (i + 1) q = 1 + stepsOf (ns.map SN.h) p i q := by
  rw [stepsOf, lvl_to m (by omega) hqm hb, lvl_stop (by simpa using hm) (by rw [hts_get hm]; omega) hp]
theorem steps_move {m : Nat} (hm : m < ns.length) (hqm : q ≤ m) (hb : ∀ j (hj : j < ns.length), q ≤ j → j < m → ns[j].h ≤ i) (hi : i < ns[m].h) (hp : ¬ p ≤ m) : stepsOf (ns.map SN.h) p (i + 1) q = 1 + stepsOf (ns.map SN.h) p (i + 1) (m + 1) := by
  rw [stepsOf, lvl_to m (by omega) hqm hb, lvl_move (by simpa using hm) (by rw [hts_get hm]; omega) hp, stepsOf]
  dsimp only
  omega
end

/-- What holds at the label: x have been looked at, one stands at position q on level i; above i the places are found. -/
structure SkMid (ns : List SN) (hb p tot : Nat) (w w' : World) (x i q : Nat) (cs : Array Value) : Prop where
  hi : i ≤ 11
  hq : q ≤ p
  hs : i < htOf ns q
  tot : x + stepsOf (ns.map SN.h) p (i + 1) q = tot
  bel : Below w.heap.size w w'
  res : Blk w' w.heap.size 63 #[.pointer none, .pointer none, .pointer none, .pointer none, .pointer none, .pointer none, .pointer none, .pointer none, .pointer none, .pointer none, .pointer none, .pointer none]
  beh : Blk w' (w.heap.size + 1) 63 cs
  sz : cs.size = 12
  done : ∀ j, i < j → j < 12 → ∃ q', IsBp ns p j q' ∧ cs[j]? = some ((.pointer (some ⟨nbOf hb ns q', 0, none⟩)))

section
variable {ns : List SN} {hb p tot : Nat} {w w' : World} {x i q : Nat} {cs : Array Value}
/-- The place on this level is found. -/
theorem SkMid.found (h : SkMid ns hb p tot w w' x i q cs) (hn : p ≤ ns.length) (hall : ∀ k (h : k < ns.length), q ≤ k → k < p → ns[k].h ≤ i) :
    ∀ j, i ≤ j → j < 12 → ∃ q', IsBp ns p j q' ∧ (cs.setIfInBounds i (.pointer (some ⟨nbOf hb ns q, 0, none⟩)))[j]? = some (.pointer (some ⟨nbOf hb ns q', 0, none⟩)) := by
  intro j hij hj
  have hsz := h.sz
  by_cases e : i = j
  · subst e
    exact ⟨q, ⟨h.hq, by have := h.hq; omega, hall, h.hs⟩, by simp [Array.getElem?_setIfInBounds, hsz]; omega⟩
  · obtain ⟨q', h1, h2⟩ := h.done j (by omega) hj
    exact ⟨q', h1, by rw [Array.getElem?_setIfInBounds_ne (by omega)]; exact h2⟩
theorem SkMid.down (h : SkMid ns hb p tot w w' x i q cs) (hn : p ≤ ns.length) (hall : ∀ k (h : k < ns.length), q ≤ k → k < p → ns[k].h ≤ i) (d : Nat) (hd : stepsOf (ns.map SN.h) p (i + 1) q = d + stepsOf (ns.map SN.h) p i q) (hi : i ≠ 0) :
    SkMid ns hb p tot w (w'.setCell ⟨w.heap.size + 1, i, none⟩ (.pointer (some ⟨nbOf hb ns q, 0, none⟩))) (x + d) (i - 1) q (cs.setIfInBounds i (.pointer (some ⟨nbOf hb ns q, 0, none⟩))) := by
  have h1 := h.hi
  have h2 := h.hs
  have h3 := h.tot
  refine ⟨by omega, h.hq, by omega, ?_, h.bel.setCell (by simp) _, h.res.far (by simp) _, h.beh.set_ _ _, by simpa using h.sz, fun j hj hj2 => h.found hn hall j (by omega) hj2⟩
  rw [show i - 1 + 1 = i from by omega]
  omega
theorem SkMid.move (h : SkMid ns hb p tot w w' x i q cs) (m : Nat) (hm : m < ns.length) (hi : i < ns[m].h) (hp : ¬ p ≤ m) (hd : stepsOf (ns.map SN.h) p (i + 1) q = 1 + stepsOf (ns.map SN.h) p (i + 1) (m + 1)) :
    SkMid ns hb p tot w w' (x + 1) i (m + 1) cs := by
  have h3 := h.tot
  exact ⟨h.hi, by omega, by rw [htOf_succ hm]; exact hi, by omega, h.bel, h.res, h.beh, h.sz, h.done⟩
end

theorem below_setCells {B b : Nat} {a : World} (hb : B ≤ b) : ∀ (vs : List Value) (o : Nat) (w : World), Below B a w → Below B a (w.setCells b o vs)
  | [], _, _, h => h
  | v :: r, o, w, h => below_setCells hb r (o + 1) _ (h.setCell (p := ⟨b, o, none⟩) hb v)

/-- The end of the search: the row of places, whole. -/
structure SkEnd (ns : List SN) (hb p : Nat) (w W : World) (C : Array Value) : Prop where
  sz : C.size = 12
  one : C.all (·.oneCell') = true
  rng : W.rangeAt (w.heap.size + 1) 0 C.toList
  thr : W.there w.heap.size 0 C.size
  bel : Below w.heap.size w W
  all : ∀ j, j < 12 → ∃ q', IsBp ns p j q' ∧ C[j]? = some (.pointer (some ⟨nbOf hb ns q', 0, none⟩))
theorem SkMid.finish {ns : List SN} {hb p tot : Nat} {w w' : World} {x q : Nat} {cs : Array Value} (h : SkMid ns hb p tot w w' x 0 q cs) (hn : p ≤ ns.length) (hall : ∀ k (h : k < ns.length), q ≤ k → k < p → ns[k].h ≤ 0) :
    ∃ C, SkEnd ns hb p w (w'.setCell ⟨w.heap.size + 1, 0, none⟩ (.pointer (some ⟨nbOf hb ns q, 0, none⟩))) C := by
  have hf := h.found hn hall
  have bM := h.beh.set_ 0 (.pointer (some ⟨nbOf hb ns q, 0, none⟩))
  have bR := h.res.far (p := ⟨w.heap.size + 1, 0, none⟩) (by simp) (.pointer (some ⟨nbOf hb ns q, 0, none⟩))
  have hbl := h.bel.setCell (p := ⟨w.heap.size + 1, 0, none⟩) (by simp) (.pointer (some ⟨nbOf hb ns q, 0, none⟩))
  have hsz2 : (cs.setIfInBounds 0 (.pointer (some ⟨nbOf hb ns q, 0, none⟩))).size = 12 := by simpa using h.sz
  generalize cs.setIfInBounds 0 (.pointer (some ⟨nbOf hb ns q, 0, none⟩)) = C at *
  generalize w'.setCell ⟨w.heap.size + 1, 0, none⟩ (.pointer (some ⟨nbOf hb ns q, 0, none⟩)) = W at *
  refine ⟨C, hsz2, ?_, ?_, ?_, hbl, fun j hj => hf j (by omega) hj⟩
  · rw [Array.all_eq_true]
    intro j hj
    obtain ⟨q', _, h2⟩ := hf j (by omega) (by omega)
    rw [Array.getElem?_eq_getElem hj] at h2
    rw [Option.some.inj h2]; rfl
  · intro j v hv
    rw [Nat.zero_add, bM.cells]; simpa using hv
  · intro j hj
    rw [Nat.zero_add, bR.cells, bR.free]
    rw [hsz2] at hj
    refine ⟨?_, rfl⟩
    rw [Array.getElem?_eq_getElem (by simpa using hj)]; rfl

set_option maxRecDepth 100000 in
set_option maxHeartbeats 400000 in
theorem skip_place {lo B : Nat} {w : World} {t : Nat} {hs : List Int} {hv : Value} {hb xh : Nat} {ns : List SN} (hS : SkipAt lo w t hs hv hb xh ns) (hn : ns.length ≤ 100000) {ku : Value} {k : List UInt8} {s : Int} (hk : BAt B w ku k) (hB : B ≤ w.heap.size) :
    Calls Try.prog 28 #[.pointer (some ⟨t, 0, none⟩), ku, .int .u64 s] w fun e w' => PlacePost ns hb (posOf SN.key SN.seq ns k s) e ∧ Below w.heap.size w w' := by
  have hple := posOf_le SN.key SN.seq ns k s
  have htest : ∀ i (hi : i < ns.length), aheadB ns[i].e.key ns[i].e.seq k s = decide (i < posOf SN.key SN.seq ns k s) := fun i hi => hS.base.order.test hi
  generalize hpp : posOf SN.key SN.seq ns k s = p at *
  have HT := Lib.hid htest
  clear hpp htest
  have HS := Lib.hid hS
  have HK := Lib.hid hk
  have hlen : (ns.map SN.h).length = ns.length := List.length_map _
  have hge : ∀ j (h : j < ns.length) (h2 : j < (ns.map SN.h).length), (ns.map SN.h)[j] = ns[j].h := fun j h h2 => List.getElem_map _
  have HLEN := Lib.hid hlen
  have HGE := Lib.hid hge
  have hcT := hS.tbl.cells
  have htl : t < w.heap.size := hS.tbl.lt
  have hto := stepsOf_le (hts := ns.map SN.h) (e := p) 12 0
  rw [hlen] at hto
  generalize htot : stepsOf (ns.map SN.h) p 12 0 = tot at *
  have HTOT := Lib.hid htot
  obtain ⟨ak, ck, hku⟩ := hk.slice
  subst hku
  clear hlen hge htot hS hk
  go_enter Try.func28, Try.ntmps28
  go_wp2_with fail
  refine wp_scope_jumps 0 (fun a' w' => ∃ (x i q : Nat) (cs : Array Value) (u12 u13 u14 u15 u16 u17 u18 u19 u20 u21 u22 u23 u24 u25 u26 u27 u28 u29 u30 u31 u32 u33 u34 u35 u36 u37 u38 u39 : Value), a' = { tmps := #[.pointer (some ⟨t, 0, none⟩), .slice ak k.length ck, .int .u64 s, undef, undef, undef, .pointer (some ⟨w.heap.size, 0, none⟩), .int .i64 0, .pointer (some ⟨w.heap.size + 1, 0, none⟩), .int .i64 (x : Nat), .int .i64 (i : Nat), (.pointer (some ⟨nbOf hb ns q, 0, none⟩)), u12, u13, u14, u15, u16, u17, u18, u19, u20, u21, u22, u23, u24, u25, u26, u27, u28, u29, u30, u31, u32, u33, u34, u35, u36, u37, u38, u39, undef, undef], defers := [] } ∧ SkMid ns hb p tot w w' x i q cs) (fun a' _ => (intOf (a'.tmps.getD 10 undef)).toNat + (tot - (intOf (a'.tmps.getD 9 undef)).toNat)) rfl ?first ?pass
  case first =>
    go_wp2_with fail
    go_quiet (fail)
    go_wp2_with fail
    go_step3
    generalize hw' : World.drewN _ _ = w'
    have hm : SkMid ns hb p tot w w' 0 11 0 #[.pointer none, .pointer none, .pointer none, .pointer none, .pointer none, .pointer none, .pointer none, .pointer none, .pointer none, .pointer none, .pointer none, .pointer none] := by
      rw [← hw']
      refine ⟨by omega, by omega, by simp [htOf], by rw [Nat.zero_add]; exact HTOT.out, ?_, ?_, ?_, rfl, fun j h1 h2 => by omega⟩
      · exact below_drewN (World.below_alloc (by simp) _ |> fun h => (World.below_alloc (Nat.le_refl _) _).trans h) _
      · exact (((Blk.new w _ _).alloc _).drewN _)
      · exact ((Blk.new_at _ _ _ _ (by simp)).drewN _)
    clear hw'
    have hqn : 0 ≤ ns.length := by omega
    have hS := HS.out.old hm.bel
    obtain ⟨csq, bq, hq4, hq1, hq12⟩ := hS.base.pos hqn
    have bx := hS.links 0 hqn
    have h4 : w'.cell? ⟨hb, 4, none⟩ = some (.slice (some ⟨xh, 0, none⟩) (12) (12)) := (bq.cells 4).trans hq4
    have hx : w'.cell? ⟨xh, 11, none⟩ = some (nxt (ns.drop 0) 11) := (bx.cells 11).trans (arr_get _ _ hm.hs)
    have h8 : w'.cell? ⟨w.heap.size + 1, 11, none⟩ = some (.pointer none) := by rw [hm.beh.cells]; rfl
    have f8 := hm.beh.free
    have hlt8 := hm.beh.lt
    have HM := Lib.hid hm
    have hxt : 0 ≤ tot := by have := HM.out.tot; omega
    clear hm bq bx hq4 hS
    rcases nxt_cases ns 11 0 with ⟨hnx, hall⟩ | ⟨m, hmn, hqm, hih, hbetween, hnx⟩
    · rw [hnx] at hx
      clear hnx
      have HST := Lib.hid (show stepsOf (ns.map SN.h) p (11 + 1) 0 = 0 + stepsOf (ns.map SN.h) p 11 0 by rw [steps_none hqn hall]; omega)
      have hall' : ∀ k (h : k < ns.length), 0 ≤ k → k < p → ns[k].h ≤ 11 := fun k h h1 _ => hall k h h1
      have HALL := Lib.hid hall'
      clear hall hall'
      have hdn := HM.out.down hple HALL.out 0 HST.out (by omega)
      have HDN := Lib.hid hdn
      clear hdn
      go_wp2_with fail
      go_step3
      exact ⟨rfl, 0, 10, 0, _, _, _, _, _, _, _, _, _, _, _, _, _, _, _, _, _, _, _, _, _, _, _, _, _, _, _, _, _, rfl, HDN.out⟩
    · rw [hnx] at hx
      clear hnx
      have hEm := (HS.out.old HM.out.bel).base.each _ (List.getElem_mem hmn)
      have hah := node_ahead (s' := s) hEm.blk rfl rfl hEm.kv.reads (HK.out.lift hB HM.out.bel)
      rw [HT.out m hmn] at hah
      have HAH := Lib.hid hah
      clear hah hEm
      by_cases hmp : m < p
      · have hdm : decide (m < p) = true := by simp [hmp]
        rw [hdm] at HAH
        have hmv := HM.out.move m hmn hih (by omega) (steps_move hmn hqm hbetween hih (by omega))
        have hmt : 0 + 1 ≤ tot := by have := hmv.tot; omega
        have HMV := Lib.hid hmv
        have HNB := Lib.hid (nbOf_succ (hb := hb) hmn)
        clear hmv hbetween
        go_wp2_with fail
        refine HAH.out.mono ?_
        rintro e w2 ⟨rfl, rfl⟩
        go_wp2_with fail
        go_step3
        rw [← HNB.out]
        exact ⟨rfl, 1, 11, m + 1, _, _, _, _, _, _, _, _, _, _, _, _, _, _, _, _, _, _, _, _, _, _, _, _, _, _, _, _, _, rfl, by simpa using HMV.out⟩
      · have hdm : decide (m < p) = false := by simp; omega
        rw [hdm] at HAH
        have HST := Lib.hid (steps_stop (p := p) hmn hqm hbetween hih (by omega))
        have hall' : ∀ k (h : k < ns.length), 0 ≤ k → k < p → ns[k].h ≤ 11 := fun k h h1 h2 => hbetween k h h1 (by omega)
        have HALL := Lib.hid hall'
        clear hall' hbetween
        have hdn := HM.out.down hple HALL.out 1 HST.out (by omega)
        have HDN := Lib.hid hdn
        clear hdn
        go_wp2_with fail
        refine HAH.out.mono ?_
        rintro e w2 ⟨rfl, rfl⟩
        go_wp2_with fail
        go_step3
        exact ⟨rfl, 1, 10, 0, _, _, _, _, _, _, _, _, _, _, _, _, _, _, _, _, _, _, _, _, _, _, _, _, _, _, _, _, _, rfl, HDN.out⟩
  case pass =>
    rintro a' w' ⟨x, i, q, cs, u12, u13, u14, u15, u16, u17, u18, u19, u20, u21, u22, u23, u24, u25, u26, u27, u28, u29, u30, u31, u32, u33, u34, u35, u36, u37, u38, u39, rfl, hm⟩
    have hqn : q ≤ ns.length := by have := hm.hq; omega
    have hS := HS.out.old hm.bel
    obtain ⟨csq, bq, hq4, hq1, hq12⟩ := hS.base.pos hqn
    have bx := hS.links q hqn
    have h4 : w'.cell? ⟨nbOf hb ns q, 4, none⟩ = some (.slice (some ⟨xbOf xh ns q, 0, none⟩) (htOf ns q) (htOf ns q)) := (bq.cells 4).trans hq4
    have hx : w'.cell? ⟨xbOf xh ns q, i, none⟩ = some (nxt (ns.drop q) i) := (bx.cells i).trans (arr_get _ _ hm.hs)
    have hi := hm.hi
    have hs1 := hm.hs
    have i1 : (0 : Int) ≤ (i : Int) := by omega
    have i2 : (i : Int) < (htOf ns q : Int) := by omega
    have i3 : (i : Int) < 12 := by omega
    have h8 : w'.cell? ⟨w.heap.size + 1, i, none⟩ = some (cs[i]'(by have := hm.sz; have := hm.hi; omega)) := by rw [hm.beh.cells]; exact Array.getElem?_eq_getElem _
    have f8 := hm.beh.free
    have hlt8 := hm.beh.lt
    generalize cs[i]'(by have := hm.sz; have := hm.hi; omega) = old at h8
    have HM := Lib.hid hm
    have hxt : x ≤ tot := by have := HM.out.tot; omega
    clear hm bq bx hq4 hS
    generalize hQQ : (Exit.jump _ _ _ : Exit → Act → World → Prop) = QQ
    have HQQ := Lib.hid hQQ
    clear hQQ
    rcases nxt_cases ns i q with ⟨hnx, hall⟩ | ⟨m, hmn, hqm, hih, hbetween, hnx⟩
    · rw [hnx] at hx
      clear hnx
      have HST := Lib.hid (show stepsOf (ns.map SN.h) p (i + 1) q = 0 + stepsOf (ns.map SN.h) p i q by rw [steps_none hqn hall]; omega)
      have hall' : ∀ k (h : k < ns.length), q ≤ k → k < p → ns[k].h ≤ i := fun k h h1 _ => hall k h h1
      have HALL := Lib.hid hall'
      clear hall hall'
      by_cases hi0 : i = 0
      · have hd : decide (0 < i) = false := by simp; omega
        have hd2 : i ≤ 0 := by omega
        have hto2 := HM.out.tot
        rw [HST.out, hi0] at hto2
        simp only [stepsOf, Nat.add_zero] at hto2
        have HTO2 : Hid (x = tot) := Lib.hid (by omega)
        subst hi0
        obtain ⟨C, hEnd⟩ := HM.out.finish hple HALL.out
        have HE := Lib.hid hEnd
        clear hto2 HM HALL HST hEnd
        have hi63 : (Try.prog.info? 63).map (·.size) = some C.toList.length := by rw [Array.length_toList, HE.out.sz]; kernel_rfl
        have hi63' : (Try.prog.info? 63).map (·.size) = some C.size := by rw [HE.out.sz]; kernel_rfl
        have HI := Lib.hid hi63
        have HI' := Lib.hid hi63'
        clear hi63 hi63'
        go_upto_region 11 with fail
        go_step
        refine wpList_load_mid rfl 63 (.tmp 8) rfl (w.heap.size + 1) 0 rfl C.toList _ HE.out.rng Try.underlying63 rfl HI.out ?_
        go_wp2_with (refine wpList_store_mid rfl 63 (.tmp 6) (.tmp 40) rfl w.heap.size 0 C rfl rfl HE.out.thr HI'.out HE.out.one ?_)
        have hlv := run_loadVar_mid (P := Try.prog) _ w.heap.size 0 63 C.toList _ (World.rangeAt_setCells_same _ w.heap.size 0 C.toList (by rw [Array.length_toList]; exact HE.out.thr)) Try.underlying63 rfl HI.out
        rw [← HQQ.out]
        simp only [Exit.jump]
        refine bodyPost_ret (v := .tuple #[.agg C, .int .i64 ((x : Nat) : Int)]) (by simp [results, Try.results28, Sem.run_bind, Sem.run_pure, asAddr, hlv]) rfl ⟨⟨C, HE.out.sz, by rw [HTOT.out, HTO2.out], HE.out.all⟩, below_setCells (Nat.le_refl _) _ _ _ HE.out.bel⟩
      · have hd : decide (0 < i) = true := by simp; omega
        have hd2 : 0 < i := by omega
        have hdn := HM.out.down hple HALL.out 0 HST.out (by omega)
        have HDN := Lib.hid hdn
        clear hdn
        have e1 : (i : Int) - 1 = ((i - 1 : Nat) : Int) := by omega
        have E1 := Lib.hid e1
        clear e1
        go_wp2_with fail
        go_step3
        rw [← HQQ.out, E1.out]
        refine ⟨rfl, ⟨x, i - 1, q, _, _, _, _, _, _, _, _, _, _, _, _, _, _, _, _, _, _, _, _, _, _, _, _, _, _, _, _, _, rfl, HDN.out⟩, ?_⟩
        simp [intOf]
        omega
    · rw [hnx] at hx
      clear hnx
      have hEm := (HS.out.old HM.out.bel).base.each _ (List.getElem_mem hmn)
      have hah := node_ahead (s' := s) hEm.blk rfl rfl hEm.kv.reads (HK.out.lift hB HM.out.bel)
      rw [HT.out m hmn] at hah
      have HAH := Lib.hid hah
      clear hah hEm
      by_cases hmp : m < p
      · have hdm : decide (m < p) = true := by simp [hmp]
        rw [hdm] at HAH
        have hmv := HM.out.move m hmn hih (by omega) (steps_move hmn hqm hbetween hih (by omega))
        have hmt : x + 1 ≤ tot := by have := hmv.tot; omega
        have HMV := Lib.hid hmv
        have HNB := Lib.hid (nbOf_succ (hb := hb) hmn)
        clear hmv hbetween
        go_wp2_with fail
        refine HAH.out.mono ?_
        rintro e w2 ⟨rfl, rfl⟩
        go_wp2_with fail
        go_step3
        rw [← HQQ.out, ← HNB.out]
        refine ⟨rfl, ⟨x + 1, i, m + 1, _, _, _, _, _, _, _, _, _, _, _, _, _, _, _, _, _, _, _, _, _, _, _, _, _, _, _, _, _, rfl, HMV.out⟩, ?_⟩
        simp [intOf]
        omega
      · have hdm : decide (m < p) = false := by simp; omega
        rw [hdm] at HAH
        have HST := Lib.hid (steps_stop (p := p) hmn hqm hbetween hih (by omega))
        have hall' : ∀ k (h : k < ns.length), q ≤ k → k < p → ns[k].h ≤ i := fun k h h1 h2 => hbetween k h h1 (by omega)
        have HALL := Lib.hid hall'
        clear hall' hbetween
        by_cases hi0 : i = 0
        · have hd : decide (0 < i) = false := by simp; omega
          have hd2 : i ≤ 0 := by omega
          have hto2 := HM.out.tot
          rw [HST.out, hi0] at hto2
          simp only [stepsOf, Nat.add_zero] at hto2
          have HTO2 : Hid (x + 1 = tot) := Lib.hid (by omega)
          subst hi0
          obtain ⟨C, hEnd⟩ := HM.out.finish hple HALL.out
          have HE := Lib.hid hEnd
          clear hto2 HM HALL HST hEnd
          go_wp2_with fail
          refine HAH.out.mono ?_
          rintro e w2 ⟨rfl, rfl⟩
          have hi63 : (Try.prog.info? 63).map (·.size) = some C.toList.length := by rw [Array.length_toList, HE.out.sz]; kernel_rfl
          have hi63' : (Try.prog.info? 63).map (·.size) = some C.size := by rw [HE.out.sz]; kernel_rfl
          have HI := Lib.hid hi63
          have HI' := Lib.hid hi63'
          clear hi63 hi63'
          go_upto_region 11 with fail
          go_step
          refine wpList_load_mid rfl 63 (.tmp 8) rfl (w.heap.size + 1) 0 rfl C.toList _ HE.out.rng Try.underlying63 rfl HI.out ?_
          go_wp2_with (refine wpList_store_mid rfl 63 (.tmp 6) (.tmp 40) rfl w.heap.size 0 C rfl rfl HE.out.thr HI'.out HE.out.one ?_)
          have hlv := run_loadVar_mid (P := Try.prog) _ w.heap.size 0 63 C.toList _ (World.rangeAt_setCells_same _ w.heap.size 0 C.toList (by rw [Array.length_toList]; exact HE.out.thr)) Try.underlying63 rfl HI.out
          rw [← HQQ.out]
          simp only [Exit.jump]
          refine bodyPost_ret (v := .tuple #[.agg C, .int .i64 ((x + 1 : Nat) : Int)]) (by simp [results, Try.results28, Sem.run_bind, Sem.run_pure, asAddr, hlv]) rfl ⟨⟨C, HE.out.sz, by rw [HTOT.out, HTO2.out], HE.out.all⟩, below_setCells (Nat.le_refl _) _ _ _ HE.out.bel⟩
        · have hd : decide (0 < i) = true := by simp; omega
          have hd2 : 0 < i := by omega
          have hdn := HM.out.down hple HALL.out 1 HST.out (by omega)
          have HDN := Lib.hid hdn
          clear hdn
          have e1 : (i : Int) - 1 = ((i - 1 : Nat) : Int) := by omega
          have E1 := Lib.hid e1
          clear e1
          go_wp2_with fail
          refine HAH.out.mono ?_
          rintro e w2 ⟨rfl, rfl⟩
          go_wp2_with fail
          go_step3
          rw [← HQQ.out, E1.out]
          refine ⟨rfl, ⟨x + 1, i - 1, q, _, _, _, _, _, _, _, _, _, _, _, _, _, _, _, _, _, _, _, _, _, _, _, _, _, _, _, _, _, rfl, HDN.out⟩, ?_⟩
          simp [intOf]
          omega
end Go.Proofs.Ytpohhlddbdepcaa
