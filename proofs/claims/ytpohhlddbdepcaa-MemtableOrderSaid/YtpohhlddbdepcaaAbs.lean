/-
  Both tables stand for one list of entries and heights: their answers are functions of it.
-/
import Derived.Test.YtpohhlddbdepcaaPutC
import Derived.Test.YtpohhlddbdepcaaW
import Derived.Test.YtpohhlddbdepcaaLsc
import Derived.Test.YtpohhlddbdepcaaSam
import Derived.Test.YtpohhlddbdepcaaNew
namespace Go.Proofs.Ytpohhlddbdepcaa
open Go.RowKit

abbrev EH := Ent × Nat
def EH.key (p : EH) : List UInt8 := p.1.key
def EH.seq (p : EH) : Int := p.1.seq
def absN (ns : List SN) : List EH := ns.map fun n => (n.e, n.h)
def absM (ms : List MEnt) : List EH := ms.map fun m => (m.e, m.h)
def posA (L : List EH) (k : List UInt8) (s : Int) : Nat := posOf EH.key EH.seq L k s
def isAtA (L : List EH) (k : List UInt8) (s : Int) : Bool :=
  match L[posA L k s]? with
  | some n => decide (n.1.key = k ∧ n.1.seq = s)
  | none => false

theorem posOf_map2 {α β : Type} (kf : α → List UInt8) (sf : α → Int) (kg : β → List UInt8) (sg : β → Int) (g : α → β) (hk : ∀ a, kg (g a) = kf a) (hs : ∀ a, sg (g a) = sf a) (l : List α) (k : List UInt8) (s : Int) : posOf kg sg (l.map g) k s = posOf kf sf l k s := by
  unfold posOf
  induction l with
  | nil => rfl
  | cons a l ih =>
    rw [List.map_cons, List.takeWhile_cons, List.takeWhile_cons, hk, hs]
    split
    · simp only [List.length_cons, ih]
    · rfl
theorem putAt_map {α β : Type} (g : α → β) (l : List α) (p : Nat) (x : α) : (putAt l p x).map g = putAt (l.map g) p (g x) := by simp [putAt]

section
variable (ns : List SN) (ms : List MEnt) (k : List UInt8) (s : Int)
theorem posN : posOf SN.key SN.seq ns k s = posA (absN ns) k s := (posOf_map2 SN.key SN.seq EH.key EH.seq _ (fun _ => rfl) (fun _ => rfl) ns k s).symm
theorem posM : posOf MEnt.key MEnt.seq ms k s = posA (absM ms) k s := (posOf_map2 MEnt.key MEnt.seq EH.key EH.seq _ (fun _ => rfl) (fun _ => rfl) ms k s).symm
theorem isAtN_abs : isAtN ns k s = isAtA (absN ns) k s := by
  unfold isAtN isAtA
  rw [posN]
  simp only [absN, List.getElem?_map]
  cases ns[posA (List.map (fun n => (n.e, n.h)) ns) k s]? <;> rfl
theorem isAtM_abs : isAt ms k s = isAtA (absM ms) k s := by
  unfold isAt isAtA
  rw [posM]
  simp only [absM, List.getElem?_map]
  cases ms[posA (List.map (fun n => (n.e, n.h)) ms) k s]? <;> rfl
theorem mapN_e : ns.map SN.e = (absN ns).map Prod.fst := by simp [absN]
theorem mapN_h : ns.map SN.h = (absN ns).map Prod.snd := by simp [absN]
theorem mapM_e : ms.map MEnt.e = (absM ms).map Prod.fst := by simp [absM]
theorem mapM_h : ms.map MEnt.h = (absM ms).map Prod.snd := by simp [absM]
theorem lenN : ns.length = (absN ns).length := by simp [absN]
theorem lenM : ms.length = (absM ms).length := by simp [absM]
end

/-- What a Put answers, and the list behind it. -/
def putL (hs : List Int) (L : List EH) (e : Ent) : Int × List EH :=
  if mayB e.key e.seq e.del e.val = true then
    if isAtA L e.key e.seq = true then (51, L) else (0, putAt L (posA L e.key e.seq) (e, hOf hs L.length))
  else (50, L)
theorem putL_len (hs : List Int) (L : List EH) (e : Ent) : (putL hs L e).2.length ≤ L.length + 1 := by
  unfold putL
  split
  · split
    · simp
    · exact Nat.le_of_eq (putAt_length _ _ (posOf_le EH.key EH.seq L e.key e.seq))
  · simp

/-- None of a value's own bytes lies in Z. -/
def Away (Z : Nat → Prop) (kv vv : Value) : Prop := ∀ b, (kv.ownBlock = some b ∨ vv.ownBlock = some b) → ¬ Z b
/-- The program's table stands for L; its entries' bytes do not lie in Z. -/
def SkipL (Z : Nat → Prop) (lo : Nat) (w : World) (t : Nat) (hs : List Int) (L : List EH) : Prop := ∃ hv hb xh ns, SkipAt lo w t hs hv hb xh ns ∧ absN ns = L ∧ ∀ n ∈ ns, Away Z n.kv n.vv
/-- The reference's table stands for L; its entries' bytes do not lie in Z. -/
def RefL (Z : Nat → Prop) (lo : Nat) (w : World) (t : Nat) (hs : List Int) (L : List EH) : Prop := ∃ hv lv ms, RefAt lo w t hs hv lv ms ∧ absM ms = L ∧ ∀ m ∈ ms, Away Z m.kv m.vv
section
variable {Z : Nat → Prop} {lo : Nat} {w w' : World} {t : Nat} {hs : List Int} {L : List EH}
theorem SkipL.old (h : SkipL Z lo w t hs L) (hb : Below w.heap.size w w') : SkipL Z lo w' t hs L := by
  obtain ⟨hv, hb', xh, ns, h1, h2⟩ := h
  exact ⟨hv, hb', xh, ns, h1.old hb, h2⟩
theorem RefL.old (h : RefL Z lo w t hs L) (hb : Below w.heap.size w w') : RefL Z lo w' t hs L := by
  obtain ⟨hv, lv, ms, h1, h2⟩ := h
  exact ⟨hv, lv, ms, h1.old hb, h2⟩
theorem Away.fresh {kv vv : Value} {k v : List UInt8} {B : Nat} (hk : BOwn B w' kv k) (hv : BOwn B w' vv v) (hZ : ∀ b, Z b → b < B) : Away Z kv vv := by
  rintro b (h | h) hz
  · rcases hk with ⟨rfl, _⟩ | ⟨b', c, cs, rfl, _, h1, _⟩
    · simp [Value.ownBlock] at h
    · have : b' = b := by simpa [Value.ownBlock] using h
      have := hZ b hz
      omega
  · rcases hv with ⟨rfl, _⟩ | ⟨b', c, cs, rfl, _, h1, _⟩
    · simp [Value.ownBlock] at h
    · have : b' = b := by simpa [Value.ownBlock] using h
      have := hZ b hz
      omega
/-- Any set of blocks beyond the heap is avoided. -/
theorem SkipL.fresh (h : SkipL Z lo w t hs L) {Z' : Nat → Prop} (hZ : ∀ b, Z' b → w.heap.size ≤ b) : SkipL Z' lo w t hs L := by
  obtain ⟨hv, hb', xh, ns, h1, h2, h3⟩ := h
  refine ⟨hv, hb', xh, ns, h1, h2, fun n hn b hb hz => ?_⟩
  have hN := h1.base.each n hn
  have := hZ b hz
  have key : ∀ {v : Value} {l : List UInt8}, BOwn lo w v l → v.ownBlock = some b → b < w.heap.size := by
    intro v l hv hvb
    rcases hv with ⟨rfl, _⟩ | ⟨b', c, cs, rfl, _, h1, h2, _⟩
    · simp [Value.ownBlock] at hvb
    · have : b' = b := by simpa [Value.ownBlock] using hvb
      subst this
      exact lt_of_heap h2
  rcases hb with hb | hb
  · have := key hN.kv hb; omega
  · have := key hN.vv hb; omega
theorem RefL.fresh (h : RefL Z lo w t hs L) {Z' : Nat → Prop} (hZ : ∀ b, Z' b → w.heap.size ≤ b) : RefL Z' lo w t hs L := by
  obtain ⟨hv, lv, ms, h1, h2, h3⟩ := h
  refine ⟨hv, lv, ms, h1, h2, fun n hn b hb hz => ?_⟩
  have hN := h1.each n hn
  have := hZ b hz
  have key : ∀ {v : Value} {l : List UInt8}, BOwn lo w v l → v.ownBlock = some b → b < w.heap.size := by
    intro v l hv hvb
    rcases hv with ⟨rfl, _⟩ | ⟨b', c, cs, rfl, _, h1, h2, _⟩
    · simp [Value.ownBlock] at hvb
    · have : b' = b := by simpa [Value.ownBlock] using hvb
      subst this
      exact lt_of_heap h2
  rcases hb with hb | hb
  · have := key hN.1 hb; omega
  · have := key hN.2.1 hb; omega
end

/-- What a Put of the program's table may turn. -/
def SkS (lo : Nat) (w : World) (t : Nat) (b : Nat) : Prop := lo ≤ b ∧ (b = t ∨ ∃ cs, Blk w b 54 cs)

theorem skipL_Put {Z : Nat → Prop} {lo B : Nat} {w : World} {t : Nat} {hs : List Int} {L : List EH} (h : SkipL Z lo w t hs L) (hZ : ∀ b, Z b → b < w.heap.size) (hn : L.length ≤ 100000) {kv vv : Value} {e : Ent} (hk : BAt B w kv e.key) (hvv : BAt B w vv e.val) (hB : B ≤ w.heap.size) (hkl : Big e.key) (hvl : Big e.val) :
    Calls Try.prog 21 #[.pointer (some ⟨t, 0, none⟩), .agg #[kv, .int .u64 e.seq, .bool e.del, vv]] w fun x w' => x = .returned (.int .i64 (putL hs L e).1) ∧ SkipL Z lo w' t hs (putL hs L e).2 ∧ Chg (SkS lo w t) w w' := by
  obtain ⟨hv, hb, xh, ns, hS, rfl, hA⟩ := h
  rw [← lenN] at hn
  unfold putL
  by_cases hm : mayB e.key e.seq e.del e.val = true
  · rw [if_pos hm]
    by_cases hi : isAtA (absN ns) e.key e.seq = true
    · rw [if_pos hi]
      refine (skip_Put_twice hS hn hk hvv hB hm (by rw [isAtN_abs]; exact hi)).mono ?_
      rintro x w' ⟨rfl, hb'⟩
      exact ⟨rfl, ⟨_, _, _, _, hS.old hb', rfl, hA⟩, Chg.of_below hb'⟩
    · rw [if_neg hi]
      refine (skip_Put_ok hS hn hk hvv hB hm (by rw [isAtN_abs]; simpa using hi)).mono ?_
      rintro x w' ⟨rfl, ⟨n, hne, hnh, ⟨hk', hv', hxb⟩, hS'⟩, hc⟩
      refine ⟨rfl, ⟨_, _, _, _, hS', ?_, fun m hm => ?_⟩, hc.mono fun b _ h => ⟨h.1, h.2.imp id fun ⟨q, hq, e⟩ => ⟨_, e ▸ hS.links q hq⟩⟩⟩
      · rw [absN, putAt_map, hne, hnh, posN, lenN]
        rfl
      · rcases List.mem_append.1 hm with hm | hm
        · exact hA m (List.mem_of_mem_take hm)
        · rcases List.mem_cons.1 hm with rfl | hm
          · exact Away.fresh hk' hv' hZ
          · exact hA m (List.mem_of_mem_drop hm)
  · rw [if_neg hm]
    refine (skip_Put_not hk hvv hkl hvl (by simpa using hm)).mono ?_
    rintro x w' ⟨rfl, hb'⟩
    exact ⟨rfl, ⟨_, _, _, _, hS.old hb', rfl, hA⟩, Chg.of_below hb'⟩

theorem refL_Put {Z : Nat → Prop} {lo B : Nat} {w : World} {t : Nat} {hs : List Int} {L : List EH} (h : RefL Z lo w t hs L) (hZ : ∀ b, Z b → b < w.heap.size) (hn : L.length ≤ 100000) {kv vv : Value} {e : Ent} (hk : BAt B w kv e.key) (hvv : BAt B w vv e.val) (hB : B ≤ w.heap.size) (hkl : Big e.key) (hvl : Big e.val) :
    Calls Try.prog 22 #[.pointer (some ⟨t, 0, none⟩), .agg #[kv, .int .u64 e.seq, .bool e.del, vv]] w fun x w' => x = .returned (.int .i64 (putL hs L e).1) ∧ RefL Z lo w' t hs (putL hs L e).2 ∧ Chg (fun b => b = t) w w' := by
  obtain ⟨hv, lv, ms, hS, rfl, hA⟩ := h
  rw [← lenM] at hn
  unfold putL
  by_cases hm : mayB e.key e.seq e.del e.val = true
  · rw [if_pos hm]
    by_cases hi : isAtA (absM ms) e.key e.seq = true
    · rw [if_pos hi]
      refine (ref_Put_twice hS hn hk hvv hB hkl hvl hm (by rw [isAtM_abs]; exact hi)).mono ?_
      rintro x w' ⟨rfl, hb'⟩
      exact ⟨rfl, ⟨_, _, _, hS.old hb', rfl, hA⟩, Chg.of_below hb'⟩
    · rw [if_neg hi]
      refine (ref_Put_ok hS hn hk hvv hB hkl hvl hm (by rw [isAtM_abs]; simpa using hi)).mono ?_
      rintro x w' ⟨rfl, ⟨lv', kv', vv', ⟨hk', hv'⟩, hS'⟩, hc⟩
      refine ⟨rfl, ⟨_, _, _, hS', ?_, fun m hm => ?_⟩, hc⟩
      · rw [absM, putAt_map, posM, lenM]
        rfl
      · rcases List.mem_append.1 hm with hm | hm
        · exact hA m (List.mem_of_mem_take hm)
        · rcases List.mem_cons.1 hm with rfl | hm
          · exact Away.fresh hk' hv' hZ
          · exact hA m (List.mem_of_mem_drop hm)
  · rw [if_neg hm]
    refine (ref_Put_not (lo := lo) hk hvv hB hkl hvl (by simpa using hm)).mono ?_
    rintro x w' ⟨rfl, hb'⟩
    exact ⟨rfl, ⟨_, _, _, hS.old hb', rfl, hA⟩, Chg.of_below hb'⟩

/-! The questions. -/
def getL (L : List EH) (k : List UInt8) (s : Int) : Option Ent := getE (L.map Prod.fst) k s
def levelL (L : List EH) (i : Int) : List Ent := if 0 ≤ i then (L.filter fun p => decide (i < (p.2 : Int))).map Prod.fst else []
def stepsL (L : List EH) (k : List UInt8) (s : Int) : Nat := stepsOf (L.map Prod.snd) (posA L k s) 12 0
def scanL (L : List EH) (fr : List UInt8) : List Ent := (L.filter fun p => decide (0 ≤ Lib.compareBytes p.1.key fr)).map Prod.fst
def bytesL (L : List EH) : Nat := bytesOf (L.map Prod.fst)

section
variable {Z : Nat → Prop} {lo B : Nat} {w : World} {t : Nat} {hs : List Int} {L : List EH}
theorem skipL_Get (h : SkipL Z lo w t hs L) (hn : L.length ≤ 100000) {ku : Value} {k : List UInt8} {s : Int} (hk : BAt B w ku k) (hB : B ≤ w.heap.size) :
    Calls Try.prog 9 #[.pointer (some ⟨t, 0, none⟩), ku, .int .u64 s] w fun e w' => Below w.heap.size w w' ∧ GetPost w.heap.size w' e (getL L k s) := by
  obtain ⟨hv, hb, xh, ns, hS, rfl, hA⟩ := h
  rw [← lenN] at hn
  have := skip_Get hS hn hk hB (s := s)
  rw [mapN_e] at this
  exact this
theorem refL_Get (h : RefL Z lo w t hs L) (hn : L.length ≤ 100000) {ku : Value} {k : List UInt8} {s : Int} (hk : BAt B w ku k) (hB : B ≤ w.heap.size) (hkl : Big k) :
    Calls Try.prog 10 #[.pointer (some ⟨t, 0, none⟩), ku, .int .u64 s] w fun e w' => Below w.heap.size w w' ∧ GetPost w.heap.size w' e (getL L k s) := by
  obtain ⟨hv, lv, ms, hS, rfl, hA⟩ := h
  rw [← lenM] at hn
  have := ref_Get hS hn hk hB hkl (s := s)
  rw [mapM_e] at this
  exact this
theorem skipL_Steps (h : SkipL Z lo w t hs L) (hn : L.length ≤ 100000) {ku : Value} {k : List UInt8} {s : Int} (hk : BAt B w ku k) (hB : B ≤ w.heap.size) :
    Calls Try.prog 18 #[.pointer (some ⟨t, 0, none⟩), ku, .int .u64 s] w fun e w' => e = .returned (.int .i64 (stepsL L k s : Nat)) ∧ Below w.heap.size w w' := by
  obtain ⟨hv, hb, xh, ns, hS, rfl, hA⟩ := h
  rw [← lenN] at hn
  have := skip_Steps hS hn hk hB (s := s)
  rw [mapN_h, posN] at this
  exact this
theorem refL_Steps (h : RefL Z lo w t hs L) (hn : L.length ≤ 100000) {ku : Value} {k : List UInt8} {s : Int} (hk : BAt B w ku k) (hB : B ≤ w.heap.size) (hkl : Big k) :
    Calls Try.prog 19 #[.pointer (some ⟨t, 0, none⟩), ku, .int .u64 s] w fun e w' => e = .returned (.int .i64 (stepsL L k s : Nat)) ∧ Below w.heap.size w w' := by
  obtain ⟨hv, lv, ms, hS, rfl, hA⟩ := h
  rw [← lenM] at hn
  have := ref_Steps hS hn hk hB hkl (s := s)
  rw [mapM_h, posM] at this
  exact this
theorem skipL_Len (h : SkipL Z lo w t hs L) :
    Calls Try.prog 23 #[.pointer (some ⟨t, 0, none⟩)] w fun e w' => e = .returned (.int .i64 (L.length : Nat)) ∧ w' = w := by
  obtain ⟨hv, hb, xh, ns, hS, rfl, hA⟩ := h
  have := skip_Len hS
  rw [lenN] at this
  exact this
theorem skipL_Bytes (h : SkipL Z lo w t hs L) :
    Calls Try.prog 25 #[.pointer (some ⟨t, 0, none⟩)] w fun e w' => e = .returned (.int .i64 (bytesL L : Nat)) ∧ w' = w := by
  obtain ⟨hv, hb, xh, ns, hS, rfl, hA⟩ := h
  have := skip_Bytes hS
  rw [mapN_e] at this
  exact this
theorem refL_Len (h : RefL Z lo w t hs L) :
    Calls Try.prog 24 #[.pointer (some ⟨t, 0, none⟩)] w fun e w' => e = .returned (.int .i64 (L.length : Nat)) ∧ w = w' := by
  obtain ⟨hv, lv, ms, hS, rfl, hA⟩ := h
  have := ref_Len hS
  rw [lenM] at this
  exact this
theorem refL_Bytes (h : RefL Z lo w t hs L) (hn : L.length ≤ 100000) :
    Calls Try.prog 26 #[.pointer (some ⟨t, 0, none⟩)] w fun e w' => e = .returned (.int .i64 (bytesL L : Nat)) ∧ ∃ n, w' = w.drewN n := by
  obtain ⟨hv, lv, ms, hS, rfl, hA⟩ := h
  rw [← lenM] at hn
  have := ref_Bytes hS hn
  rw [mapM_e] at this
  exact this
theorem skipL_Level (h : SkipL Z lo w t hs L) (hn : L.length ≤ 100000) (i : Int) :
    Calls Try.prog 16 #[.pointer (some ⟨t, 0, none⟩), .int .i64 i] w fun e w' => ∃ v cs, e = .returned v ∧ OutAt w.heap.size w' v cs ∧ cs.map MEnt.e = levelL L i ∧ Below w.heap.size w w' := by
  obtain ⟨hv, hb, xh, ns, hS, rfl, hA⟩ := h
  rw [← lenN] at hn
  have h12 : ∀ n ∈ ns, n.h ≤ 12 := fun n hn => (hS.base.each n hn).h12
  refine (skip_Level hS hn i).mono ?_
  rintro e w' ⟨v, cs, rfl, ho, hc, hb'⟩
  refine ⟨v, cs, rfl, ho, ?_, hb'⟩
  rw [hc]
  unfold lvlNSpec levelL lvlN
  by_cases h0 : 0 ≤ i
  · rw [if_pos h0]
    have e2 : ((absN ns).filter fun p => decide (i < (p.2 : Int))).map Prod.fst = (ns.filter fun n => decide (i < (n.h : Int))).map SN.e := by
      rw [absN, List.filter_map, List.map_map]
      rfl
    rw [e2]
    by_cases h1 : i < 12
    · rw [if_pos ⟨h0, h1⟩]
      congr 1
      refine List.filter_congr fun n _ => ?_
      have : (i.toNat < n.h) ↔ (i < (n.h : Int)) := by omega
      simp only [this]
    · rw [if_neg (by omega)]
      rw [List.filter_eq_nil_iff.2 (fun n hn => by have := h12 n hn; simp; omega)]
      rfl
  · rw [if_neg h0, if_neg (by omega)]
theorem refL_Level (h : RefL Z lo w t hs L) (hn : L.length ≤ 100000) (i : Int) :
    Calls Try.prog 17 #[.pointer (some ⟨t, 0, none⟩), .int .i64 i] w fun e w' => ∃ v cs, e = .returned v ∧ OutAt w.heap.size w' v cs ∧ cs.map MEnt.e = levelL L i ∧ Below w.heap.size w w' := by
  obtain ⟨hv, lv, ms, hS, rfl, hA⟩ := h
  rw [← lenM] at hn
  refine (ref_Level hS hn i).mono ?_
  rintro e w' ⟨v, cs, rfl, ho, hc, hb'⟩
  refine ⟨v, cs, rfl, ho, ?_, hb'⟩
  rw [hc]
  unfold lvlSpec levelL lvlE
  have e2 : ((absM ms).filter fun p => decide (i < (p.2 : Int))).map Prod.fst = (ms.filter fun n => decide (i < (n.h : Int))).map MEnt.e := by
    rw [absM, List.filter_map, List.map_map]
    rfl
  rw [e2]
end
end Go.Proofs.Ytpohhlddbdepcaa
