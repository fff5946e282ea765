/-
  Scans of both tables, as functions of the list; New; what a turn of one table leaves of the other.
-/
import Derived.Test.YtpohhlddbdepcaaAbs
namespace Go.Proofs.Ytpohhlddbdepcaa
open Go.RowKit

theorem filter_drop {α : Type} (P : α → Bool) : ∀ (l : List α) (p : Nat), (∀ i (hi : i < l.length), P l[i] = decide (i < p)) → l.filter (fun a => !P a) = l.drop p
  | [], _, _ => by simp
  | a :: l, 0, h => by
    have h0 := h 0 (by simp)
    have ih := filter_drop P l 0 (fun i hi => by have := h (i + 1) (by simp; omega); simpa using this)
    simp at h0
    rw [List.filter_cons, h0, ih]
    simp
  | a :: l, p + 1, h => by
    have h0 := h 0 (by simp)
    have ih := filter_drop P l p (fun i hi => by have := h (i + 1) (by simp; omega); simpa using this)
    simp at h0
    rw [List.filter_cons, h0, ih]
    simp

theorem scan_drop {lo : Nat} {w : World} {t : Nat} {hs : List Int} {hv : Value} {hb xh : Nat} {ns : List SN} (hS : SkipAt lo w t hs hv hb xh ns) (fr : List UInt8) :
    (ns.drop (posOf SN.key SN.seq ns fr 4611686018427387905)).map SN.e = scanL (absN ns) fr := by
  rw [← filter_drop (fun n => aheadB n.e.key n.e.seq fr 4611686018427387905) ns _ (fun i hi => hS.base.order.test hi)]
  unfold scanL absN
  rw [List.filter_map, List.map_map]
  show _ = (ns.filter _).map SN.e
  congr 1
  refine List.filter_congr fun n hn => ?_
  have hs2 := (hS.base.each n hn).ok.seq.2
  simp only [Function.comp, aheadB]
  have e : decide ((4611686018427387905 : Int) < n.e.seq) = false := by simp; omega
  rw [e, Bool.and_false, Bool.or_false]
  by_cases hc : Lib.compareBytes n.e.key fr < 0
  · simp [hc]
  · simp [hc]; omega

section
variable {Z : Nat → Prop} {lo B : Nat} {w : World} {t : Nat} {hs : List Int} {L : List EH}
theorem skipL_scan (h : SkipL Z lo w t hs L) (hn : L.length ≤ 100000) {fv : Value} {fr : List UInt8} (hf : BAt B w fv fr) (hB : B ≤ w.heap.size) (hfl : Big fr) (most : Int) (hm : 1 ≤ most) :
    Calls Try.prog 13 #[.pointer (some ⟨t, 0, none⟩), fv, .int .i64 most] w fun e w' => ∃ v cs, e = .returned v ∧ OutAt w.heap.size w' v cs ∧ cs.map MEnt.e = (scanL L fr).take most.toNat ∧ Below w.heap.size w w' := by
  obtain ⟨hv, hb, xh, ns, hS, rfl, hA⟩ := h
  rw [← lenN] at hn
  have := law_scan hS hn hf hB hfl most hm
  rw [scan_drop hS] at this
  exact this
theorem refL_Scan (h : RefL Z lo w t hs L) (hn : L.length ≤ 100000) {fv : Value} {fr : List UInt8} (hf : BAt B w fv fr) (hB : B ≤ w.heap.size) (hfl : Big fr) :
    Calls Try.prog 14 #[.pointer (some ⟨t, 0, none⟩), fv] w fun e w' => ∃ v cs, e = .returned v ∧ OutAt w.heap.size w' v cs ∧ cs.map MEnt.e = scanL L fr ∧ Below w.heap.size w w' := by
  obtain ⟨hv, lv, ms, hS, rfl, hA⟩ := h
  rw [← lenM] at hn
  refine (ref_Scan hS hn hf hB hfl).mono ?_
  rintro e w' ⟨v, cs, rfl, ho, hc, hb'⟩
  refine ⟨v, cs, rfl, ho, ?_, hb'⟩
  rw [hc]
  unfold scanL scanE absM
  rw [List.filter_map, List.map_map]
  rfl
theorem skipL_New {v : Value} {l : List Int} (h : IAt B w v l) (hB : B ≤ w.heap.size) (hl : l.length * 8 ≤ 140737488355328) :
    Calls Try.prog 7 #[v] w fun e w' => ∃ t, e = .returned (.pointer (some ⟨t, 0, none⟩)) ∧ SkipL Z w.heap.size w' t l [] ∧ Below w.heap.size w w' :=
  (skip_New h hB hl).mono fun e w' ⟨t, hv, hb, xh, he, hS, hb'⟩ => ⟨t, he, ⟨hv, hb, xh, [], hS, rfl, by simp⟩, hb'⟩
theorem refL_New {v : Value} {l : List Int} (h : IAt B w v l) (hB : B ≤ w.heap.size) (hl : l.length * 8 ≤ 140737488355328) :
    Calls Try.prog 8 #[v] w fun e w' => ∃ t, e = .returned (.pointer (some ⟨t, 0, none⟩)) ∧ RefL Z w.heap.size w' t l [] ∧ Below w.heap.size w w' :=
  (ref_New h hB hl).mono fun e w' ⟨hv, he, hS, hb'⟩ => ⟨_, he, ⟨hv, _, [], hS, rfl, by simp⟩, hb'⟩
end
end Go.Proofs.Ytpohhlddbdepcaa
