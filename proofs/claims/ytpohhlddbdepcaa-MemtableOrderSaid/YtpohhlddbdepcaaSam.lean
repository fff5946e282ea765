/-
  Slices of entries, read; the walk of the law's same.
-/
import Derived.Test.YtpohhlddbdepcaaV
import Derived.Test.YtpohhlddbdepcaaT
import Derived.Test.YtpohhlddbdepcaaF
import Derived.StillTailTactics
namespace Go.Proofs.Ytpohhlddbdepcaa
open Go.RowKit

/-- The slice v reads as the entries es. -/
def EntsAt (w : World) (v : Value) (es : List Ent) : Prop := ∃ (A : Option Addr) (c : Nat) (ms : List MEnt), v = .slice A es.length c ∧ es.length ≤ c ∧ ms.map MEnt.e = es ∧ RAt w.heap.size w A (ms.flatMap MEnt.cells4) ∧
  ∀ m ∈ ms, BAt w.heap.size w m.kv m.e.key ∧ BAt w.heap.size w m.vv m.e.val

section
variable {w w' : World} {v : Value} {es : List Ent}
theorem OutAt.ents {lo : Nat} {cs : List MEnt} (h : OutAt lo w v cs) : EntsAt w v (cs.map MEnt.e) := by
  obtain ⟨A, c, rfl⟩ := slice_of_row h.row
  have hc : cs.length ≤ c := by
    rcases h.row.2 with ⟨_, h0⟩ | ⟨g, cap, cur, hv, _, _, hc, _⟩
    · omega
    · cases hv; exact hc
  exact ⟨A, c, cs, by rw [List.length_map], by simpa using hc, rfl, RAt.of_row h.row, fun m hm => ⟨(h.each m hm).1.reads, (h.each m hm).2.1.reads⟩⟩
theorem EntsAt.old (h : EntsAt w v es) (hb : Below w.heap.size w w') : EntsAt w' v es := by
  obtain ⟨A, c, ms, h1, h2, h3, h4, h5⟩ := h
  exact ⟨A, c, ms, h1, h2, h3, (h4.below hb).mono hb.size, fun m hm => ⟨((h5 m hm).1.below hb).mono hb.size, ((h5 m hm).2.below hb).mono hb.size⟩⟩
theorem EntsAt.at_ (h : EntsAt w v es) {i : Nat} (hi : i < es.length) : ∃ g o c kv vv, v = .slice (some ⟨g, o, none⟩) es.length c ∧ es.length ≤ c ∧ g < w.heap.size ∧
    w.cell? ⟨g, o + i * 4, none⟩ = some kv ∧ w.cell? ⟨g, o + i * 4 + 1, none⟩ = some (.int .u64 es[i].seq) ∧ w.cell? ⟨g, o + i * 4 + 2, none⟩ = some (.bool es[i].del) ∧ w.cell? ⟨g, o + i * 4 + 3, none⟩ = some vv ∧
    BAt w.heap.size w kv es[i].key ∧ BAt w.heap.size w vv es[i].val := by
  obtain ⟨A, c, ms, rfl, h2, rfl, h4, h5⟩ := h
  have hi' : i < ms.length := by simpa using hi
  have hlen : (ms.flatMap MEnt.cells4).length = ms.length * 4 := flat_length MEnt.cells4 4 MEnt.cells4_len ms
  obtain ⟨g, o, rfl, hg, hcell⟩ := h4.at_ (by omega)
  have hget : ∀ j, j < 4 → (ms.flatMap MEnt.cells4)[i * 4 + j]? = ms[i].cells4[j]? := fun j hj => flat_get MEnt.cells4 4 MEnt.cells4_len ms i hi' j hj
  have e : (ms.map MEnt.e)[i] = ms[i].e := by simp
  rw [e]
  obtain ⟨b1, b2⟩ := h5 _ (List.getElem_mem hi')
  refine ⟨g, o, c, ms[i].kv, ms[i].vv, rfl, h2, hg, ?_, ?_, ?_, ?_, b1, b2⟩
  · have := hcell (i * 4 + 0) _ (by rw [hget 0 (by omega)]; rfl)
    simpa using this
  · have := hcell (i * 4 + 1) _ (by rw [hget 1 (by omega)]; rfl)
    rw [Nat.add_assoc]; exact this
  · have := hcell (i * 4 + 2) _ (by rw [hget 2 (by omega)]; rfl)
    rw [Nat.add_assoc]; exact this
  · have := hcell (i * 4 + 3) _ (by rw [hget 3 (by omega)]; rfl)
    rw [Nat.add_assoc]; exact this
theorem EntsAt.slice (h : EntsAt w v es) : ∃ A c, v = .slice A es.length c ∧ es.length ≤ c := by
  obtain ⟨A, c, ms, h1, h2, _⟩ := h
  exact ⟨A, c, h1, h2⟩
end

set_option maxHeartbeats 1000000 in
theorem law_same {w : World} {v u : Value} {es : List Ent} (h : EntsAt w v es) (h' : EntsAt w u es) (hn : es.length ≤ 100000) :
    Calls Try.prog 15 #[v, u] w fun e w' => e = .returned (.bool true) ∧ Below w.heap.size w w' := by
  have H := Lib.hid h
  have H' := Lib.hid h'
  obtain ⟨A, c, hv, hc⟩ := h.slice
  obtain ⟨A', c', hu, hc'⟩ := h'.slice
  subst hv hu
  clear h h'
  go_enter Try.func15, Try.ntmps15
  go_wp2_with fail
  go_loopw [5] (fun i wr => ∃ j : Nat, i = .int .i64 j ∧ j ≤ es.length ∧ Below w.heap.size w wr) (fun i _ => es.length - (intOf i).toNat)
  case atStart => exact ⟨0, rfl, by omega, Below.refl _ _⟩
  case round =>
    obtain ⟨j, rfl, hj, hb⟩ := hrel
    have HB := Lib.hid hb
    by_cases hlt : j < es.length
    · obtain ⟨g, o, c1, kv, vv, e1, e2, e3, k0, k1, k2, k3, bk, bv⟩ := (H.out.old hb).at_ hlt
      obtain ⟨g', o', c1', kv', vv', e1', e2', e3', k0', k1', k2', k3', bk', bv'⟩ := (H'.out.old hb).at_ hlt
      cases e1
      cases e1'
      obtain ⟨A1, n1, hA1⟩ := bk.slice
      obtain ⟨A2, n2, hA2⟩ := bv.slice
      obtain ⟨A3, n3, hA3⟩ := bk'.slice
      obtain ⟨A4, n4, hA4⟩ := bv'.slice
      subst hA1 hA2 hA3 hA4
      have i1 : (0 : Int) ≤ (j : Int) := by omega
      have i2 : (j : Int) < (es.length : Int) := by omega
      have HK := Lib.hid (And.intro bk bv)
      have HK' := Lib.hid (And.intro bk' bv')
      clear hb bk bv bk' bv'
      go_wp2_with fail
      go_still_tail 8, (by kernel_rfl)
      change wpList _ _ _ _ _ wr.drew
      go_wp2_with fail
      refine (law_sameOne HK.out.1.drew HK'.out.1.drew HK.out.2.drew HK'.out.2.drew (Nat.le_refl _) (Nat.le_refl _)).mono ?_
      rintro e w3 ⟨rfl, hb3⟩
      have htr : (es[j].key == es[j].key && decide (es[j].seq = es[j].seq) && es[j].del == es[j].del && es[j].val == es[j].val) = true := by simp
      rw [htr]
      have hb4 := HB.out.drew.trans (hb3.mono HB.out.size)
      clear htr hb3 k0 k1 k2 k3 k0' k1' k2' k3'
      go_wp2_with fail
      go_roundw
      case rel => exact ⟨j + 1, by go_num, by omega, hb4⟩
      case measure => simp [intOf]; omega
    · obtain rfl : j = es.length := by omega
      go_wp2_with fail
      go_ret
      exact ⟨rfl, hb⟩
end Go.Proofs.Ytpohhlddbdepcaa
