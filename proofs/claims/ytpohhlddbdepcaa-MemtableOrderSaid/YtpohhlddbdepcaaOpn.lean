/-
  The arguments of the laws, opened: a slice of ints, a slice of entries; any that fit.
-/
import Derived.Test.YtpohhlddbdepcaaSam
import Derived.ProofKit
import Derived.Deep.Slices
import Derived.SizedLaws
import Derived.Below
namespace Go.Proofs.Ytpohhlddbdepcaa
open Go.ChangeShapes Go.WideShapes Go.ChangeAt Go.RowKit Go.Deep

theorem Try_cellsI : Try.prog.cellsOf 3 = 1 := by kernel_rfl
theorem Try_cellsU8 : Try.prog.cellsOf 5 = 1 := by kernel_rfl
theorem Try_cellsU64 : Try.prog.cellsOf 30 = 1 := by kernel_rfl
theorem Try_cellsB : Try.prog.cellsOf 4 = 1 := by kernel_rfl
theorem Try_cellsBs : Try.prog.cellsOf 29 = 1 := by kernel_rfl
theorem Try_cellsEn : Try.prog.cellsOf 32 = 4 := by kernel_rfl
theorem Try_bytesI : Try.prog.bytesOf 3 = 8 := by kernel_rfl
theorem Try_bytesU8 : Try.prog.bytesOf 5 = 1 := by kernel_rfl
theorem Try_bytesEn : Try.prog.bytesOf 32 = 64 := by kernel_rfl

section
variable {H : Type} {enc : TypeId × Value → H} {w : World} {base : Nat} {spare : Nat → Bool} {held : Bool}

/-- All that a reading holds is within the reach. -/
def Sized (P : Program) (t : TypeId) (d : DataW H) : Prop := ∀ n ∈ d.weights P t, n ≤ reachBytes

theorem addr_lit {a : Addr} (h : a.spot = none) : ∃ b o, a = ⟨b, o, none⟩ := by
  obtain ⟨b, o, s⟩ := a
  cases h
  exact ⟨b, o, rfl⟩
theorem RAt.of_cells {a : Addr} {xs : List Value} (h : ∀ i u, xs[i]? = some u → w.cell? (a.add i) = some u) : RAt w.heap.size w (some a) xs := by
  intro j hj
  have h0 : w.cell? (a.add 0) = some (xs[0]'(by omega)) := h 0 _ (List.getElem?_eq_getElem (by omega))
  rw [show a.add 0 = a from by cases a; simp [Addr.add]] at h0
  obtain ⟨b, o, rfl⟩ := addr_lit (World.cell?_spot h0)
  have hj' := h j _ (List.getElem?_eq_getElem hj)
  rw [add_lit] at hj'
  exact ⟨b, o, rfl, World.block_lt_of_cell? w _ h0, hj'⟩
end

section
variable {H : Type} {enc : TypeId × Value → H} {w : World}
theorem u8_of_int {z : Int} (h : (Lit.int .u8 z).wf = true) : ∃ x : UInt8, z = (x.toNat : Int) := by
  simp [Lit.wf, IntKind.min, IntKind.max, IntKind.signed, IntKind.bits] at h
  refine ⟨UInt8.ofNat z.toNat, ?_⟩
  simp
  omega
end

section
variable {H : Type} {enc : TypeId × Value → H} {w : World} {n : Nat}

theorem bytes_of_ints : ∀ {zs : List Int}, (∀ z ∈ zs, (Lit.int .u8 z).wf = true) → ∃ l : List UInt8, l.length = zs.length ∧ ∀ i, i < zs.length → (.int .u8 (zs.getD i 0) : Value) = (l.map u8).getD i undef
  | [], _ => ⟨[], rfl, by simp⟩
  | z :: zs, h => by
    obtain ⟨x, hx⟩ := u8_of_int (h z (by simp))
    obtain ⟨l, hl, hi⟩ := bytes_of_ints (fun z hz => h z (List.mem_cons_of_mem _ hz))
    refine ⟨x :: l, by simp [hl], fun i hi' => ?_⟩
    cases i with
    | zero => simp [hx, u8]
    | succ i =>
      have := hi i (by simpa using hi')
      simpa using this

theorem open_bytes {v : Value} {y : DataW H × List MemPlace} (h : DataW.trod enc Try.prog w 0 (fun _ => true) true n 29 [v] = some y) (hs : Sized Try.prog 29 y.1) :
    ∃ l, BAt w.heap.size w v l ∧ l.length ≤ reachBytes := by
  rcases open_ints Try.underlying29 Try.underlying5 Try_cellsU8 h with ⟨hv, rfl⟩ | ⟨a, len, cap, zs, hv, hb, hl, hm, hlen, rfl, hc, hw⟩
  · cases hv
    exact ⟨[], BAt.nil _ _, by simp⟩
  · cases hv
    simp only [if_true] at hlen
    obtain ⟨l, hll, hli⟩ := bytes_of_ints hw
    have hsz := hs ((((lits .u8 (zs.take len) : List (DataW H))).length + (lits .u8 (zs.drop len) : List (DataW H)).length) * Try.prog.bytesOf 5) (by simp [DataW.weights, Try.underlying29])
    rw [Try_bytesU8] at hsz
    simp [lits] at hsz
    refine ⟨l.take len, ⟨some a, cap, by rw [List.length_take]; congr 1; omega, by rw [List.length_take]; omega, RAt.of_cells fun i u hu => ?_⟩, by rw [List.length_take]; omega⟩
    obtain ⟨hi, rfl⟩ := List.getElem?_eq_some_iff.1 hu
    simp at hi
    rw [hc i (by omega), hli i (by omega)]
    simp [List.getD, List.getElem?_eq_getElem (show i < l.length by omega)]
end

section
variable {H : Type} {enc : TypeId × Value → H} {w : World} {n : Nat}

theorem open_heights {v : Value} {y : DataW H × List MemPlace} (h : DataW.trod enc Try.prog w 0 (fun _ => true) true n 22 [v] = some y) (hs : Sized Try.prog 22 y.1) :
    ∃ l, IAt w.heap.size w v l ∧ l.length * 8 ≤ reachBytes := by
  rcases open_ints Try.underlying22 Try.underlying3 Try_cellsI h with ⟨hv, rfl⟩ | ⟨a, len, cap, zs, hv, hb, hl, hm, hlen, rfl, hc, hw⟩
  · cases hv
    exact ⟨[], ⟨none, 0, rfl, Nat.le_refl _, fun j hj => by simp at hj⟩, by simp⟩
  · cases hv
    simp only [if_true] at hlen
    have hsz := hs ((((lits .i64 (zs.take len) : List (DataW H))).length + (lits .i64 (zs.drop len) : List (DataW H)).length) * Try.prog.bytesOf 3) (by simp [DataW.weights, Try.underlying22])
    rw [Try_bytesI] at hsz
    simp [lits] at hsz
    refine ⟨zs.take len, ⟨some a, cap, by rw [List.length_take]; congr 1; omega, by rw [List.length_take]; omega, RAt.of_cells fun i u hu => ?_⟩, by rw [List.length_take]; omega⟩
    obtain ⟨hi, rfl⟩ := List.getElem?_eq_some_iff.1 hu
    simp at hi
    rw [hc i (by omega)]
    simp [List.getD, List.getElem?_eq_getElem (show i < zs.length by omega)]

/-- One field of a struct that is one cell. -/
theorem trod_field {cs : List Value} {t : TypeId} {o : Nat} {y : Option (DataW H × List MemPlace)} (h : DataW.trod enc Try.prog w 0 (fun _ => true) true n t ((cs.drop o).take 1) = y) (ho : o < cs.length) : DataW.trod enc Try.prog w 0 (fun _ => true) true n t [cs[o]] = y := by
  rw [List.drop_eq_getElem_cons ho] at h
  exact h

theorem weights_agg {fs : Array Field} {t : TypeId} {ys : List (DataW H × List MemPlace)} (ht : Try.prog.underlying t = some (.struct fs)) (h : Sized Try.prog t (.agg (ys.map (·.1)))) {j : Nat} {f : Field} {y : DataW H × List MemPlace} (hf : fs[j]? = some f) (hy : ys[j]? = some y) : Sized Try.prog f.type y.1 := by
  intro m hm
  refine h m ?_
  simp only [DataW.weights, ht]
  exact DataW.weights_mem_each (j := j) (by simp [hf]) (by simp [hy]) m hm

/-- An entry, read out of its four cells. -/
theorem open_entry {cs : List Value} {y : DataW H × List MemPlace} (h : DataW.trod enc Try.prog w 0 (fun _ => true) true n 32 cs = some y) (hs : Sized Try.prog 32 y.1) :
    ∃ m : MEnt, cs = MEnt.cells4 m ∧ BAt w.heap.size w m.kv m.e.key ∧ BAt w.heap.size w m.vv m.e.val ∧ Big m.e.key ∧ Big m.e.val := by
  have hr : reachBytes < 2 ^ 47 := reachBytes_lt
  obtain ⟨xs, n', rfl, rfl, hl, hlen, hf⟩ := DataW.trod_struct Try.underlying32 h
  rw [Try_cellsEn] at hl
  have f0 : DataW.trod enc Try.prog w 0 (fun _ => true) true n' 29 ((cs.drop 0).take (Try.prog.cellsOf 29)) = xs[0]? := hf 0 _ rfl
  have f1 : DataW.trod enc Try.prog w 0 (fun _ => true) true n' 30 ((cs.drop 1).take (Try.prog.cellsOf 30)) = xs[1]? := hf 1 _ rfl
  have f2 : DataW.trod enc Try.prog w 0 (fun _ => true) true n' 4 ((cs.drop 2).take (Try.prog.cellsOf 4)) = xs[2]? := hf 2 _ rfl
  have f3 : DataW.trod enc Try.prog w 0 (fun _ => true) true n' 29 ((cs.drop 3).take (Try.prog.cellsOf 29)) = xs[3]? := hf 3 _ rfl
  rw [Try_cellsBs] at f0 f3
  rw [Try_cellsU64] at f1
  rw [Try_cellsB] at f2
  match cs, hl, xs, hlen with
  | [c0, c1, c2, c3], _, [x0, x1, x2, x3], _ =>
    have g0 : DataW.trod enc Try.prog w 0 (fun _ => true) true n' 29 [c0] = some x0 := by simpa using f0
    have g1 : DataW.trod enc Try.prog w 0 (fun _ => true) true n' 30 [c1] = some x1 := by simpa using f1
    have g2 : DataW.trod enc Try.prog w 0 (fun _ => true) true n' 4 [c2] = some x2 := by simpa using f2
    have g3 : DataW.trod enc Try.prog w 0 (fun _ => true) true n' 29 [c3] = some x3 := by simpa using f3
    have s0 := weights_agg (j := 0) Try.underlying32 hs rfl rfl
    have s3 := weights_agg (j := 3) Try.underlying32 hs rfl rfl
    obtain ⟨k, hk, hkl⟩ := open_bytes g0 s0
    obtain ⟨v, hv, hvl⟩ := open_bytes g3 s3
    obtain ⟨s, he1, rfl, hw⟩ := DataW.trod_int Try.underlying30 g1
    obtain ⟨b, he2, rfl⟩ := DataW.trod_bool Try.underlying4 g2
    cases he1
    cases he2
    exact ⟨⟨⟨k, s, b, v⟩, 0, c0, c3⟩, rfl, hk, hv, (by omega : k.length ≤ 140737488355328), (by omega : v.length ≤ 140737488355328)⟩

theorem sized_elem {t e : TypeId} {elems spare : List (DataW H)} (hu : Try.prog.underlying t = some (.slice e)) (h : Sized Try.prog t (.slice elems spare)) {d : DataW H} (hd : d ∈ elems) : Sized Try.prog e d := by
  intro m hm
  refine h m ?_
  simp only [DataW.weights, hu]
  refine List.mem_cons_of_mem _ (List.mem_append_left _ ?_)
  clear h
  induction elems with
  | nil => cases hd
  | cons x xs ih =>
    simp only [DataW.weightsAll]
    rcases List.mem_cons.1 hd with rfl | h
    · exact List.mem_append_left _ hm
    · exact List.mem_append_right _ (ih h)

theorem pick_each {α : Type} {p : Nat → α → Prop} : ∀ (n : Nat), (∀ i, i < n → ∃ a, p i a) → ∃ l : List α, l.length = n ∧ ∀ i (h : i < l.length), p i l[i]
  | 0, _ => ⟨[], rfl, fun i h => by simp at h⟩
  | n + 1, h => by
    obtain ⟨l, hl, hp⟩ := pick_each n (fun i hi => h i (by omega))
    obtain ⟨a, ha⟩ := h n (by omega)
    refine ⟨l ++ [a], by simp [hl], fun i hi => ?_⟩
    by_cases hin : i < l.length
    · rw [List.getElem_append_left hin]
      exact hp i hin
    · have : i = n := by simp at hi; omega
      subst this
      rw [List.getElem_append_right (by omega)]
      simpa [hl] using ha

/-- A slice of entries, read. -/
theorem open_entries {v : Value} {y : DataW H × List MemPlace} (h : DataW.trod enc Try.prog w 0 (fun _ => true) true n 39 [v] = some y) (hs : Sized Try.prog 39 y.1) :
    ∃ es, EntsAt w v es ∧ (∀ e ∈ es, Big e.key ∧ Big e.val) ∧ es.length ≤ 9223372036854775807 := by
  rcases open_slice Try.underlying39 h with ⟨hv, rfl⟩ | ⟨a, len, cap, m, n', D, Pl, hv, hb, hl, hm, hmm, rfl, hi⟩
  · cases hv
    exact ⟨[], ⟨none, 0, [], rfl, Nat.le_refl _, rfl, fun j hj => by simp at hj, by simp⟩, by simp, by simp⟩
  · cases hv
    simp only [if_true] at hmm
    subst hmm
    unfold maxLen at hm
    rw [Try_cellsEn] at hi
    obtain ⟨ms, hml, hms⟩ := pick_each (p := fun i (m : MEnt) => w.cells? 0 (a.add (i * 4)) 4 = some (MEnt.cells4 m) ∧ BAt w.heap.size w m.kv m.e.key ∧ BAt w.heap.size w m.vv m.e.val ∧ Big m.e.key ∧ Big m.e.val) len (fun i hil => by
      obtain ⟨cs', h1, h2⟩ := hi i (by omega)
      obtain ⟨m, rfl, h3⟩ := open_entry h2 (sized_elem Try.underlying39 hs (by simp; exact ⟨i, hil, rfl⟩))
      exact ⟨m, h1, h3⟩)
    refine ⟨ms.map MEnt.e, ⟨some a, m, ms, by simp [hml], by simp; omega, rfl, RAt.of_cells fun i u hu => ?_, fun m hm => ?_⟩, fun e he => ?_, by simp; omega⟩
    · have hlt : i < ms.length * 4 := by
        have := (List.getElem?_eq_some_iff.1 hu).1
        rw [flat_length MEnt.cells4 4 MEnt.cells4_len] at this
        exact this
      have e : i = i / 4 * 4 + i % 4 := by omega
      have hq : i / 4 < ms.length := by omega
      obtain ⟨hc, _⟩ := hms (i / 4) hq
      obtain ⟨_, _, hat⟩ := World.cells?_some hc
      have := hat (i % 4) (Nat.mod_lt _ (by omega))
      rw [Go.Deep.add_add, ← e] at this
      rw [this, ← hu]
      conv => rhs; rw [e]
      rw [flat_get MEnt.cells4 4 MEnt.cells4_len ms (i / 4) hq (i % 4) (Nat.mod_lt _ (by omega))]
    · obtain ⟨i, hi, rfl⟩ := List.mem_iff_getElem.1 hm
      exact ⟨(hms i hi).2.1, (hms i hi).2.2.1⟩
    · obtain ⟨m, hm, rfl⟩ := List.mem_map.1 he
      obtain ⟨i, hi, rfl⟩ := List.mem_iff_getElem.1 hm
      exact (hms i hi).2.2.2
end
end Go.Proofs.Ytpohhlddbdepcaa
