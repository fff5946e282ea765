/-
  What is done with a table, as the law is handed it; both tables side by side; an entry written over whose bytes may have been written over before.
-/
import Derived.Test.YtpohhlddbdepcaaRow
import Derived.Test.YtpohhlddbdepcaaTab
namespace Go.Proofs.Ytpohhlddbdepcaa
open Go.ChangeShapes Go.WideShapes Go.ChangeAt Go.RowKit Go.Deep

structure MDeed where
  kind : Int
  m : MEnt
  n : Int
def MDeed.cells6 (d : MDeed) : List Value := [.int .i64 d.kind, d.m.kv, .int .u64 d.m.e.seq, .bool d.m.e.del, d.m.vv, .int .i64 d.n]
theorem MDeed.cells6_len (d : MDeed) : d.cells6.length = 6 := rfl

def DeedsAt (w : World) (v : Value) (ds : List MDeed) : Prop := ∃ (A : Option Addr) (c : Nat), v = .slice A ds.length c ∧ ds.length ≤ c ∧ RAt w.heap.size w A (ds.flatMap MDeed.cells6) ∧
  ∀ d ∈ ds, BAt w.heap.size w d.m.kv d.m.e.key ∧ BAt w.heap.size w d.m.vv d.m.e.val ∧ Big d.m.e.key ∧ Big d.m.e.val

theorem DeedsAt.at_ {w : World} {v : Value} {ds : List MDeed} (h : DeedsAt w v ds) {i : Nat} (hi : i < ds.length) : ∃ g o c, v = .slice (some ⟨g, o, none⟩) ds.length c ∧ g < w.heap.size ∧
    w.cell? ⟨g, o + i * 6, none⟩ = some (.int .i64 ds[i].kind) ∧ w.cell? ⟨g, o + i * 6 + 1, none⟩ = some ds[i].m.kv ∧ w.cell? ⟨g, o + i * 6 + 2, none⟩ = some (.int .u64 ds[i].m.e.seq) ∧ w.cell? ⟨g, o + i * 6 + 3, none⟩ = some (.bool ds[i].m.e.del) ∧ w.cell? ⟨g, o + i * 6 + 4, none⟩ = some ds[i].m.vv ∧ w.cell? ⟨g, o + i * 6 + 5, none⟩ = some (.int .i64 ds[i].n) := by
  obtain ⟨A, c, rfl, h2, h4, h5⟩ := h
  have hlen : (ds.flatMap MDeed.cells6).length = ds.length * 6 := flat_length MDeed.cells6 6 MDeed.cells6_len ds
  obtain ⟨g, o, rfl, hg, hcell⟩ := h4.at_ (by omega)
  have hget : ∀ j, j < 6 → (ds.flatMap MDeed.cells6)[i * 6 + j]? = ds[i].cells6[j]? := fun j hj => flat_get MDeed.cells6 6 MDeed.cells6_len ds i hi j hj
  refine ⟨g, o, c, rfl, hg, ?_, ?_, ?_, ?_, ?_, ?_⟩
  · have := hcell (i * 6 + 0) _ (by rw [hget 0 (by omega)]; rfl)
    simpa using this
  · have := hcell (i * 6 + 1) _ (by rw [hget 1 (by omega)]; rfl)
    rw [Nat.add_assoc]; exact this
  · have := hcell (i * 6 + 2) _ (by rw [hget 2 (by omega)]; rfl)
    rw [Nat.add_assoc]; exact this
  · have := hcell (i * 6 + 3) _ (by rw [hget 3 (by omega)]; rfl)
    rw [Nat.add_assoc]; exact this
  · have := hcell (i * 6 + 4) _ (by rw [hget 4 (by omega)]; rfl)
    rw [Nat.add_assoc]; exact this
  · have := hcell (i * 6 + 5) _ (by rw [hget 5 (by omega)]; rfl)
    rw [Nat.add_assoc]; exact this

theorem Try_cellsDe : Try.prog.cellsOf 34 = 6 := by kernel_rfl

section
variable {H : Type} {enc : TypeId × Value → H} {w : World} {n : Nat}
theorem open_deed {cs : List Value} {y : DataW H × List MemPlace} (h : DataW.trod enc Try.prog w 0 (fun _ => true) true n 34 cs = some y) (hs : Sized Try.prog 34 y.1) :
    ∃ d : MDeed, cs = MDeed.cells6 d ∧ BAt w.heap.size w d.m.kv d.m.e.key ∧ BAt w.heap.size w d.m.vv d.m.e.val ∧ Big d.m.e.key ∧ Big d.m.e.val := by
  obtain ⟨xs, n', rfl, rfl, hl, hlen, hf⟩ := DataW.trod_struct Try.underlying34 h
  rw [Try_cellsDe] at hl
  have f0 : DataW.trod enc Try.prog w 0 (fun _ => true) true n' 3 ((cs.drop 0).take (Try.prog.cellsOf 3)) = xs[0]? := hf 0 _ rfl
  have f1 : DataW.trod enc Try.prog w 0 (fun _ => true) true n' 32 ((cs.drop 1).take (Try.prog.cellsOf 32)) = xs[1]? := hf 1 _ rfl
  have f2 : DataW.trod enc Try.prog w 0 (fun _ => true) true n' 3 ((cs.drop 5).take (Try.prog.cellsOf 3)) = xs[2]? := hf 2 _ rfl
  rw [Try_cellsI] at f0 f2
  rw [Try_cellsEn] at f1
  match cs, hl, xs, hlen with
  | [c0, c1, c2, c3, c4, c5], _, [x0, x1, x2], _ =>
    have g0 : DataW.trod enc Try.prog w 0 (fun _ => true) true n' 3 [c0] = some x0 := by simpa using f0
    have g1 : DataW.trod enc Try.prog w 0 (fun _ => true) true n' 32 [c1, c2, c3, c4] = some x1 := by simpa using f1
    have g2 : DataW.trod enc Try.prog w 0 (fun _ => true) true n' 3 [c5] = some x2 := by simpa using f2
    have s1 := weights_agg (j := 1) Try.underlying34 hs rfl rfl
    obtain ⟨m, hm, b1, b2, b3, b4⟩ := open_entry g1 s1
    obtain ⟨k, he1, rfl, hw⟩ := DataW.trod_int Try.underlying3 g0
    obtain ⟨z, he2, rfl, hw2⟩ := DataW.trod_int Try.underlying3 g2
    cases he1
    cases he2
    cases hm
    exact ⟨⟨k, m, z⟩, rfl, b1, b2, b3, b4⟩

theorem open_deeds {v : Value} {y : DataW H × List MemPlace} (h : DataW.trod enc Try.prog w 0 (fun _ => true) true n 23 [v] = some y) (hs : Sized Try.prog 23 y.1) :
    ∃ ds, DeedsAt w v ds ∧ ds.length ≤ 9223372036854775807 := by
  rcases open_slice Try.underlying23 h with ⟨hv, rfl⟩ | ⟨a, len, cap, m, n', D, Pl, hv, hb, hl, hm, hmm, rfl, hi⟩
  · cases hv
    exact ⟨[], ⟨none, 0, rfl, Nat.le_refl _, fun j hj => by simp at hj, by simp⟩, by simp⟩
  · cases hv
    simp only [if_true] at hmm
    subst hmm
    unfold maxLen at hm
    rw [Try_cellsDe] at hi
    obtain ⟨ms, hml, hms⟩ := pick_each (p := fun i (d : MDeed) => w.cells? 0 (a.add (i * 6)) 6 = some (MDeed.cells6 d) ∧ BAt w.heap.size w d.m.kv d.m.e.key ∧ BAt w.heap.size w d.m.vv d.m.e.val ∧ Big d.m.e.key ∧ Big d.m.e.val) len (fun i hil => by
      obtain ⟨cs', h1, h2⟩ := hi i (by omega)
      obtain ⟨m, rfl, h3⟩ := open_deed h2 (sized_elem Try.underlying23 hs (by simp; exact ⟨i, hil, rfl⟩))
      exact ⟨m, h1, h3⟩)
    refine ⟨ms, ⟨some a, m, by simp [hml], by omega, RAt.of_cells fun i u hu => ?_, fun d hd => ?_⟩, by omega⟩
    · have hlt : i < ms.length * 6 := by
        have := (List.getElem?_eq_some_iff.1 hu).1
        rw [flat_length MDeed.cells6 6 MDeed.cells6_len] at this
        exact this
      have e : i = i / 6 * 6 + i % 6 := by omega
      have hq : i / 6 < ms.length := by omega
      obtain ⟨hc, _⟩ := hms (i / 6) hq
      obtain ⟨_, _, hat⟩ := World.cells?_some hc
      have := hat (i % 6) (Nat.mod_lt _ (by omega))
      rw [Go.Deep.add_add, ← e] at this
      rw [this, ← hu]
      conv => rhs; rw [e]
      rw [flat_get MDeed.cells6 6 MDeed.cells6_len ms (i / 6) hq (i % 6) (Nat.mod_lt _ (by omega))]
    · obtain ⟨i, hi, rfl⟩ := List.mem_iff_getElem.1 hd
      exact (hms i hi).2
end

/-- Both tables stand for lists; below the call's heap nothing has turned. Z: blocks in which none of their entries' bytes lie. -/
def PlI (Z : Nat → Prop) (w W : World) (t r : Nat) (hs : List Int) (L M : List EH) : Prop := ∃ lo lo', w.heap.size ≤ lo ∧ w.heap.size ≤ lo' ∧ SkipL Z lo W t hs L ∧ RefL Z lo' W r hs M ∧ Below w.heap.size w W
/-- What is no table and no link stays. -/
def StayB (W W' : World) : Prop := W.heap.size ≤ W'.heap.size ∧ ∀ b T cs, Blk W b T cs → T ≠ 59 → T ≠ 54 → T ≠ 62 → Blk W' b T cs
section
variable {Z Z' : Nat → Prop} {w W W' : World} {t r : Nat} {hs : List Int} {L M : List EH}
theorem PlI.bel (h : PlI Z w W t r hs L M) : Below w.heap.size w W := by
  obtain ⟨_, _, _, _, _, _, h⟩ := h
  exact h
theorem PlI.old (h : PlI Z w W t r hs L M) (hb : Below W.heap.size W W') : PlI Z w W' t r hs L M := by
  obtain ⟨lo, lo', h1, h2, h3, h4, h5⟩ := h
  exact ⟨lo, lo', h1, h2, h3.old hb, h4.old hb, h5.trans (hb.mono h5.size)⟩
theorem PlI.fresh (h : PlI Z w W t r hs L M) (hZ : ∀ b, Z' b → W.heap.size ≤ b) : PlI Z' w W t r hs L M := by
  obtain ⟨lo, lo', h1, h2, h3, h4, h5⟩ := h
  exact ⟨lo, lo', h1, h2, h3.fresh hZ, h4.fresh hZ, h5⟩
theorem PlI.less (h : PlI Z w W t r hs L M) : PlI (fun _ => False) w W t r hs L M := by
  obtain ⟨lo, lo', h1, h2, ⟨a, b, c, d, e, f, _⟩, ⟨a', b', c', e', f', _⟩, h5⟩ := h
  exact ⟨lo, lo', h1, h2, ⟨a, b, c, d, e, f, fun _ _ _ _ => id⟩, ⟨a', b', c', e', f', fun _ _ _ _ => id⟩, h5⟩
theorem SkipL.tblk {lo : Nat} (h : SkipL Z lo W t hs L) : lo ≤ t ∧ ∃ cs, Blk W t 59 cs := by
  obtain ⟨hv, hb, xh, ns, hS, _⟩ := h
  exact ⟨hS.lt, _, hS.tbl⟩
theorem RefL.tblk {lo : Nat} (h : RefL Z lo W r hs L) : lo ≤ r ∧ ∃ cs, Blk W r 62 cs := by
  obtain ⟨hv, lv, ms, hS, _⟩ := h
  exact ⟨hS.base, _, hS.tbl⟩
/-- Bytes that lie in Z alone turn. -/
theorem PlI.turn (h : PlI Z w W t r hs L M) {S : Nat → Prop} (hc : Chg S W W') (hS : ∀ b, S b → Z b ∧ w.heap.size ≤ b ∧ ∃ cs, Blk W b 5 cs) : PlI Z w W' t r hs L M := by
  obtain ⟨lo, lo', h1, h2, h3, h4, h5⟩ := h
  refine ⟨lo, lo', h1, h2, h3.turn hc (fun b T cs hb hT hs => ?_) (fun b cs hb hs => (hS b hs).1), h4.turn hc (fun b T cs hb hT hs => ?_) (fun b cs hb hs => (hS b hs).1), h5.trans (hc.below h5.size fun b hb hs => by have := (hS b hs).2.1; omega)⟩
  · obtain ⟨_, _, cs', hb'⟩ := hS b hs
    rcases hT with rfl | rfl | rfl | rfl <;> exact Blk.ne_ hb hb' (by decide) rfl
  · obtain ⟨_, _, cs', hb'⟩ := hS b hs
    rcases hT with rfl | rfl | rfl <;> exact Blk.ne_ hb hb' (by decide) rfl

theorem PlI.putS (h : PlI Z w W t r hs L M) (hZ : ∀ b, Z b → b < W.heap.size) (hn : L.length ≤ 100000) {kv vv : Value} {e : Ent} {B : Nat} (hk : BAt B W kv e.key) (hvv : BAt B W vv e.val) (hB : B ≤ W.heap.size) (hkl : Big e.key) (hvl : Big e.val) :
    Calls Try.prog 21 #[.pointer (some ⟨t, 0, none⟩), .agg #[kv, .int .u64 e.seq, .bool e.del, vv]] W fun x w' => x = .returned (.int .i64 (putL hs L e).1) ∧ PlI Z w w' t r hs (putL hs L e).2 M ∧ StayB W w' := by
  obtain ⟨lo, lo', h1, h2, h3, h4, h5⟩ := h
  obtain ⟨ht, cst, hbt⟩ := h3.tblk
  refine (skipL_Put h3 hZ hn hk hvv hB hkl hvl).mono ?_
  rintro x w' ⟨rfl, h6, h7⟩
  have key : ∀ b, SkS lo W t b → w.heap.size ≤ b ∧ ((∃ cs, Blk W b 59 cs) ∨ ∃ cs, Blk W b 54 cs) := by
    rintro b ⟨hb, rfl | ⟨cs, hcs⟩⟩
    · exact ⟨by omega, .inl ⟨cst, hbt⟩⟩
    · exact ⟨by omega, .inr ⟨cs, hcs⟩⟩
  refine ⟨rfl, ⟨lo, lo', h1, h2, h6, h4.turn h7 (fun b T cs hb hT hs => ?_) (fun b cs hb hs => ?_), h5.trans (h7.below h5.size fun b hb hs => by have := (key b hs).1; omega)⟩, h7.size, fun b T cs hb t1 t2 t3 => h7.blk hb fun hs => ?_⟩
  · rcases (key b hs).2 with ⟨cs', hb'⟩ | ⟨cs', hb'⟩
    · rcases hT with rfl | rfl | rfl <;> exact Blk.ne_ hb hb' (by decide) rfl
    · rcases hT with rfl | rfl | rfl <;> exact Blk.ne_ hb hb' (by decide) rfl
  · rcases (key b hs).2 with ⟨cs', hb'⟩ | ⟨cs', hb'⟩ <;> exact (Blk.ne_ hb hb' (by decide) rfl).elim
  · rcases (key b hs).2 with ⟨cs', hb'⟩ | ⟨cs', hb'⟩
    · exact Blk.ne_ hb hb' t1 rfl
    · exact Blk.ne_ hb hb' t2 rfl
theorem PlI.putR (h : PlI Z w W t r hs L M) (hZ : ∀ b, Z b → b < W.heap.size) (hn : M.length ≤ 100000) {kv vv : Value} {e : Ent} {B : Nat} (hk : BAt B W kv e.key) (hvv : BAt B W vv e.val) (hB : B ≤ W.heap.size) (hkl : Big e.key) (hvl : Big e.val) :
    Calls Try.prog 22 #[.pointer (some ⟨r, 0, none⟩), .agg #[kv, .int .u64 e.seq, .bool e.del, vv]] W fun x w' => x = .returned (.int .i64 (putL hs M e).1) ∧ PlI Z w w' t r hs L (putL hs M e).2 ∧ StayB W w' := by
  obtain ⟨lo, lo', h1, h2, h3, h4, h5⟩ := h
  obtain ⟨hr, csr, hbr⟩ := h4.tblk
  refine (refL_Put h4 hZ hn hk hvv hB hkl hvl).mono ?_
  rintro x w' ⟨rfl, h6, h7⟩
  refine ⟨rfl, ⟨lo, lo', h1, h2, h3.turn h7 (fun b T cs hb hT hs => ?_) (fun b cs hb hs => ?_), h6, h5.trans (h7.below h5.size fun b hb hs => by omega)⟩, h7.size, fun b T cs hb t1 t2 t3 => h7.blk hb fun hs => ?_⟩
  · subst hs
    rcases hT with rfl | rfl | rfl | rfl <;> exact Blk.ne_ hb hbr (by decide) rfl
  · subst hs
    exact (Blk.ne_ hb hbr (by decide) rfl).elim
  · subst hs
    exact Blk.ne_ hb hbr t3 rfl
end

section
variable {Z : Nat → Prop} {w W : World} {t r : Nat} {hs : List Int} {L M : List EH}
theorem PlI.lenS (h : PlI Z w W t r hs L M) : Calls Try.prog 23 #[.pointer (some ⟨t, 0, none⟩)] W fun e w' => e = .returned (.int .i64 (L.length : Nat)) ∧ W = w' := by
  obtain ⟨lo, lo', h1, h2, h3, h4, h5⟩ := h
  exact (skipL_Len h3).mono fun e w' ⟨h, h'⟩ => ⟨h, h'.symm⟩
theorem PlI.lenR (h : PlI Z w W t r hs L M) : Calls Try.prog 24 #[.pointer (some ⟨r, 0, none⟩)] W fun e w' => e = .returned (.int .i64 (M.length : Nat)) ∧ W = w' := by
  obtain ⟨lo, lo', h1, h2, h3, h4, h5⟩ := h
  exact refL_Len h4
theorem PlI.bytesS (h : PlI Z w W t r hs L M) : Calls Try.prog 25 #[.pointer (some ⟨t, 0, none⟩)] W fun e w' => e = .returned (.int .i64 (bytesL L : Nat)) ∧ W = w' := by
  obtain ⟨lo, lo', h1, h2, h3, h4, h5⟩ := h
  exact (skipL_Bytes h3).mono fun e w' ⟨h, h'⟩ => ⟨h, h'.symm⟩
theorem PlI.bytesR (h : PlI Z w W t r hs L M) (hn : M.length ≤ 100000) : Calls Try.prog 26 #[.pointer (some ⟨r, 0, none⟩)] W fun e w' => e = .returned (.int .i64 (bytesL M : Nat)) ∧ ∃ n, w' = W.drewN n := by
  obtain ⟨lo, lo', h1, h2, h3, h4, h5⟩ := h
  exact refL_Bytes h4 hn
/-- What Get answers, found or not. -/
def getR : Option Ent → Ent × Bool
  | none => (⟨[], 0, false, []⟩, false)
  | some x => (x, true)
theorem getPost_un {lo : Nat} {w' : World} {e : Ending} {o : Option Ent} (h : GetPost lo w' e o) : ∃ kv vv, e = .returned (.tuple #[.agg #[kv, .int .u64 (getR o).1.seq, .bool (getR o).1.del, vv], .bool (getR o).2]) ∧ BOwn lo w' kv (getR o).1.key ∧ BOwn lo w' vv (getR o).1.val ∧ Big (getR o).1.key ∧ Big (getR o).1.val := by
  cases o with
  | none => exact ⟨_, _, h, .inl ⟨rfl, rfl⟩, .inl ⟨rfl, rfl⟩, by simp [getR, Big], by simp [getR, Big]⟩
  | some x =>
    obtain ⟨kv, vv, h1, h2, h3, h4⟩ := h
    have := h4.key
    have := h4.val
    exact ⟨kv, vv, h1, h2, h3, (by omega : x.key.length ≤ 140737488355328), (by omega : x.val.length ≤ 140737488355328)⟩
theorem PlI.getS (h : PlI Z w W t r hs L M) (hn : L.length ≤ 100000) {ku : Value} {k : List UInt8} {s : Int} {B : Nat} (hk : BAt B W ku k) (hB : B ≤ W.heap.size) :
    Calls Try.prog 9 #[.pointer (some ⟨t, 0, none⟩), ku, .int .u64 s] W fun e w' => ∃ kv vv, e = .returned (.tuple #[.agg #[kv, .int .u64 (getR (getL L k s)).1.seq, .bool (getR (getL L k s)).1.del, vv], .bool (getR (getL L k s)).2]) ∧ BOwn W.heap.size w' kv (getR (getL L k s)).1.key ∧ BOwn W.heap.size w' vv (getR (getL L k s)).1.val ∧ Big (getR (getL L k s)).1.key ∧ Big (getR (getL L k s)).1.val ∧ PlI Z w w' t r hs L M ∧ Below W.heap.size W w' := by
  obtain ⟨lo, lo', h1, h2, h3, h4, h5⟩ := id h
  refine (skipL_Get h3 hn hk hB).mono fun e w' ⟨hb, hg⟩ => ?_
  obtain ⟨kv, vv, g1, g2, g3, g4, g5⟩ := getPost_un hg
  exact ⟨kv, vv, g1, g2, g3, g4, g5, h.old hb, hb⟩
theorem PlI.getR' (h : PlI Z w W t r hs L M) (hn : M.length ≤ 100000) {ku : Value} {k : List UInt8} {s : Int} {B : Nat} (hk : BAt B W ku k) (hB : B ≤ W.heap.size) (hkl : Big k) :
    Calls Try.prog 10 #[.pointer (some ⟨r, 0, none⟩), ku, .int .u64 s] W fun e w' => ∃ kv vv, e = .returned (.tuple #[.agg #[kv, .int .u64 (getR (getL M k s)).1.seq, .bool (getR (getL M k s)).1.del, vv], .bool (getR (getL M k s)).2]) ∧ BOwn W.heap.size w' kv (getR (getL M k s)).1.key ∧ BOwn W.heap.size w' vv (getR (getL M k s)).1.val ∧ PlI Z w w' t r hs L M ∧ Below W.heap.size W w' := by
  obtain ⟨lo, lo', h1, h2, h3, h4, h5⟩ := id h
  refine (refL_Get h4 hn hk hB hkl).mono fun e w' ⟨hb, hg⟩ => ?_
  obtain ⟨kv, vv, g1, g2, g3, g4, g5⟩ := getPost_un hg
  exact ⟨kv, vv, g1, g2, g3, h.old hb, hb⟩
theorem PlI.stepsS (h : PlI Z w W t r hs L M) (hn : L.length ≤ 100000) {ku : Value} {k : List UInt8} {s : Int} {B : Nat} (hk : BAt B W ku k) (hB : B ≤ W.heap.size) :
    Calls Try.prog 18 #[.pointer (some ⟨t, 0, none⟩), ku, .int .u64 s] W fun e w' => e = .returned (.int .i64 (stepsL L k s : Nat)) ∧ PlI Z w w' t r hs L M ∧ Below W.heap.size W w' := by
  obtain ⟨lo, lo', h1, h2, h3, h4, h5⟩ := id h
  exact (skipL_Steps h3 hn hk hB).mono fun e w' ⟨he, hb⟩ => ⟨he, h.old hb, hb⟩
theorem PlI.stepsR (h : PlI Z w W t r hs L M) (hn : M.length ≤ 100000) {ku : Value} {k : List UInt8} {s : Int} {B : Nat} (hk : BAt B W ku k) (hB : B ≤ W.heap.size) (hkl : Big k) :
    Calls Try.prog 19 #[.pointer (some ⟨r, 0, none⟩), ku, .int .u64 s] W fun e w' => e = .returned (.int .i64 (stepsL M k s : Nat)) ∧ PlI Z w w' t r hs L M ∧ Below W.heap.size W w' := by
  obtain ⟨lo, lo', h1, h2, h3, h4, h5⟩ := id h
  exact (refL_Steps h4 hn hk hB hkl).mono fun e w' ⟨he, hb⟩ => ⟨he, h.old hb, hb⟩
theorem PlI.levelS (h : PlI Z w W t r hs L M) (hn : L.length ≤ 100000) (i : Int) :
    Calls Try.prog 16 #[.pointer (some ⟨t, 0, none⟩), .int .i64 i] W fun e w' => ∃ v cs, e = .returned v ∧ OutAt W.heap.size w' v cs ∧ cs.map MEnt.e = levelL L i ∧ PlI Z w w' t r hs L M ∧ Below W.heap.size W w' := by
  obtain ⟨lo, lo', h1, h2, h3, h4, h5⟩ := id h
  exact (skipL_Level h3 hn i).mono fun e w' ⟨v, cs, he, ho, hc, hb⟩ => ⟨v, cs, he, ho, hc, h.old hb, hb⟩
theorem PlI.levelR (h : PlI Z w W t r hs L M) (hn : M.length ≤ 100000) (i : Int) :
    Calls Try.prog 17 #[.pointer (some ⟨r, 0, none⟩), .int .i64 i] W fun e w' => ∃ v, e = .returned v ∧ EntsAt w' v (levelL M i) ∧ PlI Z w w' t r hs L M ∧ Below W.heap.size W w' := by
  obtain ⟨lo, lo', h1, h2, h3, h4, h5⟩ := id h
  refine (refL_Level h4 hn i).mono fun e w' ⟨v, cs, he, ho, hc, hb⟩ => ⟨v, he, ?_, h.old hb, hb⟩
  rw [← hc]
  exact ho.ents
theorem PlI.scanS (h : PlI Z w W t r hs L M) (hn : L.length ≤ 100000) {fv : Value} {fr : List UInt8} {B : Nat} (hf : BAt B W fv fr) (hB : B ≤ W.heap.size) (hfl : Big fr) (most : Int) (hm : 1 ≤ most) :
    Calls Try.prog 13 #[.pointer (some ⟨t, 0, none⟩), fv, .int .i64 most] W fun e w' => ∃ v, e = .returned v ∧ EntsAt w' v ((scanL L fr).take most.toNat) ∧ PlI Z w w' t r hs L M ∧ Below W.heap.size W w' := by
  obtain ⟨lo, lo', h1, h2, h3, h4, h5⟩ := id h
  refine (skipL_scan h3 hn hf hB hfl most hm).mono fun e w' ⟨v, cs, he, ho, hc, hb⟩ => ⟨v, he, ?_, h.old hb, hb⟩
  rw [← hc]
  exact ho.ents
theorem PlI.scanR (h : PlI Z w W t r hs L M) (hn : M.length ≤ 100000) {fv : Value} {fr : List UInt8} {B : Nat} (hf : BAt B W fv fr) (hB : B ≤ W.heap.size) (hfl : Big fr) :
    Calls Try.prog 14 #[.pointer (some ⟨r, 0, none⟩), fv] W fun e w' => ∃ v, e = .returned v ∧ EntsAt w' v (scanL M fr) ∧ PlI Z w w' t r hs L M ∧ Below W.heap.size W w' := by
  obtain ⟨lo, lo', h1, h2, h3, h4, h5⟩ := id h
  refine (refL_Scan h4 hn hf hB hfl).mono fun e w' ⟨v, cs, he, ho, hc, hb⟩ => ⟨v, he, ?_, h.old hb, hb⟩
  rw [← hc]
  exact ho.ents
theorem scanL_length (L : List EH) (fr : List UInt8) : (scanL L fr).length ≤ L.length := by
  unfold scanL
  rw [List.length_map]
  exact List.length_filter_le _ _
end

/-- 's[:m]': the same row, m of it. -/
theorem run_prefix {P : Program} (t e : TypeId) (i : TypeInfo) (size : Nat) (ht : P.underlying t = some (.slice e)) (hi : P.info? e = some i) (hz : i.size = size) (al : Option Addr) (n c m : Nat) (hm : m ≤ c) (w : World) :
    (Instr.slice t (.slice al n c) none (some (.int .i64 (m : Int))) none).run P w = .ok (.slice al m c) w := by
  have he : P.elem t = e := by simp [Program.elem, ht]
  rw [run_slice_h w t al n c (by rw [he]; exact ht) .i64 (m : Int) (by omega) (by omega), he]
  cases al with
  | none => simp [sizeOf, typeInfo, hi, hz, sliced]
  | some a =>
    have : a.add 0 = a := by cases a; simp [Addr.add]
    simp [sizeOf, typeInfo, hi, hz, sliced, this]
theorem EntsAt.pre {w : World} {A : Option Addr} {n c : Nat} {es : List Ent} (h : EntsAt w (.slice A n c) es) {m : Nat} (hm : m ≤ es.length) : m ≤ c ∧ n = es.length ∧ EntsAt w (.slice A m c) (es.take m) := by
  obtain ⟨A', c', ms, h1, h2, rfl, h4, h5⟩ := h
  cases h1
  have hml : m ≤ ms.length := by simpa using hm
  have hlen : ((ms.take m).map MEnt.e).length = m := by simp; omega
  refine ⟨by simp at h2; omega, rfl, A, c, ms.take m, by rw [← List.map_take, hlen], by rw [← List.map_take, hlen]; simp at h2; omega, by rw [List.map_take], fun j hj => ?_, fun x hx => h5 x (List.mem_of_mem_take hx)⟩
  rw [flat_length MEnt.cells4 4 MEnt.cells4_len, List.length_take, Nat.min_eq_left hml] at hj
  have hj' : j < (ms.flatMap MEnt.cells4).length := by rw [flat_length MEnt.cells4 4 MEnt.cells4_len]; omega
  obtain ⟨b, o, e1, e2, e3⟩ := h4 j hj'
  refine ⟨b, o, e1, e2, e3.trans ?_⟩
  have hsplit : ms.flatMap MEnt.cells4 = (ms.take m).flatMap MEnt.cells4 ++ (ms.drop m).flatMap MEnt.cells4 := by rw [← List.flatMap_append, List.take_append_drop]
  have hjl : j < ((ms.take m).flatMap MEnt.cells4).length := by
    rw [flat_length MEnt.cells4 4 MEnt.cells4_len, List.length_take, Nat.min_eq_left hml]; exact hj
  have : (ms.flatMap MEnt.cells4)[j]? = ((ms.take m).flatMap MEnt.cells4)[j]? := by rw [hsplit, List.getElem?_append_left hjl]
  rw [List.getElem?_eq_getElem hj', List.getElem?_eq_getElem hjl] at this
  exact this

theorem BOwn.far {lo : Nat} {w w' : World} {S : Nat → Prop} {v : Value} {l : List UInt8} (h : BOwn lo w v l) (hc : Chg S w w') (hS : ∀ b, lo ≤ b → ¬ S b) : BOwn lo w' v l := by
  rcases h with h | ⟨b, c, cs, rfl, h1, h2, h3, h4⟩
  · exact .inl h
  · exact .inr ⟨b, c, cs, rfl, h1, h2, hc.blk h3 (hS b h2), h4⟩
theorem row_far {w w' : World} {S : Nat → Prop} {lo : Nat} {e : TypeId} {size n : Nat} {v : Value} {xs : List Value} (h : w.ownsRow lo e size v n xs) (hc : Chg S w w') (hS : ∀ b, lo ≤ b → ¬ S b) : w'.ownsRow lo e size v n xs :=
  hc.own h fun k hk => hS k (h.lt k hk).1
/-- What lies ahead of a table's blocks turns. -/
theorem SkipL.far {Z S : Nat → Prop} {lo : Nat} {w w' : World} {t : Nat} {hs : List Int} {L : List EH} (h : SkipL Z lo w t hs L) (hc : Chg S w w') (hS : ∀ b, lo ≤ b → ¬ S b) : SkipL Z lo w' t hs L := by
  obtain ⟨hv, hb, xh, ns, hA, h2, h3⟩ := h
  refine ⟨hv, hb, xh, ns, ⟨hc.blk hA.tbl (hS _ hA.lt), hA.lt, ⟨row_far hA.base.hrow hc hS, hc.blk hA.base.head (hS _ hA.base.lhb), hA.base.lhb, hA.base.lxh, fun n hn => ?_, hA.base.order, hA.base.dist⟩, fun q hq => hc.blk (hA.links q hq) (hS _ (hA.base.lxbOf hq))⟩, h2, h3⟩
  have hN := hA.base.each n hn
  exact ⟨hc.blk hN.blk (hS _ hN.lnb), hN.kv.far hc hS, hN.vv.far hc hS, hN.ok, hN.h1, hN.h12, hN.lnb, hN.lxb⟩
theorem RefL.far {Z S : Nat → Prop} {lo : Nat} {w w' : World} {t : Nat} {hs : List Int} {L : List EH} (h : RefL Z lo w t hs L) (hc : Chg S w w') (hS : ∀ b, lo ≤ b → ¬ S b) : RefL Z lo w' t hs L := by
  obtain ⟨hv, lv, ms, hA, h2, h3⟩ := h
  exact ⟨hv, lv, ms, ⟨hc.blk hA.tbl (hS _ hA.base), hA.base, row_far hA.hrow hc hS, row_far hA.lrow hc hS, fun m hm => ⟨(hA.each m hm).1.far hc hS, (hA.each m hm).2.1.far hc hS, (hA.each m hm).2.2⟩, hA.order⟩, h2, h3⟩
/-- A cell of a row of the call's own, behind what has turned. -/
theorem row_cell {S : Nat → Prop} {a w : World} {base : Nat} {e : TypeId} {v : Value} {n : Nat} {xs : List Value} (h : a.ownsRow base e 1 v n xs) (hc : Chg S a w) {k : Nat} (hk : k < n) :
    ∃ g c u, v = .slice (some ⟨g, 0, none⟩) n c ∧ v.ownBlock = some g ∧ base ≤ g ∧ g < a.heap.size ∧ w.cell? ⟨g, k, none⟩ = some u ∧ w.frozen? ⟨g, k, none⟩ = false := by
  rcases h.2 with ⟨_, h0⟩ | ⟨g, cap, cur, rfl, hb, hg, hnc, _, hsz, _⟩
  · omega
  · obtain ⟨c', hb', hsz'⟩ := hc.shape g cur _ _ hg
    refine ⟨g, cap, c'[k]'(by omega), rfl, rfl, hb, lt_of_heap hg, ?_, frozen_of_row w g k c' _ hb'⟩
    rw [cell_of_row w g k c' _ (0, 0) hb']
    exact Array.getElem?_eq_getElem _

set_option maxHeartbeats 1000000 in
/-- An entry of the call's own is written over, whatever its bytes are by now. -/
theorem law_mark2 {lo : Nat} {a w : World} {S0 : Nat → Prop} {kv vv : Value} {s : Int} {d : Bool} {k v : List UInt8} (hk : BOwn lo a kv k) (hv : BOwn lo a vv v) (hc0 : Chg S0 a w) (hkl : Big k) (hvl : Big v) :
    Calls Try.prog 12 #[.agg #[kv, .int .u64 s, .bool d, vv]] w fun e w' => e = .returned (.tuple #[]) ∧ Chg (fun b => kv.ownBlock = some b ∨ vv.ownBlock = some b) w w' := by
  unfold Big at hkl hvl
  have H0 : Chg (fun b => kv.ownBlock = some b ∨ vv.ownBlock = some b) w (w.alloc (.cells #[kv, .int .u64 s, .bool d, vv] 32)) := (Chg.refl _ _).alloc _
  have HC0 := Lib.hid (hc0.alloc (.cells #[kv, .int .u64 s, .bool d, vv] 32))
  have bA : Blk (w.alloc (.cells #[kv, .int .u64 s, .bool d, vv] 32)) w.heap.size 32 #[kv, .int .u64 s, .bool d, vv] := Blk.new _ _ _
  have hsz0 := hc0.size
  have hnk : kv.ownBlock ≠ some w.heap.size := by
    rcases hk with ⟨rfl, rfl⟩ | ⟨b, c, cs, rfl, _, _, hb, _⟩
    · simp [Value.ownBlock]
    · have := lt_of_heap hb
      simp [Value.ownBlock]; omega
  have hnv : vv.ownBlock ≠ some w.heap.size := by
    rcases hv with ⟨rfl, rfl⟩ | ⟨b, c, cs, rfl, _, _, hb, _⟩
    · simp [Value.ownBlock]
    · have := lt_of_heap hb
      simp [Value.ownBlock]; omega
  generalize hKB : kv.ownBlock = KB at *
  generalize hVB : vv.ownBlock = VB at *
  obtain ⟨ak, ck, hkv⟩ := hk.slice
  obtain ⟨av, cv, hvv⟩ := hv.slice
  subst hkv hvv
  have HK := Lib.hid hk
  have HV := Lib.hid hv
  have HKB := Lib.hid hKB
  have HVB := Lib.hid hVB
  have hsz : w.heap.size < w.heap.size + 1 := by omega
  clear hk hv hKB hVB hc0
  go_enter Try.func12, Try.ntmps12
  go_wp2_with fail
  obtain ⟨W, hW⟩ : ∃ W, W = w.alloc (.cells #[.slice ak k.length ck, .int .u64 s, .bool d, .slice av v.length cv] 32) := ⟨_, rfl⟩
  rw [← hW] at H0 bA HC0 ⊢
  have hsW : W.heap.size = w.heap.size + 1 := by rw [hW]; simp
  clear hW
  have HSW := Lib.hid hsW
  clear hsW
  go_loopw [2] (fun i wr => ∃ j : Nat, j ≤ k.length ∧ i = .int .i64 j ∧ Chg (fun b => KB = some b ∨ VB = some b) W wr) (fun i _ => k.length - (intOf i).toNat)
  case atStart => exact ⟨0, by omega, rfl, Chg.refl _ _⟩
  case round =>
    obtain ⟨j, hj, rfl, hch⟩ := hrel
    have bA1 := hch.blk bA (by rintro (h | h); exact hnk h; exact hnv h)
    have hcA := bA1.cells
    by_cases hlt : j < k.length
    · obtain ⟨b, c, u, hkv, hkb, hlo, hbs, hlc, hcell, hfree⟩ := HK.out.store ((HC0.out.mono (T := fun _ => True) (fun _ _ _ => trivial)).trans hch (fun _ _ _ => trivial)) hlt
      cases hkv
      have hbs2 : b < w.heap.size := by omega
      go_wp2_with fail
      go_roundw
      case rel => exact ⟨j + 1, by omega, by go_num, hch.setCell (.inl (.inl (by rw [← HKB.out]; exact hkb))) _⟩
      case measure => simp [intOf]; omega
    · go_wp2_with fail
      go_loopw [3] (fun i wr => ∃ j : Nat, j ≤ v.length ∧ i = .int .i64 j ∧ Chg (fun b => KB = some b ∨ VB = some b) W wr) (fun i _ => v.length - (intOf i).toNat)
      case atStart => exact ⟨0, by omega, rfl, hch⟩
      case round =>
        obtain ⟨j', hj', rfl, hch'⟩ := hrel
        have bA2 := hch'.blk bA (by rintro (h | h); exact hnk h; exact hnv h)
        clear hcA
        have hcA := bA2.cells
        by_cases hlt' : j' < v.length
        · obtain ⟨b, c, u, hkv, hkb, hlo, hbs, hlc, hcell, hfree⟩ := HV.out.store ((HC0.out.mono (T := fun _ => True) (fun _ _ _ => trivial)).trans hch' (fun _ _ _ => trivial)) hlt'
          cases hkv
          have hbs2 : b < w.heap.size := by omega
          go_wp2_with fail
          go_roundw
          case rel => exact ⟨j' + 1, by omega, by go_num, hch'.setCell (.inl (.inr (by rw [← HVB.out]; exact hkb))) _⟩
          case measure => simp [intOf]; omega
        · go_wp2_with fail
          go_end0
          exact ⟨rfl, H0.trans hch' (fun _ h _ => h)⟩

/-- An entry of a slice of the call's own, where bytes have turned. -/
theorem OutAt.mark_at {lo : Nat} {w wr : World} {A : Option Addr} {c : Nat} {cs : List MEnt} (h : OutAt lo w (.slice A cs.length c) cs) {S : Nat → Prop} (hc : Chg S w wr) (hS : ∀ b, S b → ∀ cs', ¬ Blk w b 32 cs') {k : Nat} (hk : k < cs.length) :
    ∃ g o c' B3 n3 B4 n4, (Value.slice A cs.length c) = .slice (some ⟨g, o, none⟩) cs.length c' ∧
    wr.cell? ⟨g, o + k * 4, none⟩ = some (.slice B3 cs[k].e.key.length n3) ∧ wr.cell? ⟨g, o + k * 4 + 1, none⟩ = some (.int .u64 cs[k].e.seq) ∧ wr.cell? ⟨g, o + k * 4 + 2, none⟩ = some (.bool cs[k].e.del) ∧ wr.cell? ⟨g, o + k * 4 + 3, none⟩ = some (.slice B4 cs[k].e.val.length n4) ∧
    BOwn lo w (.slice B3 cs[k].e.key.length n3) cs[k].e.key ∧ BOwn lo w (.slice B4 cs[k].e.val.length n4) cs[k].e.val ∧ Big cs[k].e.key ∧ Big cs[k].e.val := by
  have hrow : wr.ownsRow lo 32 4 (.slice A cs.length c) cs.length (cs.flatMap MEnt.cells4) := by
    refine hc.own h.row fun j hj hs => ?_
    rcases h.row.2 with ⟨hn, _⟩ | ⟨g, cap, cur, hv, _, hg, _⟩
    · rw [hn] at hj; simp [Value.ownBlock] at hj
    · rw [hv] at hj
      have : g = j := by simpa [Value.ownBlock] using hj
      subst this
      exact hS _ hs _ hg
  have hlen : (cs.flatMap MEnt.cells4).length = cs.length * 4 := flat_length MEnt.cells4 4 MEnt.cells4_len cs
  obtain ⟨g, o, hA, hg, hcell⟩ := (RAt.of_row hrow).at_ (by omega)
  have hget : ∀ j, j < 4 → (cs.flatMap MEnt.cells4)[k * 4 + j]? = cs[k].cells4[j]? := fun j hj => flat_get MEnt.cells4 4 MEnt.cells4_len cs k hk j hj
  obtain ⟨b1, b2, b3⟩ := h.each _ (List.getElem_mem hk)
  obtain ⟨B3, n3, h3⟩ := b1.slice
  obtain ⟨B4, n4, h4⟩ := b2.slice
  rw [h3] at b1
  rw [h4] at b2
  have h0 : cs[k].cells4 = [.slice B3 cs[k].e.key.length n3, .int .u64 cs[k].e.seq, .bool cs[k].e.del, .slice B4 cs[k].e.val.length n4] := by
    unfold MEnt.cells4
    rw [h3, h4]
  have k1 := b3.key
  have k2 := b3.val
  refine ⟨g, o, c, B3, n3, B4, n4, by rw [hA], ?_, ?_, ?_, ?_, b1, b2, by unfold Big; omega, by unfold Big; omega⟩
  · have := hcell (k * 4 + 0) _ (by rw [hget 0 (by omega), h0]; rfl)
    simpa using this
  · have := hcell (k * 4 + 1) _ (by rw [hget 1 (by omega), h0]; rfl)
    rw [Nat.add_assoc]; exact this
  · have := hcell (k * 4 + 2) _ (by rw [hget 2 (by omega), h0]; rfl)
    rw [Nat.add_assoc]; exact this
  · have := hcell (k * 4 + 3) _ (by rw [hget 3 (by omega), h0]; rfl)
    rw [Nat.add_assoc]; exact this
end Go.Proofs.Ytpohhlddbdepcaa
