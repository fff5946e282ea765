/-
  Words for memory that the walks of this seat share: a slice that reads as a list of bytes, an array of entries, what a step may have turned.
  No condition: every lemma is over any world.
-/
import Derived.WalkKit
import Derived.WalkSpells
import Derived.WalkLawsBesides
import Derived.Lib.Hide
import Derived.Maps.AppendAt
import Derived.Deep.Draws
import Derived.RangeFuncOwn
namespace Go.Proofs.Ytpohhlddbdepcaa
open Go.RowKit

/-- The walk stands here, for a law to be given by hand. -/
def Stop (p : Prop) : Prop := p
theorem Stop.of {p : Prop} (h : Stop p) : p := h
theorem Stop.mk {p : Prop} (h : p) : Stop p := h

def Big (l : List UInt8) : Prop := l.length ≤ 140737488355328

/-- A byte as a cell holds it. -/
def u8 (x : UInt8) : Value := .int .u8 (x.toNat : Int)

/-- Block g is just the cells cs of element type t. -/
def Blk (w : World) (g : Nat) (t : TypeId) (cs : Array Value) : Prop := w.heap[g]? = some (.cells cs t (0, 0))

section
variable {w w' : World} {g : Nat} {t : TypeId} {cs : Array Value}
theorem Blk.lt (h : Blk w g t cs) : g < w.heap.size := (Array.getElem?_eq_some_iff.1 h).1
theorem Blk.cells (h : Blk w g t cs) : ∀ i, w.cell? ⟨g, i, none⟩ = cs[i]? := fun i => cell_of_row w g i cs t (0, 0) h
theorem Blk.free (h : Blk w g t cs) : ∀ i, w.frozen? ⟨g, i, none⟩ = false := fun i => by
  unfold Blk at h
  simp [World.frozen?, h]
theorem Blk.new (w : World) (t : TypeId) (cs : Array Value) : Blk (w.alloc (.cells cs t)) w.heap.size t cs := heap_alloc_new w _
theorem Blk.new_at (w : World) (g : Nat) (t : TypeId) (cs : Array Value) (hg : g = w.heap.size) : Blk (w.alloc (.cells cs t)) g t cs := by subst hg; exact heap_alloc_new w _
theorem Blk.drew (h : Blk w g t cs) : Blk w.drew g t cs := h
theorem Blk.drewN (h : Blk w g t cs) (n : Nat) : Blk (w.drewN n) g t cs := h
theorem Blk.alloc (h : Blk w g t cs) (o : Obj) : Blk (w.alloc o) g t cs := (Below.heap_alloc w o g h.lt).trans h
theorem Blk.set_ (h : Blk w g t cs) (i : Nat) (u : Value) : Blk (w.setCell ⟨g, i, none⟩ u) g t (cs.setIfInBounds i u) := by
  unfold Blk at h ⊢
  simp [World.setCell, Array.getElem?_modify, h]
theorem Blk.far (h : Blk w g t cs) {p : Addr} (hp : g ≠ p.block) (u : Value) : Blk (w.setCell p u) g t cs := (Below.heap_setCell w p u g hp).trans h
theorem Blk.below {B : Nat} (h : Blk w g t cs) (hb : Below B w w') (hg : g < B) : Blk w' g t cs := (hb.block g hg).trans h
theorem Blk.old (h : Blk w g t cs) (hb : Below w.heap.size w w') : Blk w' g t cs := h.below hb h.lt
theorem Blk.grown {row : Option Nat} (h : Blk w g t cs) (hb : w.grownBy w' row) (hg : some g ≠ row) : Blk w' g t cs := (hb.block g h.lt hg).trans h
theorem Blk.ne_ {g' : Nat} {t' : TypeId} {cs' : Array Value} (h : Blk w g t cs) (h' : Blk w g' t' cs') (hne : t ≠ t') : g ≠ g' := by
  rintro rfl
  unfold Blk at h h'
  rw [h] at h'
  injection h' with h'
  injection h' with _ ht
  exact hne ht
end

/-- Behind the address the cells xs lie, in a block below B. -/
def RAt (B : Nat) (w : World) (a : Option Addr) (xs : List Value) : Prop :=
  ∀ j (h : j < xs.length), ∃ b o, a = some ⟨b, o, none⟩ ∧ b < B ∧ w.cell? ⟨b, o + j, none⟩ = some xs[j]

theorem RAt.keep {B : Nat} {w w' : World} {a : Option Addr} {xs : List Value} (h : RAt B w a xs) (hk : ∀ p : Addr, p.block < B → w'.cell? p = w.cell? p) : RAt B w' a xs := fun j hj => by
  obtain ⟨b, o, ha, hb, hc⟩ := h j hj
  exact ⟨b, o, ha, hb, (hk _ hb).trans hc⟩
theorem RAt.below {B : Nat} {w w' : World} {a : Option Addr} {xs : List Value} (h : RAt B w a xs) (hb : Below B w w') : RAt B w' a xs := h.keep fun _ hp => hb.cell hp
theorem RAt.mono {B B' : Nat} {w : World} {a : Option Addr} {xs : List Value} (h : RAt B w a xs) (hB : B ≤ B') : RAt B' w a xs := fun j hj => by
  obtain ⟨b, o, ha, hb, hc⟩ := h j hj
  exact ⟨b, o, ha, by omega, hc⟩
theorem RAt.drewN {B : Nat} {w : World} {a : Option Addr} {xs : List Value} (h : RAt B w a xs) (n : Nat) : RAt B (w.drewN n) a xs := h
theorem RAt.at_ {B : Nat} {w : World} {a : Option Addr} {xs : List Value} (h : RAt B w a xs) (hx : 0 < xs.length) : ∃ b o, a = some ⟨b, o, none⟩ ∧ b < B ∧ ∀ j u, xs[j]? = some u → w.cell? ⟨b, o + j, none⟩ = some u := by
  obtain ⟨b, o, ha, hb, _⟩ := h 0 hx
  refine ⟨b, o, ha, hb, fun j u hu => ?_⟩
  obtain ⟨hj, rfl⟩ := List.getElem?_eq_some_iff.1 hu
  obtain ⟨b', o', ha', _, hc⟩ := h j hj
  rw [ha] at ha'
  cases ha'
  exact hc

/-- The slice value v reads as the bytes l. -/
def BAt (B : Nat) (w : World) (v : Value) (l : List UInt8) : Prop := ∃ a c, v = .slice a l.length c ∧ l.length ≤ c ∧ RAt B w a (l.map u8)

section
variable {B B' : Nat} {w w' : World} {v : Value} {l : List UInt8}
theorem BAt.keep (h : BAt B w v l) (hk : ∀ p : Addr, p.block < B → w'.cell? p = w.cell? p) : BAt B w' v l := by
  obtain ⟨a, c, hv, hlc, hr⟩ := h
  exact ⟨a, c, hv, hlc, hr.keep hk⟩
theorem BAt.below (h : BAt B w v l) (hb : Below B w w') : BAt B w' v l := h.keep fun _ hp => hb.cell hp
theorem BAt.mono (h : BAt B w v l) (hB : B ≤ B') : BAt B' w v l := by
  obtain ⟨a, c, hv, hlc, hr⟩ := h
  exact ⟨a, c, hv, hlc, hr.mono hB⟩
theorem BAt.drewN (h : BAt B w v l) (n : Nat) : BAt B (w.drewN n) v l := h
theorem BAt.drew (h : BAt B w v l) : BAt B w.drew v l := h
theorem BAt.nil (B : Nat) (w : World) : BAt B w (.slice none 0 0) [] := ⟨none, 0, rfl, Nat.le_refl _, fun j h => by simp at h⟩
theorem BAt.at_ (h : BAt B w v l) {k : Nat} (hk : k < l.length) : ∃ b o c, v = .slice (some ⟨b, o, none⟩) l.length c ∧ l.length ≤ c ∧ b < B ∧ w.cell? ⟨b, o + k, none⟩ = some (.int .u8 (l[k].toNat : Int)) := by
  obtain ⟨a, c, rfl, hlc, hr⟩ := h
  obtain ⟨b, o, rfl, hb, hc⟩ := hr k (by simpa using hk)
  exact ⟨b, o, c, rfl, hlc, hb, by simpa [u8] using hc⟩
end

/-- The call's own bytes: nil, or from the head of an unfrozen block of bytes from block lo on. -/
def BOwn (lo : Nat) (w : World) (v : Value) (l : List UInt8) : Prop :=
  (v = .slice none 0 0 ∧ l = []) ∨ ∃ b c cs, v = .slice (some ⟨b, 0, none⟩) l.length c ∧ l.length ≤ c ∧ lo ≤ b ∧ w.heap[b]? = some (.cells cs 5 (0, 0)) ∧ cs.toList.take l.length = l.map u8

theorem getElem?_of_take {α : Type} {cs xs : List α} {n j : Nat} {u : α} (h : cs.take n = xs) (hu : xs[j]? = some u) : cs[j]? = some u := by
  subst h
  rw [List.getElem?_take] at hu
  split at hu
  · exact hu
  · cases hu

section
variable {lo lo' B : Nat} {w w' : World} {v : Value} {l : List UInt8}
theorem lt_of_heap {k : Nat} {o : Obj} (h : w.heap[k]? = some o) : k < w.heap.size := (Array.getElem?_eq_some_iff.1 h).1
theorem BOwn.reads (h : BOwn lo w v l) : BAt w.heap.size w v l := by
  rcases h with ⟨rfl, rfl⟩ | ⟨b, c, cs, rfl, hlc, _, hb, ht⟩
  · exact BAt.nil _ _
  · refine ⟨_, c, rfl, hlc, fun j hj => ⟨b, 0, rfl, lt_of_heap hb, ?_⟩⟩
    rw [cell_of_row w b (0 + j) cs _ (0, 0) hb]
    have := getElem?_of_take ht (List.getElem?_eq_getElem hj)
    simpa using this
theorem BOwn.keep (h : BOwn lo w v l) (hk : ∀ k, lo ≤ k → k < w.heap.size → w'.heap[k]? = w.heap[k]?) : BOwn lo w' v l := by
  rcases h with h | ⟨b, c, cs, rfl, hlc, hl, hb, ht⟩
  · exact .inl h
  · exact .inr ⟨b, c, cs, rfl, hlc, hl, (hk b hl (lt_of_heap hb)).trans hb, ht⟩
theorem BOwn.below (h : BOwn lo w v l) (hb : Below w.heap.size w w') : BOwn lo w' v l := h.keep fun k _ hk => hb.block k hk
theorem BOwn.mono (h : BOwn lo w v l) (hl : lo' ≤ lo) : BOwn lo' w v l := by
  rcases h with h | ⟨b, c, cs, rfl, hlc, h1, hb, ht⟩
  · exact .inl h
  · exact .inr ⟨b, c, cs, rfl, hlc, by omega, hb, ht⟩
theorem BOwn.drewN (h : BOwn lo w v l) (n : Nat) : BOwn lo (w.drewN n) v l := h
end

theorem World.below_alloc {B : Nat} {w : World} (hB : B ≤ w.heap.size) (o : Obj) : Below B w (w.alloc o) := (Below.refl _ _).alloc hB o
theorem below_drewN {B : Nat} {a w : World} (h : Below B a w) (n : Nat) : Below B a (w.drewN n) := ⟨h.os, h.tape, h.output, h.size, h.block⟩
theorem below_cells {W w1 : World} (hb : Below W.heap.size W w1) : ∀ b o, b < W.heap.size → w1.cell? ⟨b, o, none⟩ = W.cell? ⟨b, o, none⟩ := fun b o h => hb.cell (p := ⟨b, o, none⟩) h
theorem below_free {W w1 : World} (hb : Below W.heap.size W w1) : ∀ b o, b < W.heap.size → w1.frozen? ⟨b, o, none⟩ = W.frozen? ⟨b, o, none⟩ := fun b o h => hb.frozen (p := ⟨b, o, none⟩) h

theorem ret_int {k : IntKind} {a b : Int} (h : a = b) : Ending.returned (.int k a) = .returned (.int k b) := by rw [h]
theorem ret_bool {a b : Bool} (h : a = b) : Ending.returned (.bool a) = .returned (.bool b) := by rw [h]

theorem add_lit (b o j : Nat) : (⟨b, o, none⟩ : Addr).add j = ⟨b, o + j, none⟩ := by
  unfold Addr.add
  by_cases h : j = 0
  · subst h; rfl
  · simp [h]

theorem RAt.cells {B : Nat} {w : World} {p : Addr} {xs : List Value} (h : RAt B w (some p) xs) : ∀ j u, xs[j]? = some u → w.cell? (p.add j) = some u := by
  intro j u hu
  obtain ⟨hj, rfl⟩ := List.getElem?_eq_some_iff.1 hu
  obtain ⟨b', o', ha, _, hc⟩ := h j hj
  cases ha
  rw [add_lit]
  exact hc

theorem RAt.none_ {B : Nat} {w : World} {xs : List Value} (h : RAt B w none xs) : xs = [] := by
  rcases xs with _ | ⟨x, xs⟩
  · rfl
  · obtain ⟨b, o, ha, _⟩ := h 0 (by simp)
    cases ha

section
variable {P : Program} (w : World)
theorem run_append_src (base : Nat) (t ty e : TypeId) (i : TypeInfo) (z : Value) (size bytes : Nat) (ht : P.underlying t = some (.slice e)) (hi : P.info? e = some i) (hz : i.zero = some z)
    (hsize : i.size = size) (hby : i.bytes = bytes) (hzs : z.cells.size = size) (hsz : 0 < size)
    (v : Value) (n : Nat) (xs : List Value) (hown : w.ownsRow base e size v n xs)
    (B : Nat) (A : Option Addr) (m c : Nat) (news : List Value) (hl : news.length = m * size) (hr : RAt B w A news) (h1 : ∀ u ∈ news, u.oneCell' = true)
    (h63 : n + m ≤ maxLen) (hbytes : (n + m) * bytes ≤ 140737488355328) (hbase : base ≤ w.heap.size) :
    ∃ v' w', (Builtin.append_ #[t, t] ty #[v, .slice A m c]).run P w = .ok v' w' ∧ w'.ownsRow base e size v' (n + m) (xs ++ news) ∧ w.grownBy w' v.ownBlock ∧
      (v'.ownBlock = v.ownBlock ∨ v'.ownBlock = some w.heap.size) := by
  cases A with
  | some ad =>
    obtain ⟨v', w', hrun, h2, h3, _, h5⟩ := run_append_own_at (P := P) w base t ty e i z size bytes ht hi hz hsize hby hzs hsz v n xs hown ad m c news hl hr.cells h1 h63 hbytes hbase
    exact ⟨v', w', hrun, h2, h3, h5⟩
  | none =>
    obtain rfl := hr.none_
    have hm : m = 0 := by
      rcases Nat.mul_eq_zero.1 hl.symm with h | h
      · exact h
      · omega
    subst hm
    refine ⟨v, w, ?_, by simpa using hown, World.grownBy.refl w _, .inl rfl⟩
    rcases hown.2 with ⟨rfl, rfl⟩ | ⟨g, cap, cur, rfl, _, _, hnc, _⟩
    · simp [Builtin.append_, run_underlying ht, sizeOf, typeInfo, hi, Builtin.lenOf, Builtin.firstCells]
    · simp [Builtin.append_, run_underlying ht, sizeOf, typeInfo, hi, Builtin.lenOf, Builtin.firstCells, hnc, storeCells]

theorem wp_append_src {o : Oper} {a : Act} {K : Act → World → Prop} {Q : Exit → Act → World → Prop} (s x : Operand) (t : TypeId)
    (ho : o.op = .call { callee := .builtin .append, args := #[s, x], argTypes := #[t, t] })
    (base : Nat) (e : TypeId) (i : TypeInfo) (z : Value) (size bytes : Nat) (ht : P.underlying t = some (.slice e)) (hi : P.info? e = some i) (hz : i.zero = some z)
    (hsize : i.size = size) (hby : i.bytes = bytes) (hzs : z.cells.size = size) (hsz : 0 < size)
    (v : Value) (n : Nat) (xs : List Value) (hs : a.eval s = v) (hown : w.ownsRow base e size v n xs)
    (B : Nat) (A : Option Addr) (m c : Nat) (news : List Value) (hx : a.eval x = .slice A m c) (hl : news.length = m * size) (hr : RAt B w A news) (h1 : ∀ u ∈ news, u.oneCell' = true)
    (h63 : n + m ≤ maxLen) (hbytes : (n + m) * bytes ≤ 140737488355328) (hbase : base ≤ w.heap.size)
    (h : ∀ v' w', w'.ownsRow base e size v' (n + m) (xs ++ news) → w.grownBy w' v.ownBlock → (v'.ownBlock = v.ownBlock ∨ v'.ownBlock = some w.heap.size) → K (a.put o.dst v') w') : o.wp P a w K Q := by
  obtain ⟨v', w', hrun, h2, h3, h4⟩ := run_append_src (P := P) w base t o.type e i z size bytes ht hi hz hsize hby hzs hsz v n xs hown B A m c news hl hr h1 h63 hbytes hbase
  unfold Oper.wp execOp
  simp only [ho, resolve, invoke, builtin, Sem.run_bind, Sem.run_pure, Result.andThen_ok, List.map_toArray, List.map_cons, List.map_nil, hs, hx, hrun]
  exact h v' w' h2 h3 h4

theorem wpList_append_src {ops : Array Oper} {rest : List Oper} {o : Oper} {a : Act} {Q : Exit → Act → World → Prop} (hgd : o.guard = none) (s x : Operand) (t : TypeId)
    (ho : o.op = .call { callee := .builtin .append, args := #[s, x], argTypes := #[t, t] })
    (base : Nat) (e : TypeId) (i : TypeInfo) (z : Value) (size bytes : Nat) (ht : P.underlying t = some (.slice e)) (hi : P.info? e = some i) (hz : i.zero = some z)
    (hsize : i.size = size) (hby : i.bytes = bytes) (hzs : z.cells.size = size) (hsz : 0 < size)
    (v : Value) (n : Nat) (xs : List Value) (hs : a.eval s = v) (hown : w.ownsRow base e size v n xs)
    (B : Nat) (A : Option Addr) (m c : Nat) (news : List Value) (hx : a.eval x = .slice A m c) (hl : news.length = m * size) (hr : RAt B w A news) (h1 : ∀ u ∈ news, u.oneCell' = true)
    (h63 : n + m ≤ maxLen) (hbytes : (n + m) * bytes ≤ 140737488355328) (hbase : base ≤ w.heap.size)
    (h : ∀ v' w', w'.ownsRow base e size v' (n + m) (xs ++ news) → w.grownBy w' v.ownBlock → (v'.ownBlock = v.ownBlock ∨ v'.ownBlock = some w.heap.size) → wpList P ops Q rest (a.put o.dst v') w') : wpList P ops Q (o :: rest) a w :=
  wpList_plain hgd fun _ hK => wp_append_src w s x t ho base e i z size bytes ht hi hz hsize hby hzs hsz v n xs hs hown B A m c news hx hl hr h1 h63 hbytes hbase fun v' w' h2 h3 h4 => hK _ _ (h v' w' h2 h3 h4)
end

theorem RAt.lift {B : Nat} {w w' : World} {a : Option Addr} {xs : List Value} (h : RAt B w a xs) (hB : B ≤ w.heap.size) (hb : Below w.heap.size w w') : RAt B w' a xs := h.keep fun _ hp => hb.cell (by omega)

theorem BAt.lift {B : Nat} {w w' : World} {v : Value} {l : List UInt8} (h : BAt B w v l) (hB : B ≤ w.heap.size) (hb : Below w.heap.size w w') : BAt B w' v l := h.keep fun _ hp => hb.cell (by omega)
/-- 's[p:]': its address is some A; what lay behind s's address lies, from the p-th element on, behind A. -/
theorem slice_from {P : Program} (t e : TypeId) (i : TypeInfo) (size : Nat) (ht : P.underlying t = some (.slice e)) (hi : P.info? e = some i) (hz : i.size = size) (hsz : 0 < size) (al : Option Addr) (n c p : Nat) (hp : p ≤ n) (hc : n ≤ c) :
    ∃ A : Option Addr, (∀ w : World, (Instr.slice t (.slice al n c) (some (.int .i64 (p : Int))) none none).run P w = .ok (.slice A (n - p) (c - p)) w) ∧
      ∀ (B : Nat) (w : World) (xs : List Value), RAt B w al xs → xs.length = n * size → RAt B w A (xs.drop (p * size)) := by
  have he : P.elem t = e := by simp [Program.elem, ht]
  refine ⟨if c = p then al else al.map fun a => a.add (p * size), fun w => ?_, fun B w xs h hx => ?_⟩
  · rw [run_slice_l w t al n c (by rw [he]; exact ht) .i64 (p : Int) (by omega) (by omega), he]
    simp [sizeOf, typeInfo, hi, hz, sliced]
  · by_cases hcp : c = p
    · have : p = n := by omega
      rw [if_pos hcp, List.drop_of_length_le (by rw [hx, this]; exact Nat.le_refl _)]
      intro j hj; simp at hj
    · rw [if_neg hcp]
      cases al with
      | none =>
        rw [h.none_]
        intro j hj; simp at hj
      | some a =>
        intro j hj
        obtain ⟨b, o, ha, hb, hcell⟩ := h (p * size + j) (by simp at hj; omega)
        cases ha
        refine ⟨b, o + p * size, by simp [add_lit], hb, ?_⟩
        rw [Nat.add_assoc, hcell]
        simp
/-- The slice value owns its row, wherever it lies: BOwn out of the kit's own word. -/
theorem BOwn.of_row {lo : Nat} {w : World} {v : Value} {n : Nat} {l : List UInt8} {xs : List Value} (h : w.ownsRow lo 5 1 v n xs) (hx : xs = l.map u8) : BOwn lo w v l := by
  subst hx
  have hn : n = l.length := by have := h.1; simp at this; omega
  subst hn
  rcases h.2 with ⟨rfl, h0⟩ | ⟨g, cap, cur, rfl, hb, hg, hlc, _, _, ht⟩
  · exact .inl ⟨rfl, List.length_eq_zero_iff.1 h0⟩
  · exact .inr ⟨g, cap, cur, rfl, hlc, hb, hg, by simpa using ht⟩

theorem slice_of_row {w : World} {base : Nat} {e : TypeId} {size : Nat} {v : Value} {n : Nat} {xs : List Value} (h : w.ownsRow base e size v n xs) : ∃ A c, v = .slice A n c := by
  rcases h.2 with ⟨rfl, rfl⟩ | ⟨g, cap, cur, rfl, _⟩
  · exact ⟨none, 0, rfl⟩
  · exact ⟨_, cap, rfl⟩

theorem grownBy_setCell' (W : World) (p : Addr) (v : Value) : W.grownBy (W.setCell p v) (some p.block) :=
  ⟨rfl, rfl, rfl, by simp, fun k _ hk => Below.heap_setCell _ _ _ k (fun e => hk (by rw [e]))⟩
theorem own_blk_ne {w : World} {g : Nat} {t : TypeId} {cs : Array Value} {base : Nat} {e : TypeId} {size n : Nat} {v : Value} {xs : List Value} (h : w.ownsRow base e size v n xs) (hg : Blk w g t cs) (hne : e ≠ t) : v.ownBlock = none ∨ v.ownBlock ≠ some g := by
  rcases h.2 with ⟨rfl, _⟩ | ⟨g', cap, cur, rfl, _, hh, _⟩
  · exact .inl rfl
  · refine .inr fun he => ?_
    have : g' = g := by simpa [Value.ownBlock] using he
    subst this
    exact Blk.ne_ (t := e) hh hg hne rfl
/-- From w to w' no block has turned but those of S and new ones; a block of cells stays one, of its type and size; what is no cells stays. -/
structure Chg (S : Nat → Prop) (w w' : World) : Prop where
  os : w'.os = w.os
  tape : w'.tape = w.tape
  output : w'.output = w.output
  size : w.heap.size ≤ w'.heap.size
  block : ∀ k : Nat, k < w.heap.size → ¬ S k → w'.heap[k]? = w.heap[k]?
  shape : ∀ (k : Nat) (c : Array Value) (t : TypeId) (f : Nat × Nat), w.heap[k]? = some (.cells c t f) → ∃ c', w'.heap[k]? = some (.cells c' t f) ∧ c'.size = c.size
  others : ∀ (k : Nat) (o : Obj), w.heap[k]? = some o → o.isCells = false → w'.heap[k]? = some o

section
variable {S T : Nat → Prop} {a w w' : World}
theorem Chg.refl (S : Nat → Prop) (w : World) : Chg S w w := ⟨rfl, rfl, rfl, Nat.le_refl _, fun _ _ _ => rfl, fun _ c _ _ h => ⟨c, h, rfl⟩, fun _ _ h _ => h⟩
theorem Chg.trans (h : Chg S a w) (k : Chg T w w') (hT : ∀ b, T b → b < a.heap.size → S b) : Chg S a w' :=
  ⟨k.os.trans h.os, k.tape.trans h.tape, k.output.trans h.output, Nat.le_trans h.size k.size,
    fun b hb hS => (k.block b (Nat.lt_of_lt_of_le hb h.size) (fun ht => hS (hT b ht hb))).trans (h.block b hb hS),
    fun b c t f hc => by
      obtain ⟨c1, h1, e1⟩ := h.shape b c t f hc
      obtain ⟨c2, h2, e2⟩ := k.shape b c1 t f h1
      exact ⟨c2, h2, e2.trans e1⟩,
    fun b o hb ho => k.others b o (h.others b o hb ho) ho⟩
theorem Chg.mono (h : Chg S a w) (hS : ∀ b, b < a.heap.size → S b → T b) : Chg T a w :=
  ⟨h.os, h.tape, h.output, h.size, fun b hb hT => h.block b hb (fun hs => hT (hS b hb hs)), h.shape, h.others⟩
theorem Chg.of_below (h : Below w.heap.size w w') : Chg S w w' :=
  ⟨h.os, h.tape, h.output, h.size, fun b hb _ => h.block b hb, fun b c _ _ hc => ⟨c, (h.block b (lt_of_heap hc)).trans hc, rfl⟩, fun b _ hb _ => (h.block b (lt_of_heap hb)).trans hb⟩
theorem Chg.more (h : Chg S a w) (hb : Below w.heap.size w w') : Chg S a w' := h.trans (Chg.of_below (S := fun _ => False) hb) (fun _ h _ => h.elim)
theorem Chg.drew (h : Chg S a w) : Chg S a w.drew := ⟨h.os, h.tape, h.output, h.size, h.block, h.shape, h.others⟩
theorem Chg.drewN (h : Chg S a w) (n : Nat) : Chg S a (w.drewN n) := ⟨h.os, h.tape, h.output, h.size, h.block, h.shape, h.others⟩
theorem Chg.alloc (h : Chg S a w) (o : Obj) : Chg S a (w.alloc o) := h.more (World.below_alloc (Nat.le_refl _) o)
theorem Chg.setCell1 (S : Nat → Prop) (w : World) {p : Addr} (hp : S p.block) (u : Value) : Chg S w (w.setCell p u) := by
  refine ⟨rfl, rfl, rfl, by simp, fun k _ hk => Below.heap_setCell _ _ _ k (fun e => hk (by rw [e]; exact hp)), fun k c t f hc => ?_, fun k o hk ho => ?_⟩
  · by_cases hkp : k = p.block
    · subst hkp
      refine ⟨if p.spot.isSome then c else c.setIfInBounds p.off u, ?_, ?_⟩
      · simp [World.setCell, Array.getElem?_modify, hc]
      · split <;> simp
    · exact ⟨c, (Below.heap_setCell _ _ _ k hkp).trans hc, rfl⟩
  · exact (KeepsOthers.setCell w p u).same k o hk ho
theorem Chg.setCell (h : Chg S a w) {p : Addr} (hp : S p.block ∨ a.heap.size ≤ p.block) (u : Value) : Chg S a (w.setCell p u) :=
  h.trans (Chg.setCell1 (fun b => b = p.block) w rfl u) (fun b hb hl => by subst hb; rcases hp with hp | hp; exact hp; omega)
theorem Chg.below (h : Chg S a w) {B : Nat} (hB : B ≤ a.heap.size) (hS : ∀ b, b < B → ¬ S b) : Below B a w := ⟨h.os, h.tape, h.output, h.size, fun b hb => h.block b (Nat.lt_of_lt_of_le hb hB) (hS b hb)⟩
theorem Chg.keeps (h : Chg S a w) : KeepsOthers a w := ⟨h.size, h.others⟩
theorem Chg.own {base : Nat} {e : TypeId} {size n : Nat} {v : Value} {xs : List Value} (h : Chg S a w) (ho : a.ownsRow base e size v n xs) (hS : ∀ k, v.ownBlock = some k → ¬ S k) : w.ownsRow base e size v n xs := by
  refine ⟨ho.1, ?_⟩
  rcases ho.2 with hn | ⟨g, cap, cur, rfl, hb, hg, rest⟩
  · exact .inl hn
  · exact .inr ⟨g, cap, cur, rfl, hb, (h.block g (lt_of_heap hg) (hS g rfl)).trans hg, rest⟩
theorem Chg.blk {g : Nat} {t : TypeId} {cs : Array Value} (h : Chg S a w) (hb : Blk a g t cs) (hS : ¬ S g) : Blk w g t cs := (h.block g hb.lt hS).trans hb
end

theorem own_setCell_far {w : World} {g : Nat} {t : TypeId} {cs : Array Value} {base : Nat} {e : TypeId} {size n : Nat} {v : Value} {xs : List Value} (h : w.ownsRow base e size v n xs) (hg : Blk w g t cs) (hne : e ≠ t) (i : Nat) (u : Value) :
    (w.setCell ⟨g, i, none⟩ u).ownsRow base e size v n xs := h.kept (grownBy_setCell' w ⟨g, i, none⟩ u) (own_blk_ne h hg hne)
theorem below_of_grown_none {w w' : World} (h : w.grownBy w' none) : Below w.heap.size w w' := ⟨h.os, h.tape, h.output, h.size, fun k hk => h.block k hk (by simp)⟩
theorem BOwn.slice {lo : Nat} {w : World} {v : Value} {l : List UInt8} (h : BOwn lo w v l) : ∃ A c, v = .slice A l.length c := by
  rcases h with ⟨rfl, rfl⟩ | ⟨b, c, cs, rfl, _⟩
  · exact ⟨none, 0, rfl⟩
  · exact ⟨_, c, rfl⟩
theorem BAt.slice {B : Nat} {w : World} {v : Value} {l : List UInt8} (h : BAt B w v l) : ∃ A c, v = .slice A l.length c := by
  obtain ⟨a, c, rfl, _⟩ := h
  exact ⟨a, c, rfl⟩
theorem own_below {w w' : World} {base : Nat} {e : TypeId} {size : Nat} {v : Value} {n : Nat} {xs : List Value} (h : w.ownsRow base e size v n xs) (hb : Below w.heap.size w w') : w'.ownsRow base e size v n xs :=
  h.kept (row := none) ⟨hb.os, hb.tape, hb.output, hb.size, fun k hk _ => hb.block k hk⟩ (by cases hv : v.ownBlock <;> simp)

theorem BOwn.chg {S : Nat → Prop} {a w : World} {lo : Nat} {v : Value} {l : List UInt8} (h : BOwn lo a v l) (hc : Chg S a w) (hS : ∀ k, lo ≤ k → ¬ S k) : BOwn lo w v l :=
  h.keep fun k hk hlt => hc.block k hlt (hS k hk)
theorem BOwn.store {S : Nat → Prop} {a w : World} {lo : Nat} {v : Value} {l : List UInt8} (h : BOwn lo a v l) (hc : Chg S a w) {k : Nat} (hk : k < l.length) :
    ∃ b c u, v = .slice (some ⟨b, 0, none⟩) l.length c ∧ v.ownBlock = some b ∧ lo ≤ b ∧ b < a.heap.size ∧ l.length ≤ c ∧ w.cell? ⟨b, k, none⟩ = some u ∧ w.frozen? ⟨b, k, none⟩ = false := by
  rcases h with ⟨rfl, rfl⟩ | ⟨b, c, cs, rfl, hlc, hl, hb, ht⟩
  · simp at hk
  · obtain ⟨c', hb', hsz⟩ := hc.shape b cs _ _ hb
    have hlen : l.length ≤ cs.size := by
      have := congrArg List.length ht
      simp at this; omega
    refine ⟨b, c, c'[k]'(by omega), rfl, rfl, hl, lt_of_heap hb, hlc, ?_, ?_⟩
    · rw [cell_of_row w b k c' _ (0, 0) hb']
      exact Array.getElem?_eq_getElem _
    · exact frozen_of_row w b k c' _ hb'
theorem Chg.own2 {a w : World} {R O base n : Nat} {v : Value} {xs : List Value} {l : List UInt8} (h : Chg (fun b => b = R ∨ b = O) a w) (ho : a.ownsRow base 5 1 v n xs)
    (n1 : v.ownBlock = none ∨ v.ownBlock ≠ some R) (n2 : v.ownBlock = none ∨ v.ownBlock ≠ some O) (hx : xs = l.map u8) : BOwn base w v l :=
  BOwn.of_row (h.own ho fun k hk => by
    rintro (rfl | rfl)
    · rcases n1 with e | e <;> simp [hk] at e
    · rcases n2 with e | e <;> simp [hk] at e) hx

end Go.Proofs.Ytpohhlddbdepcaa
