/-
  The program's table in memory: a skiplist; and plain laws of its links.
-/
import Derived.Test.YtpohhlddbdepcaaS
import Derived.Test.YtpohhlddbdepcaaQ
namespace Go.Proofs.Ytpohhlddbdepcaa
open Go.RowKit

/-- A node of the skiplist: its entry, its height, where its bytes, itself and its links lie. -/
structure SN where
  e : Ent
  h : Nat
  kv : Value
  vv : Value
  nb : Nat
  xb : Nat
def SN.key (n : SN) : List UInt8 := n.e.key
def SN.seq (n : SN) : Int := n.e.seq

/-- The link on level j to the first of l. -/
def nxt (l : List SN) (j : Nat) : Value := match l.find? (fun n => decide (j < n.h)) with | some n => (.pointer (some ⟨n.nb, 0, none⟩)) | none => .pointer none
def arr (l : List SN) (h : Nat) : Array Value := ((List.range h).map (nxt l)).toArray
theorem arr_size (l : List SN) (h : Nat) : (arr l h).size = h := by simp [arr]
theorem arr_get (l : List SN) (h : Nat) {j : Nat} (hj : j < h) : (arr l h)[j]? = some (nxt l j) := by simp [arr, hj]

theorem nxt_cases (l : List SN) (i : Nat) : ∀ (q : Nat), (nxt (l.drop q) i = .pointer none ∧ ∀ k (h : k < l.length), q ≤ k → l[k].h ≤ i) ∨
    ∃ (k : Nat) (h : k < l.length), q ≤ k ∧ i < l[k].h ∧ (∀ j (hj : j < l.length), q ≤ j → j < k → l[j].h ≤ i) ∧ nxt (l.drop q) i = (.pointer (some ⟨l[k].nb, 0, none⟩)) := by
  intro q
  unfold nxt
  cases hf : (l.drop q).find? (fun n => decide (i < n.h)) with
  | none =>
    left
    refine ⟨rfl, fun k h hq => ?_⟩
    have := List.find?_eq_none.1 hf l[k] (by
      rw [List.mem_iff_getElem]
      exact ⟨k - q, by simp; omega, by rw [List.getElem_drop]; congr 1; omega⟩)
    simpa using this
  | some n =>
    right
    obtain ⟨hp, us, bs, hl, hno⟩ := List.find?_eq_some_iff_append.1 hf
    have hlen := congrArg List.length hl
    simp at hlen
    have hn : ∀ j (hj : j < (l.drop q).length), (l.drop q)[j] = (us ++ n :: bs)[j]'(by rw [← hl]; exact hj) := fun j hj => by simp [hl]
    have hk : q + us.length < l.length := by omega
    have e0 : l[q + us.length] = n := by
      have := hn us.length (by simp; omega)
      rw [List.getElem_drop] at this
      simpa using this
    refine ⟨q + us.length, hk, by omega, by rw [e0]; simpa using hp, fun j hj h1 h2 => ?_, by rw [e0]⟩
    have := hn (j - q) (by simp; omega)
    rw [List.getElem_drop, List.getElem_append_left (by omega)] at this
    have hx := hno us[j - q] (List.getElem_mem _)
    rw [← this] at hx
    have e1 : q + (j - q) = j := by omega
    simp only [e1] at hx
    simpa using hx

/-- The positions: 0 is the head, q + 1 the q-th node. -/
def nbOf (hb : Nat) (ns : List SN) : Nat → Nat
  | 0 => hb
  | q + 1 => match ns[q]? with | some n => n.nb | none => 0
def xbOf (xh : Nat) (ns : List SN) : Nat → Nat
  | 0 => xh
  | q + 1 => match ns[q]? with | some n => n.xb | none => 0
def htOf (ns : List SN) : Nat → Nat
  | 0 => 12
  | q + 1 => match ns[q]? with | some n => n.h | none => 0
theorem nbOf_succ {hb : Nat} {ns : List SN} {q : Nat} (h : q < ns.length) : nbOf hb ns (q + 1) = ns[q].nb := by simp [nbOf, List.getElem?_eq_getElem h]
theorem xbOf_succ {xh : Nat} {ns : List SN} {q : Nat} (h : q < ns.length) : xbOf xh ns (q + 1) = ns[q].xb := by simp [xbOf, List.getElem?_eq_getElem h]
theorem htOf_succ {ns : List SN} {q : Nat} (h : q < ns.length) : htOf ns (q + 1) = ns[q].h := by simp [htOf, List.getElem?_eq_getElem h]

/-- A node in memory, but for its links. -/
structure NodeAt (lo : Nat) (w : World) (n : SN) : Prop where
  blk : Blk w n.nb 57 #[n.kv, .int .u64 n.e.seq, .bool n.e.del, n.vv, .slice (some ⟨n.xb, 0, none⟩) n.h n.h]
  kv : BOwn lo w n.kv n.e.key
  vv : BOwn lo w n.vv n.e.val
  ok : OkE n.e
  h1 : 1 ≤ n.h
  h12 : n.h ≤ 12
  lnb : lo ≤ n.nb
  lxb : lo ≤ n.xb

/-- The table, but for its links and its counts. -/
structure BaseAt (lo : Nat) (w : World) (hs : List Int) (hv : Value) (hb xh : Nat) (ns : List SN) : Prop where
  hrow : w.ownsRow lo 3 1 hv hs.length (hs.map (.int .i64))
  head : Blk w hb 57 #[.slice none 0 0, .int .u64 0, .bool false, .slice none 0 0, .slice (some ⟨xh, 0, none⟩) 12 12]
  lhb : lo ≤ hb
  lxh : lo ≤ xh
  each : ∀ n ∈ ns, NodeAt lo w n
  order : InOrder SN.key SN.seq ns
  dist : (xh :: ns.map SN.xb).Nodup

structure SkipAt (lo : Nat) (w : World) (t : Nat) (hs : List Int) (hv : Value) (hb xh : Nat) (ns : List SN) : Prop where
  tbl : Blk w t 59 #[hv, (.pointer (some ⟨hb, 0, none⟩)), .int .i64 (ns.length : Nat), .int .i64 (bytesOf (ns.map SN.e) : Nat)]
  lt : lo ≤ t
  base : BaseAt lo w hs hv hb xh ns
  links : ∀ q, q ≤ ns.length → Blk w (xbOf xh ns q) 54 (arr (ns.drop q) (htOf ns q))

section
variable {lo : Nat} {w w' : World} {t : Nat} {hs : List Int} {hv : Value} {hb xh : Nat} {ns : List SN}
theorem NodeAt.old {n : SN} (h : NodeAt lo w n) (hw : Below w.heap.size w w') : NodeAt lo w' n := ⟨h.blk.old hw, h.kv.below hw, h.vv.below hw, h.ok, h.h1, h.h12, h.lnb, h.lxb⟩
theorem BaseAt.old (h : BaseAt lo w hs hv hb xh ns) (hw : Below w.heap.size w w') : BaseAt lo w' hs hv hb xh ns :=
  ⟨own_below h.hrow hw, h.head.old hw, h.lhb, h.lxh, fun n hn => (h.each n hn).old hw, h.order, h.dist⟩
theorem SkipAt.old (h : SkipAt lo w t hs hv hb xh ns) (hw : Below w.heap.size w w') : SkipAt lo w' t hs hv hb xh ns :=
  ⟨h.tbl.old hw, h.lt, h.base.old hw, fun q hq => (h.links q hq).old hw⟩
/-- What lies at a position. -/
theorem BaseAt.pos (h : BaseAt lo w hs hv hb xh ns) {q : Nat} (hq : q ≤ ns.length) : ∃ cs, Blk w (nbOf hb ns q) 57 cs ∧ cs[4]? = some (.slice (some ⟨xbOf xh ns q, 0, none⟩) (htOf ns q) (htOf ns q)) ∧ 1 ≤ htOf ns q ∧ htOf ns q ≤ 12 := by
  cases q with
  | zero => exact ⟨_, h.head, rfl, by simp [htOf], by simp [htOf]⟩
  | succ q =>
    have hq' : q < ns.length := by omega
    have hn := h.each _ (List.getElem_mem hq')
    rw [nbOf_succ hq', xbOf_succ hq', htOf_succ hq']
    exact ⟨_, hn.blk, rfl, hn.h1, hn.h12⟩
end

/-- q is where one stands on level j when e is searched for. -/
def IsBp (ns : List SN) (e j q : Nat) : Prop := q ≤ e ∧ q ≤ ns.length ∧ (∀ k (h : k < ns.length), q ≤ k → k < e → ns[k].h ≤ j) ∧ j < htOf ns q
end Go.Proofs.Ytpohhlddbdepcaa
