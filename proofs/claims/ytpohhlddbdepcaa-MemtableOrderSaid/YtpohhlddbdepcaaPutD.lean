/-
  The table behind a put.
-/
import Derived.Test.YtpohhlddbdepcaaPutB
namespace Go.Proofs.Ytpohhlddbdepcaa
open Go.RowKit

theorem BOwn.typed {lo : Nat} {w w' : World} {v : Value} {l : List UInt8} (h : BOwn lo w v l) (hk : ∀ b cs, Blk w b 5 cs → Blk w' b 5 cs) : BOwn lo w' v l := by
  rcases h with h | ⟨b, c, cs, rfl, h1, h2, h3, h4⟩
  · exact .inl h
  · exact .inr ⟨b, c, cs, rfl, h1, h2, hk b cs h3, h4⟩
theorem BOwn.typed2 {lo : Nat} {w w' : World} {v : Value} {l : List UInt8} (h : BOwn lo w v l) (hk : ∀ b cs, lo ≤ b → Blk w b 5 cs → Blk w' b 5 cs) : BOwn lo w' v l := by
  rcases h with h | ⟨b, c, cs, rfl, h1, h2, h3, h4⟩
  · exact .inl h
  · exact .inr ⟨b, c, cs, rfl, h1, h2, hk b cs h2 h3, h4⟩
theorem bytesOf_put {ns : List SN} {p : Nat} (n : SN) : bytesOf ((putAt ns p n).map SN.e) = bytesOf (ns.map SN.e) + (n.e.key.length + n.e.val.length + 16) := by
  have e : bytesOf (ns.map SN.e) = bytesOf ((ns.take p ++ ns.drop p).map SN.e) := by rw [List.take_append_drop]
  rw [e]
  simp only [putAt, bytesOf, List.map_append, List.map_cons, List.sum_append, List.sum_cons]
  omega
theorem BaseAt.lxbOf {lo : Nat} {w : World} {hs : List Int} {hv : Value} {hb xh : Nat} {ns : List SN} (h : BaseAt lo w hs hv hb xh ns) {q : Nat} (hq : q ≤ ns.length) : lo ≤ xbOf xh ns q := by
  cases q with
  | zero => exact h.lxh
  | succ q =>
    rw [xbOf_succ (by omega)]
    exact (h.each _ (List.getElem_mem (by omega))).lxb
theorem LinkInv.drew {ns : List SN} {xh : Nat} {qf : Nat → Nat} {p : Nat} {n : SN} {w5 wr : World} {j : Nat} (h : LinkInv ns xh qf p n w5 j wr) : LinkInv ns xh qf p n w5 j wr.drew := ⟨h.rows, h.new, h.chg.drew⟩

theorem LinkInv.done {lo lo' : Nat} {w5 wr : World} {t : Nat} {hs : List Int} {hv : Value} {hb xh : Nat} {ns : List SN} {qf : Nat → Nat} {p : Nat} {n : SN} (hS : SkipAt lo w5 t hs hv hb xh ns) (hM : MadeNode lo' ns p w5 n) (hlo : lo ≤ lo')
    (h0 : LinkInv ns xh qf p n w5 0 w5) (hL : LinkInv ns xh qf p n w5 n.h wr) (hp : p ≤ ns.length) (hqf : ∀ j, j < 12 → IsBp ns p j (qf j)) (h1 : 1 ≤ n.h) (h12 : n.h ≤ 12) (hxn : ∀ q, q ≤ ns.length → xbOf xh ns q ≠ n.xb) (hok : OkE n.e)
    (hord : InOrder SN.key SN.seq (putAt ns p n)) {wf : World} (hT : Blk wf t 59 #[hv, .pointer (some ⟨hb, 0, none⟩), .int .i64 ((ns.length + 1 : Nat)), .int .i64 ((bytesOf (ns.map SN.e) + (n.e.key.length + n.e.val.length + 16) : Nat))]) (hf : Chg (fun b => b = t) wr wf) :
    SkipAt lo wf t hs hv hb xh (putAt ns p n) := by
  have bTr := hL.far h0 hS.tbl (by decide)
  have far : ∀ {b : Nat} {ty : TypeId} {cs : Array Value}, Blk w5 b ty cs → ty ≠ 54 → ty ≠ 59 → Blk wf b ty cs := fun h ht ht' =>
    hf.blk (hL.far h0 h ht) (fun e => Blk.ne_ (hL.far h0 h ht) bTr ht' e)
  have farp : ∀ {b : Nat} {cs : Array Value}, Blk wr b 54 cs → Blk wf b 54 cs := fun h => hf.blk h (fun e => Blk.ne_ h bTr (by decide) e)
  have hall : Chg (fun b => (b = n.xb ∨ ∃ q, q ≤ ns.length ∧ b = xbOf xh ns q) ∨ b = t) w5 wf := Chg.trans (hL.chg.mono fun b _ h => .inl h) hf fun b h _ => .inr h
  refine ⟨?_, hS.lt, ⟨?_, far hS.base.head (by decide) (by decide), hS.base.lhb, hS.base.lxh, ?_, hord, ?_⟩, ?_⟩
  · rw [putAt_length _ _ hp, bytesOf_put]
    exact hT
  · refine hall.own hS.base.hrow fun k hk => ?_
    rintro ((rfl | ⟨q, hq, rfl⟩) | rfl)
    · rcases own_blk_ne hS.base.hrow h0.new (by decide) with h | h
      · rw [h] at hk; cases hk
      · exact h hk
    · rcases own_blk_ne hS.base.hrow (h0.rows q hq) (by decide) with h | h
      · rw [h] at hk; cases hk
      · exact h hk
    · rcases own_blk_ne hS.base.hrow hS.tbl (by decide) with h | h
      · rw [h] at hk; cases hk
      · exact h hk
  · intro m hm
    have hold : ∀ m ∈ ns, NodeAt lo wf m := fun m hm => by
      have h := hS.base.each m hm
      exact ⟨far h.blk (by decide) (by decide), h.kv.typed fun b cs hb => far hb (by decide) (by decide), h.vv.typed fun b cs hb => far hb (by decide) (by decide), h.ok, h.h1, h.h12, h.lnb, h.lxb⟩
    rcases List.mem_append.1 hm with hm | hm
    · exact hold m (List.mem_of_mem_take hm)
    · rcases List.mem_cons.1 hm with rfl | hm
      · exact ⟨far hM.node (by decide) (by decide), (hM.kv.typed fun b cs hb => far hb (by decide) (by decide)).mono hlo, (hM.vv.typed fun b cs hb => far hb (by decide) (by decide)).mono hlo, hok, h1, h12, Nat.le_trans hlo hM.lnb, Nat.le_trans hlo hM.lxb⟩
      · exact hold m (List.mem_of_mem_drop hm)
  · have hperm : List.Perm (xh :: (putAt ns p n).map SN.xb) (n.xb :: xh :: ns.map SN.xb) := by
      have e : (ns.map SN.xb) = (ns.take p).map SN.xb ++ (ns.drop p).map SN.xb := by rw [← List.map_append, List.take_append_drop]
      rw [e]
      simp only [putAt, List.map_append, List.map_cons]
      exact ((List.perm_middle).cons xh).trans (List.Perm.swap _ _ _)
    rw [hperm.nodup_iff, List.nodup_cons]
    refine ⟨fun hmem => ?_, hS.base.dist⟩
    rcases List.mem_cons.1 hmem with h | h
    · exact hxn 0 (by omega) h.symm
    · obtain ⟨m, hm, he⟩ := List.mem_map.1 h
      obtain ⟨k, hk, rfl⟩ := List.mem_iff_getElem.1 hm
      have := hxn (k + 1) (by omega)
      rw [xbOf_succ hk] at this
      exact this he
  · intro q' hq'
    rw [putAt_length _ _ hp] at hq'
    rcases Nat.lt_or_ge p q' with hlt | hge
    · rcases Nat.lt_or_ge (p + 1) q' with hlt2 | hge2
      · obtain ⟨r, rfl⟩ : ∃ r, q' = p + 2 + r := ⟨q' - p - 2, by omega⟩
        obtain ⟨_, e2, e3⟩ := put_high (hb := hb) (xh := xh) (n := n) hp r
        rw [e2, e3, show p + 2 + r = p + 1 + (r + 1) from by omega, putAt_drop_gt hp, show p + (r + 1) = p + 1 + r from by omega, ← put_row_high hqf h12 (nb := n.nb) (show p < p + 1 + r by omega)]
        exact farp (hL.rows _ (by omega))
      · obtain rfl : q' = p + 1 := by omega
        obtain ⟨_, e2, e3⟩ := put_at (hb := hb) (xh := xh) (n := n) hp
        have := putAt_drop_gt (n := n) (r := 0) hp
        rw [Nat.add_zero, Nat.add_zero] at this
        rw [e2, e3, this, ← newAt_full]
        exact farp hL.new
    · obtain ⟨_, e2, e3⟩ := put_low (hb := hb) (xh := xh) (n := n) hp hge
      rw [e2, e3, put_row_low hp hqf h12 hge]
      exact farp (hL.rows _ (by omega))
end Go.Proofs.Ytpohhlddbdepcaa
