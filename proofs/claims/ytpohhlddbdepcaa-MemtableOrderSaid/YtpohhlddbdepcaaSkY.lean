/-
  Two tables side by side: each keeps clear of the other's blocks.
-/
import Derived.Test.YtpohhlddbdepcaaOrd
namespace Go.Proofs.Ytpohhlddbdepcaa
open Go.RowKit

/-- The program's table stands for L; neither itself nor its links lie in Y. -/
def SkipY (Y : Nat → Prop) (lo : Nat) (w : World) (t : Nat) (hs : List Int) (L : List EH) : Prop := ∃ hv hb xh ns, SkipAt lo w t hs hv hb xh ns ∧ absN ns = L ∧ ¬ Y t ∧ ∀ x ∈ xh :: ns.map SN.xb, ¬ Y x

theorem xbOf_mem {xh : Nat} {ns : List SN} {q : Nat} (hq : q ≤ ns.length) : xbOf xh ns q ∈ xh :: ns.map SN.xb := by
  cases q with
  | zero => exact List.mem_cons_self
  | succ q =>
    rw [xbOf_succ (by omega)]
    exact List.mem_cons_of_mem _ (List.mem_map.2 ⟨_, List.getElem_mem _, rfl⟩)
theorem xb_is_xbOf {xh : Nat} {ns : List SN} {x : Nat} (hx : x ∈ xh :: ns.map SN.xb) : ∃ q, q ≤ ns.length ∧ x = xbOf xh ns q := by
  rcases List.mem_cons.1 hx with rfl | h
  · exact ⟨0, by omega, rfl⟩
  · obtain ⟨n, hn, rfl⟩ := List.mem_map.1 h
    obtain ⟨k, hk, rfl⟩ := List.mem_iff_getElem.1 hn
    exact ⟨k + 1, by omega, (xbOf_succ hk).symm⟩

section
variable {Y Y' : Nat → Prop} {lo B : Nat} {w w' : World} {t : Nat} {hs : List Int} {L : List EH}
theorem SkipY.toL (h : SkipY Y lo w t hs L) : SkipL (fun _ => False) lo w t hs L := by
  obtain ⟨hv, hb, xh, ns, h1, h2, h3, h4⟩ := h
  exact ⟨hv, hb, xh, ns, h1, h2, fun n hn b hb => id⟩
/-- Blocks that the table is made of stay: it stands as it stood. -/
theorem SkipY.keep (h : SkipY Y lo w t hs L) (hk : ∀ b T cs, Blk w b T cs → (T = 3 ∨ T = 57 ∨ T = 5 ∨ ((T = 59 ∨ T = 54) ∧ ¬ Y b)) → Blk w' b T cs) : SkipY Y lo w' t hs L := by
  obtain ⟨hv, hb, xh, ns, hS, rfl, hA, hX⟩ := h
  refine ⟨hv, hb, xh, ns, ⟨hk _ _ _ hS.tbl (.inr (.inr (.inr ⟨.inl rfl, hA⟩))), hS.lt, ⟨?_, hk _ _ _ hS.base.head (.inr (.inl rfl)), hS.base.lhb, hS.base.lxh, fun n hn => ?_, hS.base.order, hS.base.dist⟩, fun q hq => hk _ _ _ (hS.links q hq) (.inr (.inr (.inr ⟨.inr rfl, hX _ (xbOf_mem hq)⟩)))⟩, rfl, hA, hX⟩
  · refine ⟨hS.base.hrow.1, ?_⟩
    rcases hS.base.hrow.2 with h | ⟨g, cap, cur, h1, h2, h3, h4⟩
    · exact .inl h
    · exact .inr ⟨g, cap, cur, h1, h2, hk _ _ _ h3 (.inl rfl), h4⟩
  · have hN := hS.base.each n hn
    exact ⟨hk _ _ _ hN.blk (.inr (.inl rfl)), hN.kv.typed fun b cs hb => hk _ _ _ hb (.inr (.inr (.inl rfl))), hN.vv.typed fun b cs hb => hk _ _ _ hb (.inr (.inr (.inl rfl))), hN.ok, hN.h1, hN.h12, hN.lnb, hN.lxb⟩
theorem SkipY.old (h : SkipY Y lo w t hs L) (hb : Below w.heap.size w w') : SkipY Y lo w' t hs L := h.keep fun b T cs h _ => h.old hb
theorem SkipY.also (h : SkipY Y lo w t hs L) (hY : ∀ b, Y' b → b < w.heap.size → Y b) : SkipY Y' lo w t hs L := by
  obtain ⟨hv, hb, xh, ns, hS, h2, hA, hX⟩ := h
  refine ⟨hv, hb, xh, ns, hS, h2, fun hy => hA (hY _ hy hS.tbl.lt), fun x hx hy => hX x hx (hY _ hy ?_)⟩
  obtain ⟨q, hq, rfl⟩ := xb_is_xbOf hx
  exact (hS.links q hq).lt
theorem SkipY.order (h : SkipY Y lo w t hs L) : InOrder EH.key EH.seq L := by
  obtain ⟨hv, hb, xh, ns, hS, rfl, hA, hX⟩ := h
  have := hS.base.order
  unfold InOrder at this ⊢
  unfold absN
  rw [List.pairwise_map]
  exact this
/-- What a put of a table that keeps clear of Y may turn. -/
def PutS (Y : Nat → Prop) (w : World) (lo t : Nat) (b : Nat) : Prop := lo ≤ b ∧ ¬ Y b ∧ ((b = t ∧ ∃ cs, Blk w b 59 cs) ∨ ∃ cs, Blk w b 54 cs)
theorem SkipY.put (h : SkipY Y lo w t hs L) (hY : ∀ b, Y b → b < w.heap.size) (hn : L.length ≤ 100000) {kv vv : Value} {e : Ent} (hk : BAt B w kv e.key) (hvv : BAt B w vv e.val) (hB : B ≤ w.heap.size) (hkl : Big e.key) (hvl : Big e.val) :
    Calls Try.prog 21 #[.pointer (some ⟨t, 0, none⟩), .agg #[kv, .int .u64 e.seq, .bool e.del, vv]] w fun x w' => x = .returned (.int .i64 (putL hs L e).1) ∧ SkipY Y lo w' t hs (putL hs L e).2 ∧ Chg (PutS Y w lo t) w w' := by
  obtain ⟨hv, hb, xh, ns, hS, rfl, hA, hX⟩ := id h
  rw [← lenN] at hn
  unfold putL
  by_cases hm : mayB e.key e.seq e.del e.val = true
  · rw [if_pos hm]
    by_cases hi : isAtA (absN ns) e.key e.seq = true
    · rw [if_pos hi]
      refine (skip_Put_twice hS hn hk hvv hB hm (by rw [isAtN_abs]; exact hi)).mono ?_
      rintro x w' ⟨rfl, hb'⟩
      exact ⟨rfl, h.old hb', Chg.of_below hb'⟩
    · rw [if_neg hi]
      refine (skip_Put_ok hS hn hk hvv hB hm (by rw [isAtN_abs]; simpa using hi)).mono ?_
      rintro x w' ⟨rfl, ⟨n, hne, hnh, ⟨hk', hv', hxb⟩, hS'⟩, hc⟩
      refine ⟨rfl, ⟨_, _, _, _, hS', ?_, hA, fun x hx => ?_⟩, hc.mono ?_⟩
      · rw [absN, putAt_map, hne, hnh, posN, lenN]
        rfl
      · rw [putAt_map] at hx
        unfold putAt at hx
        rcases List.mem_cons.1 hx with rfl | hx
        · exact hX _ List.mem_cons_self
        · rcases List.mem_append.1 hx with hx | hx
          · exact hX x (List.mem_cons_of_mem _ (List.mem_of_mem_take hx))
          · rcases List.mem_cons.1 hx with rfl | hx
            · intro hy
              have := hY _ hy
              omega
            · exact hX x (List.mem_cons_of_mem _ (List.mem_of_mem_drop hx))
      · rintro b _ ⟨h1, rfl | ⟨q, hq, rfl⟩⟩
        · exact ⟨h1, hA, .inl ⟨rfl, _, hS.tbl⟩⟩
        · exact ⟨h1, hX _ (xbOf_mem hq), .inr ⟨_, hS.links q hq⟩⟩
  · rw [if_neg hm]
    refine (skip_Put_not hk hvv hkl hvl (by simpa using hm)).mono ?_
    rintro x w' ⟨rfl, hb'⟩
    exact ⟨rfl, h.old hb', Chg.of_below hb'⟩
/-- A put elsewhere leaves a table be. -/
theorem SkipY.turn (h : SkipY Y lo w t hs L) {lo' t' : Nat} (hc : Chg (PutS Y' w lo' t') w w') (hY : ∀ b, ¬ Y b → Y' b) : SkipY Y lo w' t hs L := by
  refine h.keep fun b T cs hb hT => hc.blk hb ?_
  rintro ⟨_, hy, h'⟩
  have key : T = 59 ∨ T = 54 := by
    rcases h' with ⟨_, cs', h'⟩ | ⟨cs', h'⟩
    · exact .inl (Decidable.byContradiction fun e => Blk.ne_ hb h' e rfl)
    · exact .inr (Decidable.byContradiction fun e => Blk.ne_ hb h' e rfl)
  rcases hT with rfl | rfl | rfl | ⟨_, hy'⟩
  · rcases key with h | h <;> exact absurd h (by decide)
  · rcases key with h | h <;> exact absurd h (by decide)
  · rcases key with h | h <;> exact absurd h (by decide)
  · exact hy (hY b hy')
theorem skipY_New {v : Value} {l : List Int} (h : IAt B w v l) (hB : B ≤ w.heap.size) (hl : l.length * 8 ≤ 140737488355328) :
    Calls Try.prog 7 #[v] w fun e w' => ∃ t, e = .returned (.pointer (some ⟨t, 0, none⟩)) ∧ SkipY (fun b => b < w.heap.size ∨ w'.heap.size ≤ b) w.heap.size w' t l [] ∧ Below w.heap.size w w' :=
  (skip_New h hB hl).mono fun e w' ⟨t, hv, hb, xh, he, hS, hb'⟩ => ⟨t, he, ⟨hv, hb, xh, [], hS, rfl, by
    have := hS.lt; have := hS.tbl.lt; omega, fun x hx => by
    obtain rfl : x = xh := by simpa using hx
    have := hS.base.lxh
    have := (hS.links 0 (Nat.zero_le _)).lt
    simp only [xbOf] at this
    omega⟩, hb'⟩
end

/-- A row of entries that the call made grows, or moves: tables stay. -/
theorem SkipY.grown {Y : Nat → Prop} {lo : Nat} {w w' : World} {t : Nat} {hs : List Int} {L : List EH} (h : SkipY Y lo w t hs L) {base n : Nat} {v : Value} {xs : List Value} (ho : w.ownsRow base 32 4 v n xs) (hg : w.grownBy w' v.ownBlock) : SkipY Y lo w' t hs L := by
  refine h.keep fun b T cs hb hT => hb.grown_own ho ?_ hg
  rintro rfl
  rcases hT with h | h | h | ⟨h | h, _⟩ <;> exact absurd h (by decide)
theorem row_put {Y : Nat → Prop} {lo t base n : Nat} {w w' : World} {v : Value} {xs : List Value} (ho : w.ownsRow base 32 4 v n xs) (hc : Chg (PutS Y w lo t) w w') : w'.ownsRow base 32 4 v n xs := by
  refine hc.own ho fun k hk => ?_
  rintro ⟨_, _, ⟨_, cs, h⟩ | ⟨cs, h⟩⟩
  · rcases own_blk_ne ho h (by decide) with e | e
    · rw [e] at hk; cases hk
    · exact e hk
  · rcases own_blk_ne ho h (by decide) with e | e
    · rw [e] at hk; cases hk
    · exact e hk
end Go.Proofs.Ytpohhlddbdepcaa
