/-
  What a turn elsewhere leaves of the tables.
-/
import Derived.Test.YtpohhlddbdepcaaAbs2
namespace Go.Proofs.Ytpohhlddbdepcaa
open Go.RowKit

theorem BOwn.turn {lo : Nat} {w w' : World} {S : Nat → Prop} {v : Value} {l : List UInt8} (h : BOwn lo w v l) (hc : Chg S w w') (hS : ∀ b, v.ownBlock = some b → ¬ S b) : BOwn lo w' v l := by
  rcases h with h | ⟨b, c, cs, rfl, h1, h2, h3, h4⟩
  · exact .inl h
  · exact .inr ⟨b, c, cs, rfl, h1, h2, (hc.block b (lt_of_heap h3) (hS b rfl)).trans h3, h4⟩
theorem row_turn {w w' : World} {S : Nat → Prop} {base : Nat} {e : TypeId} {size n : Nat} {v : Value} {xs : List Value} (h : w.ownsRow base e size v n xs) (hc : Chg S w w') (hS : ∀ b cs, Blk w b e cs → ¬ S b) : w'.ownsRow base e size v n xs := by
  refine hc.own h fun k hk => ?_
  rcases h.2 with ⟨rfl, _⟩ | ⟨g, cap, cur, rfl, _, hg, _⟩
  · simp [Value.ownBlock] at hk
  · have : g = k := by simpa [Value.ownBlock] using hk
    subst this
    exact hS g cur hg

section
variable {Z S : Nat → Prop} {lo : Nat} {w w' : World} {t : Nat} {hs : List Int} {L : List EH}
theorem SkipL.turn (h : SkipL Z lo w t hs L) (hc : Chg S w w') (h1 : ∀ b T cs, Blk w b T cs → (T = 59 ∨ T = 3 ∨ T = 57 ∨ T = 54) → ¬ S b)
    (h2 : ∀ b cs, Blk w b 5 cs → S b → Z b) : SkipL Z lo w' t hs L := by
  obtain ⟨hv, hb, xh, ns, hS, rfl, hA⟩ := h
  refine ⟨hv, hb, xh, ns, ⟨hc.blk hS.tbl (h1 _ _ _ hS.tbl (.inl rfl)), hS.lt, ⟨row_turn hS.base.hrow hc (fun b cs hb => h1 _ _ _ hb (.inr (.inl rfl))), hc.blk hS.base.head (h1 _ _ _ hS.base.head (.inr (.inr (.inl rfl)))), hS.base.lhb, hS.base.lxh, fun n hn => ?_, hS.base.order, hS.base.dist⟩, fun q hq => hc.blk (hS.links q hq) (h1 _ _ _ (hS.links q hq) (.inr (.inr (.inr rfl))))⟩, rfl, hA⟩
  have hN := hS.base.each n hn
  refine ⟨hc.blk hN.blk (h1 _ _ _ hN.blk (.inr (.inr (.inl rfl)))), hN.kv.turn hc fun b hb hs => ?_, hN.vv.turn hc fun b hb hs => ?_, hN.ok, hN.h1, hN.h12, hN.lnb, hN.lxb⟩
  · obtain ⟨_, cs, hB⟩ := hN.kv.block hb
    exact hA n hn b (.inl hb) (h2 b cs hB hs)
  · obtain ⟨_, cs, hB⟩ := hN.vv.block hb
    exact hA n hn b (.inr hb) (h2 b cs hB hs)
theorem RefL.turn (h : RefL Z lo w t hs L) (hc : Chg S w w') (h1 : ∀ b T cs, Blk w b T cs → (T = 62 ∨ T = 3 ∨ T = 70) → ¬ S b)
    (h2 : ∀ b cs, Blk w b 5 cs → S b → Z b) : RefL Z lo w' t hs L := by
  obtain ⟨hv, lv, ms, hS, rfl, hA⟩ := h
  refine ⟨hv, lv, ms, ⟨hc.blk hS.tbl (h1 _ _ _ hS.tbl (.inl rfl)), hS.base, row_turn hS.hrow hc (fun b cs hb => h1 _ _ _ hb (.inr (.inl rfl))), row_turn hS.lrow hc (fun b cs hb => h1 _ _ _ hb (.inr (.inr rfl))), fun m hm => ?_, hS.order⟩, rfl, hA⟩
  obtain ⟨k1, k2, k3⟩ := hS.each m hm
  refine ⟨k1.turn hc fun b hb hs => ?_, k2.turn hc fun b hb hs => ?_, k3⟩
  · obtain ⟨_, cs, hB⟩ := k1.block hb
    exact hA m hm b (.inl hb) (h2 b cs hB hs)
  · obtain ⟨_, cs, hB⟩ := k2.block hb
    exact hA m hm b (.inr hb) (h2 b cs hB hs)
end
end Go.Proofs.Ytpohhlddbdepcaa
