/-
  No cell of these rows narrows 'for every input' (looked for: loops, veiled, ifaces, maps, wideKeys, modest, calm, conditions, laid).
  DERIVED. THE GIVEN ROWS OF THIS SEAT. 3 by the template 'for every input the law returns true; each argument reads behind the call as it read before'; 0 by the template 'total and deterministic' (their statements: YtpohhlddbdepcaaTotals.lean).
  GIVEN WITH THE SEED: the statements are not yours to turn. If you find one false, say at which input.
  Laid BY PROGRAM, IN A SANDBOX (cutbox-rows.mjs): the forced cells as the released guide's own fill.sh prints them over the translation a825c4f02f4ea332… (all of the seat's roots in one cut). By AI agents, Wed Nov 11 2026. No macro, syntax, notation, axiom, sorry.
-/
import Derived.Test.YtpohhlddbdepcaaChecked
import GoSem.Claim
import GoSem.ClaimJoined
import GoSem.ClaimMapViews
import Derived.JoinedTies
import Derived.KernelRfl
namespace Go.Proofs.Ytpohhlddbdepcaa
/- THE CELL 'sum', in the pinned program and in every row, IS THE sha256 OF THE DUMP (.gsa) THAT YtpohhlddbdepcaaProg.lean LOADS. Nothing in Lean hashes anything: it is a label: what it is worth is what the hold of that sum in a sandbox is worth. -/
noncomputable def Try.pinned : Pinned := { name := "ytpohhlddbdepcaa", sum := "a825c4f02f4ea332080343228c3c1290f9140858ebbcbdd7c027c9403de1ed8a", checked := Try.checked }
namespace Rows
def none {H : Type} : Left H := { results := [], args := [] }

/-- 'cormorantlaw05.MemtablePlays': WHATEVER THE INPUT: true; the input reads as it did. -/
def memtablePlaysSpec : ChangeSpec := { name := "memtablePlays", fn := fun _ => fun
  | [d1, d2] => { results := [.lit (.bool true)], args := [d1, d2] }
  | _ => none }
def memtablePlaysRow : OpenClaim := { program := "ytpohhlddbdepcaa", sum := "a825c4f02f4ea332080343228c3c1290f9140858ebbcbdd7c027c9403de1ed8a", func := "cormorant/cormorantlaw05.MemtablePlays", spec := "memtablePlays", inPlace := ["internal/bytealg.Compare"], unfollowed := true, recurses := true, apart := false }
def MemtablePlaysSaid : Prop := memtablePlaysRow.holds Try.pinned (OpenSpec.ofChange memtablePlaysSpec)

/-- ITS FALSE NEIGHBOUR: 'it returns false'. Refute it at one input. -/
def memtablePlaysWrong : ChangeSpec := { name := "memtablePlays", fn := fun _ => fun
  | [d1, d2] => { results := [.lit (.bool false)], args := [d1, d2] }
  | _ => none }
def MemtablePlaysWrongFalsely : Prop := memtablePlaysRow.holds Try.pinned (OpenSpec.ofChange memtablePlaysWrong)

/-- 'cormorantlaw05.MemtableOrder': WHATEVER THE INPUT: true; the input reads as it did. -/
def memtableOrderSpec : ChangeSpec := { name := "memtableOrder", fn := fun _ => fun
  | [d1, d2, d3] => { results := [.lit (.bool true)], args := [d1, d2, d3] }
  | _ => none }
def memtableOrderRow : OpenClaim := { program := "ytpohhlddbdepcaa", sum := "a825c4f02f4ea332080343228c3c1290f9140858ebbcbdd7c027c9403de1ed8a", func := "cormorant/cormorantlaw05.MemtableOrder", spec := "memtableOrder", inPlace := ["internal/bytealg.Compare"], unfollowed := true, recurses := true, apart := false }
def MemtableOrderSaid : Prop := memtableOrderRow.holds Try.pinned (OpenSpec.ofChange memtableOrderSpec)

/-- ITS FALSE NEIGHBOUR: 'it returns false'. Refute it at one input. -/
def memtableOrderWrong : ChangeSpec := { name := "memtableOrder", fn := fun _ => fun
  | [d1, d2, d3] => { results := [.lit (.bool false)], args := [d1, d2, d3] }
  | _ => none }
def MemtableOrderWrongFalsely : Prop := memtableOrderRow.holds Try.pinned (OpenSpec.ofChange memtableOrderWrong)

/-- 'cormorantlaw05.MemtableLevels': WHATEVER THE INPUT: true; the input reads as it did. -/
def memtableLevelsSpec : ChangeSpec := { name := "memtableLevels", fn := fun _ => fun
  | [d1, d2] => { results := [.lit (.bool true)], args := [d1, d2] }
  | _ => none }
def memtableLevelsRow : OpenClaim := { program := "ytpohhlddbdepcaa", sum := "a825c4f02f4ea332080343228c3c1290f9140858ebbcbdd7c027c9403de1ed8a", func := "cormorant/cormorantlaw05.MemtableLevels", spec := "memtableLevels", inPlace := ["internal/bytealg.Compare"], unfollowed := true, recurses := true, apart := false }
def MemtableLevelsSaid : Prop := memtableLevelsRow.holds Try.pinned (OpenSpec.ofChange memtableLevelsSpec)

/-- ITS FALSE NEIGHBOUR: 'it returns false'. Refute it at one input. -/
def memtableLevelsWrong : ChangeSpec := { name := "memtableLevels", fn := fun _ => fun
  | [d1, d2] => { results := [.lit (.bool false)], args := [d1, d2] }
  | _ => none }
def MemtableLevelsWrongFalsely : Prop := memtableLevelsRow.holds Try.pinned (OpenSpec.ofChange memtableLevelsWrong)

/- THE SECOND FORM. 'bulk': how many values and letters a reading holds, each counted each time it is reached (what is shared counts as often as it is met; a slice's spare places count too). A statement '..UptoSaid' is the law's where the arguments, and the package variables that the reading takes, are together of bulk at most 1048576: NARROWER than '..Said'. Prove '..Said' where nothing that the law and all that it calls make is longer than what came in: it says more and counts as full. Else prove '..UptoSaid'. A law counts once. -/
mutual
def uptoBulk {H : Type} : DataW H → Nat
  | .lit (.string bytes) => bytes.length + 1
  | .lit _ => 1
  | .nil => 1
  | .ptr d => uptoBulk d + 1
  | .slice elems spare => uptoBulkAll elems + uptoBulkAll spare + 1
  | .agg parts => uptoBulkAll parts + 1
  | .iface _ d => uptoBulk d + 1
  | .map entries => uptoBulkEntries entries + 1
  | .held _ => 1
def uptoBulkAll {H : Type} : List (DataW H) → Nat
  | [] => 0
  | d :: r => uptoBulk d + uptoBulkAll r
def uptoBulkEntries {H : Type} : List (Lit × DataW H) → Nat
  | [] => 0
  | x :: r => uptoBulkEntry x + uptoBulkEntries r
def uptoBulkEntry {H : Type} : Lit × DataW H → Nat
  | (.string bytes, d) => bytes.length + uptoBulk d + 1
  | (_, d) => uptoBulk d + 1
 end
def uptoSmall : (H : Type) → List (DataW H) → Bool := fun _ ds => decide (uptoBulkAll ds ≤ 1048576)
def OpenSpec.upto (s : _root_.Go.ChangeSpec) : _root_.Go.OpenSpec := { _root_.Go.OpenSpec.ofChange s with cond := some uptoSmall }

/-- 'cormorantlaw05.MemtablePlays', WHERE WHAT IT READS IS OF BULK AT MOST 1048576: true; the input reads as it did. -/
def memtablePlaysUptoRow : OpenClaim := { program := "ytpohhlddbdepcaa", sum := "a825c4f02f4ea332080343228c3c1290f9140858ebbcbdd7c027c9403de1ed8a", func := "cormorant/cormorantlaw05.MemtablePlays", spec := "memtablePlays", inPlace := ["internal/bytealg.Compare"], unfollowed := true, recurses := true, apart := false, narrowed := true }
def MemtablePlaysUptoSaid : Prop := memtablePlaysUptoRow.holds Try.pinned (OpenSpec.upto memtablePlaysSpec)

/-- 'cormorantlaw05.MemtableOrder', WHERE WHAT IT READS IS OF BULK AT MOST 1048576: true; the input reads as it did. -/
def memtableOrderUptoRow : OpenClaim := { program := "ytpohhlddbdepcaa", sum := "a825c4f02f4ea332080343228c3c1290f9140858ebbcbdd7c027c9403de1ed8a", func := "cormorant/cormorantlaw05.MemtableOrder", spec := "memtableOrder", inPlace := ["internal/bytealg.Compare"], unfollowed := true, recurses := true, apart := false, narrowed := true }
def MemtableOrderUptoSaid : Prop := memtableOrderUptoRow.holds Try.pinned (OpenSpec.upto memtableOrderSpec)

/-- 'cormorantlaw05.MemtableLevels', WHERE WHAT IT READS IS OF BULK AT MOST 1048576: true; the input reads as it did. -/
def memtableLevelsUptoRow : OpenClaim := { program := "ytpohhlddbdepcaa", sum := "a825c4f02f4ea332080343228c3c1290f9140858ebbcbdd7c027c9403de1ed8a", func := "cormorant/cormorantlaw05.MemtableLevels", spec := "memtableLevels", inPlace := ["internal/bytealg.Compare"], unfollowed := true, recurses := true, apart := false, narrowed := true }
def MemtableLevelsUptoSaid : Prop := memtableLevelsUptoRow.holds Try.pinned (OpenSpec.upto memtableLevelsSpec)

end Rows
end Go.Proofs.Ytpohhlddbdepcaa
