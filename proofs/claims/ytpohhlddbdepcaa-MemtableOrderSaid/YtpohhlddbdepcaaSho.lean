/-
  The walk of the document's examples.
-/
import Derived.Test.YtpohhlddbdepcaaFrm
namespace Go.Proofs.Ytpohhlddbdepcaa
open Go.RowKit

def eB1 : Ent := ⟨[98], 1, false, []⟩
def eA2 : Ent := ⟨[97], 2, false, []⟩
def eB5 : Ent := ⟨[98], 5, false, []⟩
theorem shown1 : putL [1, 3] [] eB1 = (0, [(eB1, 1)]) := by kernel_rfl
theorem shown2 : putL [1, 3] [(eB1, 1)] eA2 = (0, [(eA2, 3), (eB1, 1)]) := by kernel_rfl
theorem shown3 : putL [1, 3] [(eA2, 3), (eB1, 1)] eB5 = (0, [(eA2, 3), (eB5, 1), (eB1, 1)]) := by kernel_rfl
theorem shown4 : putL [1, 3] [(eA2, 3), (eB5, 1), (eB1, 1)] eB5 = (51, [(eA2, 3), (eB5, 1), (eB1, 1)]) := by kernel_rfl
theorem shown5 : getL [(eA2, 3), (eB5, 1), (eB1, 1)] [98] 4 = some eB1 := by kernel_rfl
theorem shown6 : levelL [(eA2, 3), (eB5, 1), (eB1, 1)] 2 = [eA2] := by kernel_rfl
theorem shown7 : stepsL [(eA2, 3), (eB5, 1), (eB1, 1)] [98] 1 = 3 := by kernel_rfl
theorem shown8 : bytesL [(eA2, 3), (eB5, 1), (eB1, 1)] = 51 := by kernel_rfl
end Go.Proofs.Ytpohhlddbdepcaa
