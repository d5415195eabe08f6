/- The closed numbers of bulkheadlaw9's names; plain. -/
import Derived.Test.YtenfikfgliljmaaD2
import Derived.Test.YtenfikfgliljmaaD3
import Derived.Test.YtenfikfgliljmaaD4
namespace Go.Proofs.Ytenfikfgliljmaa.LA
abbrev sA : ByteArray := ⟨#[97]⟩
abbrev sB : ByteArray := ⟨#[98]⟩
abbrev sE : ByteArray := ⟨#[]⟩
theorem tA : sA.toList = [97] := by kernel_rfl
theorem tB : sB.toList = [98] := by kernel_rfl
theorem tE : sE.toList = [] := by kernel_rfl
def runsK : List Need := [⟨0, sA, 3, 0⟩, ⟨0, sE, 2, 0⟩]
def rowK : List Slot := [⟨sA, 0, 3⟩, ⟨sE, 3, 10⟩]
theorem flatK : flatL 10 runsK false = (rowK, 0, 0) := by kernel_rfl
theorem flatK0 : flatL 0 [] false = ([], -1, 92) := by kernel_rfl
theorem schedK : schedL rowK 11 = (sA, 2) := by kernel_rfl
theorem demK : demL 10 [⟨0, sA, 3, 0⟩] false = (3, true) := by kernel_rfl
theorem atK : atL [⟨2, 3⟩] 5 1 = (2, 2) := by kernel_rfl
theorem budK : budL sA rowK = 3 := by kernel_rfl
theorem budK2 : budL sE rowK = 7 := by kernel_rfl
theorem lenK : rowLen rowK = 10 := by kernel_rfl
theorem partK : partBits 7 10 = some 4604480259023595110 := by kernel_rfl
def runsN : List Need := [⟨0, sA, 1, 2⟩, ⟨0, sB, 2, 4⟩]
def rowN : List Slot := [⟨sA, 0, 1⟩, ⟨sB, 1, 2⟩, ⟨sA, 2, 3⟩, ⟨sB, 3, 4⟩]
theorem flatN : flatL 4 runsN true = (rowN, 0, 0) := by kernel_rfl
end Go.Proofs.Ytenfikfgliljmaa.LA
