/- The functions fault.New, usufructlaw1.Told, usufructlaw1.Is by contracts. -/
import Derived.Test.YtjbcagbnagefcaaProg
import Derived.Test.YtjbcagbnagefcaaMem
import Derived.WalkKit
import Derived.WalkLawsBesides
import Derived.Deep.QuietTactic
import Derived.BigQuiet
namespace Go.Proofs.Ytjbcagbnagefcaa
open Go.RowKit

theorem ret_bool {a b : Bool} (h : a = b) : Ending.returned (.bool a) = .returned (.bool b) := by rw [h]

end Go.Proofs.Ytjbcagbnagefcaa
