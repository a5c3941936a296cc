/- wire.Reader: Hash. -/
import Derived.Test.YteifmkfkekglpaaDoorReader3
import Derived.Test.YteifmkfkekglpaaDoorHash
namespace Go.Proofs.YteifmkfkekglpaaDoor
open Go.RowKit

attribute [local go_sem ↓] exec_load_hash exec_store_hash Go.wp_at_zero Go.wp_at_succ

theorem decHash_eq (l : List UInt8) : decHash l = if l.length < 32 then (3, zeros32, 0) else (0, l.take 32, 32) := rfl

end Go.Proofs.YteifmkfkekglpaaDoor
