/-
  PLAIN LEAN: the chapter's own example, evaluated.
  No condition.
-/
import Derived.Test.YtbalbjhmboppoaaDoorL5
import Derived.Test.YtbalbjhmboppoaaDoorR1
namespace Go.Proofs.YtbalbjhmboppoaaDoor
open Go.RowKit

def aw1 : DiskS × Int := formatS (DiskS.new 12) 0 8
def aw2 : OpenRes := openS aw1.1 0 8
def awL : LogS := ⟨0, 8, aw2.place, aw2.seq, 0, false⟩
def aw3 : LRes := commitS awL aw2.disk [(9, withB 120)]
def aw4 : DiskS := aw3.disk.crashS []
def aw5 : OpenRes := openS aw4 0 8
set_option maxRecDepth 1000000 in
theorem aw1_ok : aw1.2 = 0 := by decide +kernel
set_option maxRecDepth 1000000 in
theorem aw2_ok : aw2.err = 0 := by decide +kernel
set_option maxRecDepth 1000000 in
theorem aw3_ok : aw3.err = 0 ∧ aw3.log.used = 3 ∧ aw3.log.seq = 2 := by decide +kernel
set_option maxRecDepth 1000000 in
theorem aw5_ok : aw5.err = 0 ∧ aw5.seq = 2 ∧ aw5.disk.readS 9 = (withB 120, 0) := by decide +kernel

end Go.Proofs.YtbalbjhmboppoaaDoor
