/- The walk of CrcTells: it returns true and leaves what was there. -/
import Derived.Test.YtjfijjiknoociaaDoorCrcAwake
import Derived.Test.YtjfijjiknoociaaDoorCrcRef
namespace Go.Proofs.YtjfijjiknoociaaDoor
open Go.RowKit

set_option maxHeartbeats 1000000 in
theorem tells_any (s : BitVec 32) (b : Value) (lb : List UInt8) (w : World) (hw : Halves w) (hb : Bytes w b lb) :
    Calls Tryd.prog 3 #[.int .u32 (U s), b] w (LawEnd w) := by
  obtain ⟨ab, cb, rfl, hb'⟩ := id hb
  have hlb := hb'.len
  clear hb'
  by_cases h1 : 200 < lb.length
  · go_enter Tryd.func3, Tryd.ntmps3
    go_wp2_with (go_at_call 9; refine (awake_any _ hw).mono ?_; rintro e w1 ⟨rfl, e1⟩)
    go_ret
    exact ⟨rfl, e1⟩
  go_enter Tryd.func3, Tryd.ntmps3
  go_wp2_with fail
  refine (awake_any _ hw).mono ?_
  rintro e w1 ⟨rfl, e1⟩
  go_wp2_with fail
  refine (of_any _ _ _ (hw.ext e1) (hb.ext e1)).mono ?_
  rintro e w' ⟨rfl, rfl⟩
  go_wp2_with fail
  refine (refOf_any _ _ _ (hb.ext e1)).mono ?_
  rintro e w2 ⟨rfl, e2⟩
  have e3 := e1.trans e2
  go_wp2_with fail
  refine (more_any s _ _ _ (hw.ext e3) (hb.ext e3)).mono ?_
  rintro e w' ⟨rfl, rfl⟩
  go_wp2_with fail
  refine (refMore_any s _ _ _ (hb.ext e3)).mono ?_
  rintro e w4 ⟨rfl, e4⟩
  go_wp2_with fail
  go_ret
  exact ⟨rfl, e3.trans e4⟩
end Go.Proofs.YtjfijjiknoociaaDoor
