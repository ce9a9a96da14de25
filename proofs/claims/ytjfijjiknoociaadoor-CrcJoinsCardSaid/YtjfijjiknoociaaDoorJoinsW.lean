/- The walk of CrcJoins: it returns true and leaves what was there. -/
import Derived.Test.YtjfijjiknoociaaDoorCrcAwake
namespace Go.Proofs.YtjfijjiknoociaaDoor
open Go.RowKit

set_option maxHeartbeats 1000000 in
theorem joins_any (a b c : BitVec 32) (n m : Int) (w : World) (hw : Halves w) (hn0 : -9223372036854775808 ≤ n) (hn1 : n ≤ 9223372036854775807) (hm0 : -9223372036854775808 ≤ m) (hm1 : m ≤ 9223372036854775807) :
    Calls Tryd.prog 8 #[.int .u32 (U a), .int .u32 (U b), .int .u32 (U c), .int .i64 n, .int .i64 m] w (LawEnd w) := by
  by_cases h1 : n < 0
  · go_enter Tryd.func8, Tryd.ntmps8
    go_wp2_with (go_at_call 9; refine (awake_any _ hw).mono ?_; rintro e w1 ⟨rfl, e1⟩)
    go_ret
    exact ⟨rfl, e1⟩
  by_cases h2 : m < 0
  · go_enter Tryd.func8, Tryd.ntmps8
    go_wp2_with (go_at_call 9; refine (awake_any _ hw).mono ?_; rintro e w1 ⟨rfl, e1⟩)
    go_ret
    exact ⟨rfl, e1⟩
  by_cases h3 : 1099511627776 < n
  · go_enter Tryd.func8, Tryd.ntmps8
    go_wp2_with (go_at_call 9; refine (awake_any _ hw).mono ?_; rintro e w1 ⟨rfl, e1⟩)
    go_ret
    exact ⟨rfl, e1⟩
  by_cases h4 : 1099511627776 < m
  · go_enter Tryd.func8, Tryd.ntmps8
    go_wp2_with (go_at_call 9; refine (awake_any _ hw).mono ?_; rintro e w1 ⟨rfl, e1⟩)
    go_ret
    exact ⟨rfl, e1⟩
  have q1 : joinI (joinI a b n) c m = joinI a (joinI b c m) (n + m) := by
    unfold joinI; rw [Crc.join_join]; congr 1; omega
  have q2 : joinI a 0#32 0 = a := Crc.join_none a
  have q3 : joinI 0#32 b n = b := Crc.join_first b _
  have q4 : joinI a b (-n) = a ^^^ b := by unfold joinI; rw [show (-n).toNat = 0 by omega]; exact Crc.join_zero a b
  go_enter Tryd.func8, Tryd.ntmps8
  go_wp2_with (first
    | (go_at_call 9; refine (awake_any _ hw).mono ?_; rintro e w1 ⟨rfl, e1⟩)
    | (go_at_call 15; with_reducible refine (join_any _ _ _ (by omega) _).mono ?_; rintro e w' ⟨rfl, rfl⟩)
    | (go_at_call 15; with_reducible refine (join_b0 _ _ (by omega) _).mono ?_; rintro e w' ⟨rfl, rfl⟩)
    | (go_at_call 15; with_reducible refine (join_a0 _ _ (by omega) _).mono ?_; rintro e w' ⟨rfl, rfl⟩))
  go_ret
  exact ⟨rfl, e1⟩
end Go.Proofs.YtjfijjiknoociaaDoor
