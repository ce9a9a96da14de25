/- The walk of CrcParts: it returns true and leaves what was there. -/
import Derived.Test.YtjfijjiknoociaaDoorCrcAwake
namespace Go.Proofs.YtjfijjiknoociaaDoor
open Go.RowKit

set_option maxHeartbeats 1000000 in
theorem parts_any (a : Value) (la : List UInt8) (b : Value) (lb : List UInt8) (w : World) (hw : Halves w) (ha : Bytes w a la) (hb : Bytes w b lb) :
    Calls Tryd.prog 7 #[a, b] w (LawEnd w) := by
  obtain ⟨aa, ca, rfl, ha'⟩ := id ha
  obtain ⟨ab, cb, rfl, hb'⟩ := id hb
  have hla := ha'.len
  have hlb := hb'.len
  clear ha' hb'
  by_cases h1 : 300 < la.length
  · go_enter Tryd.func7, Tryd.ntmps7
    go_wp2_with (go_at_call 9; refine (awake_any _ hw).mono ?_; rintro e w1 ⟨rfl, e1⟩)
    go_ret
    exact ⟨rfl, e1⟩
  by_cases h2 : 300 < lb.length
  · go_enter Tryd.func7, Tryd.ntmps7
    go_wp2_with (go_at_call 9; refine (awake_any _ hw).mono ?_; rintro e w1 ⟨rfl, e1⟩)
    go_ret
    exact ⟨rfl, e1⟩
  have q1 := Crc.more_sum la lb
  have q2 : joinI (Crc.sum la) (Crc.sum lb) (lb.length : Int) = Crc.sum (la ++ lb) := Crc.join_sum la lb
  go_enter Tryd.func7, Tryd.ntmps7
  go_wp2_with (first
    | (go_at_call 9; refine (awake_any _ hw).mono ?_; rintro e w1 ⟨rfl, e1⟩; have o1 : OwnB (w1.alloc (.cells #[] 5)) w.heap.size (.slice (some ⟨w1.heap.size, 0, none⟩) 0 0) [] := OwnB.empty rfl e1.size)
    | (at_builtin; refine wpList_appendB rfl _ _ rfl w.heap.size _ [] rfl o1 _ la rfl (ha.ext (e1.alloc _)) (by simp; omega) (e1.alloc _).size ?_; intro v2 w2 o2 g2; have e2 := (e1.alloc _).own o1 g2; clear e1 o1 g2; rw [List.nil_append] at o2)
    | (at_builtin; refine wpList_appendB rfl _ _ rfl w.heap.size _ la rfl o2 _ lb rfl (hb.ext e2) (by omega) e2.size ?_; intro v3 w3 o3 g3; have e3 := e2.own o2 g3; clear e2 o2 g3)
    | (go_at_call 10; refine (of_any _ _ _ (hw.ext e3) o3.bytes).mono ?_; rintro e w' ⟨rfl, rfl⟩; have o4 := o3; clear o3)
    | (go_at_call 10; refine (of_any _ _ _ (hw.ext e3) (ha.ext e3)).mono ?_; rintro e w' ⟨rfl, rfl⟩)
    | (go_at_call 10; refine (of_any _ _ _ (hw.ext e3) (hb.ext e3)).mono ?_; rintro e w' ⟨rfl, rfl⟩)
    | (go_at_call 12; refine (more_any _ _ _ _ (hw.ext e3) (hb.ext e3)).mono ?_; rintro e w' ⟨rfl, rfl⟩)
    | (go_at_call 15; refine (join_any _ _ _ (by omega) _).mono ?_; rintro e w' ⟨rfl, rfl⟩))
  go_ret
  exact ⟨rfl, e3⟩
end Go.Proofs.YtjfijjiknoociaaDoor
