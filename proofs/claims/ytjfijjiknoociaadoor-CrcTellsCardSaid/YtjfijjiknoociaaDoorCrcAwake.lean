/- The laws on sums, walked: each returns true and leaves what was there. -/
import Derived.Test.YtjfijjiknoociaaDoorCrc
import Derived.Lib.SlBytesConst
namespace Go.Proofs.YtjfijjiknoociaaDoor
open Go.RowKit

def nine : List UInt8 := [49, 50, 51, 52, 53, 54, 55, 56, 57]
theorem sum_nine : U (Crc.sum nine) = 3808858755 := by decide +kernel
theorem sum_four : U (Crc.sum [0, 0, 0, 0]) = 1214729159 := by decide +kernel
def zero32 : Array Value := ((List.replicate 32 0).map u8v).toArray
theorem sum_32 : U (Crc.sum (List.replicate 32 0)) = 2324772522 := by decide +kernel
set_option maxRecDepth 10000 in
theorem awake_any (w : World) (hw : Halves w) :
    Calls Tryd.prog 9 #[] w fun e w' => e = .returned (.bool true) ∧ Ext w w' := by
  have kc := fun (w : World) (C : Array Value) (n c : Nat) => Lib.run_convert_bytes_const (P := Tryd.prog) w 23 5 C n c Tryd.underlying23 Tryd.underlying5
  have hmk : ∀ w, (Instr.makeSlice 23 (.int .i64 32) (.int .i64 32)).run Tryd.prog w = .ok (.slice (some ⟨w.heap.size, 0, none⟩) 32 32) (w.alloc (.cells zero32 5)) := fun _ => by kernel_rfl
  have s9 := sum_nine
  have s4 := sum_four
  have s32 := sum_32
  have e0 := Ext.refl w
  go_enter Tryd.func9, Tryd.ntmps9
  go_wp2_with fail
  refine (of_any _ nine _ (hw.ext (e0.alloc _)) (Bytes.lit rfl rfl rfl (by decide) (by decide))).mono ?_
  rintro e w' ⟨rfl, rfl⟩
  go_wp2_with fail
  refine (of_any _ [0, 0, 0, 0] _ (hw.ext ((e0.alloc _).alloc _)) (Bytes.lit (by simp) rfl rfl (by decide) (by decide))).mono ?_
  rintro e w' ⟨rfl, rfl⟩
  go_wp2_with fail
  have hb3 : ∀ W : World, W.heap.size = w.heap.size + 2 → Bytes (W.alloc (.cells zero32 5)) (.slice (some ⟨w.heap.size + 1 + 1, 0, none⟩) 32 32) (List.replicate 32 0) := fun W hW => Bytes.lit hW.symm (by simp only [zero32]) (by simp only [List.length_replicate]) (by decide) (by decide)
  refine (of_any _ (List.replicate 32 0) _ (hw.ext (((e0.alloc _).alloc _).alloc _)) (hb3 _ (by simp))).mono ?_
  rintro e w' ⟨rfl, rfl⟩
  go_wp2_with fail
  go_ret
  exact ⟨rfl, ((e0.alloc _).alloc _).alloc _⟩

/-- a law's end -/
abbrev LawEnd (w : World) (e : Ending) (w' : World) : Prop := e = .returned (.bool true) ∧ Ext w w'

end Go.Proofs.YtjfijjiknoociaaDoor
