/-
  NARROWER THAN 'FOR EVERY INPUT', by the rows' own cells (each row's printed sentence says how): FrameTells: laid · FrameBack: laid · FrameCuts: laid · FrameGoesOn: laid · WalOpens: laid · WalCrashes: laid · WalKeeps: laid · WalFails: laid · WalPlays: laid.
  DERIVED. THE GIVEN ROWS OF THIS SEAT. 9 by the template 'for every input the law returns true; each argument reads behind the call as it read before'; 0 by the template 'total and deterministic' (their statements: YtmpjcnopakfdmaaDoorTotals.lean).
  GIVEN WITH THE SEED: the statements are not yours to turn. If you find one false, say at which input.
  Laid BY PROGRAM, IN A SANDBOX (cutbox-rows.mjs): the forced cells as the released guide's own fill.sh prints them over the translation 86e58c2373d3e40a… (all of the seat's roots in one cut). By AI agents, Wed Nov 11 2026. No macro, syntax, notation, axiom, sorry.
-/
import Derived.Test.YtmpjcnopakfdmaaDoorChecked
import GoSem.Claim
import GoSem.ClaimJoined
import GoSem.ClaimMapViews
import Derived.JoinedTies
import Derived.KernelRfl
namespace Go.Proofs.YtmpjcnopakfdmaaDoor
/- THE CELL 'sum', in the pinned program and in every row, IS THE sha256 OF THE DUMP (.gsa) THAT YtmpjcnopakfdmaaDoorProg.lean LOADS. Nothing in Lean hashes anything: it is a label: what it is worth is what the hold of that sum in a sandbox is worth. -/
noncomputable def Tryd.pinned : Pinned := { name := "ytmpjcnopakfdmaadoor", sum := "86e58c2373d3e40a27c37103a708a430d776b4dc5e0f6b002287c39f7223fcf2", checked := Tryd.checked }
namespace Rows
def none {H : Type} : Left H := { results := [], args := [] }

/- WHAT THE LISTED PACKAGE-LEVEL VARIABLES READ AS WHEN THE CALL BEGINS. Each datum BY PROGRAM (the guide's laid-datum.mjs) off the statement by which the dump's own 'gosem.cut.vars' lays the variable. In a bare row this is a premise. The card (YtmpjcnopakfdmaaDoorCards.lean) ties it to the program's text. -/
def laid_matricula_crc_halves {H : Type} : DataW H := .agg [.lit (.int .u32 0), .lit (.int .u32 274646895), .lit (.int .u32 549293790), .lit (.int .u32 820201905), .lit (.int .u32 1098587580), .lit (.int .u32 1361435347), .lit (.int .u32 1640403810), .lit (.int .u32 1905808397), .lit (.int .u32 2197175160), .lit (.int .u32 2460548119), .lit (.int .u32 2722870694), .lit (.int .u32 2987750089), .lit (.int .u32 3280807620), .lit (.int .u32 3553878443), .lit (.int .u32 3811616794), .lit (.int .u32 4084100981)]

/-- 'matriculalaw09.FrameTells': WHATEVER THE INPUT: true; the input reads as it did. -/
def frameTellsSpec : ChangeSpec := { name := "frameTells", fn := fun _ => fun
  | [d1, d2, d3] => { results := [.lit (.bool true)], args := [d1, d2, d3] }
  | _ => none }
def frameTellsRow : OpenClaim := { program := "ytmpjcnopakfdmaadoor", sum := "86e58c2373d3e40a27c37103a708a430d776b4dc5e0f6b002287c39f7223fcf2", func := "matricula/matriculalaw09.FrameTells", spec := "frameTells", unfollowed := true, recurses := true, named := ["matricula/crc.halves"], apart := false, laid := [("matricula/crc.halves", laid_matricula_crc_halves)] }
def FrameTellsSaid : Prop := frameTellsRow.holds Tryd.pinned (OpenSpec.ofChange frameTellsSpec)

/-- ITS FALSE NEIGHBOUR: 'it returns false'. Refute it at one input. -/
def frameTellsWrong : ChangeSpec := { name := "frameTells", fn := fun _ => fun
  | [d1, d2, d3] => { results := [.lit (.bool false)], args := [d1, d2, d3] }
  | _ => none }
def FrameTellsWrongFalsely : Prop := frameTellsRow.holds Tryd.pinned (OpenSpec.ofChange frameTellsWrong)

/-- 'matriculalaw09.FrameBack': WHATEVER THE INPUT: true; the input reads as it did. -/
def frameBackSpec : ChangeSpec := { name := "frameBack", fn := fun _ => fun
  | [d] => { results := [.lit (.bool true)], args := [d] }
  | _ => none }
def frameBackRow : OpenClaim := { program := "ytmpjcnopakfdmaadoor", sum := "86e58c2373d3e40a27c37103a708a430d776b4dc5e0f6b002287c39f7223fcf2", func := "matricula/matriculalaw09.FrameBack", spec := "frameBack", unfollowed := true, recurses := true, named := ["matricula/crc.halves"], apart := false, laid := [("matricula/crc.halves", laid_matricula_crc_halves)] }
def FrameBackSaid : Prop := frameBackRow.holds Tryd.pinned (OpenSpec.ofChange frameBackSpec)

/-- ITS FALSE NEIGHBOUR: 'it returns false'. Refute it at one input. -/
def frameBackWrong : ChangeSpec := { name := "frameBack", fn := fun _ => fun
  | [d] => { results := [.lit (.bool false)], args := [d] }
  | _ => none }
def FrameBackWrongFalsely : Prop := frameBackRow.holds Tryd.pinned (OpenSpec.ofChange frameBackWrong)

/-- 'matriculalaw09.FrameCuts': WHATEVER THE INPUT: true; the input reads as it did. -/
def frameCutsSpec : ChangeSpec := { name := "frameCuts", fn := fun _ => fun
  | [d1, d2] => { results := [.lit (.bool true)], args := [d1, d2] }
  | _ => none }
def frameCutsRow : OpenClaim := { program := "ytmpjcnopakfdmaadoor", sum := "86e58c2373d3e40a27c37103a708a430d776b4dc5e0f6b002287c39f7223fcf2", func := "matricula/matriculalaw09.FrameCuts", spec := "frameCuts", unfollowed := true, recurses := true, named := ["matricula/crc.halves"], apart := false, laid := [("matricula/crc.halves", laid_matricula_crc_halves)] }
def FrameCutsSaid : Prop := frameCutsRow.holds Tryd.pinned (OpenSpec.ofChange frameCutsSpec)

/-- ITS FALSE NEIGHBOUR: 'it returns false'. Refute it at one input. -/
def frameCutsWrong : ChangeSpec := { name := "frameCuts", fn := fun _ => fun
  | [d1, d2] => { results := [.lit (.bool false)], args := [d1, d2] }
  | _ => none }
def FrameCutsWrongFalsely : Prop := frameCutsRow.holds Tryd.pinned (OpenSpec.ofChange frameCutsWrong)

/-- 'matriculalaw09.FrameGoesOn': WHATEVER THE INPUT: true; the input reads as it did. -/
def frameGoesOnSpec : ChangeSpec := { name := "frameGoesOn", fn := fun _ => fun
  | [d1, d2] => { results := [.lit (.bool true)], args := [d1, d2] }
  | _ => none }
def frameGoesOnRow : OpenClaim := { program := "ytmpjcnopakfdmaadoor", sum := "86e58c2373d3e40a27c37103a708a430d776b4dc5e0f6b002287c39f7223fcf2", func := "matricula/matriculalaw09.FrameGoesOn", spec := "frameGoesOn", unfollowed := true, recurses := true, named := ["matricula/crc.halves"], apart := false, laid := [("matricula/crc.halves", laid_matricula_crc_halves)] }
def FrameGoesOnSaid : Prop := frameGoesOnRow.holds Tryd.pinned (OpenSpec.ofChange frameGoesOnSpec)

/-- ITS FALSE NEIGHBOUR: 'it returns false'. Refute it at one input. -/
def frameGoesOnWrong : ChangeSpec := { name := "frameGoesOn", fn := fun _ => fun
  | [d1, d2] => { results := [.lit (.bool false)], args := [d1, d2] }
  | _ => none }
def FrameGoesOnWrongFalsely : Prop := frameGoesOnRow.holds Tryd.pinned (OpenSpec.ofChange frameGoesOnWrong)

/-- 'matriculalaw10.WalOpens': WHATEVER THE INPUT: true; the input reads as it did. -/
def walOpensSpec : ChangeSpec := { name := "walOpens", fn := fun _ => fun
  | [d1, d2, d3, d4, d5] => { results := [.lit (.bool true)], args := [d1, d2, d3, d4, d5] }
  | _ => none }
def walOpensRow : OpenClaim := { program := "ytmpjcnopakfdmaadoor", sum := "86e58c2373d3e40a27c37103a708a430d776b4dc5e0f6b002287c39f7223fcf2", func := "matricula/matriculalaw10.WalOpens", spec := "walOpens", unfollowed := true, recurses := true, named := ["matricula/crc.halves"], apart := false, laid := [("matricula/crc.halves", laid_matricula_crc_halves)] }
def WalOpensSaid : Prop := walOpensRow.holds Tryd.pinned (OpenSpec.ofChange walOpensSpec)

/-- ITS FALSE NEIGHBOUR: 'it returns false'. Refute it at one input. -/
def walOpensWrong : ChangeSpec := { name := "walOpens", fn := fun _ => fun
  | [d1, d2, d3, d4, d5] => { results := [.lit (.bool false)], args := [d1, d2, d3, d4, d5] }
  | _ => none }
def WalOpensWrongFalsely : Prop := walOpensRow.holds Tryd.pinned (OpenSpec.ofChange walOpensWrong)

/-- 'matriculalaw10.WalCrashes': WHATEVER THE INPUT: true; the input reads as it did. -/
def walCrashesSpec : ChangeSpec := { name := "walCrashes", fn := fun _ => fun
  | [d1, d2, d3, d4, d5] => { results := [.lit (.bool true)], args := [d1, d2, d3, d4, d5] }
  | _ => none }
def walCrashesRow : OpenClaim := { program := "ytmpjcnopakfdmaadoor", sum := "86e58c2373d3e40a27c37103a708a430d776b4dc5e0f6b002287c39f7223fcf2", func := "matricula/matriculalaw10.WalCrashes", spec := "walCrashes", unfollowed := true, recurses := true, named := ["matricula/crc.halves"], apart := false, laid := [("matricula/crc.halves", laid_matricula_crc_halves)] }
def WalCrashesSaid : Prop := walCrashesRow.holds Tryd.pinned (OpenSpec.ofChange walCrashesSpec)

/-- ITS FALSE NEIGHBOUR: 'it returns false'. Refute it at one input. -/
def walCrashesWrong : ChangeSpec := { name := "walCrashes", fn := fun _ => fun
  | [d1, d2, d3, d4, d5] => { results := [.lit (.bool false)], args := [d1, d2, d3, d4, d5] }
  | _ => none }
def WalCrashesWrongFalsely : Prop := walCrashesRow.holds Tryd.pinned (OpenSpec.ofChange walCrashesWrong)

/-- 'matriculalaw10.WalKeeps': WHATEVER THE INPUT: true; the input reads as it did. -/
def walKeepsSpec : ChangeSpec := { name := "walKeeps", fn := fun _ => fun
  | [d1, d2, d3, d4] => { results := [.lit (.bool true)], args := [d1, d2, d3, d4] }
  | _ => none }
def walKeepsRow : OpenClaim := { program := "ytmpjcnopakfdmaadoor", sum := "86e58c2373d3e40a27c37103a708a430d776b4dc5e0f6b002287c39f7223fcf2", func := "matricula/matriculalaw10.WalKeeps", spec := "walKeeps", unfollowed := true, recurses := true, named := ["matricula/crc.halves"], apart := false, laid := [("matricula/crc.halves", laid_matricula_crc_halves)] }
def WalKeepsSaid : Prop := walKeepsRow.holds Tryd.pinned (OpenSpec.ofChange walKeepsSpec)

/-- ITS FALSE NEIGHBOUR: 'it returns false'. Refute it at one input. -/
def walKeepsWrong : ChangeSpec := { name := "walKeeps", fn := fun _ => fun
  | [d1, d2, d3, d4] => { results := [.lit (.bool false)], args := [d1, d2, d3, d4] }
  | _ => none }
def WalKeepsWrongFalsely : Prop := walKeepsRow.holds Tryd.pinned (OpenSpec.ofChange walKeepsWrong)

/-- 'matriculalaw10.WalFails': WHATEVER THE INPUT: true; the input reads as it did. -/
def walFailsSpec : ChangeSpec := { name := "walFails", fn := fun _ => fun
  | [d1, d2, d3, d4, d5] => { results := [.lit (.bool true)], args := [d1, d2, d3, d4, d5] }
  | _ => none }
def walFailsRow : OpenClaim := { program := "ytmpjcnopakfdmaadoor", sum := "86e58c2373d3e40a27c37103a708a430d776b4dc5e0f6b002287c39f7223fcf2", func := "matricula/matriculalaw10.WalFails", spec := "walFails", unfollowed := true, recurses := true, named := ["matricula/crc.halves"], apart := false, laid := [("matricula/crc.halves", laid_matricula_crc_halves)] }
def WalFailsSaid : Prop := walFailsRow.holds Tryd.pinned (OpenSpec.ofChange walFailsSpec)

/-- ITS FALSE NEIGHBOUR: 'it returns false'. Refute it at one input. -/
def walFailsWrong : ChangeSpec := { name := "walFails", fn := fun _ => fun
  | [d1, d2, d3, d4, d5] => { results := [.lit (.bool false)], args := [d1, d2, d3, d4, d5] }
  | _ => none }
def WalFailsWrongFalsely : Prop := walFailsRow.holds Tryd.pinned (OpenSpec.ofChange walFailsWrong)

/-- 'matriculalaw10.WalPlays': WHATEVER THE INPUT: true; the input reads as it did. -/
def walPlaysSpec : ChangeSpec := { name := "walPlays", fn := fun _ => fun
  | [d1, d2] => { results := [.lit (.bool true)], args := [d1, d2] }
  | _ => none }
def walPlaysRow : OpenClaim := { program := "ytmpjcnopakfdmaadoor", sum := "86e58c2373d3e40a27c37103a708a430d776b4dc5e0f6b002287c39f7223fcf2", func := "matricula/matriculalaw10.WalPlays", spec := "walPlays", unfollowed := true, recurses := true, named := ["matricula/crc.halves"], apart := false, laid := [("matricula/crc.halves", laid_matricula_crc_halves)] }
def WalPlaysSaid : Prop := walPlaysRow.holds Tryd.pinned (OpenSpec.ofChange walPlaysSpec)

/-- ITS FALSE NEIGHBOUR: 'it returns false'. Refute it at one input. -/
def walPlaysWrong : ChangeSpec := { name := "walPlays", fn := fun _ => fun
  | [d1, d2] => { results := [.lit (.bool false)], args := [d1, d2] }
  | _ => none }
def WalPlaysWrongFalsely : Prop := walPlaysRow.holds Tryd.pinned (OpenSpec.ofChange walPlaysWrong)

/- THE SECOND FORM. 'bulk': how many values and letters a reading holds, each counted each time it is reached (what is shared counts as often as it is met; a slice's spare places count too). A statement '..UptoSaid' is the law's where the arguments, and the package variables that the reading takes, are together of bulk at most 1048576: NARROWER than '..Said'. Prove '..Said' where nothing that the law and all that it calls make is longer than what came in: it says more and counts as full. Else prove '..UptoSaid'. A law counts once. -/
mutual
def uptoBulk {H : Type} : DataW H → Nat
  | .lit (.string bytes) => bytes.length + 1
  | .lit _ => 1
  | .nil => 1
  | .ptr d => uptoBulk d + 1
  | .slice elems spare => uptoBulkAll elems + uptoBulkAll spare + 1
  | .agg parts => uptoBulkAll parts + 1
  | .iface _ d => uptoBulk d + 1
  | .map entries => uptoBulkEntries entries + 1
  | .held _ => 1
def uptoBulkAll {H : Type} : List (DataW H) → Nat
  | [] => 0
  | d :: r => uptoBulk d + uptoBulkAll r
def uptoBulkEntries {H : Type} : List (Lit × DataW H) → Nat
  | [] => 0
  | x :: r => uptoBulkEntry x + uptoBulkEntries r
def uptoBulkEntry {H : Type} : Lit × DataW H → Nat
  | (.string bytes, d) => bytes.length + uptoBulk d + 1
  | (_, d) => uptoBulk d + 1
 end
def uptoSmall : (H : Type) → List (DataW H) → Bool := fun _ ds => decide (uptoBulkAll ds ≤ 1048576)
def OpenSpec.upto (s : _root_.Go.ChangeSpec) : _root_.Go.OpenSpec := { _root_.Go.OpenSpec.ofChange s with cond := some uptoSmall }

/-- 'matriculalaw09.FrameTells', WHERE WHAT IT READS IS OF BULK AT MOST 1048576: true; the input reads as it did. -/
def frameTellsUptoRow : OpenClaim := { program := "ytmpjcnopakfdmaadoor", sum := "86e58c2373d3e40a27c37103a708a430d776b4dc5e0f6b002287c39f7223fcf2", func := "matricula/matriculalaw09.FrameTells", spec := "frameTells", unfollowed := true, recurses := true, named := ["matricula/crc.halves"], apart := false, laid := [("matricula/crc.halves", laid_matricula_crc_halves)], narrowed := true }
def FrameTellsUptoSaid : Prop := frameTellsUptoRow.holds Tryd.pinned (OpenSpec.upto frameTellsSpec)

/-- 'matriculalaw09.FrameBack', WHERE WHAT IT READS IS OF BULK AT MOST 1048576: true; the input reads as it did. -/
def frameBackUptoRow : OpenClaim := { program := "ytmpjcnopakfdmaadoor", sum := "86e58c2373d3e40a27c37103a708a430d776b4dc5e0f6b002287c39f7223fcf2", func := "matricula/matriculalaw09.FrameBack", spec := "frameBack", unfollowed := true, recurses := true, named := ["matricula/crc.halves"], apart := false, laid := [("matricula/crc.halves", laid_matricula_crc_halves)], narrowed := true }
def FrameBackUptoSaid : Prop := frameBackUptoRow.holds Tryd.pinned (OpenSpec.upto frameBackSpec)

/-- 'matriculalaw09.FrameCuts', WHERE WHAT IT READS IS OF BULK AT MOST 1048576: true; the input reads as it did. -/
def frameCutsUptoRow : OpenClaim := { program := "ytmpjcnopakfdmaadoor", sum := "86e58c2373d3e40a27c37103a708a430d776b4dc5e0f6b002287c39f7223fcf2", func := "matricula/matriculalaw09.FrameCuts", spec := "frameCuts", unfollowed := true, recurses := true, named := ["matricula/crc.halves"], apart := false, laid := [("matricula/crc.halves", laid_matricula_crc_halves)], narrowed := true }
def FrameCutsUptoSaid : Prop := frameCutsUptoRow.holds Tryd.pinned (OpenSpec.upto frameCutsSpec)

/-- 'matriculalaw09.FrameGoesOn', WHERE WHAT IT READS IS OF BULK AT MOST 1048576: true; the input reads as it did. -/
def frameGoesOnUptoRow : OpenClaim := { program := "ytmpjcnopakfdmaadoor", sum := "86e58c2373d3e40a27c37103a708a430d776b4dc5e0f6b002287c39f7223fcf2", func := "matricula/matriculalaw09.FrameGoesOn", spec := "frameGoesOn", unfollowed := true, recurses := true, named := ["matricula/crc.halves"], apart := false, laid := [("matricula/crc.halves", laid_matricula_crc_halves)], narrowed := true }
def FrameGoesOnUptoSaid : Prop := frameGoesOnUptoRow.holds Tryd.pinned (OpenSpec.upto frameGoesOnSpec)

/-- 'matriculalaw10.WalOpens', WHERE WHAT IT READS IS OF BULK AT MOST 1048576: true; the input reads as it did. -/
def walOpensUptoRow : OpenClaim := { program := "ytmpjcnopakfdmaadoor", sum := "86e58c2373d3e40a27c37103a708a430d776b4dc5e0f6b002287c39f7223fcf2", func := "matricula/matriculalaw10.WalOpens", spec := "walOpens", unfollowed := true, recurses := true, named := ["matricula/crc.halves"], apart := false, laid := [("matricula/crc.halves", laid_matricula_crc_halves)], narrowed := true }
def WalOpensUptoSaid : Prop := walOpensUptoRow.holds Tryd.pinned (OpenSpec.upto walOpensSpec)

/-- 'matriculalaw10.WalCrashes', WHERE WHAT IT READS IS OF BULK AT MOST 1048576: true; the input reads as it did. -/
def walCrashesUptoRow : OpenClaim := { program := "ytmpjcnopakfdmaadoor", sum := "86e58c2373d3e40a27c37103a708a430d776b4dc5e0f6b002287c39f7223fcf2", func := "matricula/matriculalaw10.WalCrashes", spec := "walCrashes", unfollowed := true, recurses := true, named := ["matricula/crc.halves"], apart := false, laid := [("matricula/crc.halves", laid_matricula_crc_halves)], narrowed := true }
def WalCrashesUptoSaid : Prop := walCrashesUptoRow.holds Tryd.pinned (OpenSpec.upto walCrashesSpec)

/-- 'matriculalaw10.WalKeeps', WHERE WHAT IT READS IS OF BULK AT MOST 1048576: true; the input reads as it did. -/
def walKeepsUptoRow : OpenClaim := { program := "ytmpjcnopakfdmaadoor", sum := "86e58c2373d3e40a27c37103a708a430d776b4dc5e0f6b002287c39f7223fcf2", func := "matricula/matriculalaw10.WalKeeps", spec := "walKeeps", unfollowed := true, recurses := true, named := ["matricula/crc.halves"], apart := false, laid := [("matricula/crc.halves", laid_matricula_crc_halves)], narrowed := true }
def WalKeepsUptoSaid : Prop := walKeepsUptoRow.holds Tryd.pinned (OpenSpec.upto walKeepsSpec)

/-- 'matriculalaw10.WalFails', WHERE WHAT IT READS IS OF BULK AT MOST 1048576: true; the input reads as it did. -/
def walFailsUptoRow : OpenClaim := { program := "ytmpjcnopakfdmaadoor", sum := "86e58c2373d3e40a27c37103a708a430d776b4dc5e0f6b002287c39f7223fcf2", func := "matricula/matriculalaw10.WalFails", spec := "walFails", unfollowed := true, recurses := true, named := ["matricula/crc.halves"], apart := false, laid := [("matricula/crc.halves", laid_matricula_crc_halves)], narrowed := true }
def WalFailsUptoSaid : Prop := walFailsUptoRow.holds Tryd.pinned (OpenSpec.upto walFailsSpec)

/-- 'matriculalaw10.WalPlays', WHERE WHAT IT READS IS OF BULK AT MOST 1048576: true; the input reads as it did. -/
def walPlaysUptoRow : OpenClaim := { program := "ytmpjcnopakfdmaadoor", sum := "86e58c2373d3e40a27c37103a708a430d776b4dc5e0f6b002287c39f7223fcf2", func := "matricula/matriculalaw10.WalPlays", spec := "walPlays", unfollowed := true, recurses := true, named := ["matricula/crc.halves"], apart := false, laid := [("matricula/crc.halves", laid_matricula_crc_halves)], narrowed := true }
def WalPlaysUptoSaid : Prop := walPlaysUptoRow.holds Tryd.pinned (OpenSpec.upto walPlaysSpec)

end Rows
end Go.Proofs.YtmpjcnopakfdmaaDoor
