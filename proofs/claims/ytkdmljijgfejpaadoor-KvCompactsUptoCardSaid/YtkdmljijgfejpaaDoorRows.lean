/-
  NARROWER THAN 'FOR EVERY INPUT', by the rows' own cells (each row's printed sentence says how): KvCodes: laid · KvJoins: laid · KvFails: laid · KvCrashes: laid · KvCompacts: laid.
  DERIVED. THE GIVEN ROWS OF THIS SEAT. 5 by the template 'for every input the law returns true; each argument reads behind the call as it read before'; 0 by the template 'total and deterministic' (their statements: YtkdmljijgfejpaaDoorTotals.lean).
  GIVEN WITH THE SEED: the statements are not yours to turn. If you find one false, say at which input.
  Laid BY PROGRAM, IN A SANDBOX (cutbox-rows.mjs): the forced cells as the released guide's own fill.sh prints them over the translation 1b4e9223cc19f18d… (all of the seat's roots in one cut). By AI agents, Wed Nov 11 2026. No macro, syntax, notation, axiom, sorry.
-/
import Derived.Test.YtkdmljijgfejpaaDoorChecked
import GoSem.Claim
import GoSem.ClaimJoined
import GoSem.ClaimMapViews
import Derived.JoinedTies
import Derived.KernelRfl
namespace Go.Proofs.YtkdmljijgfejpaaDoor
/- THE CELL 'sum', in the pinned program and in every row, IS THE sha256 OF THE DUMP (.gsa) THAT YtkdmljijgfejpaaDoorProg.lean LOADS. Nothing in Lean hashes anything: it is a label: what it is worth is what the hold of that sum in a sandbox is worth. -/
noncomputable def Tryd.pinned : Pinned := { name := "ytkdmljijgfejpaadoor", sum := "1b4e9223cc19f18d875dd4a0f7aa1ffb6ca2ca09aedc40450e60797ec1318424", checked := Tryd.checked }
namespace Rows
def none {H : Type} : Left H := { results := [], args := [] }

/- WHAT THE LISTED PACKAGE-LEVEL VARIABLES READ AS WHEN THE CALL BEGINS. Each datum BY PROGRAM (the guide's laid-datum.mjs) off the statement by which the dump's own 'gosem.cut.vars' lays the variable. In a bare row this is a premise. The card (YtkdmljijgfejpaaDoorCards.lean) ties it to the program's text. -/
def laid_matricula_crc_halves {H : Type} : DataW H := .agg [.lit (.int .u32 0), .lit (.int .u32 274646895), .lit (.int .u32 549293790), .lit (.int .u32 820201905), .lit (.int .u32 1098587580), .lit (.int .u32 1361435347), .lit (.int .u32 1640403810), .lit (.int .u32 1905808397), .lit (.int .u32 2197175160), .lit (.int .u32 2460548119), .lit (.int .u32 2722870694), .lit (.int .u32 2987750089), .lit (.int .u32 3280807620), .lit (.int .u32 3553878443), .lit (.int .u32 3811616794), .lit (.int .u32 4084100981)]

/-- 'matriculalaw11.KvCodes': WHATEVER THE INPUT: true; the input reads as it did. -/
def kvCodesSpec : ChangeSpec := { name := "kvCodes", fn := fun _ => fun
  | [d1, d2] => { results := [.lit (.bool true)], args := [d1, d2] }
  | _ => none }
def kvCodesRow : OpenClaim := { program := "ytkdmljijgfejpaadoor", sum := "1b4e9223cc19f18d875dd4a0f7aa1ffb6ca2ca09aedc40450e60797ec1318424", func := "matricula/matriculalaw11.KvCodes", spec := "kvCodes", inPlace := ["internal/bytealg.abigen_runtime_cmpstring"], unfollowed := true, recurses := true, named := ["matricula/crc.halves"], apart := false, laid := [("matricula/crc.halves", laid_matricula_crc_halves)] }
def KvCodesSaid : Prop := kvCodesRow.holds Tryd.pinned (OpenSpec.ofChange kvCodesSpec)

/-- ITS FALSE NEIGHBOUR: 'it returns false'. Refute it at one input. -/
def kvCodesWrong : ChangeSpec := { name := "kvCodes", fn := fun _ => fun
  | [d1, d2] => { results := [.lit (.bool false)], args := [d1, d2] }
  | _ => none }
def KvCodesWrongFalsely : Prop := kvCodesRow.holds Tryd.pinned (OpenSpec.ofChange kvCodesWrong)

/-- 'matriculalaw11.KvJoins': WHATEVER THE INPUT: true; the input reads as it did. -/
def kvJoinsSpec : ChangeSpec := { name := "kvJoins", fn := fun _ => fun
  | [d1, d2] => { results := [.lit (.bool true)], args := [d1, d2] }
  | _ => none }
def kvJoinsRow : OpenClaim := { program := "ytkdmljijgfejpaadoor", sum := "1b4e9223cc19f18d875dd4a0f7aa1ffb6ca2ca09aedc40450e60797ec1318424", func := "matricula/matriculalaw11.KvJoins", spec := "kvJoins", inPlace := ["internal/bytealg.abigen_runtime_cmpstring"], unfollowed := true, recurses := true, named := ["matricula/crc.halves"], apart := false, laid := [("matricula/crc.halves", laid_matricula_crc_halves)] }
def KvJoinsSaid : Prop := kvJoinsRow.holds Tryd.pinned (OpenSpec.ofChange kvJoinsSpec)

/-- ITS FALSE NEIGHBOUR: 'it returns false'. Refute it at one input. -/
def kvJoinsWrong : ChangeSpec := { name := "kvJoins", fn := fun _ => fun
  | [d1, d2] => { results := [.lit (.bool false)], args := [d1, d2] }
  | _ => none }
def KvJoinsWrongFalsely : Prop := kvJoinsRow.holds Tryd.pinned (OpenSpec.ofChange kvJoinsWrong)

/-- 'matriculalaw11.KvFails': WHATEVER THE INPUT: true; the input reads as it did. -/
def kvFailsSpec : ChangeSpec := { name := "kvFails", fn := fun _ => fun
  | [d1, d2, d3, d4] => { results := [.lit (.bool true)], args := [d1, d2, d3, d4] }
  | _ => none }
def kvFailsRow : OpenClaim := { program := "ytkdmljijgfejpaadoor", sum := "1b4e9223cc19f18d875dd4a0f7aa1ffb6ca2ca09aedc40450e60797ec1318424", func := "matricula/matriculalaw11.KvFails", spec := "kvFails", inPlace := ["internal/bytealg.abigen_runtime_cmpstring"], unfollowed := true, recurses := true, named := ["matricula/crc.halves"], apart := false, laid := [("matricula/crc.halves", laid_matricula_crc_halves)] }
def KvFailsSaid : Prop := kvFailsRow.holds Tryd.pinned (OpenSpec.ofChange kvFailsSpec)

/-- ITS FALSE NEIGHBOUR: 'it returns false'. Refute it at one input. -/
def kvFailsWrong : ChangeSpec := { name := "kvFails", fn := fun _ => fun
  | [d1, d2, d3, d4] => { results := [.lit (.bool false)], args := [d1, d2, d3, d4] }
  | _ => none }
def KvFailsWrongFalsely : Prop := kvFailsRow.holds Tryd.pinned (OpenSpec.ofChange kvFailsWrong)

/-- 'matriculalaw11.KvCrashes': WHATEVER THE INPUT: true; the input reads as it did. -/
def kvCrashesSpec : ChangeSpec := { name := "kvCrashes", fn := fun _ => fun
  | [d1, d2, d3, d4, d5] => { results := [.lit (.bool true)], args := [d1, d2, d3, d4, d5] }
  | _ => none }
def kvCrashesRow : OpenClaim := { program := "ytkdmljijgfejpaadoor", sum := "1b4e9223cc19f18d875dd4a0f7aa1ffb6ca2ca09aedc40450e60797ec1318424", func := "matricula/matriculalaw11.KvCrashes", spec := "kvCrashes", inPlace := ["internal/bytealg.abigen_runtime_cmpstring"], unfollowed := true, recurses := true, named := ["matricula/crc.halves"], apart := false, laid := [("matricula/crc.halves", laid_matricula_crc_halves)] }
def KvCrashesSaid : Prop := kvCrashesRow.holds Tryd.pinned (OpenSpec.ofChange kvCrashesSpec)

/-- ITS FALSE NEIGHBOUR: 'it returns false'. Refute it at one input. -/
def kvCrashesWrong : ChangeSpec := { name := "kvCrashes", fn := fun _ => fun
  | [d1, d2, d3, d4, d5] => { results := [.lit (.bool false)], args := [d1, d2, d3, d4, d5] }
  | _ => none }
def KvCrashesWrongFalsely : Prop := kvCrashesRow.holds Tryd.pinned (OpenSpec.ofChange kvCrashesWrong)

/-- 'matriculalaw11.KvCompacts': WHATEVER THE INPUT: true; the input reads as it did. -/
def kvCompactsSpec : ChangeSpec := { name := "kvCompacts", fn := fun _ => fun
  | [d1, d2, d3, d4] => { results := [.lit (.bool true)], args := [d1, d2, d3, d4] }
  | _ => none }
def kvCompactsRow : OpenClaim := { program := "ytkdmljijgfejpaadoor", sum := "1b4e9223cc19f18d875dd4a0f7aa1ffb6ca2ca09aedc40450e60797ec1318424", func := "matricula/matriculalaw11.KvCompacts", spec := "kvCompacts", inPlace := ["internal/bytealg.abigen_runtime_cmpstring"], unfollowed := true, recurses := true, named := ["matricula/crc.halves"], apart := false, laid := [("matricula/crc.halves", laid_matricula_crc_halves)] }
def KvCompactsSaid : Prop := kvCompactsRow.holds Tryd.pinned (OpenSpec.ofChange kvCompactsSpec)

/-- ITS FALSE NEIGHBOUR: 'it returns false'. Refute it at one input. -/
def kvCompactsWrong : ChangeSpec := { name := "kvCompacts", fn := fun _ => fun
  | [d1, d2, d3, d4] => { results := [.lit (.bool false)], args := [d1, d2, d3, d4] }
  | _ => none }
def KvCompactsWrongFalsely : Prop := kvCompactsRow.holds Tryd.pinned (OpenSpec.ofChange kvCompactsWrong)

/- THE SECOND FORM. 'bulk': how many values and letters a reading holds, each counted each time it is reached (what is shared counts as often as it is met; a slice's spare places count too). A statement '..UptoSaid' is the law's where the arguments, and the package variables that the reading takes, are together of bulk at most 1048576: NARROWER than '..Said'. Prove '..Said' where nothing that the law and all that it calls make is longer than what came in: it says more and counts as full. Else prove '..UptoSaid'. A law counts once. -/
mutual
def uptoBulk {H : Type} : DataW H → Nat
  | .lit (.string bytes) => bytes.length + 1
  | .lit _ => 1
  | .nil => 1
  | .ptr d => uptoBulk d + 1
  | .slice elems spare => uptoBulkAll elems + uptoBulkAll spare + 1
  | .agg parts => uptoBulkAll parts + 1
  | .iface _ d => uptoBulk d + 1
  | .map entries => uptoBulkEntries entries + 1
  | .held _ => 1
def uptoBulkAll {H : Type} : List (DataW H) → Nat
  | [] => 0
  | d :: r => uptoBulk d + uptoBulkAll r
def uptoBulkEntries {H : Type} : List (Lit × DataW H) → Nat
  | [] => 0
  | x :: r => uptoBulkEntry x + uptoBulkEntries r
def uptoBulkEntry {H : Type} : Lit × DataW H → Nat
  | (.string bytes, d) => bytes.length + uptoBulk d + 1
  | (_, d) => uptoBulk d + 1
 end
def uptoSmall : (H : Type) → List (DataW H) → Bool := fun _ ds => decide (uptoBulkAll ds ≤ 1048576)
def OpenSpec.upto (s : _root_.Go.ChangeSpec) : _root_.Go.OpenSpec := { _root_.Go.OpenSpec.ofChange s with cond := some uptoSmall }

/-- 'matriculalaw11.KvCodes', WHERE WHAT IT READS IS OF BULK AT MOST 1048576: true; the input reads as it did. -/
def kvCodesUptoRow : OpenClaim := { program := "ytkdmljijgfejpaadoor", sum := "1b4e9223cc19f18d875dd4a0f7aa1ffb6ca2ca09aedc40450e60797ec1318424", func := "matricula/matriculalaw11.KvCodes", spec := "kvCodes", inPlace := ["internal/bytealg.abigen_runtime_cmpstring"], unfollowed := true, recurses := true, named := ["matricula/crc.halves"], apart := false, laid := [("matricula/crc.halves", laid_matricula_crc_halves)], narrowed := true }
def KvCodesUptoSaid : Prop := kvCodesUptoRow.holds Tryd.pinned (OpenSpec.upto kvCodesSpec)

/-- 'matriculalaw11.KvJoins', WHERE WHAT IT READS IS OF BULK AT MOST 1048576: true; the input reads as it did. -/
def kvJoinsUptoRow : OpenClaim := { program := "ytkdmljijgfejpaadoor", sum := "1b4e9223cc19f18d875dd4a0f7aa1ffb6ca2ca09aedc40450e60797ec1318424", func := "matricula/matriculalaw11.KvJoins", spec := "kvJoins", inPlace := ["internal/bytealg.abigen_runtime_cmpstring"], unfollowed := true, recurses := true, named := ["matricula/crc.halves"], apart := false, laid := [("matricula/crc.halves", laid_matricula_crc_halves)], narrowed := true }
def KvJoinsUptoSaid : Prop := kvJoinsUptoRow.holds Tryd.pinned (OpenSpec.upto kvJoinsSpec)

/-- 'matriculalaw11.KvFails', WHERE WHAT IT READS IS OF BULK AT MOST 1048576: true; the input reads as it did. -/
def kvFailsUptoRow : OpenClaim := { program := "ytkdmljijgfejpaadoor", sum := "1b4e9223cc19f18d875dd4a0f7aa1ffb6ca2ca09aedc40450e60797ec1318424", func := "matricula/matriculalaw11.KvFails", spec := "kvFails", inPlace := ["internal/bytealg.abigen_runtime_cmpstring"], unfollowed := true, recurses := true, named := ["matricula/crc.halves"], apart := false, laid := [("matricula/crc.halves", laid_matricula_crc_halves)], narrowed := true }
def KvFailsUptoSaid : Prop := kvFailsUptoRow.holds Tryd.pinned (OpenSpec.upto kvFailsSpec)

/-- 'matriculalaw11.KvCrashes', WHERE WHAT IT READS IS OF BULK AT MOST 1048576: true; the input reads as it did. -/
def kvCrashesUptoRow : OpenClaim := { program := "ytkdmljijgfejpaadoor", sum := "1b4e9223cc19f18d875dd4a0f7aa1ffb6ca2ca09aedc40450e60797ec1318424", func := "matricula/matriculalaw11.KvCrashes", spec := "kvCrashes", inPlace := ["internal/bytealg.abigen_runtime_cmpstring"], unfollowed := true, recurses := true, named := ["matricula/crc.halves"], apart := false, laid := [("matricula/crc.halves", laid_matricula_crc_halves)], narrowed := true }
def KvCrashesUptoSaid : Prop := kvCrashesUptoRow.holds Tryd.pinned (OpenSpec.upto kvCrashesSpec)

/-- 'matriculalaw11.KvCompacts', WHERE WHAT IT READS IS OF BULK AT MOST 1048576: true; the input reads as it did. -/
def kvCompactsUptoRow : OpenClaim := { program := "ytkdmljijgfejpaadoor", sum := "1b4e9223cc19f18d875dd4a0f7aa1ffb6ca2ca09aedc40450e60797ec1318424", func := "matricula/matriculalaw11.KvCompacts", spec := "kvCompacts", inPlace := ["internal/bytealg.abigen_runtime_cmpstring"], unfollowed := true, recurses := true, named := ["matricula/crc.halves"], apart := false, laid := [("matricula/crc.halves", laid_matricula_crc_halves)], narrowed := true }
def KvCompactsUptoSaid : Prop := kvCompactsUptoRow.holds Tryd.pinned (OpenSpec.upto kvCompactsSpec)

end Rows
end Go.Proofs.YtkdmljijgfejpaaDoor
