/-
  NARROWER THAN 'FOR EVERY INPUT', by the rows' own cells (each row's printed sentence says how): ExpiryNever: laid · TreeCopies: laid · ExpirySweeps: laid · ExpiryFree: laid · TreeDrops: laid · TreePlays: laid · TreeStands: laid · ExpiryClean: laid · TreeLoads: laid · TreeKeeps: laid.
  DERIVED. THE GIVEN ROWS OF THIS SEAT. 10 by the template 'for every input the law returns true; each argument reads behind the call as it read before'; 0 by the template 'total and deterministic' (their statements: YtmdepmohfnficaaDoorTotals.lean).
  GIVEN WITH THE SEED: the statements are not yours to turn. If you find one false, say at which input.
  Laid BY PROGRAM, IN A SANDBOX (cutbox-rows.mjs): the forced cells as the released guide's own fill.sh prints them over the translation 8f78a43f1da68054… (all of the seat's roots in one cut). By AI agents, Wed Nov 11 2026. No macro, syntax, notation, axiom, sorry.
-/
import Derived.Test.YtmdepmohfnficaaDoorChecked
import GoSem.Claim
import GoSem.ClaimJoined
import GoSem.ClaimMapViews
import Derived.JoinedTies
import Derived.KernelRfl
namespace Go.Proofs.YtmdepmohfnficaaDoor
/- THE CELL 'sum', in the pinned program and in every row, IS THE sha256 OF THE DUMP (.gsa) THAT YtmdepmohfnficaaDoorProg.lean LOADS. Nothing in Lean hashes anything: it is a label: what it is worth is what the hold of that sum in a sandbox is worth. -/
noncomputable def Tryd.pinned : Pinned := { name := "ytmdepmohfnficaadoor", sum := "8f78a43f1da680545494ba369b23dfe4e9de57d8e939b9b4224410f83002642b", checked := Tryd.checked }
namespace Rows
def none {H : Type} : Left H := { results := [], args := [] }

/- WHAT THE LISTED PACKAGE-LEVEL VARIABLES READ AS WHEN THE CALL BEGINS. Each datum BY PROGRAM (the guide's laid-datum.mjs) off the statement by which the dump's own 'gosem.cut.vars' lays the variable. In a bare row this is a premise. The card (YtmdepmohfnficaaDoorCards.lean) ties it to the program's text. -/
def laid_matricula_ticket_prefixes {H : Type} : DataW H := .agg [.lit (.string []), .lit (.string [84, 71, 84]), .lit (.string [83, 84]), .lit (.string [80, 84]), .lit (.string [80, 71, 84]), .lit (.string [80, 71, 84, 73, 79, 85]), .lit (.string [76, 84])]

/-- 'matriculalaw15.ExpiryNever': WHATEVER THE INPUT: true; the input reads as it did. -/
def expiryNeverSpec : ChangeSpec := { name := "expiryNever", fn := fun _ => fun
  | [d1, d2, d3, d4] => { results := [.lit (.bool true)], args := [d1, d2, d3, d4] }
  | _ => none }
def expiryNeverRow : OpenClaim := { program := "ytmdepmohfnficaadoor", sum := "8f78a43f1da680545494ba369b23dfe4e9de57d8e939b9b4224410f83002642b", func := "matricula/matriculalaw15.ExpiryNever", spec := "expiryNever", inPlace := ["internal/bytealg.IndexByteString", "internal/bytealg.IndexString"], unfollowed := true, recurses := true, named := ["matricula/ticket.prefixes", "internal/bytealg.MaxLen"], apart := false, laid := [("matricula/ticket.prefixes", laid_matricula_ticket_prefixes)] }
def ExpiryNeverSaid : Prop := expiryNeverRow.holds Tryd.pinned (OpenSpec.ofChange expiryNeverSpec)

/-- ITS FALSE NEIGHBOUR: 'it returns false'. Refute it at one input. -/
def expiryNeverWrong : ChangeSpec := { name := "expiryNever", fn := fun _ => fun
  | [d1, d2, d3, d4] => { results := [.lit (.bool false)], args := [d1, d2, d3, d4] }
  | _ => none }
def ExpiryNeverWrongFalsely : Prop := expiryNeverRow.holds Tryd.pinned (OpenSpec.ofChange expiryNeverWrong)

/-- 'matriculalaw14.TreeCopies': WHATEVER THE INPUT: true; the input reads as it did. -/
def treeCopiesSpec : ChangeSpec := { name := "treeCopies", fn := fun _ => fun
  | [d1, d2, d3] => { results := [.lit (.bool true)], args := [d1, d2, d3] }
  | _ => none }
def treeCopiesRow : OpenClaim := { program := "ytmdepmohfnficaadoor", sum := "8f78a43f1da680545494ba369b23dfe4e9de57d8e939b9b4224410f83002642b", func := "matricula/matriculalaw14.TreeCopies", spec := "treeCopies", inPlace := ["internal/bytealg.IndexByteString", "internal/bytealg.IndexString"], unfollowed := true, recurses := true, named := ["matricula/ticket.prefixes", "internal/bytealg.MaxLen"], apart := false, laid := [("matricula/ticket.prefixes", laid_matricula_ticket_prefixes)] }
def TreeCopiesSaid : Prop := treeCopiesRow.holds Tryd.pinned (OpenSpec.ofChange treeCopiesSpec)

/-- ITS FALSE NEIGHBOUR: 'it returns false'. Refute it at one input. -/
def treeCopiesWrong : ChangeSpec := { name := "treeCopies", fn := fun _ => fun
  | [d1, d2, d3] => { results := [.lit (.bool false)], args := [d1, d2, d3] }
  | _ => none }
def TreeCopiesWrongFalsely : Prop := treeCopiesRow.holds Tryd.pinned (OpenSpec.ofChange treeCopiesWrong)

/-- 'matriculalaw15.ExpirySweeps': WHATEVER THE INPUT: true; the input reads as it did. -/
def expirySweepsSpec : ChangeSpec := { name := "expirySweeps", fn := fun _ => fun
  | [d1, d2, d3, d4] => { results := [.lit (.bool true)], args := [d1, d2, d3, d4] }
  | _ => none }
def expirySweepsRow : OpenClaim := { program := "ytmdepmohfnficaadoor", sum := "8f78a43f1da680545494ba369b23dfe4e9de57d8e939b9b4224410f83002642b", func := "matricula/matriculalaw15.ExpirySweeps", spec := "expirySweeps", inPlace := ["internal/bytealg.IndexByteString", "internal/bytealg.IndexString"], unfollowed := true, recurses := true, named := ["matricula/ticket.prefixes", "internal/bytealg.MaxLen"], apart := false, laid := [("matricula/ticket.prefixes", laid_matricula_ticket_prefixes)] }
def ExpirySweepsSaid : Prop := expirySweepsRow.holds Tryd.pinned (OpenSpec.ofChange expirySweepsSpec)

/-- ITS FALSE NEIGHBOUR: 'it returns false'. Refute it at one input. -/
def expirySweepsWrong : ChangeSpec := { name := "expirySweeps", fn := fun _ => fun
  | [d1, d2, d3, d4] => { results := [.lit (.bool false)], args := [d1, d2, d3, d4] }
  | _ => none }
def ExpirySweepsWrongFalsely : Prop := expirySweepsRow.holds Tryd.pinned (OpenSpec.ofChange expirySweepsWrong)

/-- 'matriculalaw15.ExpiryFree': WHATEVER THE INPUT: true; the input reads as it did. -/
def expiryFreeSpec : ChangeSpec := { name := "expiryFree", fn := fun _ => fun
  | [d1, d2, d3, d4] => { results := [.lit (.bool true)], args := [d1, d2, d3, d4] }
  | _ => none }
def expiryFreeRow : OpenClaim := { program := "ytmdepmohfnficaadoor", sum := "8f78a43f1da680545494ba369b23dfe4e9de57d8e939b9b4224410f83002642b", func := "matricula/matriculalaw15.ExpiryFree", spec := "expiryFree", inPlace := ["internal/bytealg.IndexByteString", "internal/bytealg.IndexString"], unfollowed := true, recurses := true, named := ["matricula/ticket.prefixes", "internal/bytealg.MaxLen"], apart := false, laid := [("matricula/ticket.prefixes", laid_matricula_ticket_prefixes)] }
def ExpiryFreeSaid : Prop := expiryFreeRow.holds Tryd.pinned (OpenSpec.ofChange expiryFreeSpec)

/-- ITS FALSE NEIGHBOUR: 'it returns false'. Refute it at one input. -/
def expiryFreeWrong : ChangeSpec := { name := "expiryFree", fn := fun _ => fun
  | [d1, d2, d3, d4] => { results := [.lit (.bool false)], args := [d1, d2, d3, d4] }
  | _ => none }
def ExpiryFreeWrongFalsely : Prop := expiryFreeRow.holds Tryd.pinned (OpenSpec.ofChange expiryFreeWrong)

/-- 'matriculalaw14.TreeDrops': WHATEVER THE INPUT: true; the input reads as it did. -/
def treeDropsSpec : ChangeSpec := { name := "treeDrops", fn := fun _ => fun
  | [d1, d2, d3] => { results := [.lit (.bool true)], args := [d1, d2, d3] }
  | _ => none }
def treeDropsRow : OpenClaim := { program := "ytmdepmohfnficaadoor", sum := "8f78a43f1da680545494ba369b23dfe4e9de57d8e939b9b4224410f83002642b", func := "matricula/matriculalaw14.TreeDrops", spec := "treeDrops", inPlace := ["internal/bytealg.IndexByteString", "internal/bytealg.IndexString"], unfollowed := true, recurses := true, named := ["matricula/ticket.prefixes", "internal/bytealg.MaxLen"], apart := false, laid := [("matricula/ticket.prefixes", laid_matricula_ticket_prefixes)] }
def TreeDropsSaid : Prop := treeDropsRow.holds Tryd.pinned (OpenSpec.ofChange treeDropsSpec)

/-- ITS FALSE NEIGHBOUR: 'it returns false'. Refute it at one input. -/
def treeDropsWrong : ChangeSpec := { name := "treeDrops", fn := fun _ => fun
  | [d1, d2, d3] => { results := [.lit (.bool false)], args := [d1, d2, d3] }
  | _ => none }
def TreeDropsWrongFalsely : Prop := treeDropsRow.holds Tryd.pinned (OpenSpec.ofChange treeDropsWrong)

/-- 'matriculalaw14.TreePlays': WHATEVER THE INPUT: true; the input reads as it did. -/
def treePlaysSpec : ChangeSpec := { name := "treePlays", fn := fun _ => fun
  | [d1, d2, d3] => { results := [.lit (.bool true)], args := [d1, d2, d3] }
  | _ => none }
def treePlaysRow : OpenClaim := { program := "ytmdepmohfnficaadoor", sum := "8f78a43f1da680545494ba369b23dfe4e9de57d8e939b9b4224410f83002642b", func := "matricula/matriculalaw14.TreePlays", spec := "treePlays", inPlace := ["internal/bytealg.IndexByteString", "internal/bytealg.IndexString"], unfollowed := true, recurses := true, named := ["matricula/ticket.prefixes", "internal/bytealg.MaxLen"], apart := false, laid := [("matricula/ticket.prefixes", laid_matricula_ticket_prefixes)] }
def TreePlaysSaid : Prop := treePlaysRow.holds Tryd.pinned (OpenSpec.ofChange treePlaysSpec)

/-- ITS FALSE NEIGHBOUR: 'it returns false'. Refute it at one input. -/
def treePlaysWrong : ChangeSpec := { name := "treePlays", fn := fun _ => fun
  | [d1, d2, d3] => { results := [.lit (.bool false)], args := [d1, d2, d3] }
  | _ => none }
def TreePlaysWrongFalsely : Prop := treePlaysRow.holds Tryd.pinned (OpenSpec.ofChange treePlaysWrong)

/-- 'matriculalaw14.TreeStands': WHATEVER THE INPUT: true; the input reads as it did. -/
def treeStandsSpec : ChangeSpec := { name := "treeStands", fn := fun _ => fun
  | [d1, d2] => { results := [.lit (.bool true)], args := [d1, d2] }
  | _ => none }
def treeStandsRow : OpenClaim := { program := "ytmdepmohfnficaadoor", sum := "8f78a43f1da680545494ba369b23dfe4e9de57d8e939b9b4224410f83002642b", func := "matricula/matriculalaw14.TreeStands", spec := "treeStands", inPlace := ["internal/bytealg.IndexByteString", "internal/bytealg.IndexString"], unfollowed := true, recurses := true, named := ["matricula/ticket.prefixes", "internal/bytealg.MaxLen"], apart := false, laid := [("matricula/ticket.prefixes", laid_matricula_ticket_prefixes)] }
def TreeStandsSaid : Prop := treeStandsRow.holds Tryd.pinned (OpenSpec.ofChange treeStandsSpec)

/-- ITS FALSE NEIGHBOUR: 'it returns false'. Refute it at one input. -/
def treeStandsWrong : ChangeSpec := { name := "treeStands", fn := fun _ => fun
  | [d1, d2] => { results := [.lit (.bool false)], args := [d1, d2] }
  | _ => none }
def TreeStandsWrongFalsely : Prop := treeStandsRow.holds Tryd.pinned (OpenSpec.ofChange treeStandsWrong)

/-- 'matriculalaw15.ExpiryClean': WHATEVER THE INPUT: true; the input reads as it did. -/
def expiryCleanSpec : ChangeSpec := { name := "expiryClean", fn := fun _ => fun
  | [d1, d2, d3] => { results := [.lit (.bool true)], args := [d1, d2, d3] }
  | _ => none }
def expiryCleanRow : OpenClaim := { program := "ytmdepmohfnficaadoor", sum := "8f78a43f1da680545494ba369b23dfe4e9de57d8e939b9b4224410f83002642b", func := "matricula/matriculalaw15.ExpiryClean", spec := "expiryClean", inPlace := ["internal/bytealg.IndexByteString", "internal/bytealg.IndexString"], unfollowed := true, recurses := true, named := ["matricula/ticket.prefixes", "internal/bytealg.MaxLen"], apart := false, laid := [("matricula/ticket.prefixes", laid_matricula_ticket_prefixes)] }
def ExpiryCleanSaid : Prop := expiryCleanRow.holds Tryd.pinned (OpenSpec.ofChange expiryCleanSpec)

/-- ITS FALSE NEIGHBOUR: 'it returns false'. Refute it at one input. -/
def expiryCleanWrong : ChangeSpec := { name := "expiryClean", fn := fun _ => fun
  | [d1, d2, d3] => { results := [.lit (.bool false)], args := [d1, d2, d3] }
  | _ => none }
def ExpiryCleanWrongFalsely : Prop := expiryCleanRow.holds Tryd.pinned (OpenSpec.ofChange expiryCleanWrong)

/-- 'matriculalaw14.TreeLoads': WHATEVER THE INPUT: true; the input reads as it did. -/
def treeLoadsSpec : ChangeSpec := { name := "treeLoads", fn := fun _ => fun
  | [d1, d2] => { results := [.lit (.bool true)], args := [d1, d2] }
  | _ => none }
def treeLoadsRow : OpenClaim := { program := "ytmdepmohfnficaadoor", sum := "8f78a43f1da680545494ba369b23dfe4e9de57d8e939b9b4224410f83002642b", func := "matricula/matriculalaw14.TreeLoads", spec := "treeLoads", inPlace := ["internal/bytealg.IndexByteString", "internal/bytealg.IndexString"], unfollowed := true, recurses := true, named := ["matricula/ticket.prefixes", "internal/bytealg.MaxLen"], apart := false, laid := [("matricula/ticket.prefixes", laid_matricula_ticket_prefixes)] }
def TreeLoadsSaid : Prop := treeLoadsRow.holds Tryd.pinned (OpenSpec.ofChange treeLoadsSpec)

/-- ITS FALSE NEIGHBOUR: 'it returns false'. Refute it at one input. -/
def treeLoadsWrong : ChangeSpec := { name := "treeLoads", fn := fun _ => fun
  | [d1, d2] => { results := [.lit (.bool false)], args := [d1, d2] }
  | _ => none }
def TreeLoadsWrongFalsely : Prop := treeLoadsRow.holds Tryd.pinned (OpenSpec.ofChange treeLoadsWrong)

/-- 'matriculalaw14.TreeKeeps': WHATEVER THE INPUT: true; the input reads as it did. -/
def treeKeepsSpec : ChangeSpec := { name := "treeKeeps", fn := fun _ => fun
  | [d1, d2, d3] => { results := [.lit (.bool true)], args := [d1, d2, d3] }
  | _ => none }
def treeKeepsRow : OpenClaim := { program := "ytmdepmohfnficaadoor", sum := "8f78a43f1da680545494ba369b23dfe4e9de57d8e939b9b4224410f83002642b", func := "matricula/matriculalaw14.TreeKeeps", spec := "treeKeeps", inPlace := ["internal/bytealg.IndexByteString", "internal/bytealg.IndexString", "internal/bytealg.abigen_runtime_cmpstring"], unfollowed := true, recurses := true, named := ["matricula/ticket.prefixes", "internal/bytealg.MaxLen"], apart := false, laid := [("matricula/ticket.prefixes", laid_matricula_ticket_prefixes)] }
def TreeKeepsSaid : Prop := treeKeepsRow.holds Tryd.pinned (OpenSpec.ofChange treeKeepsSpec)

/-- ITS FALSE NEIGHBOUR: 'it returns false'. Refute it at one input. -/
def treeKeepsWrong : ChangeSpec := { name := "treeKeeps", fn := fun _ => fun
  | [d1, d2, d3] => { results := [.lit (.bool false)], args := [d1, d2, d3] }
  | _ => none }
def TreeKeepsWrongFalsely : Prop := treeKeepsRow.holds Tryd.pinned (OpenSpec.ofChange treeKeepsWrong)

/- THE SECOND FORM. 'bulk': how many values and letters a reading holds, each counted each time it is reached (what is shared counts as often as it is met; a slice's spare places count too). A statement '..UptoSaid' is the law's where the arguments, and the package variables that the reading takes, are together of bulk at most 1048576: NARROWER than '..Said'. Prove '..Said' where nothing that the law and all that it calls make is longer than what came in: it says more and counts as full. Else prove '..UptoSaid'. A law counts once. -/
mutual
def uptoBulk {H : Type} : DataW H → Nat
  | .lit (.string bytes) => bytes.length + 1
  | .lit _ => 1
  | .nil => 1
  | .ptr d => uptoBulk d + 1
  | .slice elems spare => uptoBulkAll elems + uptoBulkAll spare + 1
  | .agg parts => uptoBulkAll parts + 1
  | .iface _ d => uptoBulk d + 1
  | .map entries => uptoBulkEntries entries + 1
  | .held _ => 1
def uptoBulkAll {H : Type} : List (DataW H) → Nat
  | [] => 0
  | d :: r => uptoBulk d + uptoBulkAll r
def uptoBulkEntries {H : Type} : List (Lit × DataW H) → Nat
  | [] => 0
  | x :: r => uptoBulkEntry x + uptoBulkEntries r
def uptoBulkEntry {H : Type} : Lit × DataW H → Nat
  | (.string bytes, d) => bytes.length + uptoBulk d + 1
  | (_, d) => uptoBulk d + 1
 end
def uptoSmall : (H : Type) → List (DataW H) → Bool := fun _ ds => decide (uptoBulkAll ds ≤ 1048576)
def OpenSpec.upto (s : _root_.Go.ChangeSpec) : _root_.Go.OpenSpec := { _root_.Go.OpenSpec.ofChange s with cond := some uptoSmall }

/-- 'matriculalaw15.ExpiryNever', WHERE WHAT IT READS IS OF BULK AT MOST 1048576: true; the input reads as it did. -/
def expiryNeverUptoRow : OpenClaim := { program := "ytmdepmohfnficaadoor", sum := "8f78a43f1da680545494ba369b23dfe4e9de57d8e939b9b4224410f83002642b", func := "matricula/matriculalaw15.ExpiryNever", spec := "expiryNever", inPlace := ["internal/bytealg.IndexByteString", "internal/bytealg.IndexString"], unfollowed := true, recurses := true, named := ["matricula/ticket.prefixes", "internal/bytealg.MaxLen"], apart := false, laid := [("matricula/ticket.prefixes", laid_matricula_ticket_prefixes)], narrowed := true }
def ExpiryNeverUptoSaid : Prop := expiryNeverUptoRow.holds Tryd.pinned (OpenSpec.upto expiryNeverSpec)

/-- 'matriculalaw14.TreeCopies', WHERE WHAT IT READS IS OF BULK AT MOST 1048576: true; the input reads as it did. -/
def treeCopiesUptoRow : OpenClaim := { program := "ytmdepmohfnficaadoor", sum := "8f78a43f1da680545494ba369b23dfe4e9de57d8e939b9b4224410f83002642b", func := "matricula/matriculalaw14.TreeCopies", spec := "treeCopies", inPlace := ["internal/bytealg.IndexByteString", "internal/bytealg.IndexString"], unfollowed := true, recurses := true, named := ["matricula/ticket.prefixes", "internal/bytealg.MaxLen"], apart := false, laid := [("matricula/ticket.prefixes", laid_matricula_ticket_prefixes)], narrowed := true }
def TreeCopiesUptoSaid : Prop := treeCopiesUptoRow.holds Tryd.pinned (OpenSpec.upto treeCopiesSpec)

/-- 'matriculalaw15.ExpirySweeps', WHERE WHAT IT READS IS OF BULK AT MOST 1048576: true; the input reads as it did. -/
def expirySweepsUptoRow : OpenClaim := { program := "ytmdepmohfnficaadoor", sum := "8f78a43f1da680545494ba369b23dfe4e9de57d8e939b9b4224410f83002642b", func := "matricula/matriculalaw15.ExpirySweeps", spec := "expirySweeps", inPlace := ["internal/bytealg.IndexByteString", "internal/bytealg.IndexString"], unfollowed := true, recurses := true, named := ["matricula/ticket.prefixes", "internal/bytealg.MaxLen"], apart := false, laid := [("matricula/ticket.prefixes", laid_matricula_ticket_prefixes)], narrowed := true }
def ExpirySweepsUptoSaid : Prop := expirySweepsUptoRow.holds Tryd.pinned (OpenSpec.upto expirySweepsSpec)

/-- 'matriculalaw15.ExpiryFree', WHERE WHAT IT READS IS OF BULK AT MOST 1048576: true; the input reads as it did. -/
def expiryFreeUptoRow : OpenClaim := { program := "ytmdepmohfnficaadoor", sum := "8f78a43f1da680545494ba369b23dfe4e9de57d8e939b9b4224410f83002642b", func := "matricula/matriculalaw15.ExpiryFree", spec := "expiryFree", inPlace := ["internal/bytealg.IndexByteString", "internal/bytealg.IndexString"], unfollowed := true, recurses := true, named := ["matricula/ticket.prefixes", "internal/bytealg.MaxLen"], apart := false, laid := [("matricula/ticket.prefixes", laid_matricula_ticket_prefixes)], narrowed := true }
def ExpiryFreeUptoSaid : Prop := expiryFreeUptoRow.holds Tryd.pinned (OpenSpec.upto expiryFreeSpec)

/-- 'matriculalaw14.TreeDrops', WHERE WHAT IT READS IS OF BULK AT MOST 1048576: true; the input reads as it did. -/
def treeDropsUptoRow : OpenClaim := { program := "ytmdepmohfnficaadoor", sum := "8f78a43f1da680545494ba369b23dfe4e9de57d8e939b9b4224410f83002642b", func := "matricula/matriculalaw14.TreeDrops", spec := "treeDrops", inPlace := ["internal/bytealg.IndexByteString", "internal/bytealg.IndexString"], unfollowed := true, recurses := true, named := ["matricula/ticket.prefixes", "internal/bytealg.MaxLen"], apart := false, laid := [("matricula/ticket.prefixes", laid_matricula_ticket_prefixes)], narrowed := true }
def TreeDropsUptoSaid : Prop := treeDropsUptoRow.holds Tryd.pinned (OpenSpec.upto treeDropsSpec)

/-- 'matriculalaw14.TreePlays', WHERE WHAT IT READS IS OF BULK AT MOST 1048576: true; the input reads as it did. -/
def treePlaysUptoRow : OpenClaim := { program := "ytmdepmohfnficaadoor", sum := "8f78a43f1da680545494ba369b23dfe4e9de57d8e939b9b4224410f83002642b", func := "matricula/matriculalaw14.TreePlays", spec := "treePlays", inPlace := ["internal/bytealg.IndexByteString", "internal/bytealg.IndexString"], unfollowed := true, recurses := true, named := ["matricula/ticket.prefixes", "internal/bytealg.MaxLen"], apart := false, laid := [("matricula/ticket.prefixes", laid_matricula_ticket_prefixes)], narrowed := true }
def TreePlaysUptoSaid : Prop := treePlaysUptoRow.holds Tryd.pinned (OpenSpec.upto treePlaysSpec)

/-- 'matriculalaw14.TreeStands', WHERE WHAT IT READS IS OF BULK AT MOST 1048576: true; the input reads as it did. -/
def treeStandsUptoRow : OpenClaim := { program := "ytmdepmohfnficaadoor", sum := "8f78a43f1da680545494ba369b23dfe4e9de57d8e939b9b4224410f83002642b", func := "matricula/matriculalaw14.TreeStands", spec := "treeStands", inPlace := ["internal/bytealg.IndexByteString", "internal/bytealg.IndexString"], unfollowed := true, recurses := true, named := ["matricula/ticket.prefixes", "internal/bytealg.MaxLen"], apart := false, laid := [("matricula/ticket.prefixes", laid_matricula_ticket_prefixes)], narrowed := true }
def TreeStandsUptoSaid : Prop := treeStandsUptoRow.holds Tryd.pinned (OpenSpec.upto treeStandsSpec)

/-- 'matriculalaw15.ExpiryClean', WHERE WHAT IT READS IS OF BULK AT MOST 1048576: true; the input reads as it did. -/
def expiryCleanUptoRow : OpenClaim := { program := "ytmdepmohfnficaadoor", sum := "8f78a43f1da680545494ba369b23dfe4e9de57d8e939b9b4224410f83002642b", func := "matricula/matriculalaw15.ExpiryClean", spec := "expiryClean", inPlace := ["internal/bytealg.IndexByteString", "internal/bytealg.IndexString"], unfollowed := true, recurses := true, named := ["matricula/ticket.prefixes", "internal/bytealg.MaxLen"], apart := false, laid := [("matricula/ticket.prefixes", laid_matricula_ticket_prefixes)], narrowed := true }
def ExpiryCleanUptoSaid : Prop := expiryCleanUptoRow.holds Tryd.pinned (OpenSpec.upto expiryCleanSpec)

/-- 'matriculalaw14.TreeLoads', WHERE WHAT IT READS IS OF BULK AT MOST 1048576: true; the input reads as it did. -/
def treeLoadsUptoRow : OpenClaim := { program := "ytmdepmohfnficaadoor", sum := "8f78a43f1da680545494ba369b23dfe4e9de57d8e939b9b4224410f83002642b", func := "matricula/matriculalaw14.TreeLoads", spec := "treeLoads", inPlace := ["internal/bytealg.IndexByteString", "internal/bytealg.IndexString"], unfollowed := true, recurses := true, named := ["matricula/ticket.prefixes", "internal/bytealg.MaxLen"], apart := false, laid := [("matricula/ticket.prefixes", laid_matricula_ticket_prefixes)], narrowed := true }
def TreeLoadsUptoSaid : Prop := treeLoadsUptoRow.holds Tryd.pinned (OpenSpec.upto treeLoadsSpec)

/-- 'matriculalaw14.TreeKeeps', WHERE WHAT IT READS IS OF BULK AT MOST 1048576: true; the input reads as it did. -/
def treeKeepsUptoRow : OpenClaim := { program := "ytmdepmohfnficaadoor", sum := "8f78a43f1da680545494ba369b23dfe4e9de57d8e939b9b4224410f83002642b", func := "matricula/matriculalaw14.TreeKeeps", spec := "treeKeeps", inPlace := ["internal/bytealg.IndexByteString", "internal/bytealg.IndexString", "internal/bytealg.abigen_runtime_cmpstring"], unfollowed := true, recurses := true, named := ["matricula/ticket.prefixes", "internal/bytealg.MaxLen"], apart := false, laid := [("matricula/ticket.prefixes", laid_matricula_ticket_prefixes)], narrowed := true }
def TreeKeepsUptoSaid : Prop := treeKeepsUptoRow.holds Tryd.pinned (OpenSpec.upto treeKeepsSpec)

end Rows
end Go.Proofs.YtmdepmohfnficaaDoor
