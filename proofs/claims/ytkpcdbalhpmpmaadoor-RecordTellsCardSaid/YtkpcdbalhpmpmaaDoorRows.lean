/-
  NARROWER THAN 'FOR EVERY INPUT', by the rows' own cells (each row's printed sentence says how): TicketUnlike: laid · TicketFinds: laid · TicketTells: laid · TicketBack: laid · TicketMints: laid · RecordTells: laid · RecordBack: laid · RecordUnlike: laid · RecordComes: laid · RecordSteps: laid.
  DERIVED. THE GIVEN ROWS OF THIS SEAT. 10 by the template 'for every input the law returns true; each argument reads behind the call as it read before'; 0 by the template 'total and deterministic' (their statements: YtkpcdbalhpmpmaaDoorTotals.lean).
  GIVEN WITH THE SEED: the statements are not yours to turn. If you find one false, say at which input.
  Laid BY PROGRAM, IN A SANDBOX (cutbox-rows.mjs): the forced cells as the released guide's own fill.sh prints them over the translation 9846525da40a0f55… (all of the seat's roots in one cut). By AI agents, Wed Nov 11 2026. No macro, syntax, notation, axiom, sorry.
-/
import Derived.Test.YtkpcdbalhpmpmaaDoorChecked
import GoSem.Claim
import GoSem.ClaimJoined
import GoSem.ClaimMapViews
import Derived.JoinedTies
import Derived.KernelRfl
namespace Go.Proofs.YtkpcdbalhpmpmaaDoor
/- THE CELL 'sum', in the pinned program and in every row, IS THE sha256 OF THE DUMP (.gsa) THAT YtkpcdbalhpmpmaaDoorProg.lean LOADS. Nothing in Lean hashes anything: it is a label: what it is worth is what the hold of that sum in a sandbox is worth. -/
noncomputable def Tryd.pinned : Pinned := { name := "ytkpcdbalhpmpmaadoor", sum := "9846525da40a0f55a8316894ecb615d46f190f722f3e8cb9cfdc372cd445bf61", checked := Tryd.checked }
namespace Rows
def none {H : Type} : Left H := { results := [], args := [] }

/- WHAT THE LISTED PACKAGE-LEVEL VARIABLES READ AS WHEN THE CALL BEGINS. Each datum BY PROGRAM (the guide's laid-datum.mjs) off the statement by which the dump's own 'gosem.cut.vars' lays the variable. In a bare row this is a premise. The card (YtkpcdbalhpmpmaaDoorCards.lean) ties it to the program's text. -/
def laid_matricula_ticket_prefixes {H : Type} : DataW H := .agg [.lit (.string []), .lit (.string [84, 71, 84]), .lit (.string [83, 84]), .lit (.string [80, 84]), .lit (.string [80, 71, 84]), .lit (.string [80, 71, 84, 73, 79, 85]), .lit (.string [76, 84])]

/-- 'matriculalaw12.TicketUnlike': WHATEVER THE INPUT: true; the input reads as it did. -/
def ticketUnlikeSpec : ChangeSpec := { name := "ticketUnlike", fn := fun _ => fun
  | [d1, d2, d3, d4] => { results := [.lit (.bool true)], args := [d1, d2, d3, d4] }
  | _ => none }
def ticketUnlikeRow : OpenClaim := { program := "ytkpcdbalhpmpmaadoor", sum := "9846525da40a0f55a8316894ecb615d46f190f722f3e8cb9cfdc372cd445bf61", func := "matricula/matriculalaw12.TicketUnlike", spec := "ticketUnlike", inPlace := ["internal/bytealg.IndexByteString", "internal/bytealg.IndexString"], named := ["matricula/ticket.prefixes", "internal/bytealg.MaxLen"], apart := false, laid := [("matricula/ticket.prefixes", laid_matricula_ticket_prefixes)] }
def TicketUnlikeSaid : Prop := ticketUnlikeRow.holds Tryd.pinned (OpenSpec.ofChange ticketUnlikeSpec)

/-- ITS FALSE NEIGHBOUR: 'it returns false'. Refute it at one input. -/
def ticketUnlikeWrong : ChangeSpec := { name := "ticketUnlike", fn := fun _ => fun
  | [d1, d2, d3, d4] => { results := [.lit (.bool false)], args := [d1, d2, d3, d4] }
  | _ => none }
def TicketUnlikeWrongFalsely : Prop := ticketUnlikeRow.holds Tryd.pinned (OpenSpec.ofChange ticketUnlikeWrong)

/-- 'matriculalaw12.TicketFinds': WHATEVER THE INPUT: true; the input reads as it did. -/
def ticketFindsSpec : ChangeSpec := { name := "ticketFinds", fn := fun _ => fun
  | [d1, d2, d3] => { results := [.lit (.bool true)], args := [d1, d2, d3] }
  | _ => none }
def ticketFindsRow : OpenClaim := { program := "ytkpcdbalhpmpmaadoor", sum := "9846525da40a0f55a8316894ecb615d46f190f722f3e8cb9cfdc372cd445bf61", func := "matricula/matriculalaw12.TicketFinds", spec := "ticketFinds", inPlace := ["internal/bytealg.IndexByteString", "internal/bytealg.IndexString"], named := ["matricula/ticket.prefixes", "internal/bytealg.MaxLen"], apart := false, laid := [("matricula/ticket.prefixes", laid_matricula_ticket_prefixes)] }
def TicketFindsSaid : Prop := ticketFindsRow.holds Tryd.pinned (OpenSpec.ofChange ticketFindsSpec)

/-- ITS FALSE NEIGHBOUR: 'it returns false'. Refute it at one input. -/
def ticketFindsWrong : ChangeSpec := { name := "ticketFinds", fn := fun _ => fun
  | [d1, d2, d3] => { results := [.lit (.bool false)], args := [d1, d2, d3] }
  | _ => none }
def TicketFindsWrongFalsely : Prop := ticketFindsRow.holds Tryd.pinned (OpenSpec.ofChange ticketFindsWrong)

/-- 'matriculalaw12.TicketTells': WHATEVER THE INPUT: true; the input reads as it did. -/
def ticketTellsSpec : ChangeSpec := { name := "ticketTells", fn := fun _ => fun
  | [d1, d2, d3] => { results := [.lit (.bool true)], args := [d1, d2, d3] }
  | _ => none }
def ticketTellsRow : OpenClaim := { program := "ytkpcdbalhpmpmaadoor", sum := "9846525da40a0f55a8316894ecb615d46f190f722f3e8cb9cfdc372cd445bf61", func := "matricula/matriculalaw12.TicketTells", spec := "ticketTells", inPlace := ["internal/bytealg.IndexByteString", "internal/bytealg.IndexString"], named := ["matricula/ticket.prefixes", "internal/bytealg.MaxLen"], apart := false, laid := [("matricula/ticket.prefixes", laid_matricula_ticket_prefixes)] }
def TicketTellsSaid : Prop := ticketTellsRow.holds Tryd.pinned (OpenSpec.ofChange ticketTellsSpec)

/-- ITS FALSE NEIGHBOUR: 'it returns false'. Refute it at one input. -/
def ticketTellsWrong : ChangeSpec := { name := "ticketTells", fn := fun _ => fun
  | [d1, d2, d3] => { results := [.lit (.bool false)], args := [d1, d2, d3] }
  | _ => none }
def TicketTellsWrongFalsely : Prop := ticketTellsRow.holds Tryd.pinned (OpenSpec.ofChange ticketTellsWrong)

/-- 'matriculalaw12.TicketBack': WHATEVER THE INPUT: true; the input reads as it did. -/
def ticketBackSpec : ChangeSpec := { name := "ticketBack", fn := fun _ => fun
  | [d1, d2, d3] => { results := [.lit (.bool true)], args := [d1, d2, d3] }
  | _ => none }
def ticketBackRow : OpenClaim := { program := "ytkpcdbalhpmpmaadoor", sum := "9846525da40a0f55a8316894ecb615d46f190f722f3e8cb9cfdc372cd445bf61", func := "matricula/matriculalaw12.TicketBack", spec := "ticketBack", inPlace := ["internal/bytealg.IndexByteString", "internal/bytealg.IndexString"], named := ["matricula/ticket.prefixes", "internal/bytealg.MaxLen"], apart := false, laid := [("matricula/ticket.prefixes", laid_matricula_ticket_prefixes)] }
def TicketBackSaid : Prop := ticketBackRow.holds Tryd.pinned (OpenSpec.ofChange ticketBackSpec)

/-- ITS FALSE NEIGHBOUR: 'it returns false'. Refute it at one input. -/
def ticketBackWrong : ChangeSpec := { name := "ticketBack", fn := fun _ => fun
  | [d1, d2, d3] => { results := [.lit (.bool false)], args := [d1, d2, d3] }
  | _ => none }
def TicketBackWrongFalsely : Prop := ticketBackRow.holds Tryd.pinned (OpenSpec.ofChange ticketBackWrong)

/-- 'matriculalaw12.TicketMints': WHATEVER THE INPUT: true; the input reads as it did. -/
def ticketMintsSpec : ChangeSpec := { name := "ticketMints", fn := fun _ => fun
  | [d1, d2, d3, d4] => { results := [.lit (.bool true)], args := [d1, d2, d3, d4] }
  | _ => none }
def ticketMintsRow : OpenClaim := { program := "ytkpcdbalhpmpmaadoor", sum := "9846525da40a0f55a8316894ecb615d46f190f722f3e8cb9cfdc372cd445bf61", func := "matricula/matriculalaw12.TicketMints", spec := "ticketMints", inPlace := ["internal/bytealg.IndexByteString", "internal/bytealg.IndexString"], unfollowed := true, recurses := true, named := ["matricula/ticket.prefixes", "internal/bytealg.MaxLen"], apart := false, laid := [("matricula/ticket.prefixes", laid_matricula_ticket_prefixes)] }
def TicketMintsSaid : Prop := ticketMintsRow.holds Tryd.pinned (OpenSpec.ofChange ticketMintsSpec)

/-- ITS FALSE NEIGHBOUR: 'it returns false'. Refute it at one input. -/
def ticketMintsWrong : ChangeSpec := { name := "ticketMints", fn := fun _ => fun
  | [d1, d2, d3, d4] => { results := [.lit (.bool false)], args := [d1, d2, d3, d4] }
  | _ => none }
def TicketMintsWrongFalsely : Prop := ticketMintsRow.holds Tryd.pinned (OpenSpec.ofChange ticketMintsWrong)

/-- 'matriculalaw13.RecordTells': WHATEVER THE INPUT: true; the input reads as it did. -/
def recordTellsSpec : ChangeSpec := { name := "recordTells", fn := fun _ => fun
  | [d1, d2, d3, d4, d5] => { results := [.lit (.bool true)], args := [d1, d2, d3, d4, d5] }
  | _ => none }
def recordTellsRow : OpenClaim := { program := "ytkpcdbalhpmpmaadoor", sum := "9846525da40a0f55a8316894ecb615d46f190f722f3e8cb9cfdc372cd445bf61", func := "matricula/matriculalaw13.RecordTells", spec := "recordTells", inPlace := ["internal/bytealg.IndexByteString", "internal/bytealg.IndexString"], named := ["matricula/ticket.prefixes", "internal/bytealg.MaxLen"], apart := false, laid := [("matricula/ticket.prefixes", laid_matricula_ticket_prefixes)] }
def RecordTellsSaid : Prop := recordTellsRow.holds Tryd.pinned (OpenSpec.ofChange recordTellsSpec)

/-- ITS FALSE NEIGHBOUR: 'it returns false'. Refute it at one input. -/
def recordTellsWrong : ChangeSpec := { name := "recordTells", fn := fun _ => fun
  | [d1, d2, d3, d4, d5] => { results := [.lit (.bool false)], args := [d1, d2, d3, d4, d5] }
  | _ => none }
def RecordTellsWrongFalsely : Prop := recordTellsRow.holds Tryd.pinned (OpenSpec.ofChange recordTellsWrong)

/-- 'matriculalaw13.RecordBack': WHATEVER THE INPUT: true; the input reads as it did. -/
def recordBackSpec : ChangeSpec := { name := "recordBack", fn := fun _ => fun
  | [d1, d2, d3] => { results := [.lit (.bool true)], args := [d1, d2, d3] }
  | _ => none }
def recordBackRow : OpenClaim := { program := "ytkpcdbalhpmpmaadoor", sum := "9846525da40a0f55a8316894ecb615d46f190f722f3e8cb9cfdc372cd445bf61", func := "matricula/matriculalaw13.RecordBack", spec := "recordBack", inPlace := ["internal/bytealg.IndexByteString", "internal/bytealg.IndexString"], named := ["matricula/ticket.prefixes", "internal/bytealg.MaxLen"], apart := false, laid := [("matricula/ticket.prefixes", laid_matricula_ticket_prefixes)] }
def RecordBackSaid : Prop := recordBackRow.holds Tryd.pinned (OpenSpec.ofChange recordBackSpec)

/-- ITS FALSE NEIGHBOUR: 'it returns false'. Refute it at one input. -/
def recordBackWrong : ChangeSpec := { name := "recordBack", fn := fun _ => fun
  | [d1, d2, d3] => { results := [.lit (.bool false)], args := [d1, d2, d3] }
  | _ => none }
def RecordBackWrongFalsely : Prop := recordBackRow.holds Tryd.pinned (OpenSpec.ofChange recordBackWrong)

/-- 'matriculalaw13.RecordUnlike': WHATEVER THE INPUT: true; the input reads as it did. -/
def recordUnlikeSpec : ChangeSpec := { name := "recordUnlike", fn := fun _ => fun
  | [d1, d2] => { results := [.lit (.bool true)], args := [d1, d2] }
  | _ => none }
def recordUnlikeRow : OpenClaim := { program := "ytkpcdbalhpmpmaadoor", sum := "9846525da40a0f55a8316894ecb615d46f190f722f3e8cb9cfdc372cd445bf61", func := "matricula/matriculalaw13.RecordUnlike", spec := "recordUnlike", inPlace := ["internal/bytealg.IndexByteString", "internal/bytealg.IndexString"], named := ["matricula/ticket.prefixes", "internal/bytealg.MaxLen"], apart := false, laid := [("matricula/ticket.prefixes", laid_matricula_ticket_prefixes)] }
def RecordUnlikeSaid : Prop := recordUnlikeRow.holds Tryd.pinned (OpenSpec.ofChange recordUnlikeSpec)

/-- ITS FALSE NEIGHBOUR: 'it returns false'. Refute it at one input. -/
def recordUnlikeWrong : ChangeSpec := { name := "recordUnlike", fn := fun _ => fun
  | [d1, d2] => { results := [.lit (.bool false)], args := [d1, d2] }
  | _ => none }
def RecordUnlikeWrongFalsely : Prop := recordUnlikeRow.holds Tryd.pinned (OpenSpec.ofChange recordUnlikeWrong)

/-- 'matriculalaw13.RecordComes': WHATEVER THE INPUT: true; the input reads as it did. -/
def recordComesSpec : ChangeSpec := { name := "recordComes", fn := fun _ => fun
  | [d1, d2] => { results := [.lit (.bool true)], args := [d1, d2] }
  | _ => none }
def recordComesRow : OpenClaim := { program := "ytkpcdbalhpmpmaadoor", sum := "9846525da40a0f55a8316894ecb615d46f190f722f3e8cb9cfdc372cd445bf61", func := "matricula/matriculalaw13.RecordComes", spec := "recordComes", inPlace := ["internal/bytealg.IndexByteString", "internal/bytealg.IndexString"], named := ["matricula/ticket.prefixes", "internal/bytealg.MaxLen"], apart := false, laid := [("matricula/ticket.prefixes", laid_matricula_ticket_prefixes)] }
def RecordComesSaid : Prop := recordComesRow.holds Tryd.pinned (OpenSpec.ofChange recordComesSpec)

/-- ITS FALSE NEIGHBOUR: 'it returns false'. Refute it at one input. -/
def recordComesWrong : ChangeSpec := { name := "recordComes", fn := fun _ => fun
  | [d1, d2] => { results := [.lit (.bool false)], args := [d1, d2] }
  | _ => none }
def RecordComesWrongFalsely : Prop := recordComesRow.holds Tryd.pinned (OpenSpec.ofChange recordComesWrong)

/-- 'matriculalaw13.RecordSteps': WHATEVER THE INPUT: true; the input reads as it did. -/
def recordStepsSpec : ChangeSpec := { name := "recordSteps", fn := fun _ => fun
  | [d1, d2, d3, d4, d5] => { results := [.lit (.bool true)], args := [d1, d2, d3, d4, d5] }
  | _ => none }
def recordStepsRow : OpenClaim := { program := "ytkpcdbalhpmpmaadoor", sum := "9846525da40a0f55a8316894ecb615d46f190f722f3e8cb9cfdc372cd445bf61", func := "matricula/matriculalaw13.RecordSteps", spec := "recordSteps", inPlace := ["internal/bytealg.IndexByteString", "internal/bytealg.IndexString"], named := ["matricula/ticket.prefixes", "internal/bytealg.MaxLen"], apart := false, laid := [("matricula/ticket.prefixes", laid_matricula_ticket_prefixes)] }
def RecordStepsSaid : Prop := recordStepsRow.holds Tryd.pinned (OpenSpec.ofChange recordStepsSpec)

/-- ITS FALSE NEIGHBOUR: 'it returns false'. Refute it at one input. -/
def recordStepsWrong : ChangeSpec := { name := "recordSteps", fn := fun _ => fun
  | [d1, d2, d3, d4, d5] => { results := [.lit (.bool false)], args := [d1, d2, d3, d4, d5] }
  | _ => none }
def RecordStepsWrongFalsely : Prop := recordStepsRow.holds Tryd.pinned (OpenSpec.ofChange recordStepsWrong)

/- THE SECOND FORM. 'bulk': how many values and letters a reading holds, each counted each time it is reached (what is shared counts as often as it is met; a slice's spare places count too). A statement '..UptoSaid' is the law's where the arguments, and the package variables that the reading takes, are together of bulk at most 1048576: NARROWER than '..Said'. Prove '..Said' where nothing that the law and all that it calls make is longer than what came in: it says more and counts as full. Else prove '..UptoSaid'. A law counts once. -/
mutual
def uptoBulk {H : Type} : DataW H → Nat
  | .lit (.string bytes) => bytes.length + 1
  | .lit _ => 1
  | .nil => 1
  | .ptr d => uptoBulk d + 1
  | .slice elems spare => uptoBulkAll elems + uptoBulkAll spare + 1
  | .agg parts => uptoBulkAll parts + 1
  | .iface _ d => uptoBulk d + 1
  | .map entries => uptoBulkEntries entries + 1
  | .held _ => 1
def uptoBulkAll {H : Type} : List (DataW H) → Nat
  | [] => 0
  | d :: r => uptoBulk d + uptoBulkAll r
def uptoBulkEntries {H : Type} : List (Lit × DataW H) → Nat
  | [] => 0
  | x :: r => uptoBulkEntry x + uptoBulkEntries r
def uptoBulkEntry {H : Type} : Lit × DataW H → Nat
  | (.string bytes, d) => bytes.length + uptoBulk d + 1
  | (_, d) => uptoBulk d + 1
 end
def uptoSmall : (H : Type) → List (DataW H) → Bool := fun _ ds => decide (uptoBulkAll ds ≤ 1048576)
def OpenSpec.upto (s : _root_.Go.ChangeSpec) : _root_.Go.OpenSpec := { _root_.Go.OpenSpec.ofChange s with cond := some uptoSmall }

/-- 'matriculalaw12.TicketUnlike', WHERE WHAT IT READS IS OF BULK AT MOST 1048576: true; the input reads as it did. -/
def ticketUnlikeUptoRow : OpenClaim := { program := "ytkpcdbalhpmpmaadoor", sum := "9846525da40a0f55a8316894ecb615d46f190f722f3e8cb9cfdc372cd445bf61", func := "matricula/matriculalaw12.TicketUnlike", spec := "ticketUnlike", inPlace := ["internal/bytealg.IndexByteString", "internal/bytealg.IndexString"], named := ["matricula/ticket.prefixes", "internal/bytealg.MaxLen"], apart := false, laid := [("matricula/ticket.prefixes", laid_matricula_ticket_prefixes)], narrowed := true }
def TicketUnlikeUptoSaid : Prop := ticketUnlikeUptoRow.holds Tryd.pinned (OpenSpec.upto ticketUnlikeSpec)

/-- 'matriculalaw12.TicketFinds', WHERE WHAT IT READS IS OF BULK AT MOST 1048576: true; the input reads as it did. -/
def ticketFindsUptoRow : OpenClaim := { program := "ytkpcdbalhpmpmaadoor", sum := "9846525da40a0f55a8316894ecb615d46f190f722f3e8cb9cfdc372cd445bf61", func := "matricula/matriculalaw12.TicketFinds", spec := "ticketFinds", inPlace := ["internal/bytealg.IndexByteString", "internal/bytealg.IndexString"], named := ["matricula/ticket.prefixes", "internal/bytealg.MaxLen"], apart := false, laid := [("matricula/ticket.prefixes", laid_matricula_ticket_prefixes)], narrowed := true }
def TicketFindsUptoSaid : Prop := ticketFindsUptoRow.holds Tryd.pinned (OpenSpec.upto ticketFindsSpec)

/-- 'matriculalaw12.TicketTells', WHERE WHAT IT READS IS OF BULK AT MOST 1048576: true; the input reads as it did. -/
def ticketTellsUptoRow : OpenClaim := { program := "ytkpcdbalhpmpmaadoor", sum := "9846525da40a0f55a8316894ecb615d46f190f722f3e8cb9cfdc372cd445bf61", func := "matricula/matriculalaw12.TicketTells", spec := "ticketTells", inPlace := ["internal/bytealg.IndexByteString", "internal/bytealg.IndexString"], named := ["matricula/ticket.prefixes", "internal/bytealg.MaxLen"], apart := false, laid := [("matricula/ticket.prefixes", laid_matricula_ticket_prefixes)], narrowed := true }
def TicketTellsUptoSaid : Prop := ticketTellsUptoRow.holds Tryd.pinned (OpenSpec.upto ticketTellsSpec)

/-- 'matriculalaw12.TicketBack', WHERE WHAT IT READS IS OF BULK AT MOST 1048576: true; the input reads as it did. -/
def ticketBackUptoRow : OpenClaim := { program := "ytkpcdbalhpmpmaadoor", sum := "9846525da40a0f55a8316894ecb615d46f190f722f3e8cb9cfdc372cd445bf61", func := "matricula/matriculalaw12.TicketBack", spec := "ticketBack", inPlace := ["internal/bytealg.IndexByteString", "internal/bytealg.IndexString"], named := ["matricula/ticket.prefixes", "internal/bytealg.MaxLen"], apart := false, laid := [("matricula/ticket.prefixes", laid_matricula_ticket_prefixes)], narrowed := true }
def TicketBackUptoSaid : Prop := ticketBackUptoRow.holds Tryd.pinned (OpenSpec.upto ticketBackSpec)

/-- 'matriculalaw12.TicketMints', WHERE WHAT IT READS IS OF BULK AT MOST 1048576: true; the input reads as it did. -/
def ticketMintsUptoRow : OpenClaim := { program := "ytkpcdbalhpmpmaadoor", sum := "9846525da40a0f55a8316894ecb615d46f190f722f3e8cb9cfdc372cd445bf61", func := "matricula/matriculalaw12.TicketMints", spec := "ticketMints", inPlace := ["internal/bytealg.IndexByteString", "internal/bytealg.IndexString"], unfollowed := true, recurses := true, named := ["matricula/ticket.prefixes", "internal/bytealg.MaxLen"], apart := false, laid := [("matricula/ticket.prefixes", laid_matricula_ticket_prefixes)], narrowed := true }
def TicketMintsUptoSaid : Prop := ticketMintsUptoRow.holds Tryd.pinned (OpenSpec.upto ticketMintsSpec)

/-- 'matriculalaw13.RecordTells', WHERE WHAT IT READS IS OF BULK AT MOST 1048576: true; the input reads as it did. -/
def recordTellsUptoRow : OpenClaim := { program := "ytkpcdbalhpmpmaadoor", sum := "9846525da40a0f55a8316894ecb615d46f190f722f3e8cb9cfdc372cd445bf61", func := "matricula/matriculalaw13.RecordTells", spec := "recordTells", inPlace := ["internal/bytealg.IndexByteString", "internal/bytealg.IndexString"], named := ["matricula/ticket.prefixes", "internal/bytealg.MaxLen"], apart := false, laid := [("matricula/ticket.prefixes", laid_matricula_ticket_prefixes)], narrowed := true }
def RecordTellsUptoSaid : Prop := recordTellsUptoRow.holds Tryd.pinned (OpenSpec.upto recordTellsSpec)

/-- 'matriculalaw13.RecordBack', WHERE WHAT IT READS IS OF BULK AT MOST 1048576: true; the input reads as it did. -/
def recordBackUptoRow : OpenClaim := { program := "ytkpcdbalhpmpmaadoor", sum := "9846525da40a0f55a8316894ecb615d46f190f722f3e8cb9cfdc372cd445bf61", func := "matricula/matriculalaw13.RecordBack", spec := "recordBack", inPlace := ["internal/bytealg.IndexByteString", "internal/bytealg.IndexString"], named := ["matricula/ticket.prefixes", "internal/bytealg.MaxLen"], apart := false, laid := [("matricula/ticket.prefixes", laid_matricula_ticket_prefixes)], narrowed := true }
def RecordBackUptoSaid : Prop := recordBackUptoRow.holds Tryd.pinned (OpenSpec.upto recordBackSpec)

/-- 'matriculalaw13.RecordUnlike', WHERE WHAT IT READS IS OF BULK AT MOST 1048576: true; the input reads as it did. -/
def recordUnlikeUptoRow : OpenClaim := { program := "ytkpcdbalhpmpmaadoor", sum := "9846525da40a0f55a8316894ecb615d46f190f722f3e8cb9cfdc372cd445bf61", func := "matricula/matriculalaw13.RecordUnlike", spec := "recordUnlike", inPlace := ["internal/bytealg.IndexByteString", "internal/bytealg.IndexString"], named := ["matricula/ticket.prefixes", "internal/bytealg.MaxLen"], apart := false, laid := [("matricula/ticket.prefixes", laid_matricula_ticket_prefixes)], narrowed := true }
def RecordUnlikeUptoSaid : Prop := recordUnlikeUptoRow.holds Tryd.pinned (OpenSpec.upto recordUnlikeSpec)

/-- 'matriculalaw13.RecordComes', WHERE WHAT IT READS IS OF BULK AT MOST 1048576: true; the input reads as it did. -/
def recordComesUptoRow : OpenClaim := { program := "ytkpcdbalhpmpmaadoor", sum := "9846525da40a0f55a8316894ecb615d46f190f722f3e8cb9cfdc372cd445bf61", func := "matricula/matriculalaw13.RecordComes", spec := "recordComes", inPlace := ["internal/bytealg.IndexByteString", "internal/bytealg.IndexString"], named := ["matricula/ticket.prefixes", "internal/bytealg.MaxLen"], apart := false, laid := [("matricula/ticket.prefixes", laid_matricula_ticket_prefixes)], narrowed := true }
def RecordComesUptoSaid : Prop := recordComesUptoRow.holds Tryd.pinned (OpenSpec.upto recordComesSpec)

/-- 'matriculalaw13.RecordSteps', WHERE WHAT IT READS IS OF BULK AT MOST 1048576: true; the input reads as it did. -/
def recordStepsUptoRow : OpenClaim := { program := "ytkpcdbalhpmpmaadoor", sum := "9846525da40a0f55a8316894ecb615d46f190f722f3e8cb9cfdc372cd445bf61", func := "matricula/matriculalaw13.RecordSteps", spec := "recordSteps", inPlace := ["internal/bytealg.IndexByteString", "internal/bytealg.IndexString"], named := ["matricula/ticket.prefixes", "internal/bytealg.MaxLen"], apart := false, laid := [("matricula/ticket.prefixes", laid_matricula_ticket_prefixes)], narrowed := true }
def RecordStepsUptoSaid : Prop := recordStepsUptoRow.holds Tryd.pinned (OpenSpec.upto recordStepsSpec)

end Rows
end Go.Proofs.YtkpcdbalhpmpmaaDoor
