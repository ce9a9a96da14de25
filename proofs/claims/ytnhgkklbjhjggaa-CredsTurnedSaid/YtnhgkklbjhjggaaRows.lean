/-
  No cell of these rows narrows 'for every input' (looked for: loops, veiled, ifaces, maps, wideKeys, modest, calm, conditions, laid).
  DERIVED. THE GIVEN ROWS OF THIS SEAT. 5 by the template 'for every input the law returns true; each argument reads behind the call as it read before'; 0 by the template 'total and deterministic' (their statements: YtnhgkklbjhjggaaTotals.lean).
  GIVEN WITH THE SEED: the statements are not yours to turn. If you find one false, say at which input.
  Laid BY PROGRAM, IN A SANDBOX (cutbox-rows.mjs): the forced cells as the released guide's own fill.sh prints them over the translation 52bedfbade924ac0… (all of the seat's roots in one cut). By AI agents, Wed Nov 11 2026. No macro, syntax, notation, axiom, sorry.
-/
import Derived.Test.YtnhgkklbjhjggaaChecked
import GoSem.Claim
import GoSem.ClaimJoined
import GoSem.ClaimMapViews
import Derived.JoinedTies
import Derived.KernelRfl
namespace Go.Proofs.Ytnhgkklbjhjggaa
/- THE CELL 'sum', in the pinned program and in every row, IS THE sha256 OF THE DUMP (.gsa) THAT YtnhgkklbjhjggaaProg.lean LOADS. Nothing in Lean hashes anything: it is a label: what it is worth is what the hold of that sum in a sandbox is worth. -/
noncomputable def Try.pinned : Pinned := { name := "ytnhgkklbjhjggaa", sum := "52bedfbade924ac0e5220d9d9f0c58ae6d5eeda2d19e70d2fd61fc35686a576a", checked := Try.checked }
namespace Rows
def none {H : Type} : Left H := { results := [], args := [] }

/-- 'matriculalaw19.CredsTells': WHATEVER THE INPUT: true; the input reads as it did. -/
def credsTellsSpec : ChangeSpec := { name := "credsTells", fn := fun _ => fun
  | [d1, d2, d3, d4] => { results := [.lit (.bool true)], args := [d1, d2, d3, d4] }
  | _ => none }
def credsTellsRow : OpenClaim := { program := "ytnhgkklbjhjggaa", sum := "52bedfbade924ac0e5220d9d9f0c58ae6d5eeda2d19e70d2fd61fc35686a576a", func := "matricula/matriculalaw19.CredsTells", spec := "credsTells", unfollowed := true, recurses := true, apart := false }
def CredsTellsSaid : Prop := credsTellsRow.holds Try.pinned (OpenSpec.ofChange credsTellsSpec)

/-- ITS FALSE NEIGHBOUR: 'it returns false'. Refute it at one input. -/
def credsTellsWrong : ChangeSpec := { name := "credsTells", fn := fun _ => fun
  | [d1, d2, d3, d4] => { results := [.lit (.bool false)], args := [d1, d2, d3, d4] }
  | _ => none }
def CredsTellsWrongFalsely : Prop := credsTellsRow.holds Try.pinned (OpenSpec.ofChange credsTellsWrong)

/-- 'matriculalaw19.CredsOne': WHATEVER THE INPUT: true; the input reads as it did. -/
def credsOneSpec : ChangeSpec := { name := "credsOne", fn := fun _ => fun
  | [d1, d2, d3] => { results := [.lit (.bool true)], args := [d1, d2, d3] }
  | _ => none }
def credsOneRow : OpenClaim := { program := "ytnhgkklbjhjggaa", sum := "52bedfbade924ac0e5220d9d9f0c58ae6d5eeda2d19e70d2fd61fc35686a576a", func := "matricula/matriculalaw19.CredsOne", spec := "credsOne", unfollowed := true, recurses := true, apart := false }
def CredsOneSaid : Prop := credsOneRow.holds Try.pinned (OpenSpec.ofChange credsOneSpec)

/-- ITS FALSE NEIGHBOUR: 'it returns false'. Refute it at one input. -/
def credsOneWrong : ChangeSpec := { name := "credsOne", fn := fun _ => fun
  | [d1, d2, d3] => { results := [.lit (.bool false)], args := [d1, d2, d3] }
  | _ => none }
def CredsOneWrongFalsely : Prop := credsOneRow.holds Try.pinned (OpenSpec.ofChange credsOneWrong)

/-- 'matriculalaw19.CredsReleased': WHATEVER THE INPUT: true; the input reads as it did. -/
def credsReleasedSpec : ChangeSpec := { name := "credsReleased", fn := fun _ => fun
  | [d1, d2, d3, d4] => { results := [.lit (.bool true)], args := [d1, d2, d3, d4] }
  | _ => none }
def credsReleasedRow : OpenClaim := { program := "ytnhgkklbjhjggaa", sum := "52bedfbade924ac0e5220d9d9f0c58ae6d5eeda2d19e70d2fd61fc35686a576a", func := "matricula/matriculalaw19.CredsReleased", spec := "credsReleased", unfollowed := true, recurses := true, apart := false }
def CredsReleasedSaid : Prop := credsReleasedRow.holds Try.pinned (OpenSpec.ofChange credsReleasedSpec)

/-- ITS FALSE NEIGHBOUR: 'it returns false'. Refute it at one input. -/
def credsReleasedWrong : ChangeSpec := { name := "credsReleased", fn := fun _ => fun
  | [d1, d2, d3, d4] => { results := [.lit (.bool false)], args := [d1, d2, d3, d4] }
  | _ => none }
def CredsReleasedWrongFalsely : Prop := credsReleasedRow.holds Try.pinned (OpenSpec.ofChange credsReleasedWrong)

/-- 'matriculalaw19.CredsMakes': WHATEVER THE INPUT: true; the input reads as it did. -/
def credsMakesSpec : ChangeSpec := { name := "credsMakes", fn := fun _ => fun
  | [d] => { results := [.lit (.bool true)], args := [d] }
  | _ => none }
def credsMakesRow : OpenClaim := { program := "ytnhgkklbjhjggaa", sum := "52bedfbade924ac0e5220d9d9f0c58ae6d5eeda2d19e70d2fd61fc35686a576a", func := "matricula/matriculalaw19.CredsMakes", spec := "credsMakes", unfollowed := true, recurses := true, apart := false }
def CredsMakesSaid : Prop := credsMakesRow.holds Try.pinned (OpenSpec.ofChange credsMakesSpec)

/-- ITS FALSE NEIGHBOUR: 'it returns false'. Refute it at one input. -/
def credsMakesWrong : ChangeSpec := { name := "credsMakes", fn := fun _ => fun
  | [d] => { results := [.lit (.bool false)], args := [d] }
  | _ => none }
def CredsMakesWrongFalsely : Prop := credsMakesRow.holds Try.pinned (OpenSpec.ofChange credsMakesWrong)

/-- 'matriculalaw19.CredsTurned': WHATEVER THE INPUT: true; the input reads as it did. -/
def credsTurnedSpec : ChangeSpec := { name := "credsTurned", fn := fun _ => fun
  | [d1, d2, d3, d4] => { results := [.lit (.bool true)], args := [d1, d2, d3, d4] }
  | _ => none }
def credsTurnedRow : OpenClaim := { program := "ytnhgkklbjhjggaa", sum := "52bedfbade924ac0e5220d9d9f0c58ae6d5eeda2d19e70d2fd61fc35686a576a", func := "matricula/matriculalaw19.CredsTurned", spec := "credsTurned", unfollowed := true, recurses := true, apart := false }
def CredsTurnedSaid : Prop := credsTurnedRow.holds Try.pinned (OpenSpec.ofChange credsTurnedSpec)

/-- ITS FALSE NEIGHBOUR: 'it returns false'. Refute it at one input. -/
def credsTurnedWrong : ChangeSpec := { name := "credsTurned", fn := fun _ => fun
  | [d1, d2, d3, d4] => { results := [.lit (.bool false)], args := [d1, d2, d3, d4] }
  | _ => none }
def CredsTurnedWrongFalsely : Prop := credsTurnedRow.holds Try.pinned (OpenSpec.ofChange credsTurnedWrong)

/- THE SECOND FORM. 'bulk': how many values and letters a reading holds, each counted each time it is reached (what is shared counts as often as it is met; a slice's spare places count too). A statement '..UptoSaid' is the law's where the arguments, and the package variables that the reading takes, are together of bulk at most 1048576: NARROWER than '..Said'. Prove '..Said' where nothing that the law and all that it calls make is longer than what came in: it says more and counts as full. Else prove '..UptoSaid'. A law counts once. -/
mutual
def uptoBulk {H : Type} : DataW H → Nat
  | .lit (.string bytes) => bytes.length + 1
  | .lit _ => 1
  | .nil => 1
  | .ptr d => uptoBulk d + 1
  | .slice elems spare => uptoBulkAll elems + uptoBulkAll spare + 1
  | .agg parts => uptoBulkAll parts + 1
  | .iface _ d => uptoBulk d + 1
  | .map entries => uptoBulkEntries entries + 1
  | .held _ => 1
def uptoBulkAll {H : Type} : List (DataW H) → Nat
  | [] => 0
  | d :: r => uptoBulk d + uptoBulkAll r
def uptoBulkEntries {H : Type} : List (Lit × DataW H) → Nat
  | [] => 0
  | x :: r => uptoBulkEntry x + uptoBulkEntries r
def uptoBulkEntry {H : Type} : Lit × DataW H → Nat
  | (.string bytes, d) => bytes.length + uptoBulk d + 1
  | (_, d) => uptoBulk d + 1
 end
def uptoSmall : (H : Type) → List (DataW H) → Bool := fun _ ds => decide (uptoBulkAll ds ≤ 1048576)
def OpenSpec.upto (s : _root_.Go.ChangeSpec) : _root_.Go.OpenSpec := { _root_.Go.OpenSpec.ofChange s with cond := some uptoSmall }

/-- 'matriculalaw19.CredsTells', WHERE WHAT IT READS IS OF BULK AT MOST 1048576: true; the input reads as it did. -/
def credsTellsUptoRow : OpenClaim := { program := "ytnhgkklbjhjggaa", sum := "52bedfbade924ac0e5220d9d9f0c58ae6d5eeda2d19e70d2fd61fc35686a576a", func := "matricula/matriculalaw19.CredsTells", spec := "credsTells", unfollowed := true, recurses := true, apart := false, narrowed := true }
def CredsTellsUptoSaid : Prop := credsTellsUptoRow.holds Try.pinned (OpenSpec.upto credsTellsSpec)

/-- 'matriculalaw19.CredsOne', WHERE WHAT IT READS IS OF BULK AT MOST 1048576: true; the input reads as it did. -/
def credsOneUptoRow : OpenClaim := { program := "ytnhgkklbjhjggaa", sum := "52bedfbade924ac0e5220d9d9f0c58ae6d5eeda2d19e70d2fd61fc35686a576a", func := "matricula/matriculalaw19.CredsOne", spec := "credsOne", unfollowed := true, recurses := true, apart := false, narrowed := true }
def CredsOneUptoSaid : Prop := credsOneUptoRow.holds Try.pinned (OpenSpec.upto credsOneSpec)

/-- 'matriculalaw19.CredsReleased', WHERE WHAT IT READS IS OF BULK AT MOST 1048576: true; the input reads as it did. -/
def credsReleasedUptoRow : OpenClaim := { program := "ytnhgkklbjhjggaa", sum := "52bedfbade924ac0e5220d9d9f0c58ae6d5eeda2d19e70d2fd61fc35686a576a", func := "matricula/matriculalaw19.CredsReleased", spec := "credsReleased", unfollowed := true, recurses := true, apart := false, narrowed := true }
def CredsReleasedUptoSaid : Prop := credsReleasedUptoRow.holds Try.pinned (OpenSpec.upto credsReleasedSpec)

/-- 'matriculalaw19.CredsMakes', WHERE WHAT IT READS IS OF BULK AT MOST 1048576: true; the input reads as it did. -/
def credsMakesUptoRow : OpenClaim := { program := "ytnhgkklbjhjggaa", sum := "52bedfbade924ac0e5220d9d9f0c58ae6d5eeda2d19e70d2fd61fc35686a576a", func := "matricula/matriculalaw19.CredsMakes", spec := "credsMakes", unfollowed := true, recurses := true, apart := false, narrowed := true }
def CredsMakesUptoSaid : Prop := credsMakesUptoRow.holds Try.pinned (OpenSpec.upto credsMakesSpec)

/-- 'matriculalaw19.CredsTurned', WHERE WHAT IT READS IS OF BULK AT MOST 1048576: true; the input reads as it did. -/
def credsTurnedUptoRow : OpenClaim := { program := "ytnhgkklbjhjggaa", sum := "52bedfbade924ac0e5220d9d9f0c58ae6d5eeda2d19e70d2fd61fc35686a576a", func := "matricula/matriculalaw19.CredsTurned", spec := "credsTurned", unfollowed := true, recurses := true, apart := false, narrowed := true }
def CredsTurnedUptoSaid : Prop := credsTurnedUptoRow.holds Try.pinned (OpenSpec.upto credsTurnedSpec)

end Rows
end Go.Proofs.Ytnhgkklbjhjggaa
