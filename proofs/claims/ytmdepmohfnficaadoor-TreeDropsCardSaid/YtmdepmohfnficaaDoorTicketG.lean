/- The document's answer on names within a text; the chapter's examples. -/
import Derived.Test.YtmdepmohfnficaaDoorTicketF
namespace Go.Proofs.YtmdepmohfnficaaDoor
open Go.RowKit

theorem range_step (m : Nat) : List.range' 18 (m + 1) = List.range' 18 m ++ [18 + m] := by
  rw [List.range'_concat]; simp
theorem acc_range (t : List UInt8) (m : Nat) (h : m = 6 ∨ t.length < 18 + m) : Tk.acc t (List.range' 18 m) = Tk.sz t :=
  Tk.acc_full _ _ fun n hn => by
    have h1 := ((Tk.hits_iff _ _).1 hn).1
    have h2 := Tk.hits_sizes hn
    rw [List.mem_range'_1]
    omega
end Go.Proofs.YtmdepmohfnficaaDoor
