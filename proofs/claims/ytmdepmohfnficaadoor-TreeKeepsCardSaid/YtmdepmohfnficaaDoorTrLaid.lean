/- The table of prefixes, as the rows list it, lies in the heap; how more kinds of arguments are opened. -/
import Derived.Test.YtmdepmohfnficaaDoorLift
import Derived.Test.YtmdepmohfnficaaDoorGTk
namespace Go.Proofs.YtmdepmohfnficaaDoor
set_option linter.unusedVariables false
set_option linter.unusedSimpArgs false
open Go.ChangeShapes Go.WideShapes Go.ChangeAt Go.RowKit

set_option maxRecDepth 20000
/-- an array of texts holds, cell for cell, what it reads as -/
theorem cells_of_texts {H : Type} {enc : TypeId × Value → H} {P : Program} {w : World} {base : Nat} {sp : Nat → Bool} {held : Bool} {fuel : Nat} {t e : TypeId} {n : Nat} {cs : List Value} {zs : List (List UInt8)} {p : List MemPlace}
    (ht : P.underlying t = some (.array n e)) (he : P.underlying e = some .string) (hce : P.cellsOf e = 1) (hct : P.cellsOf t = n)
    (h : DataW.trod enc P w base sp held fuel t cs = some (.agg (zs.map fun z => .lit (.string z)), p)) (i : Nat) (z : List UInt8) (hz : zs[i]? = some z) : cs[i]? = some (.string (str z)) := by
  cases fuel with
  | zero => simp [DataW.trod] at h
  | succ fuel =>
    simp only [DataW.trod, ht, hce, hct, Nat.mul_one] at h
    split at h
    · obtain ⟨xs, hm, hx⟩ := Option.map_eq_some_iff.1 h
      have hxs : xs.map (·.1) = zs.map fun z => (DataW.lit (.string z) : DataW H) := by
        have := congrArg Prod.fst hx
        simpa using this
      have hin : i < n := by
        have h1 : xs.length = n := by simpa using Lib.mapM_length hm
        have h2 := congrArg List.length hxs
        have h3 := (List.getElem?_eq_some_iff.1 hz).1
        simp at h2
        omega
      obtain ⟨b, hb, hf⟩ := Lib.mapM_at hm i i (by simp [hin])
      obtain ⟨s, hc, rfl, _⟩ := DataW.trod_string he hf
      have h1 : cs[i]? = some (.string s) := by
        have := congrArg (·[0]?) hc
        simpa [List.getElem?_take, List.getElem?_drop] using this
      have h2 : (xs.map (·.1))[i]? = some (DataW.lit (.string s.data.toList) : DataW H) := by simp [hb]
      rw [hxs, List.getElem?_map, hz] at h2
      have h3 : z = s.data.toList := by simpa using h2
      rw [h1, h3]; rfl
    · cases h

/-- the one variable that the rows list, and its name -/
def laid1 : List (String × DataW Unit) := Rows.treeCopiesRow.laid
def namePres : String := (laid1.map (·.1)).headD ""
theorem laid1_eq : laid1 = [(namePres, .agg (Tk.pres.map fun z => .lit (.string z)))] := rfl
theorem gPres : Tryd.prog.globalNamed namePres = some 1 := by kernel_rfl
theorem tPres : (Tryd.prog.globals[1]?).map (·.type) = some 151 := by kernel_rfl
theorem cells7 : Tryd.prog.cellsOf 151 = 7 := by kernel_rfl
theorem cellsS : Tryd.prog.cellsOf 9 = 1 := by kernel_rfl
theorem door_met (os : Os) (args : Array Value) : laidMetH Tryd.prog laid1 ((World.doorLaid Tryd.prog 400 os).forCall (fun _ _ => 0) ⟨#[], args, []⟩).memory :=
  laidMetH_of_parts3 (fuel := 8) (laidMet_of_run' 8 (by kernel_rfl) (by kernel_rfl)) (by kernel_rfl) (by kernel_rfl)
theorem pres_of_laid {W : World} (h : laidMetH Tryd.prog laid1 W) : Pres W := by
  rw [MakeChecks.laidMetH_plain _ _ _ (by kernel_rfl)] at h
  rw [laid1_eq] at h
  obtain ⟨ps, ⟨g', t', cs, fuel, p, q, hg', ht', hvar, hd, _, _⟩, _⟩ := h
  obtain rfl := Option.some.inj (gPres.symm.trans hg')
  obtain rfl := Option.some.inj (tPres.symm.trans ht')
  intro k hk
  have h1 : Tk.pres[k]? = some (Tk.pre k) := by
    have : ∀ k, k < 7 → Tk.pres[k]? = some (Tk.pre k) := by decide
    exact this k hk
  have h2 := cells_of_texts Tryd.underlying151 Tryd.underlying9 cellsS cells7 hd k _ h1
  have h3 := World.var?_cell gPres hvar k
  rw [h3]
  simpa using h2

section
variable {H : Type} {enc : TypeId × Value → H} {W : World} {base : Nat} {v : Value} {d : DataW H} {p : List MemPlace}
theorem open_str (hval : Value.okWide Tryd.prog W .any base 9 v) (h : DataW.Trod enc Tryd.prog W 0 (fun _ => true) true 9 v d p) : ∃ l : List UInt8, l.length ≤ 9223372036854775807 ∧ v = .string (str l) := by
  obtain ⟨s, rfl, _, _, hs⟩ := Go.ChangeMaps.open_string Tryd.underlying9 hval h
  refine ⟨s.data.toList, ?_, rfl⟩
  have : s.data.toList.length = s.size := rfl
  unfold maxLen at hs; omega
theorem open_u64 (hval : Value.okWide Tryd.prog W .any base 65 v) (h : DataW.Trod enc Tryd.prog W 0 (fun _ => true) true 65 v d p) : ∃ x, v = .int .u64 (V x) := by
  obtain ⟨n, rfl, _, _, hw⟩ := open_int Tryd.underlying65 hval h
  have hb : 0 ≤ n ∧ n < 18446744073709551616 := by
    simp [Lit.wf, IntKind.min, IntKind.max, IntKind.signed, IntKind.bits] at hw
    omega
  exact ⟨BitVec.ofInt 64 n, by rw [V_ofInt n hb.1 hb.2]⟩
theorem open_u8 (hval : Value.okWide Tryd.prog W .any base 5 v) (h : DataW.Trod enc Tryd.prog W 0 (fun _ => true) true 5 v d p) : ∃ c : UInt8, v = .int .u8 (c.toNat : Int) := by
  obtain ⟨n, rfl, _, _, hw⟩ := open_int Tryd.underlying5 hval h
  exact ⟨UInt8.ofNat n.toNat, by rw [u8_of hw]⟩
end
end Go.Proofs.YtmdepmohfnficaaDoor
