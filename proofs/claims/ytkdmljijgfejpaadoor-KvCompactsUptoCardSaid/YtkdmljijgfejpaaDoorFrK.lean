/- FrameBack: the walk. -/
import Derived.Test.YtkdmljijgfejpaaDoorFrJ
namespace Go.Proofs.YtkdmljijgfejpaaDoor
set_option linter.unusedVariables false
set_option linter.unusedSimpArgs false
open Go.RowKit Fr

theorem size_few : ∀ (ls : List (List UInt8)), (∀ l ∈ ls, l.length ≤ 100 ∨ 4000 < l.length) → Fr.oks ls = true → Fr.size ls ≤ 106 * ls.length
  | [], _, _ => Nat.le_refl _
  | l :: ls, h, ho => by
    have h' : (ok l && ls.all ok) = true := by rw [← List.all_cons]; exact ho
    rw [Bool.and_eq_true] at h'
    have := size_few ls (fun m hm => h m (List.mem_cons_of_mem _ hm)) h'.2
    have h2 := (ok_iff.1 h'.1).2
    have h3 := h l List.mem_cons_self
    rw [show Fr.size (l :: ls) = 6 + l.length + Fr.size ls from rfl, List.length_cons]; omega
theorem allB_len {ls : List (List UInt8)} (h : fewF ls = true) : (allB ls).length ≤ 2120 := by
  have hf := fewF_ok h
  unfold allB
  by_cases he : errAll ls = 0
  · rw [if_pos he, all_length]
    have := size_few ls hf.2 (errAll_ok.1 he)
    omega
  · rw [if_neg he]; exact Nat.zero_le _
end Go.Proofs.YtkdmljijgfejpaaDoor
