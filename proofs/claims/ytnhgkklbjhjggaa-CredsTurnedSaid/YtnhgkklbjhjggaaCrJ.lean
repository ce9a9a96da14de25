/- Package creds: Check; the document's Check. -/
import Derived.Test.YtnhgkklbjhjggaaCrI
namespace Go.Proofs.Ytnhgkklbjhjggaa
open Go.RowKit Cr

namespace Cr
/-- the user of this name -/
def who (l : List Us) (name : List UInt8) : Option Us := l.find? fun u => seq name u.n
def check (l : List Us) (name pw : List UInt8) : Bool := match who l name with
  | none => false
  | some u => seq u.p pw
def userA (l : List Us) (name : List UInt8) : List Pr := match who l name with
  | none => []
  | some u => u.a
theorem at_who (name : List UInt8) : ∀ (l : List Us) (i : Nat), (who l name = none ∧ at_ name i l = -1) ∨ ∃ j x, who l name = some x ∧ l[j]? = some x ∧ at_ name i l = ((i + j : Nat) : Int)
  | [], i => .inl ⟨rfl, rfl⟩
  | u :: r, i => by
    by_cases h : u.n = name
    · refine .inr ⟨0, u, ?_, rfl, by rw [at_, if_pos h]; rfl⟩
      simp [who, h, seq_self]
    · have hs : ¬ (seq name u.n = true) := fun e => h (seq_true.1 e).symm
      have hw : who (u :: r) name = who r name := by simp [who, hs]
      rw [hw, at_, if_neg h]
      rcases at_who name r (i + 1) with h1 | ⟨j, x, h1, h2, h3⟩
      · exact .inl h1
      · exact .inr ⟨j + 1, x, h1, h2, by rw [h3]; omega⟩
theorem who_in {l : List Us} {name : List UInt8} {x : Us} (h : who l name = some x) : x ∈ l ∧ x.n = name := by
  unfold who at h
  exact ⟨List.mem_of_find?_eq_some h, (seq_true.1 (List.find?_some (p := fun u : Us => seq name u.n) h)).symm⟩
end Cr
theorem look_who {w : World} (name : List UInt8) : ∀ (l : List Us) (ps : List (List UInt8 × Value)), (∀ (j : Nat) (x : Us), l[j]? = some x → ∃ u, ps[j]? = some (x.n, u) ∧ UV w x u) → ps.length = l.length →
    (who l name = none ∧ look ps name = none) ∨ ∃ x u, who l name = some x ∧ look ps name = some u ∧ UV w x u ∧ x ∈ l
  | [], [], _, _ => .inl ⟨rfl, rfl⟩
  | [], _ :: _, _, h => by simp at h
  | x :: l, [], _, h => by simp at h
  | x :: l, p :: ps, h, hl => by
    obtain ⟨u, h1, h2⟩ := h 0 x rfl
    obtain rfl : p = (x.n, u) := by simpa using h1
    cases hs : seq name x.n
    · have hw : who (x :: l) name = who l name := by simp [who, hs]
      have hk : look ((x.n, u) :: ps) name = look ps name := by simp [look, hs]
      rw [hw, hk]
      rcases look_who name l ps (fun j y hj => h (j + 1) y hj) (by simpa using hl) with h3 | ⟨y, v, h3, h4, h5, h6⟩
      · exact .inl h3
      · exact .inr ⟨y, v, h3, h4, h5, List.mem_cons_of_mem _ h6⟩
    · exact .inr ⟨x, u, by simp [who, hs], by simp [look, hs], h2, List.mem_cons_self⟩
theorem TabL.len {w : World} {l : List Us} {ps : List (List UInt8 × Value)} (h : TabL w l ps) : ps.length = l.length := by
  have h2 := congrArg List.length h.1
  unfold names at h2
  rwa [List.length_map, List.length_map] at h2
/-- what a look-up in the table tells -/
theorem table_look {w : World} {B : Nat} {ps : List (List UInt8 × Value)} {l : List Us} (ht : TabL w l ps) (name : List UInt8) :
    ∃ (p1 p2 : List UInt8) (q1 : Option Addr) (q2 q3 : Nat) (bb : Bool), ((who l name = none ∧ bb = false ∧ p2 = [] ∧ q1 = none ∧ q2 = 0 ∧ q3 = 0) ∨ ∃ x, who l name = some x ∧ x ∈ l ∧ bb = true ∧ p1 = x.n ∧ p2 = x.p ∧ Prs w (.slice q1 q2 q3) x.a) ∧
      ∀ W (c : Bool), MapS W B ps → (Instr.lookup 48 (.map (some B)) (.string (str name)) c).run Try.prog W = .ok (if c then .tuple #[.agg #[.string (str p1), .string (str p2), .slice q1 q2 q3], .bool bb] else .agg #[.string (str p1), .string (str p2), .slice q1 q2 q3]) W := by
  have hlk : ∀ W (c : Bool), MapS W B ps → (Instr.lookup 48 (.map (some B)) (.string (str name)) c).run Try.prog W = .ok (if c then .tuple #[(look ps name).getD uz, .bool (look ps name).isSome] else (look ps name).getD uz) W :=
    fun W c h => run_lookupS Try.underlying48 Try.underlying9 h name uz zero_user c
  rcases look_who name l ps ht.2 ht.len with ⟨h1, h2⟩ | ⟨x, u, h1, h2, ⟨a, cap, rfl, h3⟩, h4⟩
  · rw [h2] at hlk
    exact ⟨[], [], none, 0, 0, false, .inl ⟨h1, rfl, rfl, rfl, rfl, rfl⟩, hlk⟩
  · rw [h2] at hlk
    exact ⟨x.n, x.p, a, x.a.length, cap, true, .inr ⟨x, h1, h4, rfl, rfl, rfl, h3⟩, hlk⟩
theorem check_any (t : Value) (l : List Us) (name pw : List UInt8) (w : World) (h : Tb w t l) (hl : ∀ x ∈ l, x.p.length ≤ 1000) (hp : pw.length ≤ 9223372036854775807) :
    Calls Try.prog 13 #[t, .string (str name), .string (str pw)] w fun e w' => e = .returned (.bool (check l name pw)) ∧ Ext w w' := by
  obtain ⟨G, B, ps, rfl, hc, hm, ht, -⟩ := h
  obtain ⟨p1, p2, q1, q2, q3, bb, hbb, hlk⟩ := table_look (B := B) ht name
  have hck := Lib.hid (show check l name pw = (seq p2 pw && bb) from by
    unfold check
    rcases hbb with ⟨h1, rfl, -⟩ | ⟨x, h1, -, rfl, -, rfl, -⟩
    · rw [h1, Bool.and_false]
    · rw [h1, Bool.and_true])
  have hpl := Lib.hid (show p2.length ≤ 1000 from by
    rcases hbb with ⟨-, -, rfl, -⟩ | ⟨x, -, h1, -, -, rfl, -⟩
    · simp
    · exact hl x h1)
  clear hbb ht hl
  have wd : Ext w w.drew := (Ext.refl w).drew
  have ez : Ext w (w.alloc (.cells #[.string (str []), .string (str []), .slice none 0 0] 40)).drew := ((Ext.refl w).alloc _).drew
  have es : Ext w (w.alloc (.cells #[.string (str p1), .string (str p2), .slice q1 q2 q3] 40)).drew := ((Ext.refl w).alloc _).drew
  have hl0 := hlk _ true hm
  have hl1 := hlk _ true (hm.ext wd)
  have hl2 := hlk _ true (hm.ext ez)
  have hl3 := hlk _ true (hm.ext es)
  have hcz := ez.cell hc
  have hcs := es.cell hc
  clear hlk
  go_enter Try.func13, Try.ntmps13
  go_upto_region 2 with fail
  have x1 := heap_alloc_new w (.cells #[.string (str p1), .string (str p2), .slice q1 q2 q3] 40)
  have e2 := (Ext.refl w).alloc (.cells #[.string (str p1), .string (str p2), .slice q1 q2 q3] 40)
  generalize w.alloc (.cells #[.string (str p1), .string (str p2), .slice q1 q2 q3] 40) = W2 at *
  generalize w.heap.size = B7 at *
  have c1 : W2.cell? ⟨B7, 1, none⟩ = some (.string (str p2)) := cell_of_row _ B7 1 _ _ _ x1
  clear x1 hl0 hl1 hl2 hl3 hcz hcs ez es wd hm hc
  have hS := same_any p2 pw
  have hpl2 := hpl.out
  have hle : p2.length ≤ 9223372036854775807 := by omega
  clear hpl2
  cases hs : seq p2 pw
  all_goals
    rw [hs] at hS hck
    have hn := Lib.hid (hck.out.trans (by first | exact Bool.false_and _ | exact Bool.true_and _))
    go_wp2_with (go_at_call 10; refine (hS _ (by omega) (by omega)).mono ?_; rintro e w' ⟨rfl, e3⟩)
    go_ret
    exact ⟨by rw [hn.out]; rfl, e2.trans e3⟩
end Go.Proofs.Ytnhgkklbjhjggaa
