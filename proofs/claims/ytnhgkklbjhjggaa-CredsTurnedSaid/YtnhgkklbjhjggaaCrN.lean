/- Rows just laid; New of a table; the chapter's example. -/
import Derived.Test.YtnhgkklbjhjggaaCrM
namespace Go.Proofs.Ytnhgkklbjhjggaa
open Go.RowKit Cr

/-- rows in a block that was just laid -/
theorem Rw.block {α : Type} {k : Nat} {C : α → List Value → Prop} {f : α → List Value} (hf : ∀ x, (f x).length = k) {w : World} {T : TypeId} {fr : Nat × Nat} {l : List α} {g : Nat} (hg : g = w.heap.size) {cs : Array Value} (hcs : cs = (l.flatMap f).toArray) {n : Nat} (hn : n = l.length) (hm : l.length ≤ maxLen)
    (hC : ∀ x ∈ l, C x (f x)) : Rw k C (w.alloc (.cells cs T fr)) (.slice (some ⟨g, 0, none⟩) n n) l := by
  subst hg hn hcs
  refine ⟨_, _, rfl, Nat.le_refl _, hm, fun h => by simp at h, fun j y hj => ?_⟩
  refine ⟨w.heap.size, 0, f y, rfl, hf y, fun i u hu => ?_, hC y (List.mem_of_getElem? hj)⟩
  rw [cell_of_row _ _ _ _ _ _ (heap_alloc_new w _), List.getElem?_toArray, Nat.zero_add]
  exact flat_get hf l j i y u hj hu
theorem Prs.block {w : World} {fr : Nat × Nat} {l : List Pr} {g : Nat} (hg : g = w.heap.size) {cs : Array Value} (hcs : cs = (l.flatMap prc).toArray) {n : Nat} (hn : n = l.length) (hm : l.length ≤ maxLen) (hF : ∀ x ∈ l, prF x) :
    Prs (w.alloc (.cells cs 42 fr)) (.slice (some ⟨g, 0, none⟩) n n) l := Rw.block prc_len hg hcs hn hm fun x hx => ⟨rfl, hF x hx⟩
theorem Uss.one {w : World} {fr : Nat × Nat} {x : Us} {g : Nat} (hg : g = w.heap.size) {sl : Value} {cs : Array Value} (hcs : cs = #[.string (str x.n), .string (str x.p), sl]) (hp : Prs w sl x.a) (hF : usF x) :
    Uss (w.alloc (.cells cs 40 fr)) (.slice (some ⟨g, 0, none⟩) 1 1) [x] :=
  Rw.block (f := fun x => usc x sl) (fun _ => rfl) hg (by rw [hcs]; rfl) rfl (by simp [maxLen]) fun y hy => by
    obtain rfl : y = x := by simpa using hy
    exact ⟨sl, rfl, hp.ext ((Ext.refl w).alloc _), hF⟩
theorem Tb.shape {w : World} {t : Value} {l : List Us} (h : Tb w t l) : ∃ g, t = .pointer (some ⟨g, 0, none⟩) := let ⟨g, _, _, h, _⟩ := h; ⟨g, h⟩
theorem alloc_size (w : World) (o : Obj) : (w.alloc o).heap.size = w.heap.size + 1 := by show (w.heap.push o).size = _; rw [Array.size_push]
/-- New, told by what is wrong -/
theorem new_good (v : Value) (l : List Us) (w : World) (h : Uss w v l) (hsm : ∀ x ∈ l, x.a.length ≤ 1000) (hw : wrong l = (0, 0)) :
    Calls Try.prog 11 #[v] w (Ret fun r w' => ∃ g, r = .tuple #[.pointer (some ⟨g, 0, none⟩), .int .i64 0, .int .i64 0] ∧ Ext w w' ∧ Tb w' (.pointer (some ⟨g, 0, none⟩)) l) := by
  refine (new_any v l w h hsm).mono ?_
  rintro e w' ⟨r, rfl, t, rfl, h1, h2, -⟩
  rw [hw] at h2 ⊢
  have ht := h2 rfl
  obtain ⟨g, rfl⟩ := ht.shape
  exact Ret.mk ⟨g, rfl, h1, ht⟩
theorem new_bad (v : Value) (l : List Us) (w : World) (h : Uss w v l) (hsm : ∀ x ∈ l, x.a.length ≤ 1000) (hw : (wrong l).1 ≠ 0) :
    Calls Try.prog 11 #[v] w (Ret fun r w' => r = .tuple #[.pointer none, .int .i64 (wrong l).1, .int .i64 ((wrong l).2 : Int)] ∧ Ext w w') := by
  refine (new_any v l w h hsm).mono ?_
  rintro e w' ⟨r, rfl, t, rfl, h1, -, h2⟩
  rw [h2 hw]
  exact Ret.mk ⟨rfl, h1⟩
namespace Cr
theorem wr_kinds : ∀ (l : List Us) (s : List (List UInt8)) (i : Nat), wr s i l = (0, 0) ∨ (wr s i l).1 = 5 ∨ (wr s i l).1 = 1 ∨ (wr s i l).1 = 7
  | [], s, i => .inl rfl
  | u :: r, s, i => by
    unfold wr
    split
    · exact .inr (.inl rfl)
    split
    · exact .inr (.inr (.inl rfl))
    split
    · exact .inr (.inr (.inr rfl))
    · exact wr_kinds r _ _
theorem wrong_kinds (l : List Us) : wrong l = (0, 0) ∨ (wrong l).1 = 5 ∨ (wrong l).1 = 1 ∨ (wrong l).1 = 7 := wr_kinds l [] 0
def awu : Us := ⟨[117], [112], [⟨[109, 97, 105, 108], [97]⟩, ⟨[120], [98]⟩, ⟨[109, 97, 105, 108], [99]⟩]⟩
end Cr
theorem aw_wrong : wrong [awu] = (0, 0) := by decide +kernel
set_option maxRecDepth 20000 in
set_option maxHeartbeats 1000000 in
theorem awake_any (w : World) :
    Calls Try.prog 8 #[] w fun e w' => e = .returned (.bool true) ∧ Ext w w' := by
  have e0 := Ext.refl w
  have hF : ∀ x ∈ awu.a, prF x := by
    intro x hx
    simp only [awu, List.mem_cons, List.not_mem_nil, or_false] at hx
    rcases hx with rfl | rfl | rfl <;> exact ⟨by unfold fit; decide, by unfold fit; decide⟩
  have hU : usF awu := ⟨by unfold fit; decide, by unfold fit; decide⟩
  have hSm : ∀ x ∈ [awu], x.a.length ≤ 1000 := fun x hx => by
    have : x = awu := List.mem_singleton.1 hx
    subst this; decide
  have hSp : ∀ x ∈ [awu], x.p.length ≤ 1000 := fun x hx => by
    have : x = awu := List.mem_singleton.1 hx
    subst this; decide
  have hN := Lib.hid (fun w : World => new_good (.slice (some ⟨w.heap.size + 1, 0, none⟩) 1 1) [awu] ((w.alloc (.cells #[.string (str [109, 97, 105, 108]), .string (str [97]), .string (str [120]), .string (str [98]), .string (str [109, 97, 105, 108]), .string (str [99])] 42)).alloc (.cells #[.string (str [117]), .string (str [112]), .slice (some ⟨w.heap.size, 0, none⟩) 3 3] 40))
    (Uss.one (alloc_size w _).symm rfl (Prs.block rfl rfl rfl (by decide) hF) hU) hSm aw_wrong)
  go_enter Try.func8, Try.ntmps8
  go_upto_region 2 with (go_at_call 11; refine (hN.out _).mono ?_; rintro e W1 ⟨r, rfl, g, rfl, e1, ht⟩)
  have e2 := Lib.hid (((e0.alloc _).alloc _).trans e1)
  have hth := Lib.hid ht
  clear e0 e1 ht
  have C1 : Cr.check [awu] [117] [112] = true := by decide +kernel
  have C2 : Cr.check [awu] [117] [113] = false := by decide +kernel
  have A1 : attrs [awu] [117] [[109, 97, 105, 108], [121]] = [⟨[109, 97, 105, 108], [97]⟩, ⟨[109, 97, 105, 108], [99]⟩] := by kernel_rfl
  have K1 := Lib.hid (fun W (h : Ext W1 W) => check_any _ [awu] [117] [112] W (hth.out.ext h) hSp (by decide))
  have K2 := Lib.hid (fun W (h : Ext W1 W) => check_any _ [awu] [117] [113] W (hth.out.ext h) hSp (by decide))
  rw [C1] at K1
  rw [C2] at K2
  have hF1 : ∀ x ∈ [[109, 97, 105, 108], [121]], fit x := by
    intro x hx
    simp only [List.mem_cons, List.not_mem_nil, or_false] at hx
    rcases hx with rfl | rfl <;> (unfold fit; decide)
  have hF2 : ∀ x ∈ ([⟨[109, 97, 105, 108], [97]⟩, ⟨[109, 97, 105, 108], [99]⟩] : List Pr), prF x := by
    intro x hx
    simp only [List.mem_cons, List.not_mem_nil, or_false] at hx
    rcases hx with rfl | rfl <;> exact ⟨by unfold fit; decide, by unfold fit; decide⟩
  go_wp2_with (first
    | (go_at_call 13; (with_reducible refine (K1.out _ (Ext.refl _)).mono ?_); rintro e W2 ⟨rfl, e3⟩)
    | (go_at_call 13; (with_reducible refine (K2.out _ e3).mono ?_); rintro e W3 ⟨rfl, e4⟩)
    | (go_at_call 16; refine (attrs_any _ _ [awu] [117] [[109, 97, 105, 108], [121]] _ (hth.out.ext ((e3.trans e4).alloc _)) hSm ⟨Sl.lit rfl rfl rfl (by decide) (by decide), hF1⟩ (by decide)).mono ?_; rw [A1]; rintro e W4 ⟨u, rfl, ho, ⟨a, cap, rfl⟩, e5⟩)
    | (go_at_call 15; refine (pairs_same _ _ [⟨[109, 97, 105, 108], [97]⟩, ⟨[109, 97, 105, 108], [99]⟩] _ (ho.prs.ext ((Ext.refl _).alloc _)) (Prs.block rfl rfl rfl (by decide) hF2)).mono ?_; rintro e W5 ⟨rfl, e6⟩))
  go_ret
  exact ⟨rfl, (((((e2.out.trans e3).trans e4).alloc _).trans e5).alloc _).trans e6⟩
end Go.Proofs.Ytnhgkklbjhjggaa
