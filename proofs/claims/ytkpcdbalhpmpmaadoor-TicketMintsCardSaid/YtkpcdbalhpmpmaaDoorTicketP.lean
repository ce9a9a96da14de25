/- Contracts of Mint's functions. -/
import Derived.Test.YtkpcdbalhpmpmaaDoorTicketM
namespace Go.Proofs.YtkpcdbalhpmpmaaDoor
open Go.RowKit

theorem uv_one (x : BitVec 64) : (uv x).oneCell' = true := rfl
theorem clone_any (v : Value) (l : List (BitVec 64)) (hl : l.length ≤ 1048576) (w : World) (h : Sl uv w v l) :
    Calls Tryd.prog 42 #[v] w (Ret fun v' w' => Own uv 22 w' w.heap.size v' l ∧ Ext w w') := by
  have e0 := Ext.refl w
  have q : ∀ (w : World) (a : Option Addr) (n c n' c' : Nat), (binOp .eql 32 (.slice a n c) (.slice none n' c')).run Tryd.prog w = .ok (.bool a.isNone) w := fun w a n c n' c' => Lib.run_eql_slice_nil w _ _ a n c n' c' Tryd.underlying32
  obtain ⟨a, cap, rfl, hs⟩ := h
  cases a with
  | none =>
    have := hs.none rfl
    subst this
    have hle := hs.le
    obtain rfl : l = [] := List.eq_nil_of_length_eq_zero (by omega)
    go_enter Tryd.func42, Tryd.ntmps42
    go_wp2
    go_ret
    exact Ret.mk ⟨Own.nil _ _ _, e0⟩
  | some ad =>
    go_enter Tryd.func42, Tryd.ntmps42
    go_wp2_with (at_builtin; refine wpList_appendS (z := .int .u64 0) (bytes := 8) Tryd.underlying32 (by kernel_rfl) rfl uv_one rfl _ _ rfl w.heap.size _ [] rfl (Own.empty rfl (Nat.le_refl _)) _ l rfl ⟨_, _, rfl, hs.ext (e0.alloc _)⟩ (by simp; omega) (by simp; omega) ((e0.alloc _).size) ?_; intro v' w' g1 g2)
    go_ret
    exact Ret.mk ⟨g1, Ext.owns (e0.alloc _) (Own.empty (enc := uv) (E := 22) rfl (Nat.le_refl _)) g2⟩

theorem new_any (v : Value) (l : List (BitVec 64)) (hl : l.length ≤ 1048576) (w : World) (h : Sl uv w v l) :
    Calls Tryd.prog 24 #[v] w (Ret fun v' w' => ∃ g, v' = .pointer (some ⟨g, 0, none⟩) ∧ Mint w' (fun k => w.heap.size ≤ k ∧ k < w'.heap.size) g l ∧ Ext w w') := by
  have e0 := Ext.refl w
  go_enter Tryd.func24, Tryd.ntmps24
  go_wp2_with (go_at_call 42; refine (clone_any _ _ hl _ h).mono ?_; rintro e w' ⟨v, rfl, ho, h⟩; have e0 := e0.trans h; obtain ⟨a, cap, rfl, -⟩ := ho.shape)
  go_ret
  have hs := h.size
  have ho := (OwnO.of_own ho).lt
  have hlt : w'.heap.size < (w'.alloc (.cells #[.slice a l.length cap] 68)).heap.size := by show _ < (w'.heap.push _).size; simp
  refine Ret.mk ⟨_, rfl, ⟨a, cap, ?_, ⟨hs, hlt⟩, ?_⟩, e0.alloc _⟩
  · show (w'.heap.push _)[w'.heap.size]? = _
    simp
  · refine ((ho.ext ((Ext.refl _).alloc _))).mono fun k hk => ⟨⟨hk.1, Nat.lt_trans hk.2 hlt⟩, Nat.ne_of_lt hk.2⟩

theorem Mint.cell {w : World} {F : Nat → Prop} {g : Nat} {l : List (BitVec 64)} (h : Mint w F g l) : ∃ a cap, w.cell? ⟨g, 0, none⟩ = some (.slice a l.length cap) ∧ w.frozen? ⟨g, 0, none⟩ = false ∧ g < w.heap.size ∧ F g ∧ OwnO uv 22 w (fun k => F k ∧ k ≠ g) (.slice a l.length cap) l ∧
    (∀ w', Chg (fun k => F k ∧ k ≠ g) w w' → w'.cell? ⟨g, 0, none⟩ = some (.slice a l.length cap) ∧ w'.frozen? ⟨g, 0, none⟩ = false) ∧
    ∀ w', Chg (fun k => F k ∧ k ≠ g) w w' → ∀ (G : Nat → Prop) a' cap' (l' : List (BitVec 64)) n, n = l'.length → (∀ k, F k → G k) → OwnO uv 22 w' (fun k => G k ∧ k ≠ g) (.slice a' n cap') l' → Mint (w'.setCell ⟨g, 0, none⟩ (.slice a' n cap')) G g l' := by
  obtain ⟨a, cap, h1, h2, h3⟩ := h
  have hk : ∀ w', Chg (fun k => F k ∧ k ≠ g) w w' → w'.heap[g]? = some (.cells #[.slice a l.length cap] 68 (0, 0)) := fun w' c => by
    rw [c.block g (Array.getElem?_eq_some_iff.1 h1).1 (by simp)]; exact h1
  refine ⟨a, cap, ?_, by simp [World.frozen?, h1], (Array.getElem?_eq_some_iff.1 h1).1, h2, h3, fun w' c => ⟨by rw [cell_of_row w' g 0 _ _ _ (hk w' c)]; rfl, by simp [World.frozen?, hk w' c]⟩, fun w' c G a' cap' l' n hn hFG ho => ⟨a', cap', ?_, hFG _ h2, ?_⟩⟩
  · rw [cell_of_row w g 0 _ _ _ h1]; rfl
  · rw [setCell_row w' g 0 _ _ _ _ (hk w' c), ← hn]; rfl
  · rw [← hn]
    exact ho.chg (G := fun k => k = g) ((Chg.refl (fun k => k = g) w').setCell (x := ⟨g, 0, none⟩) (fun _ => rfl) _) fun k hk => hk.2
theorem Mint.ext {w w' : World} {F : Nat → Prop} {g : Nat} {l : List (BitVec 64)} (h : Mint w F g l) (e : Ext w w') : Mint w' F g l := by
  obtain ⟨a, cap, h1, h2, h3⟩ := h
  exact ⟨a, cap, e.heap h1, h2, h3.ext e⟩
theorem Mint.chg {w w' : World} {F G : Nat → Prop} {g : Nat} {l : List (BitVec 64)} (h : Mint w F g l) (c : Chg G w w') (hG : ∀ k, F k → ¬ G k) : Mint w' F g l := by
  obtain ⟨a, cap, h1, h2, h3⟩ := h
  exact ⟨a, cap, by rw [c.block g (Array.getElem?_eq_some_iff.1 h1).1 (hG _ h2)]; exact h1, h2, h3.chg c fun k hk => hG k hk.1⟩

theorem left_any (g : Nat) (l : List (BitVec 64)) (F : Nat → Prop) (w : World) (h : Mint w F g l) :
    Calls Tryd.prog 28 #[.pointer (some ⟨g, 0, none⟩)] w fun e w' => e = .returned (.int .i64 (l.length : Int)) ∧ w = w' := by
  obtain ⟨a, cap, h1, -⟩ := h.cell
  go_enter Tryd.func28, Tryd.ntmps28
  go_wp2
  go_ret
  exact ⟨rfl, rfl⟩

theorem feed_any (g : Nat) (l : List (BitVec 64)) (v : Value) (m : List (BitVec 64)) (hl : l.length + m.length ≤ 1048576) (F : Nat → Prop) (w : World) (h : Mint w F g l) (hm : Sl uv w v m) :
    Calls Tryd.prog 25 #[.pointer (some ⟨g, 0, none⟩), v] w fun e w' => e = .returned (.tuple #[]) ∧ Mint w' (fun k => F k ∨ w.heap.size ≤ k) g (l ++ m) ∧ Chg F w w' := by
  obtain ⟨a, cap, h1, h2, hg, h3, h4, h5, h6⟩ := h.cell
  obtain ⟨am, cm, rfl, hm⟩ := hm
  go_enter Tryd.func25, Tryd.ntmps25
  go_wp2_with (at_builtin; refine wpList_appendO (z := .int .u64 0) (bytes := 8) Tryd.underlying32 (by kernel_rfl) rfl uv_one rfl _ _ rfl _ _ l rfl h4 _ m rfl ⟨_, _, rfl, hm⟩ (by omega) (by omega) ?_; intro v' w' g1 g2; obtain ⟨a', cap', rfl⟩ := g1.shape; obtain ⟨c1, c2⟩ := h5 _ g2)
  refine bodyPost_end (results_none rfl _ _ _) rfl ⟨rfl, ?_, (g2.mono fun _ h => h.1).setCell (fun _ => h3) _⟩
  refine h6 _ g2 _ a' cap' (l ++ m) _ (by simp) (fun _ => Or.inl) ?_
  rw [← List.length_append]
  exact g1.mono fun k hk => hk.elim (fun h => ⟨Or.inl h.1, h.2⟩) (fun h => ⟨Or.inr h, by omega⟩)

theorem yes_any (s : List UInt8) (w : World) :
    Calls Tryd.prog 43 #[.string (str s)] w fun e w' => e = .returned (.bool true) ∧ w = w' := by
  go_enter Tryd.func43, Tryd.ntmps43
  go_wp2
  go_ret
  exact ⟨rfl, rfl⟩
theorem no_any (s : List UInt8) (w : World) :
    Calls Tryd.prog 44 #[.string (str s)] w fun e w' => e = .returned (.bool false) ∧ w = w' := by
  go_enter Tryd.func44, Tryd.ntmps44
  go_wp2
  go_ret
  exact ⟨rfl, rfl⟩

def fnv (b : Bool) : Value := if b then .func (.func 43) #[] #[] else .func (.func 44) #[] #[]
theorem always_yes (w : World) :
    Calls Tryd.prog 27 #[.bool true] w fun e w' => e = .returned (.func (.func 43) #[] #[]) ∧ w = w' := by
  go_enter Tryd.func27, Tryd.ntmps27
  go_wp2
  go_ret
  exact ⟨rfl, rfl⟩
theorem always_no (w : World) :
    Calls Tryd.prog 27 #[.bool false] w fun e w' => e = .returned (.func (.func 44) #[] #[]) ∧ w = w' := by
  go_enter Tryd.func27, Tryd.ntmps27
  go_wp2
  go_ret
  exact ⟨rfl, rfl⟩

theorem next_bad (g : Nat) (K : Int) (hk : Tk.okK K = false) (f : Value) (w : World) (hw : Pres w) :
    Calls Tryd.prog 26 #[.pointer (some ⟨g, 0, none⟩), .int .i64 K, f] w fun e w' => e = .returned (.tuple #[.string (str []), .int .i64 8]) ∧ w = w' := by
  have hp : seq (Tk.preI K) [] = true := by rw [Tk.preI_empty, hk]; rfl
  go_enter Tryd.func26, Tryd.ntmps26
  go_wp2_with (go_at_call 20; refine (prefix_any _ _ hw).mono ?_; rintro e w' ⟨rfl, rfl⟩)
  go_ret2
  exact ⟨rfl, rfl⟩
theorem next_none (g : Nat) (K : Int) (hk : Tk.okK K = true) (f : Value) (F : Nat → Prop) (w : World) (hw : Pres w) (h : Mint w F g []) :
    Calls Tryd.prog 26 #[.pointer (some ⟨g, 0, none⟩), .int .i64 K, f] w fun e w' => e = .returned (.tuple #[.string (str []), .int .i64 6]) ∧ w = w' := by
  have hp : seq (Tk.preI K) [] = false := by rw [Tk.preI_empty, hk]; rfl
  obtain ⟨a, cap, h1, -⟩ := h.cell
  go_enter Tryd.func26, Tryd.ntmps26
  go_wp2_with (go_at_call 20; refine (prefix_any _ _ hw).mono ?_; rintro e w' ⟨rfl, rfl⟩)
  go_ret2
  exact ⟨rfl, rfl⟩
theorem next_yes (g : Nat) (x : BitVec 64) (l : List (BitVec 64)) (K : Int) (hk : Tk.okK K = true) (F : Nat → Prop) (w : World) (hw : Pres w) (h : Mint w F g (x :: l)) :
    Calls Tryd.prog 26 #[.pointer (some ⟨g, 0, none⟩), .int .i64 K, .func (.func 43) #[] #[]] w fun e w' => e = .returned (.tuple #[.string (str []), .int .i64 7]) ∧ Mint w' F g l ∧ Chg F w w' := by
  have hp : seq (Tk.preI K) [] = false := by rw [Tk.preI_empty, hk]; rfl
  obtain ⟨a, cap, h1, h2, hg, h3, h4, h5, h6⟩ := h.cell
  obtain ⟨_, _, e, hs⟩ := h4.sl
  cases e
  have hlen := hs.len
  have hcl := hs.le
  simp only [List.length_cons] at hlen hcl h1 h5
  obtain ⟨gd, od, rfl, celld⟩ := hs.cells 0 x rfl
  unfold uv at celld
  simp only [Nat.add_zero] at celld
  go_enter Tryd.func26, Tryd.ntmps26
  go_wp2_with (first
    | (go_at_call 20; refine (prefix_any _ _ hw).mono ?_; rintro e w' ⟨rfl, rfl⟩)
    | (go_at_call 14; refine (name_any _ _ _ hw).mono ?_; rintro e w' ⟨rfl, hE⟩; obtain ⟨c1, c2⟩ := h5 _ (Chg.of_ext hE))
    | (go_at_call 43; refine (yes_any _ _).mono ?_; rintro e w' ⟨rfl, rfl⟩))
  all_goals
    have ht := (h4.ext hE).tail
    first | simp [sliced, ‹cap = 1›, Addr.add_lit] at ht | simp [sliced, ‹¬cap = 1›, Addr.add_lit] at ht
    go_ret2
    exact ⟨rfl, h6 _ (Chg.of_ext hE) F _ _ l _ rfl (fun _ => id) ht, (Chg.of_ext hE).setCell (fun _ => h3) _⟩
theorem next_no (g : Nat) (x : BitVec 64) (l : List (BitVec 64)) (K : Int) (hk : Tk.okK K = true) (F : Nat → Prop) (w : World) (hw : Pres w) (h : Mint w F g (x :: l)) :
    Calls Tryd.prog 26 #[.pointer (some ⟨g, 0, none⟩), .int .i64 K, .func (.func 44) #[] #[]] w fun e w' => e = .returned (.tuple #[.string (str (Tk.nameI K x.toNat)), .int .i64 0]) ∧ Mint w' F g l ∧ Chg F w w' := by
  have hp : seq (Tk.preI K) [] = false := by rw [Tk.preI_empty, hk]; rfl
  obtain ⟨a, cap, h1, h2, hg, h3, h4, h5, h6⟩ := h.cell
  obtain ⟨_, _, e, hs⟩ := h4.sl
  cases e
  have hlen := hs.len
  have hcl := hs.le
  simp only [List.length_cons] at hlen hcl h1 h5
  obtain ⟨gd, od, rfl, celld⟩ := hs.cells 0 x rfl
  unfold uv at celld
  simp only [Nat.add_zero] at celld
  go_enter Tryd.func26, Tryd.ntmps26
  go_wp2_with (first
    | (go_at_call 20; refine (prefix_any _ _ hw).mono ?_; rintro e w' ⟨rfl, rfl⟩)
    | (go_at_call 14; refine (name_any _ _ _ hw).mono ?_; rintro e w' ⟨rfl, hE⟩; obtain ⟨c1, c2⟩ := h5 _ (Chg.of_ext hE))
    | (go_at_call 44; refine (no_any _ _).mono ?_; rintro e w' ⟨rfl, rfl⟩))
  all_goals
    have ht := (h4.ext hE).tail
    first | simp [sliced, ‹cap = 1›, Addr.add_lit] at ht | simp [sliced, ‹¬cap = 1›, Addr.add_lit] at ht
    go_ret2
    exact ⟨rfl, h6 _ (Chg.of_ext hE) F _ _ l _ rfl (fun _ => id) ht, (Chg.of_ext hE).setCell (fun _ => h3) _⟩
end Go.Proofs.YtkpcdbalhpmpmaaDoor
