/- The program's disk: what turns its own block. -/
import Derived.Test.YtehgdoceaeammaaDiskMem
import Derived.Laws.CopyOwn
import Derived.Deep.RegionLaw
namespace Go.Proofs.Ytehgdoceaeammaa
open Go.RowKit Dk

theorem drop_any {w : World} {F : Nat → Prop} {p : Nat} {d : D} (h : Disk w F p d) :
    Calls Try.prog 18 #[.pointer (some ⟨p, 0, none⟩)] w fun e w' => e = .returned (.tuple #[]) ∧ Chg (fun k => k = p) w w' ∧ Disk w' F p (drop d) := by
  have hD := h
  obtain ⟨gk, s, v, z, h1, h2, h3, r1, r2, r3, rok⟩ := h
  have hok2 := drop_ok rok
  obtain ⟨K, st, plan, off, left⟩ := d
  obtain ⟨c0, c1, c2, c3, c4, ff⟩ := hdr_cells h1
  have h1h := Lib.hid h1
  clear h1
  cases off
  · have hf : RowKit.Hid (drop ⟨K, st, plan, false, left⟩ = ⟨K, [], plan, false, left⟩) := Lib.hid rfl
    go_enter Try.func18, Try.ntmps18
    go_wp2
    go_end0
    have c := (Chg.refl (fun k => k = p) w).set 1 (.slice none 0 0)
    refine ⟨rfl, c, ?_⟩
    rw [hf.out]
    exact ⟨gk, _, _, z, hdr_set1 h1h.out, h2, ⟨(h3.own h1h.out c).kept, h3.fk, OwnF.nil _ _ _ _, (h3.own h1h.out c).plan⟩, r1, r2, r3, hok2⟩
  · have hf : RowKit.Hid (drop ⟨K, st, plan, true, left⟩ = ⟨K, st, plan, true, left⟩) := Lib.hid rfl
    go_enter Try.func18, Try.ntmps18
    go_wp2
    go_end0
    exact ⟨rfl, Chg.refl _ _, by rw [hf.out]; exact hD⟩
theorem stop_ok {d : D} (z : Int) (h : d.Ok) : (stop z d).Ok := h.of rfl (fun w hw => hw)
theorem stop_any {w : World} {F : Nat → Prop} {p : Nat} {d : D} (h : Disk w F p d) (n : Int) (hn1 : -9223372036854775808 ≤ n) (hn2 : n ≤ 9223372036854775807) :
    Calls Try.prog 19 #[.pointer (some ⟨p, 0, none⟩), .int .i64 n] w fun e w' => e = .returned (.tuple #[]) ∧ Chg (fun k => k = p) w w' ∧ Disk w' F p (stop n d) := by
  have hD := h
  obtain ⟨gk, s, v, z, h1, h2, h3, r1, r2, r3, rok⟩ := h
  have hok2 := stop_ok n rok
  obtain ⟨K, st, plan, off, left⟩ := d
  obtain ⟨c0, c1, c2, c3, c4, ff⟩ := hdr_cells h1
  have h1h := Lib.hid h1
  clear h1
  cases off
  · have hf : RowKit.Hid (stop n ⟨K, st, plan, false, left⟩ = ⟨K, st, plan, n == 0, n.toNat⟩) := Lib.hid rfl
    go_enter Try.func19, Try.ntmps19
    go_wp2
    all_goals
      go_end0
      refine ⟨rfl, ((Chg.refl (fun k => k = p) w).set 4 _).set 3 _, ?_⟩
      rw [hf.out]
      exact ⟨gk, _, _, _, hdr_set3 (hdr_set4 h1h.out), h2, (h3.own h1h.out (((Chg.refl (fun k => k = p) w).set 4 _).set 3 _)).to rfl rfl rfl, by simp <;> omega, by omega, by omega, hok2⟩
  · have hf : RowKit.Hid (stop n ⟨K, st, plan, true, left⟩ = ⟨K, st, plan, true, n.toNat⟩) := Lib.hid rfl
    go_enter Try.func19, Try.ntmps19
    go_wp2
    all_goals
      go_end0
      refine ⟨rfl, ((Chg.refl (fun k => k = p) w).set 4 _).set 3 _, ?_⟩
      rw [hf.out]
      exact ⟨gk, _, _, _, hdr_set3 (hdr_set4 h1h.out), h2, (h3.own h1h.out (((Chg.refl (fun k => k = p) w).set 4 _).set 3 _)).to rfl rfl rfl, by simp <;> omega, by omega, by omega, hok2⟩
theorem bv_one (b : Bool) : (bv b).oneCell' = true := rfl
theorem cloneB_any (v : Value) (l : List Bool) (hl : l.length ≤ 1048576) (w : World) (h : Sl bv w v l) :
    Calls Try.prog 38 #[v] w (Ret fun v' w' => Own bv 4 w' w.heap.size v' l ∧ Ext w w') := by
  have e0 := Ext.refl w
  have q : ∀ (w : World) (a : Option Addr) (n c n' c' : Nat), (binOp .eql 38 (.slice a n c) (.slice none n' c')).run Try.prog w = .ok (.bool a.isNone) w := fun w a n c n' c' => Lib.run_eql_slice_nil w _ _ a n c n' c' Try.underlying38
  obtain ⟨a, cap, rfl, hs⟩ := h
  cases a with
  | none =>
    have := hs.none rfl
    subst this
    have hle := hs.le
    obtain rfl : l = [] := List.eq_nil_of_length_eq_zero (by omega)
    go_enter Try.func38, Try.ntmps38
    go_wp2
    go_ret
    exact Ret.mk ⟨Own.nil _ _ _, e0⟩
  | some ad =>
    go_enter Try.func38, Try.ntmps38
    go_wp2_with (at_builtin; refine wpList_appendS (z := .bool false) (bytes := 1) Try.underlying38 (by kernel_rfl) rfl bv_one rfl _ _ rfl w.heap.size _ [] rfl (Own.empty rfl (Nat.le_refl _)) _ l rfl ⟨_, _, rfl, hs.ext (e0.alloc _)⟩ (by simp; omega) (by simp; omega) ((e0.alloc _).size) ?_; intro v' w' g1 g2)
    go_ret
    exact Ret.mk ⟨g1, Ext.owns (e0.alloc _) (Own.empty (enc := bv) (E := 4) rfl (Nat.le_refl _)) g2⟩
theorem faults_ok {d : D} (l : List Bool) (h : d.Ok) : (faults l d).Ok := h.of rfl (fun w hw => hw)
/-- what is left behind a call that had the disk and made memory -/
def Aft (F : Nat → Prop) (w w' : World) (p : Nat) (d : D) : Prop := Chg F w w' ∧ Disk w' (grow F w) p d
theorem faults_any {w : World} {F : Nat → Prop} {p : Nat} {d : D} (h : Disk w F p d) (v : Value) (l : List Bool) (hl : l.length ≤ 1048576) (hv : Sl bv w v l) :
    Calls Try.prog 21 #[.pointer (some ⟨p, 0, none⟩), v] w fun e w' => e = .returned (.tuple #[]) ∧ Aft F w w' p (faults l d) := by
  obtain ⟨gk, s, u, z, h1, h2, h3, r1, r2, r3, rok⟩ := h
  have hok2 := faults_ok l rok
  have e0 := Ext.refl w
  have hcl := cloneB_any v l hl
  go_enter Try.func21, Try.ntmps21
  go_wp2_with (go_at_call 38; refine (hcl _ hv).mono ?_; rintro e w1 ⟨v', rfl, ho, e1⟩; obtain ⟨a', cap', rfl, -⟩ := ho.shape; have h1' := e1.heap h1; obtain ⟨c0, c1, c2, c3, c4, ff⟩ := hdr_cells h1')
  go_end0
  have c := (Chg.refl (fun k => k = p) w1).set 2 (.slice a' l.length cap')
  have hlt := (Array.getElem?_eq_some_iff.1 h1).1
  refine ⟨rfl, (Chg.of_ext (p := F) e1).trans (c.mono fun k hk => by rw [hk]; exact h2), ?_⟩
  exact ⟨gk, s, _, z, hdr_set2 h1', .inl h2, (((h3.chg (Chg.of_ext (p := fun _ => False) e1) fun _ _ => id).mono fun k hk => Or.inl hk).planned ((OwnO.of_own ho).mono fun k hk => Or.inr hk) (d' := faults l d) rfl rfl rfl).own h1' c, r1, r2, r3, hok2⟩
end Go.Proofs.Ytehgdoceaeammaa
