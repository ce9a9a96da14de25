/- The document's disk: Drop, Stop, New, lay. -/
import Derived.Test.YtehgdoceaeammaaRDisk
import Derived.BigRegion
import Derived.StillTailTactics
namespace Go.Proofs.Ytehgdoceaeammaa
open Go.RowKit Dk

theorem rdrop_any {w : World} {F : Nat → Prop} {q : Nat} {d : D} (h : RDisk w F q d) :
    Calls Try.prog 32 #[.pointer (some ⟨q, 0, none⟩)] w fun e w' => e = .returned (.tuple #[]) ∧ Chg F w w' ∧ RDisk w' F q (drop d) := by
  obtain ⟨gk, vs, vp, h, ok⟩ := h
  have hok := drop_ok ok
  have hDh := Lib.hid h
  have h1 := h.hd
  obtain ⟨K, st, plan, off, left⟩ := d
  simp only at h1
  obtain ⟨c0, c1, c2, c3, c4, ff⟩ := rhd_cells h1
  have h1h := Lib.hid h1
  clear h h1
  cases off
  · have hf : RowKit.Hid (drop ⟨K, st, plan, false, left⟩ = ⟨K, [], plan, false, left⟩) := Lib.hid rfl
    go_enter Try.func32, Try.ntmps32
    go_wp2
    go_end0
    have c := (Chg.refl (fun k => k = q) w).setq 1 (.slice none 0 0)
    exact ⟨rfl, c.mono fun k hk => by rw [hk]; exact hDh.out.fq, gk, _, _, by rw [hf.out]; exact hDh.out.own c rfl (rhd_set1 _ h1h.out) (.inr ⟨rfl, rfl⟩) (.inl ⟨rfl, rfl⟩) hDh.out.lf, hok⟩
  · have hf : RowKit.Hid (drop ⟨K, st, plan, true, left⟩ = ⟨K, st, plan, true, left⟩) := Lib.hid rfl
    go_enter Try.func32, Try.ntmps32
    go_wp2
    go_end0
    exact ⟨rfl, Chg.refl _ _, gk, _, _, by rw [hf.out]; exact hDh.out, hok⟩
theorem rstop_any {w : World} {F : Nat → Prop} {q : Nat} {d : D} (h : RDisk w F q d) (n : Int) (_ : -9223372036854775808 ≤ n) (hn2 : n ≤ 9223372036854775807) :
    Calls Try.prog 34 #[.pointer (some ⟨q, 0, none⟩), .int .i64 n] w fun e w' => e = .returned (.tuple #[]) ∧ Chg F w w' ∧ RDisk w' F q (stop n d) := by
  obtain ⟨gk, vs, vp, h, ok⟩ := h
  have hok := stop_ok n ok
  have hDh := Lib.hid h
  have h1 := h.hd
  obtain ⟨K, st, plan, off, left⟩ := d
  simp only at h1
  obtain ⟨c0, c1, c2, c3, c4, ff⟩ := rhd_cells h1
  have h1h := Lib.hid h1
  clear h h1
  have hcase : n = 0 ∨ n < 0 ∨ 0 < n := by omega
  rcases hcase with rfl | hn | hn
  · have hf : RowKit.Hid (stop 0 ⟨K, st, plan, off, left⟩ = ⟨K, st, plan, true, 0⟩) := Lib.hid (by unfold stop; simp)
    go_enter Try.func34, Try.ntmps34
    go_wp2
    go_end0
    have c := ((Chg.refl (fun k => k = q) w).setq 4 (.int .i64 0)).setq 3 (.bool true)
    exact ⟨rfl, c.mono fun k hk => by rw [hk]; exact hDh.out.fq, gk, _, _, by rw [hf.out]; exact hDh.out.own c rfl (rhd_set3 true (rhd_set4 0 0 rfl h1h.out)) (.inl ⟨rfl, rfl⟩) (.inl ⟨rfl, rfl⟩) (by simp), hok⟩
  · have hf : RowKit.Hid (stop n ⟨K, st, plan, off, left⟩ = ⟨K, st, plan, off, 0⟩) := Lib.hid (by
      unfold stop
      have e1 : n.toNat = 0 := by omega
      have e2 : (n == 0) = false := by rw [beq_eq_false_iff_ne]; omega
      simp [e1, e2])
    have hz : (n == 0) = false := by rw [beq_eq_false_iff_ne]; omega
    have hz2 : ¬ (0 : Int) ≤ n := by omega
    go_enter Try.func34, Try.ntmps34
    go_wp2
    go_end0
    have c := ((Chg.refl (fun k => k = q) w).setq 4 (.int .i64 0))
    exact ⟨rfl, c.mono fun k hk => by rw [hk]; exact hDh.out.fq, gk, _, _, by rw [hf.out]; exact hDh.out.own c rfl (rhd_set4 0 0 rfl h1h.out) (.inl ⟨rfl, rfl⟩) (.inl ⟨rfl, rfl⟩) (by simp), hok⟩
  · obtain ⟨m, rfl⟩ : ∃ m : Nat, n = m := ⟨n.toNat, by omega⟩
    have hf : RowKit.Hid (stop (m : Int) ⟨K, st, plan, off, left⟩ = ⟨K, st, plan, off, m⟩) := Lib.hid (by
      unfold stop
      have e2 : ((m : Int) == 0) = false := by rw [beq_eq_false_iff_ne]; omega
      simp [e2])
    have hz : ((m : Int) == 0) = false := by rw [beq_eq_false_iff_ne]; omega
    go_enter Try.func34, Try.ntmps34
    go_wp2
    go_end0
    have c := ((Chg.refl (fun k => k = q) w).setq 4 (.int .i64 (m : Int)))
    exact ⟨rfl, c.mono fun k hk => by rw [hk]; exact hDh.out.fq, gk, _, _, by rw [hf.out]; exact hDh.out.own c rfl (rhd_set4 m _ rfl h1h.out) (.inl ⟨rfl, rfl⟩) (.inl ⟨rfl, rfl⟩) (by simp; omega), hok⟩
def zrow (n : Nat) : Array Value := ((List.replicate n (0 : UInt8)).map u8v).toArray
theorem rmake (n : Nat) (hn : n ≤ 1048576) (W : World) : (Instr.makeSlice 22 (.int .i64 (n : Int)) (.int .i64 (n : Int))).run Try.prog W = .ok (.slice (some ⟨W.heap.size, 0, none⟩) n n) (W.alloc (.cells (zrow n) 5)) := by
  obtain ⟨i, hi, hz0, hz1, hz2⟩ := info_parts info_u8Z
  have h := run_make (P := Try.prog) W 22 5 i _ Try.underlying22 hi hz0 .i64 .i64 (n : Int) (n : Int) (by omega) (Int.le_refl _) (by rw [hz2]; omega) (by omega)
  rw [Int.toNat_natCast, hz1] at h
  rw [h]
  have e : madeCells (Value.cells (.int .u8 0)) (n * 1) = ((List.replicate n (0 : UInt8)).map u8v).toArray := by
    rw [Nat.mul_one]
    apply Array.ext'
    unfold madeCells
    rw [Array.toList_map, Array.toList_range, List.map_replicate]
    apply List.ext_getElem?
    intro j
    rw [List.getElem?_map, List.getElem?_replicate]
    by_cases hj : j < n
    · rw [if_pos hj, List.getElem?_range hj]
      show some _ = some _
      congr 1
      show (Value.int IntKind.u8 0).cells[j % 1]! = u8v 0
      rw [Nat.mod_one]; rfl
    · rw [if_neg hj, List.getElem?_eq_none (by simp; omega)]; rfl
  unfold zrow
  rw [← e]
theorem rnew_disk (w : World) (m : Nat) (hm : m ≤ 512) (C : Array Value) (hC : C = rhd (32 * m) w.heap.size (.slice none 0 0) (.slice none 0 0) false 0) :
    RDisk ((w.alloc (.cells (zrow (32 * m)) 5)).alloc (.cells C 46)) (fun k => w.heap.size ≤ k ∧ k < ((w.alloc (.cells (zrow (32 * m)) 5)).alloc (.cells C 46)).heap.size) (w.heap.size + 1) (mk m) := by
  subst hC
  have hs : ∀ o o', ((w.alloc o).alloc o').heap.size = w.heap.size + 2 := fun o o' => by
    show ((w.heap.push _).push _).size = _
    simp
  rw [hs]
  have hk : (mk m).kept.length = 32 * m := by unfold mk; simp
  refine ⟨w.heap.size, .slice none 0 0, .slice none 0 0, ⟨?_, ⟨by omega, by omega⟩, ⟨_, heap_alloc2_old w _ _, rfl⟩, ⟨by omega, by omega⟩, RSt.nil _ _, .inl ⟨rfl, rfl⟩, by unfold mk; simp⟩, mk_ok hm⟩
  rw [hk]
  exact heap_alloc2_new w _ _
set_option maxHeartbeats 1000000 in
theorem rnew_any (n : Int) (w : World) :
    Calls Try.prog 29 #[.int .i64 n] w (Ret fun v w' => ∃ q, v = .pointer (some ⟨q, 0, none⟩) ∧ RDisk w' (fun k => w.heap.size ≤ k ∧ k < w'.heap.size) q (mk (clamp n)) ∧ Ext w w') := by
  have e0 := Ext.refl w
  have hcase : (512 < n ∧ clamp n = 512) ∨ (∃ m : Nat, n = m ∧ m ≤ 512 ∧ 0 < m ∧ clamp n = m) ∨ (n ≤ 0 ∧ clamp n = 0) := by
    unfold clamp
    by_cases h1 : 512 < n
    · left; omega
    · by_cases h2 : n ≤ 0
      · right; right; omega
      · right; left; exact ⟨n.toNat, by omega, by omega, by omega, by omega⟩
  rcases hcase with ⟨h1, h2⟩ | ⟨m, rfl, h1, h0, h2⟩ | ⟨h1, h2⟩
  · rw [h2]
    have hmk : ∀ W, (Instr.makeSlice 22 (.int .i64 16384) (.int .i64 16384)).run Try.prog W = .ok (.slice (some ⟨W.heap.size, 0, none⟩) 16384 16384) (W.alloc (.cells (zrow (32 * 512)) 5)) := rmake (32 * 512) (by decide)
    clear h2
    go_enter Try.func29, Try.ntmps29
    go_wp2
    go_ret
    exact Ret.mk ⟨_, rfl, rnew_disk w 512 (Nat.le_refl _) _ (by rfl), (e0.alloc _).alloc _⟩
  · rw [h2]
    have hmk : ∀ W, (Instr.makeSlice 22 (.int .i64 (32 * (m : Int))) (.int .i64 (32 * (m : Int)))).run Try.prog W = .ok (.slice (some ⟨W.heap.size, 0, none⟩) (32 * m) (32 * m)) (W.alloc (.cells (zrow (32 * m)) 5)) := rmake (32 * m) (by omega)
    have hmi : (m : Int) ≤ 512 := by omega
    have hm0 : (0 : Int) < (m : Int) := by omega
    clear h2
    go_enter Try.func29, Try.ntmps29
    go_wp2
    go_ret
    exact Ret.mk ⟨_, rfl, rnew_disk w m h1 _ (by rfl), (e0.alloc _).alloc _⟩
  · rw [h2]
    have hmk : ∀ W, (Instr.makeSlice 22 (.int .i64 0) (.int .i64 0)).run Try.prog W = .ok (.slice (some ⟨W.heap.size, 0, none⟩) 0 0) (W.alloc (.cells (zrow (32 * 0)) 5)) := rmake 0 (by decide)
    clear h2
    go_enter Try.func29, Try.ntmps29
    go_wp2
    go_ret
    exact Ret.mk ⟨_, rfl, rnew_disk w 0 (Nat.zero_le _) _ (by rfl), (e0.alloc _).alloc _⟩
end Go.Proofs.Ytehgdoceaeammaa
