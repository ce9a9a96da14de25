/- Records: what comes of what, and whether a record can be: the document's functions. -/
import Derived.Test.YtmdepmohfnficaaDoorRecA
namespace Go.Proofs.YtmdepmohfnficaaDoor
set_option linter.unusedVariables false
set_option linter.unusedSimpArgs false
open Go.RowKit Rk

def pairs : List (Int × Int) := [(1, 0), (6, 0), (2, 1), (3, 4), (4, 2), (4, 3), (5, 4)]
def cmL (k o : Int) (l : List (Int × Int)) : Bool := l.any fun p => p.1 == k && p.2 == o
theorem cm_pairs (k o : Int) : cm k o = cmL k o pairs := by
  unfold cm cmL pairs
  rw [Bool.eq_iff_iff]
  simp only [List.any_cons, List.any_nil, Bool.or_eq_true, Bool.and_eq_true, beq_iff_eq, Bool.or_false]
  omega
theorem alloc8 (w : World) (a b c d e f g h : Obj) : ∀ j, j < 8 → ((((((((w.alloc a).alloc b).alloc c).alloc d).alloc e).alloc f).alloc g).alloc h).heap[w.heap.size + j]? = [a, b, c, d, e, f, g, h][j]? := by
  intro j hj
  show ((((((((w.heap.push a).push b).push c).push d).push e).push f).push g).push h)[w.heap.size + j]? = _
  have : j = 0 ∨ j = 1 ∨ j = 2 ∨ j = 3 ∨ j = 4 ∨ j = 5 ∨ j = 6 ∨ j = 7 := by omega
  simp only [Array.getElem?_push, Array.size_push]
  rcases this with rfl | rfl | rfl | rfl | rfl | rfl | rfl | rfl
  all_goals
    repeat rw [if_neg (by omega)]
    rw [if_pos (by omega)]
    rfl
/-- a pair's row -/
def kprow (p : Int × Int) : Array Value := #[.int .i64 p.1, .int .i64 p.2]
attribute [local irreducible] cm isI Tk.pk Tk.pn Tk.pok
set_option maxRecDepth 20000 in
set_option maxHeartbeats 4000000 in
theorem refComes_any (k o : Int) (w : World) :
    Calls Tryd.prog 90 #[.int .i64 k, .int .i64 o] w fun e w' => e = .returned (.bool (cm k o)) ∧ Ext w w' := by
  have e0 := Ext.refl w
  go_enter Tryd.func90, Tryd.ntmps90
  go_upto_region 1 with fail
  go_cut [5] (fun p wd => ∃ g, p = .slice (some ⟨g, 0, none⟩) 7 7 ∧ RowKit.Hid (∀ j x, pairs[j]? = some x → ∃ q, wd.cell? ⟨g, j, none⟩ = some (.slice (some ⟨q, 0, none⟩) 2 2) ∧ wd.cell? ⟨q, 0, none⟩ = some (.int .i64 x.1) ∧ wd.cell? ⟨q, 1, none⟩ = some (.int .i64 x.2)) ∧ Ext w wd)
  case first =>
    go_wp2
    go_meet
    case rel =>
      refine ⟨_, rfl, Lib.hid fun j x hx => ?_, (((((((e0.alloc _).alloc _).alloc _).alloc _).alloc _).alloc _).alloc _).alloc _⟩
      have A := alloc8 w (.cells #[.int .i64 1, .int .i64 0] 3) (.cells #[.int .i64 6, .int .i64 0] 3) (.cells #[.int .i64 2, .int .i64 1] 3) (.cells #[.int .i64 3, .int .i64 4] 3) (.cells #[.int .i64 4, .int .i64 2] 3) (.cells #[.int .i64 4, .int .i64 3] 3) (.cells #[.int .i64 5, .int .i64 4] 3)
        (.cells #[.slice (some ⟨w.heap.size, 0, none⟩) 2 2, .slice (some ⟨w.heap.size + 1, 0, none⟩) 2 2, .slice (some ⟨w.heap.size + 1 + 1, 0, none⟩) 2 2, .slice (some ⟨w.heap.size + 1 + 1 + 1, 0, none⟩) 2 2, .slice (some ⟨w.heap.size + 1 + 1 + 1 + 1, 0, none⟩) 2 2, .slice (some ⟨w.heap.size + 1 + 1 + 1 + 1 + 1, 0, none⟩) 2 2, .slice (some ⟨w.heap.size + 1 + 1 + 1 + 1 + 1 + 1, 0, none⟩) 2 2] 112)
      have hj : j < 7 := (List.getElem?_eq_some_iff.1 hx).1
      have hc : j = 0 ∨ j = 1 ∨ j = 2 ∨ j = 3 ∨ j = 4 ∨ j = 5 ∨ j = 6 := by omega
      rcases hc with rfl | rfl | rfl | rfl | rfl | rfl | rfl
      · obtain rfl := Option.some.inj hx
        exact ⟨_, cell_of_row _ _ _ _ _ _ (A 7 (by omega)), cell_of_row _ _ _ _ _ _ (A 0 (by omega)), cell_of_row _ _ _ _ _ _ (A 0 (by omega))⟩
      · obtain rfl := Option.some.inj hx
        exact ⟨_, cell_of_row _ _ _ _ _ _ (A 7 (by omega)), cell_of_row _ _ _ _ _ _ (A 1 (by omega)), cell_of_row _ _ _ _ _ _ (A 1 (by omega))⟩
      · obtain rfl := Option.some.inj hx
        exact ⟨_, cell_of_row _ _ _ _ _ _ (A 7 (by omega)), cell_of_row _ _ _ _ _ _ (A 2 (by omega)), cell_of_row _ _ _ _ _ _ (A 2 (by omega))⟩
      · obtain rfl := Option.some.inj hx
        exact ⟨_, cell_of_row _ _ _ _ _ _ (A 7 (by omega)), cell_of_row _ _ _ _ _ _ (A 3 (by omega)), cell_of_row _ _ _ _ _ _ (A 3 (by omega))⟩
      · obtain rfl := Option.some.inj hx
        exact ⟨_, cell_of_row _ _ _ _ _ _ (A 7 (by omega)), cell_of_row _ _ _ _ _ _ (A 4 (by omega)), cell_of_row _ _ _ _ _ _ (A 4 (by omega))⟩
      · obtain rfl := Option.some.inj hx
        exact ⟨_, cell_of_row _ _ _ _ _ _ (A 7 (by omega)), cell_of_row _ _ _ _ _ _ (A 5 (by omega)), cell_of_row _ _ _ _ _ _ (A 5 (by omega))⟩
      · obtain rfl := Option.some.inj hx
        exact ⟨_, cell_of_row _ _ _ _ _ _ (A 7 (by omega)), cell_of_row _ _ _ _ _ _ (A 6 (by omega)), cell_of_row _ _ _ _ _ _ (A 6 (by omega))⟩
  case rest =>
    obtain ⟨g, rfl, hp, e1⟩ := hcut
    go_wp2
    go_loop [6] (fun i => ∃ j : Nat, j ≤ 7 ∧ i = .int .i64 j ∧ RowKit.Hid (cm k o = cmL k o (pairs.drop j))) (fun i => 7 - (intOf i).toNat)
    case atStart => exact ⟨0, Nat.zero_le _, rfl, Lib.hid (cm_pairs k o)⟩
    case round =>
      obtain ⟨j, hj, rfl, hc⟩ := hrel
      by_cases hlt : j < 7
      · obtain ⟨x, hx⟩ : ∃ x, pairs[j]? = some x := ⟨pairs[j]'hlt, List.getElem?_eq_getElem _⟩
        obtain ⟨q, c1, c2, c3⟩ := hp.out j x hx
        have hd : RowKit.Hid (cm k o = ((x.1 == k && x.2 == o) || cmL k o (pairs.drop (j + 1)))) := Lib.hid (by
          have h7 : j < pairs.length := hlt
          rw [hc.out, List.drop_eq_getElem_cons h7]
          rw [List.getElem?_eq_getElem h7] at hx
          rw [Option.some.inj hx]; rfl)
        obtain ⟨a, b⟩ := x
        simp only at c2 c3 hd
        clear hx
        cases ha : a == k
        · have hn : RowKit.Hid (cm k o = cmL k o (pairs.drop (j + 1))) := Lib.hid (by rw [hd.out, ha]; rfl)
          go_wp2
          go_round
          case rel => exact ⟨j + 1, by omega, by go_num, hn⟩
          case measure => simp [intOf]; omega
        · cases hb : b == o
          · have hn : RowKit.Hid (cm k o = cmL k o (pairs.drop (j + 1))) := Lib.hid (by rw [hd.out, ha, hb]; rfl)
            go_wp2
            go_round
            case rel => exact ⟨j + 1, by omega, by go_num, hn⟩
            case measure => simp [intOf]; omega
          · have hn : RowKit.Hid (cm k o = true) := Lib.hid (by rw [hd.out, ha, hb]; rfl)
            go_wp2
            go_ret
            exact ⟨by rw [hn.out]; rfl, e1⟩
      · obtain rfl : j = 7 := by omega
        have hn : RowKit.Hid (cm k o = false) := Lib.hid (by rw [hc.out]; rfl)
        go_wp2
        go_ret
        exact ⟨by rw [hn.out]; rfl, e1⟩

set_option maxRecDepth 20000 in
set_option maxHeartbeats 4000000 in
theorem refRight_any (r : Rec) (hf : Fits r) (hn1 : r.name.length ≤ 1099511627776) (hp1 : r.par.length ≤ 1099511627776) (w : World) :
    Calls Tryd.prog 72 #[recv r] w fun e w' => e = .returned (.bool (rightI r)) ∧ Ext w w' := by
  have e0 := Ext.refl w
  obtain ⟨k, n, p, u, sv, ur, m, us, ct, f⟩ := r
  obtain ⟨h1, h2, h3, h4, h5⟩ := hf
  simp only at h1 h2 h3 h4 h5 hn1 hp1
  obtain ⟨r, hr⟩ : ∃ r, r = (⟨k, n, p, u, sv, ur, m, us, ct, f⟩ : Rec) := ⟨_, rfl⟩
  have hR : RowKit.Hid (rightI r = (textsI r && numsI r && isI n k && parI k p)) := Lib.hid (by rw [hr]; rfl)
  have hT : RowKit.Hid (textsI r = (decide (u.length ≤ 32) && decide (sv.length ≤ 100) && decide (ur.length ≤ 100))) := Lib.hid (by rw [hr]; rfl)
  have hN : RowKit.Hid (numsI r = (decide (0 ≤ m) && decide (m ≤ us) && decide (us ≤ 1099511627776) && decide (0 ≤ ct) && decide (ct ≤ 255))) := Lib.hid (by rw [hr]; rfl)
  have hI : RowKit.Hid (isI n k = (Tk.pok n && (Tk.pk n == k))) := Lib.hid (by unfold isI; rfl)
  have hP : RowKit.Hid (parI k p = if p = [] then cm k 0 else Tk.pok p && cm k (Tk.pk p)) := Lib.hid (by unfold parI; rfl)
  have hP0 : RowKit.Hid (p = [] → Tk.pk p = 0 ∧ Tk.pok p = false) := Lib.hid (by rintro rfl; unfold Tk.pk Tk.pok; decide)
  rw [← hr]
  unfold recv
  rw [hr]
  simp only
  rw [← hr]
  clear hr
  go_enter Tryd.func72, Tryd.ntmps72
  have e1 := (Ext.refl w).alloc (.cells #[.int .i64 k, .string (str n), .string (str p), .string (str u), .string (str sv), .string (str ur), .int .i64 m, .int .i64 us, .int .i64 ct, .bool f] 36)
  go_upto_region 2 with (go_at_call 89; refine (refParse_any _ hn1 _).mono ?_; rintro e w' ⟨rfl, rfl⟩)
  go_cut [3, 5, 41] (fun a b t wd => t = .bool (!(isI n k && textsI r)) ∧ w.alloc (.cells #[.int .i64 k, .string (str n), .string (str p), .string (str u), .string (str sv), .string (str ur), .int .i64 m, .int .i64 us, .int .i64 ct, .bool f] 36) = wd)
  case first =>
    cases hok : Tk.pok n
    · go_wp2
      go_meet
      case rel => exact ⟨by rw [hI.out, hok]; rfl, rfl⟩
    · cases hk : Tk.pk n == k
      · have hne : (Tk.pk n != k) = true := by rw [bne, hk]; rfl
        go_wp2
        go_meet
        case rel => exact ⟨by rw [hI.out, hok, hk]; rfl, rfl⟩
      · have hne : (Tk.pk n != k) = false := by rw [bne, hk]; rfl
        go_wp2
        all_goals
          go_meet
          case rel =>
            refine ⟨?_, rfl⟩
            rw [hI.out, hok, hk, hT.out, Value.bool.injEq, Bool.eq_iff_iff]
            simp <;> omega
  case rest =>
    obtain ⟨rfl, rfl⟩ := hcut
    cases hA : (isI n k && textsI r)
    · go_wp2
      go_ret
      exact ⟨by rw [hR.out]; revert hA; cases isI n k <;> cases textsI r <;> simp, e1⟩
    · go_upto_region 4 with fail
      go_cut [66] (fun t wd => t = .bool (!(numsI r)) ∧ w.alloc (.cells #[.int .i64 k, .string (str n), .string (str p), .string (str u), .string (str sv), .string (str ur), .int .i64 m, .int .i64 us, .int .i64 ct, .bool f] 36) = wd)
      case first =>
        go_wp2
        all_goals
          go_meet
          case rel =>
            refine ⟨?_, rfl⟩
            rw [hN.out, Value.bool.injEq, Bool.eq_iff_iff]
            simp <;> omega
      case rest =>
        obtain ⟨rfl, rfl⟩ := hcut
        have hA1 : isI n k = true := by revert hA; cases isI n k <;> simp
        have hA2 : textsI r = true := by revert hA; cases textsI r <;> simp
        cases hNr : numsI r
        · go_wp2
          go_ret
          exact ⟨by rw [hR.out, hNr, hA2]; rfl, e1⟩
        · have hR2 : RowKit.Hid (rightI r = parI k p) := Lib.hid (by rw [hR.out, hNr, hA1, hA2]; rfl)
          have hc := fun W => refComes_any k (Tk.pk p) W
          by_cases hp0 : p = []
          · obtain ⟨z1, z2⟩ := hP0.out hp0
            have hq : seq p [] = true := seq_true.2 hp0
            have hPP : RowKit.Hid (parI k p = cm k 0) := Lib.hid (by rw [hP.out, if_pos hp0])
            rw [z1] at hc
            subst hp0
            go_wp2_with (first
              | (go_at_call 89; refine (refParse_any _ hp1 _).mono ?_; rintro e w' ⟨rfl, rfl⟩)
              | (go_at_call 90; refine (hc _).mono ?_; rintro e w' ⟨rfl, h⟩; have e1 := e1.trans h))
            go_ret
            exact ⟨by rw [hR2.out, hPP.out]; rfl, e1⟩
          · have hq : seq p [] = false := seq_false.2 hp0
            cases hok : Tk.pok p
            · have hPP : RowKit.Hid (parI k p = false) := Lib.hid (by rw [hP.out, if_neg hp0, hok]; rfl)
              go_wp2_with (first
                | (go_at_call 89; refine (refParse_any _ hp1 _).mono ?_; rintro e w' ⟨rfl, rfl⟩)
                | (go_at_call 90; refine (hc _).mono ?_; rintro e w' ⟨rfl, h⟩; have e1 := e1.trans h))
              go_ret
              exact ⟨by rw [hR2.out, hPP.out]; rfl, e1⟩
            · have hPP : RowKit.Hid (parI k p = cm k (Tk.pk p)) := Lib.hid (by rw [hP.out, if_neg hp0, hok]; rfl)
              go_wp2_with (first
                | (go_at_call 89; refine (refParse_any _ hp1 _).mono ?_; rintro e w' ⟨rfl, rfl⟩)
                | (go_at_call 90; refine (hc _).mono ?_; rintro e w' ⟨rfl, h⟩; have e1 := e1.trans h))
              go_ret
              exact ⟨by rw [hR2.out, hPP.out]; rfl, e1⟩
end Go.Proofs.YtmdepmohfnficaaDoor
