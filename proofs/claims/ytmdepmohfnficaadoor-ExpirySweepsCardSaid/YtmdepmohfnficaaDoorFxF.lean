/- Package expiry: Alive, and which ones are dead. -/
import Derived.Test.YtmdepmohfnficaaDoorFxE
namespace Go.Proofs.YtmdepmohfnficaaDoor
set_option linter.unusedVariables false
set_option linter.unusedSimpArgs false
open Go.RowKit Rk Tr

namespace Tr
def holdsI (k : Int) : Bool := k == 1 || k == 4
def offI (l : List Rec) (f : Nat → Int) (now : Int) (n m : List UInt8) : Bool := (seq m n || holdsI (getR l m).kind) && !liveI f (getR l m) now
/-- does one live, and what it came of? -/
def aliveI (l : List Rec) (f : Nat → Int) (now : Int) (n : List UInt8) : Bool := (path l n).all (fun m => !offI l f now n m) && decide (0 < (path l n).length)
def waitsI (r : Rec) : Bool := r.kind == 2 || r.kind == 3
def deadI (l : List Rec) (f : Nat → Int) (now : Int) (n : List UInt8) : Bool := !liveI f (getR l n) now && (!waitsI (getR l n) || ((getR l n).uses == 0 && decide ((kids l n).length = 0)))
def topI (l : List Rec) (f : Nat → Int) (now : Int) (n : List UInt8) : Bool := deadI l f now n && !((path l n).tail.any (deadI l f now))
def sweepI (l : List Rec) (f : Nat → Int) (now : Int) : List (List UInt8) := (l.filter fun r => topI l f now r.name).map (·.name)
/-- times that can be -/
structure Bnd (r : Rec) : Prop where
  m1 : -2305843009213693952 ≤ r.made
  m2 : r.made ≤ 2305843009213693952
  u1 : -2305843009213693952 ≤ r.used
  u2 : r.used ≤ 2305843009213693952
theorem right_bnd {r : Rec} (h : rightI r = true) : Bnd r := by
  have R := (right_iff r).1 h
  have := R.made
  have := R.used
  have := R.last
  exact ⟨by omega, by omega, by omega, by omega⟩
theorem getR_bnd {l : List Rec} (h : Ok l) (n : List UInt8) : Bnd (getR l n) := by
  unfold getR
  cases hx : ix l n with
  | none =>
    show Bnd zero
    exact ⟨by decide, by decide, by decide, by decide⟩
  | some i =>
    obtain ⟨r, h1, -⟩ := ix_some hx
    dsimp only
    rw [getD_at h1]
    exact right_bnd (h.right r (List.mem_of_getElem? h1))
theorem alive_no {l : List Rec} {f : Nat → Int} {now : Int} {n m : List UInt8} (h : m ∈ path l n) (ho : offI l f now n m = true) : aliveI l f now n = false := by
  unfold aliveI
  have : (path l n).all (fun m => !offI l f now n m) = false := List.all_eq_false.2 ⟨m, h, by simp [ho]⟩
  rw [this]; rfl
theorem alive_end {l : List Rec} {f : Nat → Int} {now : Int} {n : List UInt8} (h : ∀ j m, j < (path l n).length → (path l n)[j]? = some m → offI l f now n m = false) : aliveI l f now n = decide (0 < (path l n).length) := by
  unfold aliveI
  have : (path l n).all (fun m => !offI l f now n m) = true := List.all_eq_true.2 fun m hm => by
    obtain ⟨j, hj⟩ := List.getElem?_of_mem hm
    rw [h j m (List.getElem?_eq_some_iff.1 hj).1 hj]; rfl
  rw [this, Bool.true_and]
end Tr
theorem holds_any (k : Int) (w : World) : Calls Tryd.prog 59 #[.int .i64 k] w fun e w' => e = .returned (.bool (holdsI k)) ∧ w = w' := by
  by_cases h : k = 1
  · have q : (k == 1) = true := by rw [beq_iff_eq]; exact h
    have hh := Lib.hid (show holdsI k = true from by unfold holdsI; rw [q]; rfl)
    clear h
    go_enter Tryd.func59, Tryd.ntmps59
    go_wp2
    go_ret
    exact ⟨by rw [hh.out]; rfl, rfl⟩
  · have q : (k == 1) = false := by rw [beq_eq_false_iff_ne]; exact h
    have hh := Lib.hid (show holdsI k = (k == 4) from by unfold holdsI; rw [q]; rfl)
    clear h
    go_enter Tryd.func59, Tryd.ntmps59
    go_wp2
    go_ret
    exact ⟨by rw [hh.out]; rfl, rfl⟩
theorem pc_sz (f : Nat → Int) : (Tryd.prog.info? 25).map (·.size) = some (pcA f).size := by rw [pcA_size]; exact info_pol
theorem tm_bnd {now : Int} (h : tmI now = true) : -2305843009213693952 ≤ now ∧ now ≤ 2305843009213693952 := by
  unfold tmI at h
  rw [Bool.and_eq_true, decide_eq_true_iff, decide_eq_true_iff] at h
  omega
theorem liveB_any (f : Nat → Int) (r : Rec) (now : Int) (ht : tmI now = true) (hb : Bnd r) (w : World) :
    Calls Tryd.prog 17 #[.agg (pcA f), .agg (rcells r), .int .i64 now] w fun e w' => e = .returned (.bool (liveI f r now)) ∧ Ext w w' :=
  live_any f r now (tm_bnd ht).1 (tm_bnd ht).2 hb.m1 hb.m2 hb.u1 hb.u2 w
attribute [local irreducible] pcA rcells liveI holdsI offI aliveI
set_option maxRecDepth 20000 in
set_option maxHeartbeats 4000000 in
theorem alive_any {F : Nat → Prop} {p room : Nat} {l : List Rec} (f : Nat → Int) (n : List UInt8) (now : Int) {w : World} (h : TrM 96 w F p room l) (hok : Ok l) (hl : l.length ≤ 64) (ht : tmI now = true) :
    Calls Tryd.prog 18 #[.pointer (some ⟨p, 0, none⟩), .agg (pcA f), .string (str n), .int .i64 now] w fun e w' => e = .returned (.bool (aliveI l f now n)) ∧ Ext w w' := by
  have e1 := (Ext.refl w).alloc (.cells (pcA f) 25)
  have hB := heap_alloc_new w (.cells (pcA f) 25)
  have h1 := h.ext e1
  have hP := path_any n h1 hok (by omega)
  have hG := Lib.hid (fun m W (e : Ext w W) => get_any m (h.ext e))
  have hbn := Lib.hid (fun m => getR_bnd hok m)
  have hno := Lib.hid (fun m => alive_no (l := l) (f := f) (now := now) (n := n) (m := m))
  have hen := Lib.hid (alive_end (l := l) (f := f) (now := now) (n := n))
  have hof := Lib.hid (fun m => (show offI l f now n m = ((seq m n || holdsI (getR l m).kind) && !liveI f (getR l m) now) from by unfold offI; rfl))
  have hpl := Lib.hid (Nat.le_trans (path_le hok n) hl)
  have e1h := Lib.hid e1
  have hBh := Lib.hid hB
  clear h h1 hB e1 hok
  go_enter Tryd.func18, Tryd.ntmps18
  go_upto_region 2 with (go_at_call 35; refine hP.mono ?_; rintro e w2 ⟨_, rfl, o2, e2⟩)
  obtain ⟨a2, c2, rfl, hp2⟩ := o2.sl
  have hgh := Lib.hid hp2.cells
  have hB2 := Lib.hid (e2.heap hBh.out)
  have e02 := Lib.hid (e1h.out.trans e2)
  generalize hPl : path l n = P at *
  clear hP o2 hp2 e2 e1h hBh hPl
  go_wp2
  go_loopw [19] (fun i wr => ∃ j : Nat, j ≤ P.length ∧ i = .int .i64 (j : Int) ∧ RowKit.Hid (∀ q m, q < j → P[q]? = some m → offI l f now n m = false) ∧ Ext w2 wr) (fun i _ => P.length - (intOf i).toNat)
  case atStart => exact ⟨0, Nat.zero_le _, rfl, Lib.hid fun q m h => by omega, Ext.refl _⟩
  case round =>
    obtain ⟨j, hj, rfl, hq, ej⟩ := hrel
    by_cases hlt : j < P.length
    · obtain ⟨m, hm⟩ := some_at hlt
      obtain ⟨g, o, rfl, k0⟩ := hgh.out j m hm
      have k1 := ej.cell k0
      unfold sv at k1
      have hji : (j : Int) < (P.length : Int) := by omega
      have hw : IntKind.i64.wrap ((j : Int) + 1) = (j : Int) + 1 := by have := hpl.out; rw [IntKind.wrap_i64]; omega
      have hGm := hG.out m wr (e02.out.trans ej)
      have hb := hbn.out m
      have hof2 := hof.out m
      have hnom := Lib.hid (hno.out m (List.mem_of_getElem? hm))
      have hnx := Lib.hid (fun h => (fun q y hqj hy => if e : q = j then by subst e; rw [hm] at hy; cases hy; exact h else hq.out q y (by omega) hy) : offI l f now n m = false → ∀ q y, q < j + 1 → P[q]? = some y → offI l f now n y = false)
      clear k0 hm hq
      generalize getR l m = R at *
      have hLv := Lib.hid (fun W => liveB_any f R now ht hb W)
      have hHo := Lib.hid (fun W => holds_any R.kind W)
      have hofh := Lib.hid hof2
      clear hof2 hb
      go_upto_region 6 with (first
        | (go_at_call 41; refine hGm.mono ?_; rintro e w3 ⟨rfl, e3⟩)
        | (refine wpList_store_new w3 rfl 36 _ _ rfl (rcells R) _ rfl rfl rfl 10 info_rec (rc_ten R) rfl (rc_one R) ?_))
      have hb4 := heap_alloc_new w3 (.cells (rcells R) 36)
      have e24 := (ej.trans e3).alloc (.cells (rcells R) 36)
      generalize w3.alloc (.cells (rcells R) 36) = w4 at *
      generalize w3.heap.size = B4 at *
      have kk := cell_at hb4 0 (rc_t R).1
      have hp4 := e24.heap hB2.out
      clear hGm k1 ej e3
      go_cut [43] (fun b wd => b = .bool (offI l f now n m) ∧ Ext w4 wd)
      case first =>
        cases hs : seq m n
        · cases hh : holdsI R.kind
          · rw [hh] at hHo
            have hF := Lib.hid (hofh.out.trans (by rw [hs, hh]; rfl : _ = false))
            go_wp2_with (first
              | (go_at_call 59; refine (hHo.out _).mono ?_; rintro e w' ⟨rfl, rfl⟩))
            go_meet
            exact ⟨by rw [hF.out], Ext.refl _⟩
          · rw [hh] at hHo
            have hF := Lib.hid (hofh.out.trans (by rw [hs, hh]; rfl : _ = !liveI f R now))
            go_wp2_with (first
              | (go_at_call 59; refine (hHo.out _).mono ?_; rintro e w' ⟨rfl, rfl⟩)
              | (refine wpList_load_rowG (by rfl) 25 _ rfl w.heap.size rfl 25 (pcA f) (0, 0) _ hp4 Tryd.underlying25 rfl (pc_sz f) ?_)
              | (refine wpList_load_rowG (by rfl) 36 _ rfl B4 rfl 36 (rcells R) (0, 0) _ hb4 Tryd.underlying36 rfl (rc_sz R) ?_)
              | (go_at_call 17; refine (hLv.out _).mono ?_; rintro e w5 ⟨rfl, e5⟩))
            go_meet
            exact ⟨by rw [hF.out], e5⟩
        · have hF := Lib.hid (hofh.out.trans (by rw [hs]; rfl : _ = !liveI f R now))
          go_wp2_with (first
            | (refine wpList_load_rowG (by rfl) 25 _ rfl w.heap.size rfl 25 (pcA f) (0, 0) _ hp4 Tryd.underlying25 rfl (pc_sz f) ?_)
            | (refine wpList_load_rowG (by rfl) 36 _ rfl B4 rfl 36 (rcells R) (0, 0) _ hb4 Tryd.underlying36 rfl (rc_sz R) ?_)
            | (go_at_call 17; refine (hLv.out _).mono ?_; rintro e w5 ⟨rfl, e5⟩))
          go_meet
          exact ⟨by rw [hF.out], e5⟩
      case rest =>
        obtain ⟨rfl, e5⟩ := hcut
        have e25 := e24.trans e5
        clear hb4 kk hp4 hLv hHo hofh e24 e5
        cases hO : offI l f now n m
        · have hnx2 := Lib.hid (hnx.out hO)
          clear hnx hnom
          go_wp2
          go_roundw
          case rel => exact ⟨j + 1, by omega, by go_num, Lib.hid hnx2.out, e25⟩
          case measure => simp [intOf]; omega
        · have hF := Lib.hid (hnom.out hO)
          clear hnx hnom
          go_wp2
          go_ret
          exact ⟨by rw [hF.out]; rfl, e02.out.trans e25⟩
    · obtain rfl : j = P.length := by omega
      have hE := Lib.hid (hen.out hq.out)
      clear hen hq
      go_wp2
      go_ret
      exact ⟨by rw [hE.out]; rfl, e02.out.trans ej⟩
end Go.Proofs.YtmdepmohfnficaaDoor
