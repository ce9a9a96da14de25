/- The chapter's example, walked. -/
import Derived.Test.YtmdepmohfnficaaDoorTrQ
namespace Go.Proofs.YtmdepmohfnficaaDoor
open Go.RowKit Rk Tr

theorem name14_any (K : Int) (x : BitVec 64) (w : World) :
    Calls Tryd.prog 33 #[.int .i64 K, .int .u64 (V x)] w fun e w' => e = .returned (.string (str (Tk.nameI K x.toNat))) ∧ w = w' := by
  have hN := refName_any K x w
  go_enter Tryd.func33, Tryd.ntmps33
  go_wp2_with (go_at_call 53; refine hN.mono ?_; rintro e w' ⟨rfl, rfl⟩)
  go_ret
  exact ⟨rfl, rfl⟩
def nmA : List UInt8 := Tk.nameI 1 (1#64).toNat
def nmB : List UInt8 := Tk.nameI 2 (2#64).toNat
def nmC : List UInt8 := Tk.nameI 2 (3#64).toNat
def nmD : List UInt8 := Tk.nameI 4 (4#64).toNat
def rcA : Rec := ⟨1, nmA, [], [], [], [], 0, 0, 0, false⟩
def rcB : Rec := ⟨2, nmB, nmA, [], [], [], 0, 0, 0, false⟩
def rcC : Rec := ⟨2, nmC, nmA, [], [], [], 0, 0, 0, false⟩
def rcD : Rec := ⟨4, nmD, nmB, [], [], [], 0, 0, 0, false⟩
theorem nm_A (w : World) : Calls Tryd.prog 33 #[.int .i64 1, .int .u64 1] w fun e w' => e = .returned (.string (str nmA)) ∧ w = w' := name14_any 1 1#64 w
theorem nm_B (w : World) : Calls Tryd.prog 33 #[.int .i64 2, .int .u64 2] w fun e w' => e = .returned (.string (str nmB)) ∧ w = w' := name14_any 2 2#64 w
theorem nm_C (w : World) : Calls Tryd.prog 33 #[.int .i64 2, .int .u64 3] w fun e w' => e = .returned (.string (str nmC)) ∧ w = w' := name14_any 2 3#64 w
theorem nm_D (w : World) : Calls Tryd.prog 33 #[.int .i64 4, .int .u64 4] w fun e w' => e = .returned (.string (str nmD)) ∧ w = w' := name14_any 4 4#64 w
theorem ex_A : addE 9 [] rcA = 0 ∧ addL 9 [] rcA = [rcA] := by decide +kernel
theorem ex_B : addE 9 [rcA] rcB = 0 ∧ addL 9 [rcA] rcB = [rcA, rcB] := by decide +kernel
theorem ex_C : addE 9 [rcA, rcB] rcC = 0 ∧ addL 9 [rcA, rcB] rcC = [rcA, rcB, rcC] := by decide +kernel
theorem ex_D : addE 9 [rcA, rcB, rcC] rcD = 0 ∧ addL 9 [rcA, rcB, rcC] rcD = [rcA, rcB, rcC, rcD] := by decide +kernel
theorem ex_x : below [rcA, rcB, rcC, rcD] nmB = [nmB, nmD] := by decide +kernel
theorem ex_y : (below [rcA, rcB, rcC, rcD] nmA).length = 4 := by decide +kernel
theorem ex_l : (Tr.drop [rcA, rcB, rcC, rcD] nmB).length = 2 := by decide +kernel
theorem ex_t : Tk.teq [nmB, nmD] [nmB, nmD] = true := by decide +kernel
theorem fit_ex : Fits rcA ∧ Fits rcB ∧ Fits rcC ∧ Fits rcD := by unfold Fits; decide +kernel
theorem ok_ex : Ok [rcA, rcB, rcC, rcD] := by
  have a := okAdd Ok.nil 9 rcA
  rw [ex_A.2] at a
  have b := okAdd a 9 rcB
  rw [ex_B.2] at b
  have c := okAdd b 9 rcC
  rw [ex_C.2] at c
  have d := okAdd c 9 rcD
  rw [ex_D.2] at d
  exact d
/-- a record added to a tree in blocks made since w0 -/
theorem add_b {w0 w : World} {p room : Nat} {l : List Rec} (r : Rec) (h : TrB w0 w p room l) (hf : Fits r) (hw : Pres w) (hl : l.length ≤ 1000) {e : Int} {l' : List Rec} (he : addE room l r = e ∧ addL room l r = l') :
    Calls Tryd.prog 57 #[.pointer (some ⟨p, 0, none⟩), .agg #[.int .i64 r.kind, .string (str r.name), .string (str r.par), .string (str r.user), .string (str r.serv), .string (str r.url), .int .i64 r.made, .int .i64 r.used, .int .i64 r.uses, .bool r.fresh]] w fun q w' => q = .returned (.int .i64 e) ∧ TrB w0 w' p room l' := by
  have := add_any r h.1 hf hw hl
  rw [he.1, he.2, rc_lit] at this
  exact this.mono fun q w' ⟨h1, h2, h3⟩ => ⟨h1, h.chg h2 h3⟩
attribute [local irreducible] rcells nmA nmB nmC nmD Tr.drop below
set_option maxRecDepth 20000 in
set_option maxHeartbeats 4000000 in
theorem awake14_any (w : World) (hw : Pres w) :
    Calls Tryd.prog 20 #[] w fun e w' => e = .returned (.bool true) ∧ Ext w w' := by
  have hwh := Lib.hid hw
  have hn := new_any 9 w
  clear hw
  go_enter Tryd.func20, Tryd.ntmps20
  go_upto_region 2 with (go_at_call 36; refine hn.mono ?_; rintro e w1 ⟨_, rfl, rfl, h1, e1⟩)
  have h1 : TrB w w1 w.heap.size 9 [] := ⟨h1.mono fun k hk => by omega, e1⟩
  generalize hP : w.heap.size = P at h1 ⊢
  have A1 := add_b rcA h1 fit_ex.1 (hwh.out.ext h1.2) (by decide) ex_A
  clear hn e1 hP
  go_upto_region 5 with (first
    | (go_at_call 33; refine (nm_A _).mono ?_; rintro e w' ⟨rfl, rfl⟩)
    | (go_at_call 57; refine A1.mono ?_; rintro e w2 ⟨rfl, h2⟩))
  have A2 := add_b rcB h2 fit_ex.2.1 (hwh.out.ext h2.2) (by simp) ex_B
  clear A1 h1
  go_upto_region 6 with (first
    | (go_at_call 33; first | ((with_reducible refine (nm_A _).mono ?_); rintro e w' ⟨rfl, rfl⟩) | ((with_reducible refine (nm_B _).mono ?_); rintro e w' ⟨rfl, rfl⟩))
    | (go_at_call 57; refine A2.mono ?_; rintro e w3 ⟨rfl, h3⟩))
  have A3 := add_b rcC h3 fit_ex.2.2.1 (hwh.out.ext h3.2) (by simp) ex_C
  clear A2 h2
  go_upto_region 7 with (first
    | (go_at_call 33; first | ((with_reducible refine (nm_A _).mono ?_); rintro e w' ⟨rfl, rfl⟩) | ((with_reducible refine (nm_C _).mono ?_); rintro e w' ⟨rfl, rfl⟩))
    | (go_at_call 57; refine A3.mono ?_; rintro e w4 ⟨rfl, h4⟩))
  have A4 := add_b rcD h4 fit_ex.2.2.2 (hwh.out.ext h4.2) (by simp) ex_D
  clear A3 h3
  go_upto_region 8 with (first
    | (go_at_call 33; first | ((with_reducible refine (nm_D _).mono ?_); rintro e w' ⟨rfl, rfl⟩) | ((with_reducible refine (nm_B _).mono ?_); rintro e w' ⟨rfl, rfl⟩))
    | (go_at_call 57; refine A4.mono ?_; rintro e w5 ⟨rfl, h5⟩))
  have hc := copy_any h5.1 (by simp)
  clear A4 h4
  go_upto_region 9 with (go_at_call 23; refine hc.mono ?_; rintro e w6 ⟨_, rfl, q, rfl, hq, e6⟩)
  have h6 := h5.1.lt.ext e6
  have e06 := h5.2.trans e6
  have hd := drop_any nmB h6 ok_ex (by simp) (by rw [ex_x]; simp)
  have hs5 := e6.size
  have hs0 := h5.2.size
  rw [ex_x] at hd
  clear hc h5 e6
  go_upto_region 12 with (first
    | (go_at_call 33; (refine (nm_B _).mono ?_); rintro e w' ⟨rfl, rfl⟩)
    | (go_at_call 32; refine hd.mono ?_; rintro e w7 ⟨_, rfl, hx, ⟨ax, cx, rfl⟩, h7, g7⟩))
  have hq7 := hq.lt.chg g7 (fun k hk _ h => by have := hk.1; have := h.2; omega)
  have e07 := e06.chg g7 (fun k h => h.1)
  have hd2 := drop_any nmA hq7 ok_ex (by simp) (by rw [ex_y]; decide)
  have hs7 := g7.size
  rw [ex_y] at hd2
  clear hd hq g7 e06 h6
  go_upto_region 13 with (first
    | (go_at_call 33; (refine (nm_A _).mono ?_); rintro e w' ⟨rfl, rfl⟩)
    | (go_at_call 32; refine hd2.mono ?_; rintro e w8 ⟨_, rfl, -, ⟨ay, cy, rfl⟩, -, g8⟩))
  have h8 := h7.lt.chg g8 (fun k hk _ h => by have := hk.1; have := h.1; have := h.2; omega)
  have hx8 := (hx.lt.chgB g8 (fun k hk _ h => by have := hk.1; have := h.2; omega)).sl
  have e08 := Lib.hid (e07.chg g8 (fun k h => by have := h.1; omega))
  have hal := Lib.hid (fun W (e : Ext w8 W) => all_any (h8.ext e) (by rw [ex_l]; decide))
  rw [ex_l] at hal
  have ht := Lib.hid (fun W (e : Ext w8 W) v (hv : Sl sv W v [nmB, nmD]) => texts_any _ v _ _ W (hx8.ext e) hv)
  rw [ex_t] at ht
  clear hd2 h7 hx hq7 e07 g8 h8 hx8
  go_wp2_with (first
    | (go_at_call 33; first | ((with_reducible refine (nm_D _).mono ?_); rintro e w' ⟨rfl, rfl⟩) | ((with_reducible refine (nm_B _).mono ?_); rintro e w' ⟨rfl, rfl⟩))
    | (go_at_call 28; refine (ht.out _ ((Ext.refl w8).alloc _) _ (Sl.lit rfl rfl rfl (by decide) (by decide))).mono ?_; rintro e w9 ⟨rfl, e9⟩; have e9 := ((Ext.refl w8).alloc _).trans e9)
    | (go_at_call 25; refine (hal.out _ e9).mono ?_; rintro e w10 ⟨_, rfl, -, ⟨az, cz, rfl⟩, e10⟩))
  go_ret
  exact ⟨rfl, (e08.out.trans e9).trans e10⟩
end Go.Proofs.YtmdepmohfnficaaDoor
