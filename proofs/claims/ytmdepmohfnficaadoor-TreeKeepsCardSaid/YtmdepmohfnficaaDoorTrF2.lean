/- Package tree: Load. -/
import Derived.Test.YtmdepmohfnficaaDoorTrF1
namespace Go.Proofs.YtmdepmohfnficaaDoor
set_option linter.unusedVariables false
set_option linter.unusedSimpArgs false
open Go.ChangeShapes Go.WideShapes Go.ChangeAt Go.RowKit Rk Tr

set_option maxRecDepth 20000
def prc (x : Pr) : List Value := [.string (str x.n), .string (str x.v)]
theorem prc_one (x : Pr) : (prc x).toArray.all (·.oneCell') = true := by simp [prc, Value.oneCell']
theorem prc_size (x : Pr) : (prc x).toArray.size = 2 := rfl
def prF (x : Pr) : Prop := x.n.length ≤ 9223372036854775807 ∧ x.v.length ≤ 9223372036854775807
/-- keys and values, side by side, as they are read -/
def Prs (w : World) (v : Value) (l : List Pr) : Prop := Rw 2 (fun x cs => cs = prc x ∧ prF x) w v l
theorem Prs.ext {w w' : World} {v : Value} {l : List Pr} (h : Prs w v l) (e : Ext w w') : Prs w' v l := Rw.ext h e fun _ _ _ h => h
theorem cellsPr : Tryd.prog.cellsOf 76 = 2 := by kernel_rfl
theorem info_pair : (Tryd.prog.info? 76).map (·.size) = some 2 := by kernel_rfl
section
variable {H : Type} {enc : TypeId × Value → H} {W : World} {base : Nat} {v : Value} {d : DataW H} {p : List MemPlace} {x : DataW H × List MemPlace}
theorem pair_of {n : Nat} {cs : List Value} (hl : cs.length = 2) (hf : DataW.trod enc Tryd.prog W 0 (fun _ => true) true n 76 cs = some x) : ∃ y : Pr, cs = prc y ∧ prF y := by
  obtain ⟨xs, m, _, _, -, hn, h⟩ := DataW.trod_struct Tryd.underlying76 hf
  match cs, hl with
  | [c0, c1], _ =>
    have hn2 : xs.length = 2 := hn
    match xs, hn2 with
    | [y0, y1], _ =>
      have h0 : DataW.trod enc Tryd.prog W 0 (fun _ => true) true m 9 (([c0, c1].drop 0).take (Tryd.prog.cellsOf 9)) = [y0, y1][0]? := h 0 _ rfl
      have h1 : DataW.trod enc Tryd.prog W 0 (fun _ => true) true m 9 (([c0, c1].drop 1).take (Tryd.prog.cellsOf 9)) = [y0, y1][1]? := h 1 _ rfl
      simp only [cellsTS, List.drop_zero, List.drop_succ_cons, List.take_succ_cons, List.take_zero, List.getElem?_cons_zero, List.getElem?_cons_succ] at h0 h1
      obtain ⟨a, ha, rfl⟩ := strT_of h0
      obtain ⟨b, hb, rfl⟩ := strT_of h1
      exact ⟨⟨a, b⟩, rfl, ha, hb⟩
theorem open_prs (hval : Value.okWide Tryd.prog W .any base 74 v) (h : DataW.Trod enc Tryd.prog W 0 (fun _ => true) true 74 v d p) : ∃ l, Prs W v l :=
  let ⟨_, _, hf⟩ := okw_slice Tryd.underlying74 hval h
  rows_of Tryd.underlying74 cellsPr (by decide) (fun _ _ _ hl h => pair_of hl h) hf
end
/-- how many elements the slice has that lies in a block's second cell -/
def lenAt (w : World) (p : Nat) : Nat := match w.cell? ⟨p, 1, none⟩ with
  | some (.slice _ n _) => n
  | _ => 0
theorem lenAt_eq {T : TypeId} {w : World} {F : Nat → Prop} {p room : Nat} {l : List Rec} (h : TrM T w F p room l) : lenAt w p = l.length := by
  obtain ⟨a, cap, -, c, -⟩ := h.parts
  unfold lenAt
  rw [c]
namespace Tr
theorem loopP_none {room : Nat} {ps : List Pr} {t : List Rec} (h : t.length < ps.length) (hr : rndP room ps t = none) : loopP room ps t = none := by
  rw [loopP, dif_pos h, hr]
theorem loopP_some {room : Nat} {ps : List Pr} {t u : List Rec} (h : t.length < ps.length) (hr : rndP room ps t = some u) : loopP room ps t = if t.length < u.length then loopP room ps u else none := by
  rw [loopP, dif_pos h, hr]
  dsimp only
  split <;> rfl
theorem loopP_done {room : Nat} {ps : List Pr} {t : List Rec} (h : ¬ t.length < ps.length) : loopP room ps t = some t := by rw [loopP, dif_neg h]
theorem rndP_step {room : Nat} {ps : List Pr} {j : Nat} {p : Pr} (hp : ps[j]? = some p) (u : List Rec) : rndP room (ps.drop j) u = if pE p ≠ 0 then none else if addE room u (pR p) = 5 then none else rndP room (ps.drop (j + 1)) (addL room u (pR p)) := by
  have hj := (List.getElem?_eq_some_iff.1 hp).1
  rw [List.drop_eq_getElem_cons hj, (List.getElem?_eq_some_iff.1 hp).2, rndP]
theorem St.add {room : Nat} {l : List Rec} (h : St room l) (r : Rec) : St room (addL room l r) := ⟨okAdd h.ok _ _, addL_len _ _ _ h.len, h.few⟩
end Tr
theorem dec_fits {name s : List UInt8} (h : decE name s = 0) : Fits (decR name s) := by
  have R := (right_iff _).1 (dec_ok h).2.1
  have hi := R.is
  unfold isI at hi
  simp only [Bool.and_eq_true] at hi
  have := pok_len hi.1
  have := R.parl
  have := R.user
  have := R.serv
  have := R.url
  unfold Fits
  omega
attribute [local irreducible] rcells rndP
set_option maxHeartbeats 4000000 in
theorem load_any (z : Int) (v : Value) (ps : List Pr) (w : World) (h : Prs w v ps) (hsz : ∀ p ∈ ps, p.n.length ≤ 1000 ∧ p.v.length ≤ 1000) (hw : Pres w) :
    Calls Tryd.prog 46 #[.int .i64 z, v] w fun e w' => (∃ (t : List Rec) (p : Nat), loopP (roomN z) ps [] = some t ∧ e = .returned (.tuple #[.pointer (some ⟨p, 0, none⟩), .int .i64 0]) ∧ TrB w w' p (roomN z) t) ∨ (loopP (roomN z) ps [] = none ∧ e = .returned (.tuple #[.pointer none, .int .i64 8]) ∧ Ext w w') := by
  obtain ⟨a, cap, rfl, hlm, hget⟩ := Rw.shape h
  have hgh := Lib.hid hget
  have hszh := Lib.hid hsz
  have hwh := Lib.hid hw
  have hn := new_any z w
  have hroom := Lib.hid (roomN_le z)
  clear h hget hsz hw
  go_enter Tryd.func46, Tryd.ntmps46
  go_wp2_with (go_at_call 36; refine hn.mono ?_; rintro e w1 ⟨_, rfl, rfl, h1, e1⟩)
  have hb : RowKit.Hid (TrB w w1 w.heap.size (roomN z) []) := Lib.hid ⟨h1.mono fun k hk => by omega, e1⟩
  obtain ⟨room, hro⟩ : ∃ room, room = roomN z := ⟨_, rfl⟩
  rw [← hro] at hb hroom
  have hroh := Lib.hid hro
  obtain ⟨P, hP⟩ : ∃ P, P = w.heap.size := ⟨_, rfl⟩
  rw [← hP] at hb ⊢
  clear hn h1 e1 hro hP
  go_loopw [7] (fun _ wr => ∃ T : List Rec, RowKit.Hid (loopP room ps [] = loopP room ps T) ∧ RowKit.Hid (St room T) ∧ RowKit.Hid (TrB w wr P room T)) (fun _ wr => ps.length - lenAt wr P)
  case atStart => exact ⟨[], Lib.hid rfl, Lib.hid (St.nil hroom.out), hb⟩
  case round =>
    obtain ⟨T, hT, hSt, ht⟩ := hrel
    clear hb
    have hla := Lib.hid (lenAt_eq ht.out.1)
    obtain ⟨aT, capT, -, cT, -⟩ := ht.out.1.parts
    by_cases hlt : T.length < ps.length
    · have hli : (T.length : Int) < (ps.length : Int) := by omega
      obtain ⟨WO, rfl⟩ : ∃ W, W = wr := ⟨_, rfl⟩
      have hq0 : RowKit.Hid (rndP room ps T = rndP room (ps.drop 0) T) := Lib.hid (by rw [List.drop_zero])
      go_wp2
      go_loopw [29] (fun i wq => ∃ (j : Nat) (U : List Rec), j ≤ ps.length ∧ i = .int .i64 (j : Int) ∧ RowKit.Hid (rndP room ps T = rndP room (ps.drop j) U) ∧ RowKit.Hid (St room U) ∧ RowKit.Hid (TrB w wq P room U)) (fun i _ => ps.length - (intOf i).toNat)
      case atStart => exact ⟨0, T, Nat.zero_le _, rfl, hq0, hSt, ht⟩
      case round =>
        obtain ⟨j, U, hj, rfl, hq, hSu, hu⟩ := hrel
        clear hq0 ht hSt cT
        by_cases hjl : j < ps.length
        · obtain ⟨x, hx⟩ := some_at hjl
          obtain ⟨g, o, cs, rfl, hr, rfl, hfx⟩ := hgh.out j x hx
          have hji : (j : Int) < (ps.length : Int) := by omega
          have hwj : IntKind.i64.wrap ((j : Int) + 1) = (j : Int) + 1 := by rw [IntKind.wrap_i64]; omega
          have hr2 : wr.rangeAt g (o + j * 2) (prc x) := fun i u hu' => hu.out.2.cell (hr i u hu')
          have hxl := hszh.out x (List.mem_of_getElem? hx)
          have hrs := Lib.hid (rndP_step (room := room) hx U)
          clear hr hx
          go_upto_region 7 with (first
            | (refine wpList_load_mid rfl 76 _ rfl g (o + j * 2) rfl (prc x) _ hr2 Tryd.underlying76 rfl info_pair ?_)
            | (refine wpList_store_new wr rfl 76 _ _ rfl (prc x).toArray _ rfl rfl rfl 2 info_pair (prc_size x) rfl (prc_one x) ?_))
          have hB := heap_alloc_new wr (.cells (prc x).toArray 76)
          have k0 := cell_at hB 0 (u := .string (str x.n)) rfl
          have k1 := cell_at hB 1 (u := .string (str x.v)) rfl
          have hu2 := Lib.hid (hu.out.ext ((Ext.refl wr).alloc (.cells (prc x).toArray 76)))
          generalize wr.alloc (.cells (prc x).toArray 76) = W2 at *
          generalize wr.heap.size = B2 at *
          have hD := decode_r x.n x.v hxl.1 hxl.2 W2 (hwh.out.ext hu2.out.2)
          have hEx : pE x = decE x.n x.v := rfl
          have hRx : pR x = decR x.n x.v := rfl
          rw [← hEx, ← hRx] at hD
          have hfit := Lib.hid (fun h : pE x = 0 => (dec_fits h : Fits (pR x)))
          have hEc := decE_cases x.n x.v
          rw [← hEx] at hEc
          clear hEx hRx hB hu hr2
          go_upto_region 8 with (first
            | (go_at_call 73; refine hD.mono ?_; rintro e W3 ⟨rfl, e3⟩)
            | (refine wpList_store_new W3 rfl 36 _ _ rfl (rcells (pR x)) _ rfl rfl rfl 10 info_rec (rc_ten _) rfl (rc_one _) ?_))
          have hB3 := heap_alloc_new W3 (.cells (rcells (pR x)) 36)
          have hu4 := Lib.hid (hu2.out.ext (e3.trans ((Ext.refl W3).alloc (.cells (rcells (pR x)) 36))))
          generalize W3.alloc (.cells (rcells (pR x)) 36) = W4 at *
          generalize W3.heap.size = B3 at *
          clear hD k0 k1 hu2 e3
          rcases hEc with hE | hE
          · have hA := add_any (pR x) hu4.out.1 (hfit.out hE) (hwh.out.ext hu4.out.2) (by have := hSu.out.small; omega)
            have hrs2 := hrs.out
            rw [if_neg (by rw [hE]; simp)] at hrs2
            by_cases h5 : addE room U (pR x) = 5
            · rw [if_pos h5] at hrs2
              have hno := Lib.hid (hT.out.trans (loopP_none hlt (hq.out.trans hrs2)))
              rw [h5] at hA
              rw [hE]
              clear hrs hrs2 hq
              go_wp2_with (first
                | (refine wpList_load_row rfl 36 _ rfl B3 rfl 36 (rcells (pR x)) (0, 0) _ hB3 Tryd.underlying36 rfl (rc_sz _) ?_)
                | (go_at_call 57; refine hA.mono ?_; rintro e W5 ⟨rfl, t5, g5⟩))
              go_ret2
              exact .inr ⟨by rw [← hroh.out]; exact hno.out, rfl, hu4.out.2.chg g5 fun _ h => h⟩
            · rw [if_neg h5] at hrs2
              have hq2 := Lib.hid (hq.out.trans hrs2)
              have hS2 := Lib.hid (hSu.out.add (pR x))
              have h5' : (addE room U (pR x) == 5) = false := by rw [beq_eq_false_iff_ne]; exact h5
              rw [hE]
              clear hrs hrs2 hq
              go_wp2_with (first
                | (refine wpList_load_row rfl 36 _ rfl B3 rfl 36 (rcells (pR x)) (0, 0) _ hB3 Tryd.underlying36 rfl (rc_sz _) ?_)
                | (go_at_call 57; refine hA.mono ?_; rintro e W5 ⟨rfl, t5, g5⟩))
              go_roundw
              case rel => exact ⟨j + 1, _, by omega, by go_num, hq2, hS2, Lib.hid (hu4.out.chg t5 g5)⟩
              case measure => simp [intOf]; omega
          · have hrs2 := hrs.out
            rw [if_pos (by rw [hE]; simp)] at hrs2
            have hno := Lib.hid (hT.out.trans (loopP_none hlt (hq.out.trans hrs2)))
            rw [hE]
            clear hrs hrs2 hq
            go_wp2
            go_ret2
            exact .inr ⟨by rw [← hroh.out]; exact hno.out, rfl, hu4.out.2⟩
        · obtain rfl : j = ps.length := by omega
          have hq2 := hq.out
          rw [List.drop_length, show rndP room [] U = some U by unfold rndP; rfl] at hq2
          have hle := rndP_le hq2
          have hls := Lib.hid (loopP_some hlt hq2)
          obtain ⟨aU, capU, -, cU, -⟩ := hu.out.1.parts
          have hlu := Lib.hid (lenAt_eq hu.out.1)
          by_cases hgr : T.length < U.length
          · have hT2 := Lib.hid (hT.out.trans (hls.out.trans (if_pos hgr)))
            have hne : ((U.length : Int) == (T.length : Int)) = false := by rw [beq_eq_false_iff_ne]; omega
            clear hq hq2 hls
            go_wp2
            go_roundw
            case rel => exact ⟨U, hT2, hSu, hu⟩
            case measure => rw [hla.out, hlu.out]; omega
          · have hno := Lib.hid (hT.out.trans (hls.out.trans (if_neg hgr)))
            have hne : ((U.length : Int) == (T.length : Int)) = true := by rw [beq_iff_eq]; omega
            clear hq hq2 hls
            go_wp2
            go_ret2
            exact .inr ⟨by rw [← hroh.out]; exact hno.out, rfl, hu.out.2⟩
    · have hli : ¬ (T.length : Int) < (ps.length : Int) := by omega
      have hdn := Lib.hid (hT.out.trans (loopP_done hlt))
      go_wp2
      go_ret2
      exact .inl ⟨T, by rw [← hroh.out]; exact hdn.out, P, rfl, by rw [← hroh.out]; exact ht.out⟩
end Go.Proofs.YtmdepmohfnficaaDoor
