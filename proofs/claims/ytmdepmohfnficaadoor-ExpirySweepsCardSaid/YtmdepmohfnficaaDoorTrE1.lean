/- TreePlays, walked: a round's first half. -/
import Derived.Test.YtmdepmohfnficaaDoorGTd
import Derived.Deep.RegionHeld3
namespace Go.Proofs.YtmdepmohfnficaaDoor
set_option linter.unusedVariables false
set_option linter.unusedSimpArgs false
open Go.RowKit Rk Tr

/-- two trees of the same records side by side: the program's, the document's -/
def Tw (w0 w : World) (p q room : Nat) (l : List Rec) : Prop := ∃ F G : Nat → Prop, TrM 96 w F p room l ∧ TrM 34 w G q room l ∧ (∀ k, F k → w0.heap.size ≤ k) ∧ (∀ k, G k → w0.heap.size ≤ k) ∧ (∀ k, F k → ¬ G k) ∧ Ext w0 w
theorem Tw.ext {w0 w w' : World} {p q room : Nat} {l : List Rec} (h : Tw w0 w p q room l) (e : Ext w w') : Tw w0 w' p q room l :=
  let ⟨F, G, h1, h2, h3, h4, h5, h6⟩ := h
  ⟨F, G, h1.ext e, h2.ext e, h3, h4, h5, h6.trans e⟩
/-- one step of each, one behind the other -/
theorem Tw.step {w0 w w1 w2 : World} {p q room : Nat} {l' : List Rec} {F G : Nat → Prop} (hF : ∀ k, F k → w0.heap.size ≤ k) (hG : ∀ k, G k → w0.heap.size ≤ k) (hFG : ∀ k, F k → ¬ G k) (e : Ext w0 w)
    (t1 : TrM 96 w1 (fun k => (F k ∧ k < w.heap.size) ∨ w.heap.size ≤ k) p room l') (c1 : Chg (fun k => F k ∧ k < w.heap.size) w w1)
    (t2 : TrM 34 w2 (fun k => (G k ∧ k < w.heap.size) ∨ w1.heap.size ≤ k) q room l') (c2 : Chg (fun k => G k ∧ k < w.heap.size) w1 w2) : Tw w0 w2 p q room l' := by
  have z0 := e.size
  have z1 := c1.size
  refine ⟨_, _, t1.lt.chg c2 (fun k hk _ h => ?_), t2, fun k hk => ?_, fun k hk => ?_, fun k hk h => ?_, (e.chg c1 fun k h => hF k h.1).chg c2 fun k h => hG k h.1⟩
  · rcases hk.1 with h1 | h1
    · exact hFG k h1.1 h.1
    · have := h.2; omega
  · rcases hk.1 with h1 | h1
    · exact hF k h1.1
    · omega
  · rcases hk with h1 | h1
    · exact hG k h1.1
    · omega
  · have hk2 := hk.2
    rcases hk.1 with h1 | h1
    · rcases h with h3 | h3
      · exact hFG k h1.1 h3.1
      · have := h1.2; omega
    · rcases h with h3 | h3
      · have := h3.2; omega
      · omega
theorem texts_eq (v u : Value) (l : List (List UInt8)) (w : World) (hb : Sl sv w v l) (hc : Sl sv w u l) :
    Calls Tryd.prog 28 #[v, u] w fun e w' => e = .returned (.bool true) ∧ Ext w w' := by
  have := texts_any v u l l w hb hc
  rw [show Tk.teq l l = true by simp [Tk.teq]] at this
  exact this
theorem rec_neqL (r : Rec) (w : World) : (binOp .neq 36 (.agg #[.int .i64 r.kind, .string (str r.name), .string (str r.par), .string (str r.user), .string (str r.serv), .string (str r.url), .int .i64 r.made, .int .i64 r.used, .int .i64 r.uses, .bool r.fresh]) (.agg #[.int .i64 r.kind, .string (str r.name), .string (str r.par), .string (str r.user), .string (str r.serv), .string (str r.url), .int .i64 r.made, .int .i64 r.used, .int .i64 r.uses, .bool r.fresh])).run Tryd.prog w = .ok (.bool false) w := by
  have := rec_neq r r w
  rw [req_self, rc_lit] at this
  exact this
theorem oc_one (x : Top) : (ocells x).all (·.oneCell') = true := by simp [ocells_lit, Value.oneCell']
theorem oc_size (x : Top) : (ocells x).size = 11 := rfl
theorem oc_sz (x : Top) : (Tryd.prog.info? 52).map (·.size) = some (ocells x).size := info_op
theorem oc_at (x : Top) : (ocells x)[3]? = some (.string (str x.r.par)) := rfl
theorem few_name {x : Rec} (h : fewI x = true) : x.name.length ≤ 60 ∧ x.par.length ≤ 60 := by
  unfold fewI at h
  simp only [Bool.and_eq_true, decide_eq_true_eq] at h
  exact ⟨h.1.1.1.1, h.1.1.1.2⟩
theorem fewT_each {l : List Top} (h : fewT l = true) {j : Nat} {x : Top} (hx : l[j]? = some x) : fewI x.r = true := by
  cases e : fewI x.r
  · rw [fewT_no hx e] at h; cases h
  · rfl
attribute [local irreducible] rcells ocells fewI runL
set_option maxRecDepth 20000 in
set_option maxHeartbeats 4000000 in
theorem treePlays_any (z : Int) (v1 : Value) (l1 : List Top) (nm : List UInt8) (w : World) (hw : Pres w) (h1 : TOps w v1 l1) (_hnm : nm.length ≤ 9223372036854775807) :
    Calls Tryd.prog 8 #[.int .i64 z, v1, .string (str nm)] w fun e w' => e = .returned (.bool true) ∧ Ext w w' := by
  have hwh := Lib.hid hw
  have h1h := Lib.hid h1
  have hsh := Lib.hid (Rw.shape h1)
  obtain ⟨a1, c1, rfl, hlm, -⟩ := Rw.shape h1
  have hA := awake14_any w hw
  clear hw h1
  go_enter Tryd.func8, Tryd.ntmps8
  go_upto_region 2 with (go_at_call 20; refine hA.mono ?_; rintro e W1 ⟨rfl, e1⟩)
  have hf1 := fewT_any _ l1 W1 (h1h.out.ext e1)
  clear hA
  go_upto_region 3 with (go_at_call 21; refine hf1.mono ?_; rintro e W2 ⟨rfl, e2⟩)
  have e02 := e1.trans e2
  clear hf1 e1 e2
  cases k1 : fewT l1
  · go_wp2
    go_ret
    exact ⟨rfl, e02⟩
  by_cases hn60 : (60 : Int) < (nm.length : Int)
  · have d60 : decide ((60 : Int) < (nm.length : Int)) = true := decide_eq_true hn60
    go_wp2
    go_ret
    exact ⟨rfl, e02⟩
  have d60 : decide ((60 : Int) < (nm.length : Int)) = false := decide_eq_false hn60
  have hfew := Lib.hid k1
  have hT := new_any z W2
  have hroom := Lib.hid (roomN_le z)
  have hT2 := fun W => refNew_any z W
  generalize roomN z = room at *
  go_upto_region 7 with (first
    | (go_at_call 36; refine hT.mono ?_; rintro e W3 ⟨_, rfl, rfl, t3, e3⟩)
    | (go_at_call 37; refine (hT2 _).mono ?_; rintro e W4 ⟨_, rfl, rfl, t4, e4⟩))
  have hp3 : W2.heap.size < W3.heap.size := by
    obtain ⟨v, h, -⟩ := t3
    exact (Array.getElem?_eq_some_iff.1 h).1
  have hTw : Tw w W4 W2.heap.size W3.heap.size room [] := ⟨_, _, t3.ext e4, t4, fun k hk => by have := e02.size; omega, fun k hk => by have := e02.size; omega, fun k hk h => by omega, (e02.trans e3).trans e4⟩
  generalize W2.heap.size = p at *
  generalize W3.heap.size = q at *
  have hTwh : RowKit.Hid (Tw w W4 p q room (runL room [] (l1.take 0))) := Lib.hid (by rw [show runL room [] (l1.take 0) = [] by unfold runL; rfl]; exact hTw)
  clear hT hT2 t3 t4 e3 e4 hTw hp3 e02
  go_wp2
  go_loopw [11] (fun i wr => ∃ k : Nat, k ≤ l1.length ∧ i = .int .i64 (k : Int) ∧ RowKit.Hid (Tw w wr p q room (runL room [] (l1.take k)))) (fun i _ => l1.length - (intOf i).toNat)
  case atStart => exact ⟨0, Nat.zero_le _, rfl, hTwh⟩
  case round =>
    obtain ⟨k, hk, rfl, hT⟩ := hrel
    clear hTwh
    by_cases hlt : k < l1.length
    · obtain ⟨x, hx⟩ := some_at hlt
      obtain ⟨a', c', hq, -, hgh⟩ := hsh.out
      cases hq
      obtain ⟨g, o, cs, rfl, hr, rfl, hf⟩ := hgh k x hx
      have hki : (k : Int) < (l1.length : Int) := by omega
      have hw : IntKind.i64.wrap ((k : Int) + 1) = (k : Int) + 1 := by rw [IntKind.wrap_i64]; omega
      have hSt : RowKit.Hid (St room (runL room [] (l1.take k))) := Lib.hid (St.run (l1.take k) (St.nil hroom.out))
      have hst := Lib.hid (runL_step room hx [])
      have hfx := few_name (fewT_each hfew.out hx)
      obtain ⟨L, hL⟩ : ∃ L, L = runL room [] (l1.take k) := ⟨_, rfl⟩
      rw [← hL] at hT hSt hst
      have hSt2 := Lib.hid (hSt.out.step x)
      obtain ⟨F, G, tp, tq, hF, hG, hFG, e0r⟩ := hT.out
      have hr2 : wr.rangeAt g (o + k * 11) (orow x) := fun i u hu => e0r.cell (hr i u hu)
      clear hr hx hgh hsh hL hT
      go_upto_region 13 with (first
        | (refine wpList_load_top (by rfl) _ rfl g (o + k * 11) rfl x hr2 ?_)
        | (refine wpList_store_new wr rfl 52 _ _ rfl (ocells x) _ rfl rfl rfl 11 info_op (oc_size x) rfl (oc_one x) ?_))
      have eA := (Ext.refl wr).alloc (.cells (ocells x) 52)
      have hB := heap_alloc_new wr (.cells (ocells x) 52)
      have hd := do_any x (tp.lt.ext eA) hSt.out hf (hwh.out.ext (e0r.trans eA))
      have tq1 := tq.lt.ext eA
      have hBl := alloc_size wr (.cells (ocells x) 52)
      generalize wr.alloc (.cells (ocells x) 52) = WA at *
      go_upto_region 16 with (first
        | (refine wpList_load_row rfl 52 _ rfl wr.heap.size rfl 52 (ocells x) (0, 0) _ hB Tryd.underlying52 rfl (oc_sz x) ?_)
        | (go_at_call 26; refine hd.mono ?_; rintro e w1 ⟨_, rfl, x1, ⟨ax, cx, rfl⟩, t1, g1⟩))
      have hB1 := (g1.block _ (by omega) (fun h => by have := h.2; omega)).trans hB
      have tq1 := tq1.chg g1 fun k hk _ h => hFG k h.1 hk.1
      have c0 := cell_at hB1 0 (oc_cells x).1
      have hrr := oc_rec hB1
      have cn := cell_at hB1 2 (oc_cells x).2
      have cp := cell_at hB1 3 (oc_at x)
      have g01 := (Chg.of_ext eA).trans g1
      have hz1 := g1.size
      have t1 := t1.mono (G := fun k => (F k ∧ k < wr.heap.size) ∨ wr.heap.size ≤ k) fun k hk => hk.imp id fun h => by omega
      have hAdd := refAdd_any x.r tq1 hf (by omega) (by omega) hSt.out.small
      have hPut := refPut_any x.r tq1 hf (by omega) (by omega) hSt.out.small
      have hDrop := refDrop_any x.r.name tq1 hSt.out.ok hSt.out.small
      have x1h := Lib.hid x1.lt
      have t1h := Lib.hid t1
      have g01h := Lib.hid g01
      have hB1h := Lib.hid hB1
      have tq1h := Lib.hid tq1
      have hE : RowKit.Hid (doE room L x = if x.what = 1 then addE room L x.r else if x.what = 2 then putE L x.r else 0) := Lib.hid rfl
      have hLL : RowKit.Hid (doL room L x = if x.what = 1 then addL room L x.r else if x.what = 2 then putL L x.r else if x.what = 3 then Tr.drop L x.r.name else L) := Lib.hid rfl
      have hX : RowKit.Hid (doX L x = if x.what = 3 then below L x.r.name else []) := Lib.hid rfl
      generalize doE room L x = E1 at *
      generalize doL room L x = L1 at *
      generalize doX L x = X1 at *
      clear hd hB eA x1 t1 g1 g01 tq1 hB1 tp tq hr2
      go_upto_block 2 with fail
      go_cut [15, 16] (fun f y wd => f = .int .i64 E1 ∧ (∃ a c, y = .slice a X1.length c) ∧ RowKit.Hid (OwnO sv 9 wd (fun k => w1.heap.size ≤ k) y X1) ∧ RowKit.Hid (TrM 34 wd (fun k => (G k ∧ k < wr.heap.size) ∨ w1.heap.size ≤ k) q room L1) ∧ RowKit.Hid (Chg (fun k => G k ∧ k < wr.heap.size) w1 wd))
      case first =>
        obtain ⟨n, r⟩ := x
        simp only at *
        by_cases q1 : n = 1
        · rw [if_pos q1] at hE hLL
          rw [if_neg (by omega)] at hX
          subst q1
          go_wp2_with (first
            | (refine wpList_load_rec (by rfl) _ rfl wr.heap.size 1 rfl r hrr ?_)
            | (go_at_call 38; refine hAdd.mono ?_; rintro e w2 ⟨rfl, t2, g2⟩))
          go_meet
          exact ⟨by rw [hE.out], ⟨none, 0, by rw [hX.out]; rfl⟩, Lib.hid (by rw [hX.out]; exact .inl ⟨rfl, rfl⟩), Lib.hid (by rw [hLL.out]; exact t2), Lib.hid g2⟩
        · rw [if_neg q1] at hE hLL
          have p1 : (n == 1) = false := by rw [beq_eq_false_iff_ne]; exact q1
          by_cases q2 : n = 2
          · rw [if_pos q2] at hE hLL
            rw [if_neg (by omega)] at hX
            subst q2
            go_wp2_with (first
              | (refine wpList_load_rec (by rfl) _ rfl wr.heap.size 1 rfl r hrr ?_)
              | (go_at_call 39; refine hPut.mono ?_; rintro e w2 ⟨rfl, t2, g2⟩))
            go_meet
            exact ⟨by rw [hE.out], ⟨none, 0, by rw [hX.out]; rfl⟩, Lib.hid (by rw [hX.out]; exact .inl ⟨rfl, rfl⟩), Lib.hid (by rw [hLL.out]; exact t2), Lib.hid g2⟩
          · rw [if_neg q2] at hE hLL
            have p2 : (n == 2) = false := by rw [beq_eq_false_iff_ne]; exact q2
            by_cases q3 : n = 3
            · rw [if_pos q3] at hLL hX
              subst q3
              go_wp2_with (go_at_call 40; refine hDrop.mono ?_; rintro e w2 ⟨_, rfl, y2, ⟨ay, cy, rfl⟩, t2, g2⟩)
              go_meet
              exact ⟨by rw [hE.out], ⟨ay, cy, by rw [hX.out]⟩, Lib.hid (by rw [hX.out]; exact y2), Lib.hid (by rw [hLL.out]; exact t2), Lib.hid g2⟩
            · rw [if_neg q3] at hLL hX
              have p3 : (n == 3) = false := by rw [beq_eq_false_iff_ne]; exact q3
              go_wp2
              go_meet
              exact ⟨by rw [hE.out], ⟨none, 0, by rw [hX.out]; rfl⟩, Lib.hid (by rw [hX.out]; exact .inl ⟨rfl, rfl⟩), Lib.hid (by rw [hLL.out]; exact tq1h.out.mono fun k hk => .inl hk), Lib.hid (Chg.refl _ _)⟩
      case rest =>
        obtain ⟨rfl, ⟨ay, cy, rfl⟩, y2, t2, g2⟩ := hcut
        have hTc := Tw.step hF hG hFG e0r t1h.out g01h.out t2.out g2.out
        have hBc := (g2.out.block _ (by omega) (fun h => by have := h.2; omega)).trans hB1h.out
        have x2 := Lib.hid (x1h.out.chgB g2.out (fun k hk _ h => by have := hk.1; have := h.2; omega)).sl
        have y2s := Lib.hid y2.out.sl
        have hTch := Lib.hid hTc
        obtain ⟨F2, G2, tp2, tq2, -, -, -, e0c⟩ := hTc
        have hG1 := get_any nm tp2
        have hG2 := Lib.hid (fun W (e : Ext wc W) => refGet_any nm (tq2.ext e))
        have tp2h := Lib.hid tp2
        have tq2h := Lib.hid tq2
        have hBch := Lib.hid hBc
        clear hAdd hPut hDrop c0 hrr cn cp y2 t2 g2 x1h t1h g01h hB1h tq1h hF hG hFG e0r tp2 tq2 hBc hE hLL hX
        generalize hR : getR L1 nm = R at *
        generalize hI : isIn L1 nm = I at *
        clear hR hI
        go_upto_region 24 with (first
          | (go_at_call 41; refine hG1.mono ?_; rintro e w3 ⟨rfl, e3⟩)
          | (refine wpList_store_new w3 rfl 36 _ _ rfl (rcells R) _ rfl rfl rfl 10 info_rec (rc_ten R) rfl (rc_one R) ?_))
        have e34 := (Ext.refl w3).alloc (.cells (rcells R) 36)
        have hb3 := heap_alloc_new w3 (.cells (rcells R) 36)
        have hG3 := hG2.out _ (e3.trans e34)
        generalize w3.alloc (.cells (rcells R) 36) = w4 at *
        generalize w3.heap.size = B3 at *
        go_upto_region 25 with (first
          | (go_at_call 31; refine hG3.mono ?_; rintro e w5 ⟨rfl, e5⟩)
          | (refine wpList_store_new w5 rfl 36 _ _ rfl (rcells R) _ rfl rfl rfl 10 info_rec (rc_ten R) rfl (rc_one R) ?_))
        have e56 := (Ext.refl w5).alloc (.cells (rcells R) 36)
        have hb5 := heap_alloc_new w5 (.cells (rcells R) 36)
        have hb3 := (e5.trans e56).heap hb3
        have ec6 := (e3.trans e34).trans (e5.trans e56)
        generalize w5.alloc (.cells (rcells R) 36) = w6 at *
        generalize w5.heap.size = B5 at *
        clear hG1 hG2 hG3 e3 e34 e5 e56
        obtain ⟨aq, cq, -, hq1, rq⟩ := tq2h.out.parts
        have hq1h := Lib.hid hq1
        have rqh := Lib.hid rq
        have hb3h := Lib.hid hb3
        have hb5h := Lib.hid hb5
        have hl1 := Lib.hid hSt2.out.small
        clear hq1 rq hb3 hb5
        go_cut [118] (fun b wd => b = .bool false ∧ Ext wc wd)
        case first =>
          have hneq := fun W => rec_neqL R W
          have hS := Lib.hid (fun W (e : Ext w6 W) => (let ⟨r0, r1, r2, r3, r4, r5, r6, r7, r8, r9⟩ := rc_all (e.heap hb3h.out); let ⟨s0, s1, s2, s3, s4, s5, s6, s7, s8, s9⟩ := rc_all (e.heap hb5h.out); ⟨r0, r1, r2, r3, r4, r5, r6, r7, r8, r9, s0, s1, s2, s3, s4, s5, s6, s7, s8, s9, (ec6.trans e).cell hq1h.out⟩ : W.cell? ⟨B3, 0, none⟩ = some (.int .i64 R.kind) ∧ W.cell? ⟨B3, 1, none⟩ = some (.string (str R.name)) ∧ W.cell? ⟨B3, 2, none⟩ = some (.string (str R.par)) ∧ W.cell? ⟨B3, 3, none⟩ = some (.string (str R.user)) ∧ W.cell? ⟨B3, 4, none⟩ = some (.string (str R.serv)) ∧ W.cell? ⟨B3, 5, none⟩ = some (.string (str R.url)) ∧ W.cell? ⟨B3, 6, none⟩ = some (.int .i64 R.made) ∧ W.cell? ⟨B3, 7, none⟩ = some (.int .i64 R.used) ∧ W.cell? ⟨B3, 8, none⟩ = some (.int .i64 R.uses) ∧ W.cell? ⟨B3, 9, none⟩ = some (.bool R.fresh) ∧ W.cell? ⟨B5, 0, none⟩ = some (.int .i64 R.kind) ∧ W.cell? ⟨B5, 1, none⟩ = some (.string (str R.name)) ∧ W.cell? ⟨B5, 2, none⟩ = some (.string (str R.par)) ∧ W.cell? ⟨B5, 3, none⟩ = some (.string (str R.user)) ∧ W.cell? ⟨B5, 4, none⟩ = some (.string (str R.serv)) ∧ W.cell? ⟨B5, 5, none⟩ = some (.string (str R.url)) ∧ W.cell? ⟨B5, 6, none⟩ = some (.int .i64 R.made) ∧ W.cell? ⟨B5, 7, none⟩ = some (.int .i64 R.used) ∧ W.cell? ⟨B5, 8, none⟩ = some (.int .i64 R.uses) ∧ W.cell? ⟨B5, 9, none⟩ = some (.bool R.fresh) ∧ W.cell? ⟨q, 1, none⟩ = some (.slice aq L1.length cq)))
          go_region_held3 (fun W => W.cell? ⟨B3, 0, none⟩ = some (.int .i64 R.kind) ∧ W.cell? ⟨B3, 1, none⟩ = some (.string (str R.name)) ∧ W.cell? ⟨B3, 2, none⟩ = some (.string (str R.par)) ∧ W.cell? ⟨B3, 3, none⟩ = some (.string (str R.user)) ∧ W.cell? ⟨B3, 4, none⟩ = some (.string (str R.serv)) ∧ W.cell? ⟨B3, 5, none⟩ = some (.string (str R.url)) ∧ W.cell? ⟨B3, 6, none⟩ = some (.int .i64 R.made) ∧ W.cell? ⟨B3, 7, none⟩ = some (.int .i64 R.used) ∧ W.cell? ⟨B3, 8, none⟩ = some (.int .i64 R.uses) ∧ W.cell? ⟨B3, 9, none⟩ = some (.bool R.fresh) ∧ W.cell? ⟨B5, 0, none⟩ = some (.int .i64 R.kind) ∧ W.cell? ⟨B5, 1, none⟩ = some (.string (str R.name)) ∧ W.cell? ⟨B5, 2, none⟩ = some (.string (str R.par)) ∧ W.cell? ⟨B5, 3, none⟩ = some (.string (str R.user)) ∧ W.cell? ⟨B5, 4, none⟩ = some (.string (str R.serv)) ∧ W.cell? ⟨B5, 5, none⟩ = some (.string (str R.url)) ∧ W.cell? ⟨B5, 6, none⟩ = some (.int .i64 R.made) ∧ W.cell? ⟨B5, 7, none⟩ = some (.int .i64 R.used) ∧ W.cell? ⟨B5, 8, none⟩ = some (.int .i64 R.uses) ∧ W.cell? ⟨B5, 9, none⟩ = some (.bool R.fresh) ∧ W.cell? ⟨q, 1, none⟩ = some (.slice aq L1.length cq)) ((refine hS.out _ ?_; (repeat (first | exact Ext.refl _ | with_reducible assumption | refine Ext.drew ?_ | refine Ext.alloc ?_ _ | refine Ext.trans ?_ (by assumption)))))
            ((first
            | (go_at_call 28; refine (texts_eq _ _ X1 _ (x2.out.ext (by (repeat (first | exact Ext.refl _ | with_reducible assumption | refine Ext.drew ?_ | refine Ext.alloc ?_ _ | refine Ext.trans ?_ (by assumption))))) (y2s.out.ext (by (repeat (first | exact Ext.refl _ | with_reducible assumption | refine Ext.drew ?_ | refine Ext.alloc ?_ _ | refine Ext.trans ?_ (by assumption)))))).mono ?_; rintro e w7 ⟨rfl, e7⟩)
            | (go_at_call 25; refine (all_any (tp2h.out.ext (by (repeat (first | exact Ext.refl _ | with_reducible assumption | refine Ext.drew ?_ | refine Ext.alloc ?_ _ | refine Ext.trans ?_ (by assumption))))) (by have := hl1.out; omega)).mono ?_; rintro e w8 ⟨v8, rfl, o8, ⟨a8, c8, rfl⟩, e8⟩)
            | (go_at_call 24; refine (records_same _ _ L1 _ o8.recs (rqh.out.ext (by (repeat (first | exact Ext.refl _ | with_reducible assumption | refine Ext.drew ?_ | refine Ext.alloc ?_ _ | refine Ext.trans ?_ (by assumption)))))).mono ?_; rintro e w9 ⟨rfl, e9⟩)))
          all_goals
            go_wp2
            go_meet
            exact ⟨rfl, by (repeat (first | exact Ext.refl _ | with_reducible assumption | refine Ext.drew ?_ | refine Ext.alloc ?_ _ | refine Ext.trans ?_ (by assumption)))⟩
        case rest =>
          obtain ⟨rfl, eX⟩ := hcut
          obtain ⟨WX, rfl⟩ : ∃ W, W = wc := ⟨_, rfl⟩
          have hBx := eX.heap hBch.out
          have cn := cell_at hBx 2 (oc_cells x).2
          have cp := cell_at hBx 3 (oc_at x)
          have hTx := Lib.hid (hTch.out.ext eX)
          have tpx := Lib.hid (tp2h.out.ext eX)
          have tqx := Lib.hid (tq2h.out.ext eX)
          have hok1 := Lib.hid hSt2.out.ok
          have hl1' := Lib.hid hSt2.out.small
          clear hBx x2 y2s hTch tp2h tq2h hBch hb3h hb5h hq1h rqh eX ec6
          go_upto_region 28 with fail
          obtain ⟨NL, hNL⟩ : ∃ NL : List (List UInt8), NL = [nm, x.r.name, x.r.par] := ⟨_, rfl⟩
          have eY := (Ext.refl WX).alloc (.cells #[.string (str nm), .string (str x.r.name), .string (str x.r.par)] 9)
          have hsl : Sl sv (WX.alloc (.cells #[.string (str nm), .string (str x.r.name), .string (str x.r.par)] 9)) (.slice (some ⟨WX.heap.size, 0, none⟩) 3 3) NL := by
            rw [hNL]
            exact Sl.lit rfl rfl rfl (by decide) (by decide)
          have hNl : NL.length = 3 := by rw [hNL]; rfl
          generalize WX.alloc (.cells #[.string (str nm), .string (str x.r.name), .string (str x.r.par)] 9) = WY at *
          generalize WX.heap.size = BY at *
          have hslh := Lib.hid hsl
          have hNlh := Lib.hid hNl
          have hTy := Lib.hid (hTx.out.ext eY)
          have tpy := Lib.hid (tpx.out.ext eY)
          have tqy := Lib.hid (tqx.out.ext eY)
          clear hsl hNl hNL hTx tpx tqx eY cn cp
          go_wp2
          go_loopw [22] (fun i ws => ∃ j : Nat, j ≤ 3 ∧ i = .int .i64 (j : Int) ∧ Ext WY ws) (fun i _ => 3 - (intOf i).toNat)
          case atStart => exact ⟨0, by omega, rfl, Ext.refl _⟩
          case round =>
            obtain ⟨j, hj, rfl, ej⟩ := hrel
            by_cases hlt3 : j < 3
            · obtain ⟨n, hn⟩ := some_at (l := NL) (by rw [hNlh.out]; exact hlt3 : j < NL.length)
              obtain ⟨_, _, hqs, sN⟩ := (hslh.out.ext ej)
              rw [hNlh.out] at hqs
              cases hqs
              obtain ⟨g9, o9, hq9, n1⟩ := sN.cells j n hn
              cases hq9
              unfold sv at n1
              rw [Nat.zero_add] at n1
              have hji : (j : Int) < 3 := by omega
              have hw3 : IntKind.i64.wrap ((j : Int) + 1) = (j : Int) + 1 := by rw [IntKind.wrap_i64]; omega
              have K1 := kids_any n (tpy.out.ext ej) (by have := hl1'.out; omega)
              have K2 := Lib.hid (fun W (e : Ext WY W) => refKids_any n (tqy.out.ext e) (by have := hl1'.out; omega))
              have K3 := Lib.hid (fun W (e : Ext WY W) => below_any n (tpy.out.ext e) hok1.out (by have := hl1'.out; omega) (by have := hSt2.out.bel n; omega))
              have K4 := Lib.hid (fun W (e : Ext WY W) => refBelow_any n (tqy.out.ext e) hok1.out hl1'.out)
              have K5 := Lib.hid (fun W (e : Ext WY W) => path_any n (tpy.out.ext e) hok1.out (by have := hl1'.out; omega))
              have K6 := Lib.hid (fun W (e : Ext WY W) => refPath_any n (tqy.out.ext e) hok1.out (by have := hl1'.out; omega))
              clear hn sN
              go_wp2_with (first
                | (go_at_call 28; refine R9.mono ?_; rintro e u9 ⟨rfl, h9⟩; have ej := ej.trans h9)
                | (go_at_call 42; refine K1.mono ?_; rintro e u1 ⟨_, rfl, k1, h1⟩; obtain ⟨ak1, ck1, rfl⟩ := k1.shapeN; have ej := ej.trans h1)
                | (go_at_call 43; refine (K2.out _ ej).mono ?_; rintro e u2 ⟨_, rfl, k2, h2⟩; obtain ⟨ak2, ck2, rfl⟩ := k2.shapeN; have ej := ej.trans h2; have R9 := texts_eq _ _ _ u2 (k1.sl.ext h2) k2.sl)
                | (go_at_call 19; refine (K3.out _ ej).mono ?_; rintro e u3 ⟨_, rfl, k3, h3⟩; obtain ⟨ak3, ck3, rfl⟩ := k3.shape; have ej := ej.trans h3)
                | (go_at_call 44; refine (K4.out _ ej).mono ?_; rintro e u4 ⟨_, rfl, k4, h4⟩; obtain ⟨ak4, ck4, rfl⟩ := k4.shape; have ej := ej.trans h4; have R9 := texts_eq _ _ _ u4 (k3.sl.ext h4) k4.sl)
                | (go_at_call 35; refine (K5.out _ ej).mono ?_; rintro e u5 ⟨_, rfl, k5, h5⟩; obtain ⟨ak5, ck5, rfl⟩ := k5.shapeN; have ej := ej.trans h5)
                | (go_at_call 45; refine (K6.out _ ej).mono ?_; rintro e u6 ⟨_, rfl, k6, h6⟩; obtain ⟨ak6, ck6, rfl⟩ := k6.shapeN; have ej := ej.trans h6; have R9 := texts_eq _ _ _ u6 (k5.sl.ext h6) k6.sl))
              go_roundw
              case rel => exact ⟨j + 1, by omega, by go_num, ej⟩
              case measure => simp [intOf]; omega
            · obtain rfl : j = 3 := by omega
              go_wp2
              go_roundw
              case rel => exact ⟨k + 1, by omega, by go_num, Lib.hid (by rw [hst.out]; exact hTy.out.ext ej)⟩
              case measure => simp [intOf]; omega
    · obtain rfl : k = l1.length := by omega
      obtain ⟨F, G, -, -, -, -, -, e0r⟩ := hT.out
      go_wp2
      go_ret
      exact ⟨rfl, e0r⟩
end Go.Proofs.YtmdepmohfnficaaDoor
