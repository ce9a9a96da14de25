/- WalCrashes: the walk. -/
import Derived.Test.YtmpjcnopakfdmaaDoorWlP
import Derived.Test.YtmpjcnopakfdmaaDoorWlU
namespace Go.Proofs.YtmpjcnopakfdmaaDoor
set_option linter.unusedVariables false
set_option linter.unusedSimpArgs false
open Go.RowKit Dk Wl Fr

theorem keep_stopO {c : Nat} {g : Lg} {rs : List (List UInt8)} (l : Lw c g rs) (o : Lo) (cuts : List UInt8) (hc : cutAt cuts 0 = c) (s : Nat) :
    ∃ rs', Sane ⟨crash cuts (opL o ⟨stop s g.d, g.h, g.u⟩).2.d, openH (crash cuts (opL o ⟨stop s g.d, g.h, g.u⟩).2.d), openU (crash cuts (opL o ⟨stop s g.d, g.h, g.u⟩).2.d)⟩ ∧
      openE (crash cuts (opL o ⟨stop s g.d, g.h, g.u⟩).2.d) = 0 ∧ scan (openU (crash cuts (opL o ⟨stop s g.d, g.h, g.u⟩).2.d)) = rs' ∧
      (((opL o ⟨stop s g.d, g.h, g.u⟩).1 = 0 ∧ rs' = nextR o rs) ∨ ((opL o ⟨stop s g.d, g.h, g.u⟩).1 ≠ 0 ∧ rs' = rs) ∨ ((opL o ⟨stop s g.d, g.h, g.u⟩).1 = 21 ∧ rs' = nextR o rs)) := by
  obtain ⟨_, _, h, u, hk⟩ := op_stop o l s cuts hc
  generalize opL o ⟨stop s g.d, g.h, g.u⟩ = r at *
  have key : ∀ rs', Lw c ⟨crash cuts r.2.d, h, u⟩ rs' → Sane ⟨crash cuts r.2.d, openH (crash cuts r.2.d), openU (crash cuts r.2.d)⟩ ∧ openE (crash cuts r.2.d) = 0 ∧ scan (openU (crash cuts r.2.d)) = rs' := fun rs' hl => by
    obtain ⟨f1, f2, f3, f4⟩ := hl.found
    simp only at f1 f2 f3 f4
    rw [f1, f2]
    exact ⟨hl.sane, f3, f4⟩
  rcases hk with ⟨h1, h2⟩ | ⟨h1, h2⟩ | ⟨h1, h2⟩
  · obtain ⟨k1, k2, k3⟩ := key _ h2
    exact ⟨_, k1, k2, k3, .inl ⟨h1, rfl⟩⟩
  · obtain ⟨k1, k2, k3⟩ := key _ h2
    exact ⟨_, k1, k2, k3, .inr (.inl ⟨h1, rfl⟩)⟩
  · obtain ⟨k1, k2, k3⟩ := key _ h2
    exact ⟨_, k1, k2, k3, .inr (.inr ⟨h1, rfl⟩)⟩
/-- lists that read the same whatever is done to blocks of F -/
def StayLL (F : Nat → Prop) (w : World) (v : Value) (ls : List (List UInt8)) : Prop := ∀ w', Chg F w w' → LL w' v ls
theorem stay_oldLL {F : Nat → Prop} {w0 w : World} {v : Value} {ls : List (List UInt8)} (h : LL w0 v ls) (e : Ext w0 w) (hF : ∀ k, F k → w0.heap.size ≤ k) : StayLL F w v ls := fun _ c => h.ext (e.chg c hF)
theorem stay_ownLL {F : Nat → Prop} {w : World} {base : Nat} {v : Value} {ls : List (List UInt8)} {G : Nat → Prop} (h : OwnLL w base G v ls) (hb : ∀ k, v.ownBlock = some k → ¬ F k) (hG : ∀ k, G k → k < w.heap.size → ¬ F k) : StayLL F w v ls := fun _ c => (h.chgO c hb hG).ll
theorem StayLL.chg {F : Nat → Prop} {w w' : World} {v : Value} {ls : List (List UInt8)} (h : StayLL F w v ls) (c : Chg F w w') : StayLL F w' v ls := fun _ c' => h _ (c.trans c')
theorem fewW_cons {x : Wop} {l : List Wop} (h : fewW (x :: l) = true) : okW x = true ∧ ∀ y ∈ l, okW y = true := by
  unfold fewW at h
  rw [Bool.and_eq_true, List.all_cons, Bool.and_eq_true] at h
  exact ⟨h.1.1, fun y hy => List.all_eq_true.1 h.1.2 y hy⟩
theorem okW_ls {x : Wop} (h : okW x = true) : x.ls.length ≤ 20 := by
  unfold okW at h
  rw [Bool.and_eq_true] at h
  exact (fewF_ok h.1).1
theorem step_appendLLx {ops : Array Oper} {o : Oper} {a : Act} {w : World} {K : Act → World → Prop} {Q : Exit → Act → World → Prop} {E : Prop} (hgd : o.guard = none) (s x : Operand)
    (ho : o.op = .call { callee := .builtin .append, args := #[s, x], argTypes := #[23, 23] })
    (base : Nat) (G : Nat → Prop) (v : Value) (ls : List (List UInt8)) (hs : a.eval s = v) (hown : OwnLL w base G v ls) (u : Value) (ms : List (List UInt8)) (hx : a.eval x = u) (hb : LL w u ms)
    (hu : ∀ ad n c, u = .slice (some ad) n c → ∀ j y m, w.cell? (ad.add j) = some y → ms[j]? = some m → y.oneCell' = true ∧ ∀ k, vblk y = some k → m ≠ [] → G k ∧ v.ownBlock ≠ some k) (hlen : ls.length + ms.length ≤ 1048576) (hbase : base ≤ w.heap.size)
    (h : ∀ v' w', OwnLL w' base G v' (ls ++ ms) → w.grownBy w' v.ownBlock → (v'.ownBlock = v.ownBlock ∨ v'.ownBlock = some w.heap.size) → K (a.put o.dst v') w') :
    if Region.wanted o (yielded ops a.tmps) = true then Oper.wp Tryd.prog o a w K Q else E := by
  have hw : Region.wanted o (yielded ops a.tmps) = true := by simp [Region.wanted, hgd]
  rw [if_pos hw]
  obtain ⟨ad, c, rfl, hle, hcm, hnone, hget⟩ := hb
  cases ad with
  | none =>
    have hc := hnone rfl
    subst hc
    obtain rfl : ms = [] := List.eq_nil_of_length_eq_zero (by omega)
    obtain ⟨i, hi, hz0, hz1, hz2⟩ := info_parts infoLL
    have hr := run_append_owned_none (P := Tryd.prog) w base 23 o.type 22 i 1 Tryd.underlying23 hi v _ _ hown.choose_spec.1
    unfold Oper.wp execOp
    simp only [ho, resolve, invoke, builtin, Sem.run_bind, Sem.run_pure, Result.andThen_ok, List.map_toArray, List.map_cons, List.map_nil, hs, hx, List.length_nil, hr]
    exact h v w (by rw [List.append_nil]; exact hown) ⟨rfl, rfl, rfl, Nat.le_refl _, fun _ _ _ => rfl⟩ (.inl rfl)
  | some ad =>
    have hex : ∀ j m, ms[j]? = some m → ∃ y, w.cell? (ad.add j) = some y ∧ Bytes w y m := fun j m hj => by
      obtain ⟨g, o', y, e, hc, hy⟩ := hget j m hj
      cases e
      exact ⟨y, by rw [Addr.add_lit]; exact hc, hy⟩
    obtain ⟨us, hul, hus⟩ : ∃ us : List Value, us.length = ms.length ∧ ∀ j y, us[j]? = some y → w.cell? (ad.add j) = some y := by
      refine ⟨(List.range ms.length).map fun j => (w.cell? (ad.add j)).getD undef, by simp, fun j y hy => ?_⟩
      rw [List.getElem?_map] at hy
      obtain ⟨k, hk, rfl⟩ := Option.map_eq_some_iff.1 hy
      have hjl : j < ms.length := by
        have := (List.getElem?_eq_some_iff.1 hk).1
        simpa using this
      rw [List.getElem?_range hjl] at hk
      cases hk
      obtain ⟨y, q1, q2⟩ := hex j _ (List.getElem?_eq_getElem hjl)
      rw [q1]; rfl
    obtain ⟨v', w', hr, r1, r2, r3⟩ := run_appendLLx w o.type base G v ls hown ad c us ms hul hus (fun j y m hy hm => by
      obtain ⟨y', q1, q2⟩ := hex j m hm
      have q3 := hus j y hy
      rw [q3] at q1
      cases q1
      obtain ⟨q4, q5⟩ := hu ad _ c rfl j y m q3 hm
      exact ⟨q4, q2, q5⟩) hlen hbase
    unfold Oper.wp execOp
    simp only [ho, resolve, invoke, builtin, Sem.run_bind, Sem.run_pure, Result.andThen_ok, List.map_toArray, List.map_cons, List.map_nil, hs, hx, hr]
    exact h v' w' r1 r2 r3
theorem OwnLL.new (w : World) (G : Nat → Prop) : OwnLL (w.alloc (.cells #[] 22)) w.heap.size G (.slice (some ⟨w.heap.size, 0, none⟩) 0 0) [] := ⟨[], World.ownsRow_made w #[] 0 (Nat.le_refl _) (by simp [maxLen]) rfl, fun j l h => by simp at h⟩
theorem size_of {a b : World} (e : Ext a b) : a.heap.size ≤ b.heap.size := e.size
theorem own_at {n c g k : Nat} (h : (Value.slice (some ⟨g, 0, none⟩) n c).ownBlock = some k) : k = g := (Option.some.inj h).symm
theorem grown_cell {w w' : World} {row : Option Nat} {a : Addr} {v : Value} (g : w.grownBy w' row) (hc : w.cell? a = some v) (hn : row ≠ some a.block) : w'.cell? a = some v :=
  (World.cell?_of_block (g.block a.block (World.block_lt_of_cell? w _ hc) (fun e => hn e.symm))).trans hc
theorem recs_len : ∀ (ls : List (List UInt8)), ls.length ≤ (all ls).length
  | [] => Nat.zero_le _
  | l :: ls => by
    have := recs_len ls
    rw [all_length] at this ⊢
    rw [show Fr.size (l :: ls) = 6 + l.length + Fr.size ls from rfl, List.length_cons]; omega
theorem OwnLL.low {w : World} {base base' : Nat} {G : Nat → Prop} {v : Value} {ls : List (List UInt8)} (h : OwnLL w base G v ls) (hb : base' ≤ base) : OwnLL w base' G v ls := h.down hb fun _ h => h
theorem ll_hu {w4 W : World} {base : Nat} {G : Nat → Prop} {u : Value} {ms : List (List UInt8)} (h : OwnLL w4 base G u ms) (e : Ext w4 W) {v : Value} (hv : ∀ k, v.ownBlock = some k → w4.heap.size ≤ k) {G' : Nat → Prop} (hG : ∀ k, G k → G' k) : ∀ ad n c, u = .slice (some ad) n c → ∀ j y m, W.cell? (ad.add j) = some y → ms[j]? = some m → y.oneCell' = true ∧ ∀ k, vblk y = some k → m ≠ [] → G' k ∧ v.ownBlock ≠ some k := fun ad n c hu j y m hy hm => by
  obtain ⟨a, cap, rfl, -, -, -, hget⟩ := h.get
  obtain ⟨g, z, ha, -, hz0, hb, hGk⟩ := hget j m hm
  have hz : w4.cell? ⟨g, 0 + j, none⟩ = some z := by rw [Nat.zero_add]; exact hz0
  simp only [Value.slice.injEq] at hu
  rw [hu.1] at ha
  cases ha
  have := e.cell hz
  rw [Addr.add_lit] at hy
  rw [this] at hy
  cases hy
  exact ⟨bytes_one' hb, fun k hk hl => ⟨hG k (hGk k hk hl), fun h => by have := hv k h; have := hb.blk_lt hl k hk; omega⟩⟩
theorem ll1_hu {W : World} {g c : Nat} {yv : Value} {b : List UInt8} {G : Nat → Prop} {v : Value} (hc : W.cell? ⟨g, 0, none⟩ = some yv) (h1 : yv.oneCell' = true) (hk : ∀ k, vblk yv = some k → b ≠ [] → G k ∧ v.ownBlock ≠ some k) : ∀ ad n c', (Value.slice (some ⟨g, 0, none⟩) 1 c : Value) = .slice (some ad) n c' → ∀ j y m, W.cell? (ad.add j) = some y → [b][j]? = some m → y.oneCell' = true ∧ ∀ k, vblk y = some k → m ≠ [] → G k ∧ v.ownBlock ≠ some k := fun ad n c' hu j y m hy hm => by
  simp only [Value.slice.injEq, Option.some.injEq] at hu
  rw [← hu.1] at hy
  match j, hm with
  | 0, hm =>
    simp at hm
    subst hm
    rw [Addr.add_lit] at hy
    have hy' : W.cell? ⟨g, 0, none⟩ = some y := hy
    rw [hc] at hy'
    cases hy'
    exact ⟨h1, hk⟩
attribute [local irreducible] opL wk openE openH openU
theorem info_wop' : (Tryd.prog.info? 61).map (·.size) = some 5 := by kernel_rfl
set_option maxRecDepth 20000 in
set_option maxHeartbeats 4000000 in
theorem walCrashes_any (blocks : UInt8) (v1 : Value) (l : List Wop) (x : Wop) (vb vl vp : Value) (sb : UInt8) (v4 : Value) (cuts : List UInt8) (w : World) (hw : Halves w) (h1 : Wops w v1 l) (hn1 : l.length ≤ 1048576) (hb : Bytes w vb x.bs) (hv : LL w vl x.ls) (hp : Sl bv w vp x.ps) (hr : -9223372036854775808 ≤ x.n ∧ x.n ≤ 9223372036854775807) (h4 : Bytes w v4 cuts) :
    Calls Tryd.prog 8 #[.int .u8 (blocks.toNat : Int), v1, .agg #[.int .i64 x.what, .int .i64 x.n, vb, vl, vp], .int .u8 (sb.toNat : Int), v4] w (LawEnd w) := by
  have hwh := Lib.hid hw
  have h1h := Lib.hid h1
  have hbh := Lib.hid hb
  have hvh := Lib.hid hv
  have hph := Lib.hid hp
  have h4h := Lib.hid h4
  obtain ⟨a1, c1, rfl, -⟩ := h1
  obtain ⟨ab, cb, rfl, -⟩ := hb
  obtain ⟨al, cl, rfl, -⟩ := hv.get
  obtain ⟨ap, cp, rfl, -⟩ := hp
  obtain ⟨a4, c4, rfl, -⟩ := h4
  clear hv hw
  obtain ⟨t1, t2, t3, t4⟩ := rem27 blocks
  have hm := Lib.hid (show blocks.toNat % 27 < 27 from Nat.mod_lt _ (by decide))
  generalize blocks.toNat % 27 = m at *
  obtain ⟨u1, u2, u3⟩ := rem31 sb
  have hsn := Lib.hid (show sb.toNat % 31 < 31 from Nat.mod_lt _ (by decide))
  generalize sb.toNat % 31 = sn at *
  have eb := Lib.hid ((Ext.refl w).alloc (.cells #[.int .i64 x.what, .int .i64 x.n, .slice ab x.bs.length cb, .slice al x.ls.length cl, .slice ap x.ps.length cp] 61))
  have hB := Lib.hid (heap_alloc_new w (.cells #[.int .i64 x.what, .int .i64 x.n, .slice ab x.bs.length cb, .slice al x.ls.length cl, .slice ap x.ps.length cp] 61))
  have haw := awake10_any _ (hwh.out.ext eb.out)
  obtain ⟨wb, hwb⟩ : ∃ W, W = w.alloc (.cells #[.int .i64 x.what, .int .i64 x.n, .slice ab x.bs.length cb, .slice al x.ls.length cl, .slice ap x.ps.length cp] 61) := ⟨_, rfl⟩
  rw [← hwb] at haw hB eb
  go_enter Tryd.func8, Tryd.ntmps8
  go_upto_region 1 with fail
  rw [← hwb]
  obtain ⟨B, hBe⟩ : ∃ n, n = w.heap.size := ⟨_, rfl⟩
  rw [← hBe] at hB ⊢
  clear hwb hBe
  go_upto_region 2 with (go_at_call 23; refine haw.mono ?_; rintro e w1 ⟨rfl, e1⟩)
  have e1h := Lib.hid (eb.out.trans e1)
  have hBr := Lib.hid (show ∀ W, Ext w1 W → W.rangeAt B 0 [.int .i64 x.what, .int .i64 x.n, .slice ab x.bs.length cb, .slice al x.ls.length cl, .slice ap x.ps.length cp] from fun W e j u hu => by
    rw [cell_of_row _ _ _ _ _ _ ((e1.trans e).heap hB.out), Nat.zero_add, ← Array.getElem?_toList]
    exact hu)
  clear haw e1
  go_upto_region 3 with (first
    | (refine wpList_load_mid rfl 61 _ rfl B 0 rfl [.int .i64 x.what, .int .i64 x.n, .slice ab x.bs.length cb, .slice al x.ls.length cl, .slice ap x.ps.length cp] _ (hBr.out _ (Ext.refl w1)) Tryd.underlying61 rfl info_wop' ?_)
    | (refine wpList_appendOps rfl (.tmp 23) (.tmp 24) rfl w1 x _ _ _ (hbh.out.ext e1h.out) (hvh.out.ext e1h.out) (hph.out.ext e1h.out) hr _ l (h1h.out.ext e1h.out) hn1 rfl rfl ?_; intro v2 w2 ho2 e2)
    | (go_at_call 31; refine (fewW_any _ _ _ ho2).mono ?_; rintro e w2' ⟨rfl, rfl⟩))
  have c0 : w2.cell? ⟨B, 0, none⟩ = some (.int .i64 x.what) := hBr.out _ e2 0 _ rfl
  have e2h := Lib.hid (e1h.out.trans e2)
  have e12 := Lib.hid e2
  cases hf : fewW (x :: l)
  · go_wp2
    go_ret
    exact ⟨rfl, e2h.out⟩
  obtain ⟨hx20, hl20⟩ := fewW_cons hf
  have hx20 := Lib.hid (okW_ls hx20)
  have hl20 := Lib.hid (show ∀ y ∈ l, y.ls.length ≤ 20 from fun y hy => okW_ls (hl20 y hy))
  clear hf ho2 e2
  by_cases hc100 : 100 < cuts.length
  · go_wp2
    go_ret
    exact ⟨rfl, e2h.out⟩
  have hx : x.what = 1 ∨ x.what = 2 ∨ ((x.what != 1) = true ∧ (x.what != 2) = true) := by
    by_cases h1 : x.what = 1
    · exact .inl h1
    · by_cases h2 : x.what = 2
      · exact .inr (.inl h2)
      · exact .inr (.inr ⟨by rw [bne_iff_ne]; exact h1, by rw [bne_iff_ne]; exact h2⟩)
  have hwk := walked_any (n := 4 + m) (by omega) (by have := hm.out; omega) _ l w2 (h1h.out.ext e2h.out) hl20.out (hwh.out.ext e2h.out)
  rw [show ((4 + m : Nat) : Int) = 4 + (m : Int) by omega] at hwk
  obtain ⟨rs, hlw, -⟩ := wk_lw (n := 4 + m) (by omega) (by have := hm.out; omega) (cutAt cuts 0) l
  have hlwh := Lib.hid hlw
  have hg4 := Lib.hid hlw.sane
  have hst := Lib.hid (show (wk (4 + m) l).d.st.length ≤ 100000 from by rw [hlw.st]; exact Nat.zero_le _)
  have hscu := Lib.hid (hlw.found.2.2.2)
  have hrsl := Lib.hid (show rs.length ≤ 100000 from by have h1 := recs_len rs; rw [← hlw.recs] at h1; have h2 := sane_len hlw.sane; omega)
  clear hlw
  generalize wk (4 + m) l = g at *
  rcases hx with hx | hx | hx
  · have hkp := Lib.hid (keep_stopO hlwh.out (opOf x) cuts rfl sn)
    have hop := Lib.hid (show opOf x = .app x.bs from by unfold opOf; rw [hx]; rfl)
    have hap := Lib.hid (fun W F p q (l : LogM W F q p ⟨stop (sn : Int) g.d, g.h, g.u⟩) (hh : ¬ F 0) (e : Ext w W) => ldo_any (.pointer (some ⟨p, 0, none⟩)) x (.inl hx) l (hg4.out.disk rfl) (show (stop (sn : Int) g.d).st.length ≤ 100000 from hst.out) (hwh.out.ext e) hh (hbh.out.ext e) (hvh.out.ext e) (by have := hx20.out; omega) (hph.out.ext e))
    rw [hx] at hap c0 hBr
    generalize opL (opOf x) ⟨stop (sn : Int) g.d, g.h, g.u⟩ = r at *
    obtain ⟨E, g2⟩ := r
    dsimp only at hkp hap
    obtain ⟨N, hNe⟩ : ∃ N, N = nextR (opOf x) rs := ⟨_, rfl⟩
    rw [← hNe] at hkp
    have hN := Lib.hid (show N = (rs ++ [x.bs]) from by rw [hNe, hop.out]; rfl)
    clear hx hlwh hop hNe
    go_upto_region 8 with (go_at_call 32; refine hwk.mono ?_; rintro e w3 ⟨r, rfl, p, q, rfl, e3, l3⟩)
    have l3h := Lib.hid l3.bound
    have e3h := Lib.hid (e2h.out.trans e3)
    have e23w := Lib.hid e3
    have e23 := Lib.hid e3.size
    have e13 := Lib.hid (e12.out.trans e3)
    have hRc := lrecords_m l3 hg4.out (hwh.out.ext (e2h.out.trans e3))
    rw [hscu.out] at hRc
    clear hwk e3 l3 c0
    go_upto_region 9 with (go_at_call 33; refine hRc.mono ?_; rintro e w4 ⟨v15, rfl, o15, e4⟩)
    have e34 := Lib.hid e4
    have e24 := Lib.hid (e23w.out.trans e4)
    have e14 := Lib.hid (e13.out.trans e4)
    have e4h := Lib.hid (e3h.out.trans e4)
    have o15h := Lib.hid o15
    obtain ⟨a15, c15, rfl, -, -, -, -⟩ := o15.get
    have k0 : w4.cell? ⟨B, 0, none⟩ = some (.int .i64 1) := hBr.out _ e14.out 0 _ rfl
    have k2 : w4.cell? ⟨B, 2, none⟩ = some (.slice ab x.bs.length cb) := hBr.out _ e14.out 2 _ rfl
    have k3 : w4.cell? ⟨B, 3, none⟩ = some (.slice al x.ls.length cl) := hBr.out _ e14.out 3 _ rfl
    clear hRc e4 o15
    go_upto_region 11 with fail
    have hrs := Lib.hid (show rs.length ≤ 100000 from by
      have h1 := hrsl.out
      exact h1)
    have hs64 := Lib.hid (show ([] : List (List UInt8)).length + rs.length ≤ 1048576 from by have := hrs.out; simp; omega)
    have hs65 := Lib.hid (show ([] ++ rs : List (List UInt8)).length + [x.bs].length ≤ 1048576 from by have := hrs.out; simp; omega)
    have ho15 := Lib.hid o15h.out.ll
    have hkb := Lib.hid (show ∀ k, vblk (.slice ab x.bs.length cb) = some k → x.bs ≠ [] → k < w4.heap.size from fun k hk hl => Nat.lt_of_lt_of_le (hbh.out.blk_lt hl k hk) e4h.out.size)
    have hkb2 := Lib.hid (show ∀ k, vblk (.slice ab x.bs.length cb) = some k → x.bs ≠ [] → k < w2.heap.size from fun k hk hl => Nat.lt_of_lt_of_le (hbh.out.blk_lt hl k hk) e2h.out.size)
    have hbb := Lib.hid (show ∀ W, Ext w4 W → Bytes W (.slice ab x.bs.length cb) x.bs from fun W e => hbh.out.ext (e4h.out.trans e))
    have hcA := Lib.hid (show (((w4.alloc (.cells #[] 22)).alloc (.cells #[.slice ab x.bs.length cb] 22)).drew).cell? ⟨w4.heap.size + 1, 0, none⟩ = some (.slice ab x.bs.length cb) from by
      have h := cell_one_new (w4.alloc (.cells #[] 22)) (.slice ab x.bs.length cb) 22 0 _ rfl
      rw [World.size_alloc] at h
      exact ((Ext.refl _).drew).cell h)
    have hcB := Lib.hid (show (((w4.alloc (.cells #[.slice ab x.bs.length cb] 22)).alloc (.cells #[] 22)).drew).cell? ⟨w4.heap.size, 0, none⟩ = some (.slice ab x.bs.length cb) from
      ((((Ext.refl _).alloc _).drew)).cell (cell_one_new w4 (.slice ab x.bs.length cb) 22 0 _ rfl))
    have hoA := Lib.hid (show ∀ W, Ext (w4.alloc (.cells #[] 22)) W → OwnLL W w4.heap.size (fun k => k < w2.heap.size ∨ w3.heap.size ≤ k) (.slice (some ⟨w4.heap.size, 0, none⟩) 0 0) [] from fun W e => (OwnLL.new w4 _).ext e)
    have hoB := Lib.hid (show ∀ W, Ext ((w4.alloc (.cells #[.slice ab x.bs.length cb] 22)).alloc (.cells #[] 22)) W → OwnLL W w4.heap.size (fun k => k < w2.heap.size ∨ w3.heap.size ≤ k) (.slice (some ⟨w4.heap.size + 1, 0, none⟩) 0 0) [] from fun W e => by
      have h := (OwnLL.new (w4.alloc (.cells #[.slice ab x.bs.length cb] 22)) (fun k => k < w2.heap.size ∨ w3.heap.size ≤ k)).ext e
      rw [World.size_alloc] at h
      exact h.low (Nat.le_succ _))
    clear k0 k3
    go_region_held3 (fun W => W.cell? ⟨B, 2, none⟩ = some (.slice ab x.bs.length cb))
      ((refine hBr.out _ (e14.out.trans ?_) 2 _ rfl; first | exact e6 | exact e5 | exact (by (repeat (first | exact Ext.refl _ | with_reducible assumption | refine Ext.drew ?_ | refine Ext.alloc ?_ _ | refine Ext.trans ?_ (by assumption))))))
      (first
        | (refine step_appendLLx rfl (.tmp 67) (.tmp 68) rfl w4.heap.size (fun k => k < w2.heap.size ∨ w3.heap.size ≤ k) (.slice (some ⟨w4.heap.size, 0, none⟩) 0 0) [] rfl (hoA.out _ (by (repeat (first | exact Ext.refl _ | with_reducible assumption | refine Ext.drew ?_ | refine Ext.alloc ?_ _ | refine Ext.trans ?_ (by assumption))))) (.slice a15 rs.length c15) rs rfl (ho15.out.ext (by (repeat (first | exact Ext.refl _ | with_reducible assumption | refine Ext.drew ?_ | refine Ext.alloc ?_ _ | refine Ext.trans ?_ (by assumption))))) (ll_hu o15h.out (by (repeat (first | exact Ext.refl _ | with_reducible assumption | refine Ext.drew ?_ | refine Ext.alloc ?_ _ | refine Ext.trans ?_ (by assumption)))) (fun k hk => by have := own_at hk; omega) (fun k hk => .inr hk)) hs64.out (size_of (by (repeat (first | exact Ext.refl _ | with_reducible assumption | refine Ext.drew ?_ | refine Ext.alloc ?_ _ | refine Ext.trans ?_ (by assumption))))) ?_; intro v5 w5 o5 g5 h5; have e5 : Ext w4 w5 := Ext.grown (by (repeat (first | exact Ext.refl _ | with_reducible assumption | refine Ext.drew ?_ | refine Ext.alloc ?_ _ | refine Ext.trans ?_ (by assumption)))) g5 (fun k hk => by have := own_at hk; omega))
        | (refine step_appendLLx rfl (.tmp 67) (.tmp 68) rfl w4.heap.size (fun k => k < w2.heap.size ∨ w3.heap.size ≤ k) (.slice (some ⟨w4.heap.size + 1, 0, none⟩) 0 0) [] rfl (hoB.out _ (by (repeat (first | exact Ext.refl _ | with_reducible assumption | refine Ext.drew ?_ | refine Ext.alloc ?_ _ | refine Ext.trans ?_ (by assumption))))) (.slice a15 rs.length c15) rs rfl (ho15.out.ext (by (repeat (first | exact Ext.refl _ | with_reducible assumption | refine Ext.drew ?_ | refine Ext.alloc ?_ _ | refine Ext.trans ?_ (by assumption))))) (ll_hu o15h.out (by (repeat (first | exact Ext.refl _ | with_reducible assumption | refine Ext.drew ?_ | refine Ext.alloc ?_ _ | refine Ext.trans ?_ (by assumption)))) (fun k hk => by have := own_at hk; omega) (fun k hk => .inr hk)) hs64.out (size_of (by (repeat (first | exact Ext.refl _ | with_reducible assumption | refine Ext.drew ?_ | refine Ext.alloc ?_ _ | refine Ext.trans ?_ (by assumption))))) ?_; intro v5 w5 o5 g5 h5; have e5 : Ext w4 w5 := Ext.grown (by (repeat (first | exact Ext.refl _ | with_reducible assumption | refine Ext.drew ?_ | refine Ext.alloc ?_ _ | refine Ext.trans ?_ (by assumption)))) g5 (fun k hk => by have := own_at hk; omega))
        | (refine step_appendLLx rfl (.tmp 69) (.tmp 72) rfl w4.heap.size (fun k => k < w2.heap.size ∨ w3.heap.size ≤ k) v5 ([] ++ rs) rfl (by first | exact o5 | exact o5.ext ((Ext.refl _).alloc _)) _ [x.bs] rfl (by first | exact LL.one (cell_one_new w5 _ _ 0 _ rfl) (hbb.out _ (e5.alloc _)) | exact LL.one (grown_cell g5 hcA.out (fun h => by have := own_at h; simp at this)) (hbb.out _ e5) | exact LL.one (grown_cell g5 hcB.out (fun h => by have := own_at h; simp at this)) (hbb.out _ e5)) (by first | exact ll1_hu (cell_one_new w5 _ _ 0 _ rfl) rfl (fun k hk hl => ⟨.inl (hkb2.out k hk hl), fun h => by have := (o5.own_lt k h).1; have := hkb.out k hk hl; omega⟩) | exact ll1_hu (grown_cell g5 hcA.out (fun h => by have := own_at h; simp at this)) rfl (fun k hk hl => ⟨.inl (hkb2.out k hk hl), fun h => by have := (o5.own_lt k h).1; have := hkb.out k hk hl; omega⟩) | exact ll1_hu (grown_cell g5 hcB.out (fun h => by have := own_at h; simp at this)) rfl (fun k hk hl => ⟨.inl (hkb2.out k hk hl), fun h => by have := (o5.own_lt k h).1; have := hkb.out k hk hl; omega⟩)) hs65.out (by first | exact e5.size | exact (e5.alloc _).size) ?_; intro v6 w6 o6 g6 h6; have e6 : Ext w4 w6 := by first | exact Ext.grown e5 g6 (fun k hk => (o5.own_lt k hk).1) | exact Ext.grown (e5.alloc _) g6 (fun k hk => (o5.own_lt k hk).1)))
    all_goals
      obtain ⟨w5, hw5, e45'⟩ : ∃ W, W = w6 ∧ Ext w4 W := ⟨_, rfl, e6⟩
      have e45 := Lib.hid e45'
      rw [← hw5] at o6
      rw [← hw5]
      rw [List.nil_append] at o6
      obtain ⟨F, hFe⟩ : ∃ F : Nat → Prop, F = fun k => (w2.heap.size ≤ k ∧ k < w3.heap.size) ∨ w5.heap.size ≤ k := ⟨_, rfl⟩
      have hvn := Lib.hid (show StayLL F w5 v6 (rs ++ [x.bs]) from stay_ownLL o6 (fun k hk h => by have h1 := o6.own_lt k hk; rw [hFe] at h; have := e34.out.size; omega) (fun k hk hl h => by rw [hFe] at h; have := e34.out.size; have := e45.out.size; omega))
      obtain ⟨an, cn, rfl, -, -, -, -⟩ := o6.get
      rw [show (rs ++ [x.bs]).length = rs.length + 1 from by simp] at hvn
      clear hw5 e45' o6 g6 h6 e6 o5 g5 h5 e5 hcA hcB hoA hoB ho15 hs64 hs65
      try clear hHeld
      have hFo := Lib.hid (show ∀ k, F k → w2.heap.size ≤ k from fun k hk => by rw [hFe] at hk; have := e34.out.size; have := e45.out.size; have := (l3h.out.bound); have h5 : w2.heap.size ≤ w3.heap.size := e23.out; omega)
      have hEx2 := Lib.hid (show ∀ W, Chg F w5 W → Ext w2 W from fun W c => (e24.out.trans e45.out).chg c hFo.out)
      have hnh := Lib.hid (show ¬ F 0 from fun h => not_from (hwh.out.ext e2h.out) (hFo.out _ h))
      have hgr := Lib.hid (show ∀ W : World, w5.heap.size ≤ W.heap.size → ∀ j, grow F W j → F j from fun W h j hj => hj.elim id fun h2 => by rw [hFe]; exact .inr (Nat.le_trans h h2))
      have l5 := Lib.hid (show LogM w5 F q p g from ((l3h.out.ext e34.out).ext e45.out).mono fun k hk => by rw [hFe]; exact .inl hk)
      have hwas := Lib.hid (show StayLL F w5 (.slice a15 rs.length c15) rs from stay_ownLL (o15h.out.ext e45.out) (fun k hk h => by have h1 := o15h.out.own_lt k hk; rw [hFe] at h; have := e45.out.size; omega) (fun k hk hl h => by rw [hFe] at h; have h1 : w3.heap.size ≤ k := hk; omega))
      have hst1 := lstop_m l5.out (sn : Int) (by omega) (by have := hsn.out; omega)
      clear hFe l3h o15h
      go_upto_region 13 with (go_at_call 34; refine hst1.mono ?_; rintro e w6 ⟨rfl, c6, l6⟩)
      have c06 := Lib.hid c6
      have l6h := Lib.hid (l6.mono (hgr.out _ (Nat.le_refl _)))
      have hap6 := hap.out _ F p q l6h.out hnh.out (e2h.out.trans (hEx2.out _ c6))
      have hr6 := Lib.hid (hBr.out w6 (e12.out.trans (hEx2.out _ c6)))
      clear hst1 c6 l6 hap
      go_upto_region 14 with (first
        | (refine wpList_load_mid rfl 61 _ rfl B 0 rfl [.int .i64 1, .int .i64 x.n, .slice ab x.bs.length cb, .slice al x.ls.length cl, .slice ap x.ps.length cp] _ hr6.out Tryd.underlying61 rfl info_wop' ?_)
        | (go_at_call 35; refine hap6.mono ?_; rintro e w7 ⟨rfl, c7, l7⟩))
      have c07 := Lib.hid (c06.out.trans c7)
      have l7h := Lib.hid (l7.mono (hgr.out _ c06.out.size))
      have hcr := lcrash_m l7h.out (.slice a4 cuts.length c4) cuts (fun W c => h4h.out.ext (e2h.out.trans (hEx2.out _ (c07.out.trans c))))
      clear hap6 c7 l7
      go_upto_region 15 with (go_at_call 36; refine hcr.mono ?_; rintro e w8 ⟨rfl, c8, l8⟩)
      have c08 := Lib.hid (c07.out.trans c8)
      have l8h := Lib.hid (l8.mono (hgr.out _ c07.out.size))
      have hopn := lopen_l l8h.out (hwh.out.ext (e2h.out.trans (hEx2.out _ c08.out)))
      dsimp only at hopn
      generalize crash cuts g2.d = d2 at *
      obtain ⟨rs', hsn2, hE0, hscn, hout⟩ := hkp.out
      rw [hE0] at hopn
      have hsnh := Lib.hid hsn2
      clear hcr c8 l8 hkp hE0 hsn2
      go_upto_region 18 with (go_at_call 27; refine hopn.mono ?_; rintro e w9 ⟨r, rfl, e9, ⟨h0, -⟩ | ⟨-, q', rfl, hq', l9⟩⟩; exact absurd rfl h0)
      have c09 := Lib.hid (c08.out.ext e9)
      have l9h := Lib.hid l9
      have hRc2 := lrecords_m l9h.out hsnh.out (hwh.out.ext (e2h.out.trans (hEx2.out _ c09.out)))
      rw [show scan (⟨d2, openH d2, openU d2⟩ : Lg).u = rs' from hscn] at hRc2
      clear hopn l9 e9 hq' hscn
      go_upto_region 19 with (go_at_call 33; refine hRc2.mono ?_; rintro e w10 ⟨v20, rfl, o20, e10⟩)
      have c10 := Lib.hid (c09.out.ext e10)
      have hnow := Lib.hid o20.ll
      have hwasw := Lib.hid (hwas.out _ c10.out)
      have hnxtw := Lib.hid (hvn.out _ c10.out)
      have e10w := Lib.hid (e2h.out.trans (hEx2.out _ c10.out))
      obtain ⟨a20, c20, rfl, -, -, -, -⟩ := o20.get
      clear hRc2 o20 e10
      have hsq1 : seqL N (rs ++ [x.bs]) = true := seqL_true.2 hN.out
      have hsq2 : seqL rs rs = true := seqL_true.2 rfl
      rcases hout with ⟨hE, rfl⟩ | ⟨hE, rfl⟩ | ⟨hE, rfl⟩
      · subst hE
        go_wp2_with (go_at_call 21; refine (lists_any _ _ _ _ _ hnow.out hnxtw.out).mono ?_; rintro e w11 ⟨rfl, e11⟩; go_wp2_with fail)
        go_ret
        exact ⟨rfl, e10w.out.trans e11⟩
      · have d0 : (E == 0) = false := by rw [beq_eq_false_iff_ne]; exact hE
        by_cases h21 : E = 21
        · subst h21
          go_wp2_with (go_at_call 21; refine (lists_any _ _ _ _ _ hnow.out hwasw.out).mono ?_; rintro e w11 ⟨rfl, e11⟩; go_wp2_with fail)
          go_ret
          exact ⟨rfl, e10w.out.trans e11⟩
        · have d1 : (E != 21) = true := by rw [bne_iff_ne]; exact h21
          go_wp2_with (go_at_call 21; refine (lists_any _ _ _ _ _ hnow.out hwasw.out).mono ?_; rintro e w11 ⟨rfl, e11⟩; go_wp2_with fail)
          go_ret
          exact ⟨rfl, e10w.out.trans e11⟩
      · subst hE
        cases hq : seqL rs' rs
        · go_wp2_with (go_at_call 21; refine (lists_any _ _ _ _ _ (by first | exact hnow.out | exact hnow.out.ext e11) (by first | exact hwasw.out | exact hnxtw.out.ext e11)).mono ?_; first | (rintro e w12 ⟨rfl, e12⟩; have e13' := e11.trans e12) | rintro e w11 ⟨rfl, e11⟩)
          go_ret
          exact ⟨rfl, e10w.out.trans e13'⟩
        · go_wp2_with (go_at_call 21; refine (lists_any _ _ _ _ _ hnow.out hwasw.out).mono ?_; rintro e w11 ⟨rfl, e11⟩; go_wp2_with fail)
          go_ret
          exact ⟨rfl, e10w.out.trans e11⟩
  · have hkp := Lib.hid (keep_stopO hlwh.out (opOf x) cuts rfl sn)
    have hop := Lib.hid (show opOf x = .rep x.ls from by unfold opOf; rw [hx]; rfl)
    have hap := Lib.hid (fun W F p q (l : LogM W F q p ⟨stop (sn : Int) g.d, g.h, g.u⟩) (hh : ¬ F 0) (e : Ext w W) => ldo_any (.pointer (some ⟨p, 0, none⟩)) x (.inr hx) l (hg4.out.disk rfl) (show (stop (sn : Int) g.d).st.length ≤ 100000 from hst.out) (hwh.out.ext e) hh (hbh.out.ext e) (hvh.out.ext e) (by have := hx20.out; omega) (hph.out.ext e))
    rw [hx] at hap c0 hBr
    generalize opL (opOf x) ⟨stop (sn : Int) g.d, g.h, g.u⟩ = r at *
    obtain ⟨E, g2⟩ := r
    dsimp only at hkp hap
    obtain ⟨N, hNe⟩ : ∃ N, N = nextR (opOf x) rs := ⟨_, rfl⟩
    rw [← hNe] at hkp
    have hN := Lib.hid (show N = x.ls from by rw [hNe, hop.out]; rfl)
    clear hx hlwh hop hNe
    go_upto_region 8 with (go_at_call 32; refine hwk.mono ?_; rintro e w3 ⟨r, rfl, p, q, rfl, e3, l3⟩)
    have l3h := Lib.hid l3.bound
    have e3h := Lib.hid (e2h.out.trans e3)
    have e23w := Lib.hid e3
    have e23 := Lib.hid e3.size
    have e13 := Lib.hid (e12.out.trans e3)
    have hRc := lrecords_m l3 hg4.out (hwh.out.ext (e2h.out.trans e3))
    rw [hscu.out] at hRc
    clear hwk e3 l3 c0
    go_upto_region 9 with (go_at_call 33; refine hRc.mono ?_; rintro e w4 ⟨v15, rfl, o15, e4⟩)
    have e34 := Lib.hid e4
    have e24 := Lib.hid (e23w.out.trans e4)
    have e14 := Lib.hid (e13.out.trans e4)
    have e4h := Lib.hid (e3h.out.trans e4)
    have o15h := Lib.hid o15
    obtain ⟨a15, c15, rfl, -, -, -, -⟩ := o15.get
    have k0 : w4.cell? ⟨B, 0, none⟩ = some (.int .i64 2) := hBr.out _ e14.out 0 _ rfl
    have k2 : w4.cell? ⟨B, 2, none⟩ = some (.slice ab x.bs.length cb) := hBr.out _ e14.out 2 _ rfl
    have k3 : w4.cell? ⟨B, 3, none⟩ = some (.slice al x.ls.length cl) := hBr.out _ e14.out 3 _ rfl
    clear hRc e4 o15
    go_upto_region 12 with fail
    obtain ⟨w5, hw5, e45'⟩ : ∃ W, W = w4 ∧ Ext w4 W := ⟨_, rfl, Ext.refl _⟩
    have e45 := Lib.hid e45'
    rw [← hw5]
    obtain ⟨F, hFe⟩ : ∃ F : Nat → Prop, F = fun k => (w2.heap.size ≤ k ∧ k < w3.heap.size) ∨ w5.heap.size ≤ k := ⟨_, rfl⟩
    have hvn := Lib.hid (show StayLL F w5 (.slice al x.ls.length cl) x.ls from stay_oldLL hvh.out (e4h.out.trans e45.out) (fun k hk => by rw [hFe] at hk; have := e2h.out.size; have := e4h.out.size; have := e45.out.size; omega))
    clear hw5 e45' k0 k2 k3
    have hFo := Lib.hid (show ∀ k, F k → w2.heap.size ≤ k from fun k hk => by rw [hFe] at hk; have := e34.out.size; have := e45.out.size; have := (l3h.out.bound); have h5 : w2.heap.size ≤ w3.heap.size := e23.out; omega)
    have hEx2 := Lib.hid (show ∀ W, Chg F w5 W → Ext w2 W from fun W c => (e24.out.trans e45.out).chg c hFo.out)
    have hnh := Lib.hid (show ¬ F 0 from fun h => not_from (hwh.out.ext e2h.out) (hFo.out _ h))
    have hgr := Lib.hid (show ∀ W : World, w5.heap.size ≤ W.heap.size → ∀ j, grow F W j → F j from fun W h j hj => hj.elim id fun h2 => by rw [hFe]; exact .inr (Nat.le_trans h h2))
    have l5 := Lib.hid (show LogM w5 F q p g from ((l3h.out.ext e34.out).ext e45.out).mono fun k hk => by rw [hFe]; exact .inl hk)
    have hwas := Lib.hid (show StayLL F w5 (.slice a15 rs.length c15) rs from stay_ownLL (o15h.out.ext e45.out) (fun k hk h => by have h1 := o15h.out.own_lt k hk; rw [hFe] at h; have := e45.out.size; omega) (fun k hk hl h => by rw [hFe] at h; have h1 : w3.heap.size ≤ k := hk; omega))
    have hst1 := lstop_m l5.out (sn : Int) (by omega) (by have := hsn.out; omega)
    clear hFe l3h o15h
    go_upto_region 13 with (go_at_call 34; refine hst1.mono ?_; rintro e w6 ⟨rfl, c6, l6⟩)
    have c06 := Lib.hid c6
    have l6h := Lib.hid (l6.mono (hgr.out _ (Nat.le_refl _)))
    have hap6 := hap.out _ F p q l6h.out hnh.out (e2h.out.trans (hEx2.out _ c6))
    have hr6 := Lib.hid (hBr.out w6 (e12.out.trans (hEx2.out _ c6)))
    clear hst1 c6 l6 hap
    go_upto_region 14 with (first
      | (refine wpList_load_mid rfl 61 _ rfl B 0 rfl [.int .i64 2, .int .i64 x.n, .slice ab x.bs.length cb, .slice al x.ls.length cl, .slice ap x.ps.length cp] _ hr6.out Tryd.underlying61 rfl info_wop' ?_)
      | (go_at_call 35; refine hap6.mono ?_; rintro e w7 ⟨rfl, c7, l7⟩))
    have c07 := Lib.hid (c06.out.trans c7)
    have l7h := Lib.hid (l7.mono (hgr.out _ c06.out.size))
    have hcr := lcrash_m l7h.out (.slice a4 cuts.length c4) cuts (fun W c => h4h.out.ext (e2h.out.trans (hEx2.out _ (c07.out.trans c))))
    clear hap6 c7 l7
    go_upto_region 15 with (go_at_call 36; refine hcr.mono ?_; rintro e w8 ⟨rfl, c8, l8⟩)
    have c08 := Lib.hid (c07.out.trans c8)
    have l8h := Lib.hid (l8.mono (hgr.out _ c07.out.size))
    have hopn := lopen_l l8h.out (hwh.out.ext (e2h.out.trans (hEx2.out _ c08.out)))
    dsimp only at hopn
    generalize crash cuts g2.d = d2 at *
    obtain ⟨rs', hsn2, hE0, hscn, hout⟩ := hkp.out
    rw [hE0] at hopn
    have hsnh := Lib.hid hsn2
    clear hcr c8 l8 hkp hE0 hsn2
    go_upto_region 18 with (go_at_call 27; refine hopn.mono ?_; rintro e w9 ⟨r, rfl, e9, ⟨h0, -⟩ | ⟨-, q', rfl, hq', l9⟩⟩; exact absurd rfl h0)
    have c09 := Lib.hid (c08.out.ext e9)
    have l9h := Lib.hid l9
    have hRc2 := lrecords_m l9h.out hsnh.out (hwh.out.ext (e2h.out.trans (hEx2.out _ c09.out)))
    rw [show scan (⟨d2, openH d2, openU d2⟩ : Lg).u = rs' from hscn] at hRc2
    clear hopn l9 e9 hq' hscn
    go_upto_region 19 with (go_at_call 33; refine hRc2.mono ?_; rintro e w10 ⟨v20, rfl, o20, e10⟩)
    have c10 := Lib.hid (c09.out.ext e10)
    have hnow := Lib.hid o20.ll
    have hwasw := Lib.hid (hwas.out _ c10.out)
    have hnxtw := Lib.hid (hvn.out _ c10.out)
    have e10w := Lib.hid (e2h.out.trans (hEx2.out _ c10.out))
    obtain ⟨a20, c20, rfl, -, -, -, -⟩ := o20.get
    clear hRc2 o20 e10
    have hsq1 : seqL N x.ls = true := seqL_true.2 hN.out
    have hsq2 : seqL rs rs = true := seqL_true.2 rfl
    rcases hout with ⟨hE, rfl⟩ | ⟨hE, rfl⟩ | ⟨hE, rfl⟩
    · subst hE
      go_wp2_with (go_at_call 21; refine (lists_any _ _ _ _ _ hnow.out hnxtw.out).mono ?_; rintro e w11 ⟨rfl, e11⟩; go_wp2_with fail)
      go_ret
      exact ⟨rfl, e10w.out.trans e11⟩
    · have d0 : (E == 0) = false := by rw [beq_eq_false_iff_ne]; exact hE
      by_cases h21 : E = 21
      · subst h21
        go_wp2_with (go_at_call 21; refine (lists_any _ _ _ _ _ hnow.out hwasw.out).mono ?_; rintro e w11 ⟨rfl, e11⟩; go_wp2_with fail)
        go_ret
        exact ⟨rfl, e10w.out.trans e11⟩
      · have d1 : (E != 21) = true := by rw [bne_iff_ne]; exact h21
        go_wp2_with (go_at_call 21; refine (lists_any _ _ _ _ _ hnow.out hwasw.out).mono ?_; rintro e w11 ⟨rfl, e11⟩; go_wp2_with fail)
        go_ret
        exact ⟨rfl, e10w.out.trans e11⟩
    · subst hE
      cases hq : seqL rs' rs
      · go_wp2_with (go_at_call 21; refine (lists_any _ _ _ _ _ (by first | exact hnow.out | exact hnow.out.ext e11) (by first | exact hwasw.out | exact hnxtw.out.ext e11)).mono ?_; first | (rintro e w12 ⟨rfl, e12⟩; have e13' := e11.trans e12) | rintro e w11 ⟨rfl, e11⟩)
        go_ret
        exact ⟨rfl, e10w.out.trans e13'⟩
      · go_wp2_with (go_at_call 21; refine (lists_any _ _ _ _ _ hnow.out hwasw.out).mono ?_; rintro e w11 ⟨rfl, e11⟩; go_wp2_with fail)
        go_ret
        exact ⟨rfl, e10w.out.trans e11⟩
  · obtain ⟨p1, p2⟩ := hx
    go_wp2
    go_ret
    exact ⟨rfl, e2h.out⟩
end Go.Proofs.YtmpjcnopakfdmaaDoor
