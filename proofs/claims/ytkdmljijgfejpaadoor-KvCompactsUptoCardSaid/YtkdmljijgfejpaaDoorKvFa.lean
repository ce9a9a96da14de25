/- KvFails: the walk. -/
import Derived.Test.YtkdmljijgfejpaaDoorGKo
import Derived.WideMake
namespace Go.Proofs.YtkdmljijgfejpaaDoor
set_option linter.unusedVariables false
set_option linter.unusedSimpArgs false
open Go.RowKit Kv Dk Wl Fr

def brow (n : Nat) : Array Value := ((List.replicate n false).map bv).toArray
theorem info_boolZ : (Tryd.prog.info? 4).map (fun i => (i.zero, i.size, i.bytes)) = some (some (.bool false), 1, 1) := by kernel_rfl
theorem make_bools (n : Nat) (hn : n ≤ 1048576) (W : World) : (Instr.makeSlice 47 (.int .i64 (n : Int)) (.int .i64 (n : Int))).run Tryd.prog W = .ok (.slice (some ⟨W.heap.size, 0, none⟩) n n) (W.alloc (.cells (brow n) 4)) := by
  obtain ⟨i, hi, hz0, hz1, hz2⟩ := info_parts info_boolZ
  have h := run_make (P := Tryd.prog) W 47 4 i _ Tryd.underlying47 hi hz0 .i64 .i64 (n : Int) (n : Int) (by omega) (Int.le_refl _) (by rw [hz2]; omega) (by omega)
  rw [Int.toNat_natCast, hz1] at h
  rw [h]
  have e : madeCells (Value.cells (.bool false)) (n * 1) = brow n := by
    rw [Nat.mul_one]
    apply Array.ext'
    unfold madeCells brow
    rw [Array.toList_map, Array.toList_range, List.map_replicate]
    apply List.ext_getElem?
    intro j
    rw [List.getElem?_map, List.getElem?_replicate]
    by_cases hj : j < n
    · rw [List.getElem?_range hj, if_pos hj]
      simp [Value.cells, bv, Nat.mod_one]
    · rw [List.getElem?_eq_none (by simp; omega), if_neg hj]; rfl
  rw [e]
theorem brow_get (n j : Nat) (h : j < n) : (brow n)[j]? = some (.bool false) := by
  unfold brow
  rw [← Array.getElem?_toList, List.toList_toArray, List.getElem?_map, List.getElem?_replicate, if_pos h]; rfl
theorem plan_sl (w : World) (k : Nat) : Ext w (w.alloc (.cells ((brow (k + 1)).setIfInBounds k (.bool true)) 4)) ∧ (k ≤ 100 → Sl bv (w.alloc (.cells ((brow (k + 1)).setIfInBounds k (.bool true)) 4)) (.slice (some ⟨w.heap.size, 0, none⟩) (k + 1) (k + 1)) (List.replicate k false ++ [true])) := by
  have hh := heap_alloc_new w (.cells ((brow (k + 1)).setIfInBounds k (.bool true)) 4)
  refine ⟨(Ext.refl w).alloc _, fun hk => ⟨_, k + 1, by simp, by simp, by unfold maxLen; omega, fun h => by simp at h, fun j x hj => ⟨w.heap.size, 0, rfl, ?_⟩⟩⟩
  rw [cell_of_row _ _ _ _ _ _ hh, Nat.zero_add]
  have hjl := (List.getElem?_eq_some_iff.1 hj).1
  simp at hjl
  by_cases hjk : j = k
  · subst hjk
    rw [List.getElem?_append_right (by simp)] at hj
    simp at hj
    subst hj
    have hsz : j < (brow (j + 1)).size := by unfold brow; simp
    simp [Array.getElem?_setIfInBounds, hsz, bv]
  · rw [List.getElem?_append_left (by simp; omega), List.getElem?_replicate, if_pos (by omega)] at hj
    cases hj
    rw [Array.getElem?_setIfInBounds_ne (by omega), brow_get _ _ (by omega)]; rfl
theorem frozen_row {w : World} {g : Nat} {C : Array Value} {t : TypeId} (h : w.heap[g]? = some (.cells C t (0, 0))) (j : Nat) : w.frozen? ⟨g, j, none⟩ = false := by simp [World.frozen?, h]
theorem wrap_leK {x : Int} {n : Nat} (h : x = (n : Int)) (hn : n ≤ 1000) : IntKind.i64.wrap x = (n : Int) := by rw [IntKind.wrap_i64]; omega
theorem rem61 (b : UInt8) : Int.tmod (b.toNat : Int) 61 = ((b.toNat % 61 : Nat) : Int) ∧ IntKind.u8.wrap ((b.toNat % 61 : Nat) : Int) = ((b.toNat % 61 : Nat) : Int) ∧ IntKind.i64.wrap ((b.toNat % 61 : Nat) : Int) = ((b.toNat % 61 : Nat) : Int) := by
  have := b.toNat_lt
  refine ⟨by rw [Int.tmod_eq_emod_of_nonneg (by omega)]; omega, by rw [IntKind.wrap_u8]; omega, by rw [IntKind.wrap_i64]; omega⟩
theorem fewK_cons {x : Kop} {l : List Kop} (h : fewK (x :: l) = true) : okK x = true ∧ (∀ y ∈ l, y.ls.length ≤ 12) ∧ l.length ≤ 19 := by
  unfold fewK at h
  rw [Bool.and_eq_true, decide_eq_true_eq, List.all_cons, Bool.and_eq_true, List.length_cons] at h
  exact ⟨h.1.1, fun y hy => okK_ls (List.all_eq_true.1 h.1.2 y hy), by omega⟩
theorem OwnRs.lt' {α : Type} {E : TypeId} {k : Nat} {enc : α → List Value} {fits : α → Prop} {w : World} {F : Nat → Prop} {v : Value} {l : List α} (h : OwnRs E k enc fits w F v l) : OwnRs E k enc fits w (fun j => F j ∧ j < w.heap.size) v l := ⟨h.1.lt, h.2⟩
attribute [local irreducible] brow kw comL opL Kv.after openE openH openU
set_option maxRecDepth 20000 in
set_option maxHeartbeats 4000000 in
theorem kvFails_any (blocks : UInt8) (v1 : Value) (l : List Kop) (v2 : Value) (c : List Ch) (sb : UInt8) (w : World) (hw : Halves w) (h1 : Kops w v1 l) (hn1 : l.length ≤ 1048576) (h2 : Chs w v2 c) :
    Calls Tryd.prog 5 #[.int .u8 (blocks.toNat : Int), v1, v2, .int .u8 (sb.toNat : Int)] w (LawEnd w) := by
  have haw := awake11_any w hw
  have hwh := Lib.hid hw
  have h1h := Lib.hid h1
  have h2h := Lib.hid h2
  obtain ⟨a1, c1, rfl, m1, -⟩ := h1.shape
  obtain ⟨a2, c2, rfl, m2, -⟩ := h2.shape
  obtain ⟨u1, u2, u3⟩ := rem61 sb
  have hsn := Lib.hid (show sb.toNat % 61 < 61 from Nat.mod_lt _ (by decide))
  generalize sb.toNat % 61 = sn at *
  clear h1 h2 hw
  have hX := Lib.hid (fun W (e : Ext w W) => show KopC W ⟨0, 0, c, [], []⟩ [.int .i64 0, .int .i64 0, .slice a2 c.length c2, .slice none 0 0, .slice none 0 0] from ⟨_, _, _, rfl, h2h.out.ext e, Sl.nil _, Bytes.nil _⟩)
  go_enter Tryd.func5, Tryd.ntmps5
  go_upto_region 2 with (go_at_call 8; refine haw.mono ?_; rintro e w1 ⟨rfl, e1⟩)
  have hK1 := h1h.out.ext e1
  have e1h := Lib.hid e1
  clear haw
  go_upto_region 3 with (first
    | (at_builtin; refine wpList_appendKops rfl (.tmp 21) (.tmp 22) rfl w1 ⟨0, 0, c, [], []⟩ [.int .i64 0, .int .i64 0, .slice a2 c.length c2, .slice none 0 0, .slice none 0 0] rfl (hX.out w1 e1) (.slice a1 l.length c1) l hK1 hn1 rfl rfl ?_; intro v3 w2 o2 e2)
    | (go_at_call 21; refine (fewK_any _ _ _ o2).mono ?_; rintro e w2' ⟨rfl, rfl⟩))
  have e2h := Lib.hid (e1h.out.trans e2)
  clear hX hK1 o2 e1 e2
  cases hfw : fewK (⟨0, 0, c, [], []⟩ :: l)
  · go_wp2
    go_ret
    exact ⟨rfl, e2h.out⟩
  obtain ⟨k1, k2, k3⟩ := fewK_cons hfw
  have hc12 := Lib.hid (show c.length ≤ 12 from okK_ls k1)
  have hl20 := Lib.hid k3
  have hWk := walked11_any blocks (.slice a1 l.length c1) l w2 (h1h.out.ext e2h.out) k2 (by omega) (hwh.out.ext e2h.out)
  obtain ⟨q1, q2, q3, q4⟩ := kw_KI (nB_le blocks).1 (Nat.le_trans (nB_le blocks).2 (by decide)) 0 l k2
  have hKI := Lib.hid q1
  have hL := Lib.hid (show (kw (nB blocks) l).2.length ≤ 240 from by omega)
  clear k1 k2 k3 q1 q2 q3 q4 hfw
  generalize kw (nB blocks) l = S at *
  obtain ⟨g, L⟩ := S
  dsimp only at hWk hKI hL
  have hcf := Lib.hid (com_fail hKI.out c sn)
  go_upto_region 6 with (go_at_call 22; refine hWk.mono ?_; rintro e w3 ⟨r, rfl, p, s, rfl, e3, k3⟩)
  have k3h := Lib.hid k3.bound
  have e23 := Lib.hid e3
  have e3h := Lib.hid (e2h.out.trans e3)
  clear hWk e3 k3
  obtain ⟨N, hN⟩ : ∃ N, N = sn + 1 := ⟨_, rfl⟩
  have g1 : IntKind.i64.wrap ((sn : Int) + 1) = (N : Int) := wrap_leK (by rw [hN]; omega) (by have := hsn.out; omega)
  have hmk := fun W => make_bools N (by have := hsn.out; omega) W
  have hnew := heap_alloc_new w3 (.cells (brow N) 4)
  have b1 : (w3.alloc (.cells (brow N) 4)).cell? ⟨w3.heap.size, sn, none⟩ = some (.bool false) := by rw [cell_of_row _ _ _ _ _ _ hnew]; exact brow_get _ _ (by omega)
  have b2 : (w3.alloc (.cells (brow N) 4)).frozen? ⟨w3.heap.size, sn, none⟩ = false := frozen_row hnew sn
  have b3 : (sn : Int) < (N : Int) := by omega
  have b4 : sn < N := by omega
  obtain ⟨e34, hsl⟩ := plan_sl w3 sn
  rw [← hN] at e34 hsl
  have e34h := Lib.hid e34
  have hslh := Lib.hid (hsl (by have := hsn.out; omega))
  clear hnew hN e34 hsl
  go_upto_region 8 with fail
  go_upto_region 10 with fail
  generalize w3.alloc (.cells ((brow N).setIfInBounds sn (.bool true)) 4) = w4 at *
  have hAl := kvAll_any (k3h.out.ext e34h.out) hKI.out.oks (by have := hL.out; omega)
  clear b1 b2 hmk b3 b4 g1
  go_upto_region 11 with (go_at_call 19; refine hAl.mono ?_; rintro e w5 ⟨wa, rfl, o5, e5⟩)
  have e45 := Lib.hid e5
  have e35 := Lib.hid (e34h.out.trans e5)
  have e05 := Lib.hid (e3h.out.trans e35.out)
  have e25 := Lib.hid (e23.out.trans e35.out)
  have o5h := Lib.hid o5.lt'
  obtain ⟨aw, cw, rfl, -⟩ := o5.shape
  clear hAl o5 e5
  obtain ⟨A, hA⟩ : ∃ A : Nat → Prop, A = fun k => (w2.heap.size ≤ k ∧ k < w3.heap.size) ∨ w5.heap.size ≤ k := ⟨_, rfl⟩
  have hsz := Lib.hid (And.intro e23.out.size (And.intro e34h.out.size e45.out.size))
  have hAw := Lib.hid (show ∀ k, A k → w2.heap.size ≤ k from fun k hk => by rw [hA] at hk; obtain ⟨x1, x2, x3⟩ := hsz.out; rcases hk with h | h <;> omega)
  have hAn := Lib.hid (show ∀ k, w4.heap.size ≤ k ∧ k < w5.heap.size → ¬ A k from fun k hk h => by rw [hA] at h; obtain ⟨x1, x2, x3⟩ := hsz.out; rcases h with h | h <;> omega)
  have hhA := Lib.hid (show ¬ A 1 from fun h => not_from (hwh.out.ext e2h.out) (hAw.out _ h))
  have hAe := Lib.hid (show ∀ W : World, w5.heap.size ≤ W.heap.size → ∀ k, grow A W k → A k from fun W hW k hk => by
    rw [hA] at hk ⊢
    rcases hk with h | h
    · exact h
    · exact .inr (Nat.le_trans hW h))
  have k5 := Lib.hid (show StM w5 A s p g L from (k3h.out.ext e35.out).mono fun k hk => by rw [hA]; exact .inl hk)
  have hEx := Lib.hid (show ∀ W, Chg A w5 W → Ext w W from fun W d => e2h.out.trans (e25.out.chg d hAw.out))
  have hwas := Lib.hid (show ∀ W, Chg A w5 W → Prs W (.slice aw L.length cw) L from fun W d => (o5h.out.chg d hAn.out).rs (by decide) prc_len)
  have hF1 := kvFaults_m k5.out _ _ (by simp; have := hsn.out; omega) (hslh.out.ext e45.out)
  clear hA k3h o5h hslh hAn hAw
  go_upto_region 12 with (go_at_call 23; refine hF1.mono ?_; rintro e w6 ⟨rfl, d6, k6⟩)
  have d6h := Lib.hid d6
  have k6h := Lib.hid (k6.mono (hAe.out _ (Nat.le_refl _)))
  clear hF1 d6 k6
  have hCm := kvCommit_any k6h.out (hKI.out.sane.disk rfl) (by show (faults _ g.d).st.length ≤ _; rw [show (faults (List.replicate sn false ++ [true]) g.d).st = g.d.st from rfl, hKI.out.st]; exact Nat.zero_le _) (hwh.out.ext (hEx.out _ d6h.out)) hhA.out (h2h.out.ext (hEx.out _ d6h.out)) (by have := hL.out; have := hc12.out; omega) (by have := hc12.out; omega) hKI.out.oks (fun _ => snapOk_any)
  generalize comL c ⟨faults (List.replicate sn false ++ [true]) g.d, g.h, g.u⟩ L = R at *
  obtain ⟨E, g7, M⟩ := R
  dsimp only at hCm hcf
  go_upto_region 13 with (go_at_call 18; refine hCm.mono ?_; rintro e w7 ⟨rfl, d7, k7⟩)
  have d7h := Lib.hid (d6h.out.trans d7)
  have k7h := Lib.hid (k7.mono (hAe.out _ d6h.out.size))
  clear hCm d7 k7
  have hF2 := kvFaults_m k7h.out (.slice none 0 0) [] (Nat.zero_le _) (Sl.nil _)
  go_upto_region 14 with (go_at_call 23; refine hF2.mono ?_; rintro e w8 ⟨rfl, d8, k8⟩)
  have d8h := Lib.hid (d7h.out.trans d8)
  have k8h := Lib.hid (k8.mono (hAe.out _ d7h.out.size))
  clear hF2 d8 k8
  have hM := Lib.hid (show KI 0 ⟨faults [] g7.d, g7.h, g7.u⟩ M from by
    rcases hcf.out with ⟨-, h2, h3⟩ | ⟨-, h2, h3⟩ <;> rw [h2] <;> exact h3)
  have hMl := Lib.hid (show M.length ≤ 252 from by
    rcases hcf.out with ⟨-, h2, -⟩ | ⟨-, h2, -⟩ <;> rw [h2]
    · have := after_len c L; have := hL.out; have := hc12.out; omega
    · have := hL.out; omega)
  obtain ⟨f1, f2, -, -⟩ := hM.out.found
  have hOp := kvOpen_m k8h.out (hwh.out.ext (hEx.out _ d8h.out)) f1 f2
  go_upto_region 15 with (go_at_call 16; refine hOp.mono ?_; rintro e w9 ⟨r, rfl, s', rfl, e9, k9⟩)
  have d9h := Lib.hid (d8h.out.ext e9)
  have kS := Lib.hid (fun W (e : Ext w9 W) => kvAll_any ((k8h.out.ext e9).ext e) hM.out.oks (by have := hMl.out; omega))
  have kN := Lib.hid (fun W (e : Ext w9 W) => kvAll_any (k9.ext e) hM.out.oks (by have := hMl.out; omega))
  have hSt := Lib.hid (fun W (e : Ext w9 W) => kvStaged_m ((k8h.out.ext e9).ext e))
  have hwas9 := Lib.hid (fun W (e : Ext w9 W) => hwas.out W (d9h.out.ext e))
  have hv9 := Lib.hid (fun W (e : Ext w9 W) => h2h.out.ext (hEx.out W (d9h.out.ext e)))
  have he9 := Lib.hid (fun W (e : Ext w9 W) => hEx.out W (d9h.out.ext e))
  clear hOp f1 f2 e9 k9
  go_upto_region 17 with fail
  rcases hcf.out with ⟨hE, hMe, -⟩ | ⟨hE, hMe, -⟩
  · subst hE
    subst hMe
    clear hcf
    go_upto_region 18 with fail
    have c1 := kS.out w9 (Ext.refl _)
    have hAf := Lib.hid (fun W (e : Ext w9 W) => refAfter_any _ _ L c W (hwas9.out W e) (hv9.out W e) (by have := hL.out; have := hc12.out; omega) hKI.out.srt)
    go_wp2_with (first
      | (go_at_call 19; first
          | (refine c1.mono ?_; rintro e w10 ⟨x1, rfl, o1, e10⟩; clear c1)
          | (refine c3.mono ?_; rintro e w13 ⟨x3, rfl, o3, e13⟩; clear c3; have c4 := kS.out w13 (((e10.trans e11).trans e12).trans e13))
          | (refine c4.mono ?_; rintro e w14 ⟨x4, rfl, o4, e14⟩; clear c4))
      | (go_at_call 24; refine (hAf.out w10 e10).mono ?_; rintro e w11 ⟨x2, rfl, p2, e11⟩)
      | (go_at_call 20; first
          | (refine (refPrs_any x3 x4 _ _ w14 ((o3.ext e14).rs (by decide) prc_len) (o4.rs (by decide) prc_len)).mono ?_; rintro e w15 ⟨rfl, e15⟩; rw [eqB_self])
          | (refine (refPrs_any x1 x2 _ _ w11 ((o1.ext e11).rs (by decide) prc_len) p2).mono ?_; rintro e w12 ⟨rfl, e12⟩; rw [eqB_self]; have c3 := kN.out w12 ((e10.trans e11).trans e12))))
    go_ret
    exact ⟨rfl, he9.out w15 (((((e10.trans e11).trans e12).trans e13).trans e14).trans e15)⟩
  · have hEb := beq_ff hE
    subst hMe
    clear hcf hE
    go_upto_region 19 with fail
    have c1 := kS.out w9 (Ext.refl _)
    have hz := Lib.hid (show (faults [] g7.d).st.length = 0 from by have := hM.out.st; simp only at this; rw [this]; rfl)
    go_wp2_with (first
      | (go_at_call 19; first
          | (refine c1.mono ?_; rintro e w10 ⟨x1, rfl, o1, e10⟩; clear c1; have q1 := hwas9.out w10 e10)
          | (refine c3.mono ?_; rintro e w12 ⟨x3, rfl, o3, e12⟩; clear c3; have q3 := hwas9.out w12 ((e10.trans e11).trans e12)))
      | (go_at_call 20; first
          | (refine (refPrs_any x3 _ _ _ w12 (o3.rs (by decide) prc_len) q3).mono ?_; rintro e w13 ⟨rfl, e13⟩; rw [eqB_self]; have c4 := hSt.out w13 (((e10.trans e11).trans e12).trans e13); rw [hz.out] at c4)
          | (refine (refPrs_any x1 _ _ _ w10 (o1.rs (by decide) prc_len) q1).mono ?_; rintro e w11 ⟨rfl, e11⟩; rw [eqB_self]; have c3 := kN.out w11 (e10.trans e11)))
      | (go_at_call 25; refine c4.mono ?_; rintro e w' ⟨rfl, rfl⟩))
    go_ret
    exact ⟨rfl, he9.out w13 (((e10.trans e11).trans e12).trans e13)⟩
end Go.Proofs.YtkdmljijgfejpaaDoor
