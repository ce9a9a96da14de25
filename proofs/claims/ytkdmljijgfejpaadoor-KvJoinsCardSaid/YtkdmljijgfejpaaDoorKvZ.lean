/- KvJoins: the walk. -/
import Derived.Test.YtkdmljijgfejpaaDoorGKw
namespace Go.Proofs.YtkdmljijgfejpaaDoor
set_option linter.unusedVariables false
set_option linter.unusedSimpArgs false
open Go.RowKit Kv Dk Wl Fr

theorem few_parts {l : List Ch} (h : fewC l = true) : l.all okF = true ∧ l.length ≤ 12 := by
  unfold fewC at h
  rw [Bool.and_eq_true, decide_eq_true_eq] at h
  exact h
/-- what the three Commits do -/
theorem joins_plain {a b : List Ch} (ha : fewC a = true) (hb : fewC b = true) (la : a.length ≤ 6) (lb : b.length ≤ 6) :
    ∃ g1 g2 g3 L1 L2 L3, comL a (g0 400) [] = (encE a, g1, L1) ∧ comL b g1 L1 = (encE b, g2, L2) ∧ comL (a ++ b) (g0 400) [] = (encE (a ++ b), g3, L3) ∧ Sane g1 ∧ g1.d.st = [] ∧ Oks L1 ∧ L1.length ≤ 6 ∧ Oks L2 ∧ L2.length ≤ 12 ∧ Oks L3 ∧ L3.length ≤ 12 ∧
      ((encE a = 0 ∧ encE b = 0 ∧ encE (a ++ b) = 0 ∧ L2 = L3) ∨ ((encE a = 0 ∧ encE b = 1 ∨ encE a = 1 ∧ encE b = 0 ∨ encE a = 1 ∧ encE b = 1) ∧ encE (a ++ b) = 1 ∧ L3 = [])) := by
  obtain ⟨a1, -⟩ := few_parts ha
  obtain ⟨b1, -⟩ := few_parts hb
  have hl : Lw 0 (g0 400) [] := new_log (n := 400) (by decide) (by decide) 0
  have hn : (g0 400).d.n = 400 := mk_n 400
  obtain ⟨g1, rs1, p1, p2, p3, p4, p5⟩ := com_400 hl [] hn (by show (0 : Nat) ≤ _; omega) (by show (0 : Nat) ≤ _; omega) a1 (by omega)
  have u0 : (g0 400).h.used = 0 := rfl
  have v0 : (g0 400).h.gen = 0 := rfl
  obtain ⟨g2, rs2, q1, q2, q3, q4, q5⟩ := com_400 p2 (if encE a = 0 then after [] a else []) (cs := b) p3 (by omega) (by omega) b1 (by omega)
  have hab : (a ++ b).all okF = true := by rw [List.all_append, a1, b1]; rfl
  have lab : (a ++ b).length ≤ 12 := by rw [List.length_append]; omega
  obtain ⟨g3, rs3, r1, r2, r3, r4, r5⟩ := com_400 hl [] hn (by show (0 : Nat) ≤ _; omega) (by show (0 : Nat) ≤ _; omega) hab lab
  have sub : ∀ (cs : List Ch) (L : List Kv.Pr), Srt L → Oks L → Srt (if encE cs = 0 then after L cs else L) ∧ Oks (if encE cs = 0 then after L cs else L) ∧ (if encE cs = 0 then after L cs else L).length ≤ L.length + cs.length := fun cs L h1 h2 => by
    by_cases h : encE cs = 0
    · rw [if_pos h]; exact ⟨after_srt _ h1, after_oks cs h1 h2 (encE_zero.1 h).1, after_len cs L⟩
    · rw [if_neg h]; exact ⟨h1, h2, by omega⟩
  obtain ⟨s1, s2, s3⟩ := sub a [] srt_nil oks_nil
  obtain ⟨t1, t2, t3⟩ := sub b _ s1 s2
  obtain ⟨-, w2, w3⟩ := sub (a ++ b) [] srt_nil oks_nil
  simp only [List.length_nil] at s3 w3
  refine ⟨g1, g2, g3, _, _, _, p1, q1, r1, p2.sane, p2.st, s2, by omega, t2, by omega, w2, by omega, ?_⟩
  have hall : (a ++ b).all rightC = (a.all rightC && b.all rightC) := List.all_append
  rcases enc_two a1 (by omega) with ⟨x1, x2⟩ | ⟨x1, x2⟩ <;> rcases enc_two b1 (by omega) with ⟨y1, y2⟩ | ⟨y1, y2⟩ <;> rcases enc_two hab lab with ⟨z1, z2⟩ | ⟨z1, z2⟩ <;> rw [hall, x1, y1] at z1 <;> first | cases z1 | skip
  · exact .inl ⟨x2, y2, z2, by rw [if_pos x2, if_pos y2, if_pos z2, after_append]⟩
  · exact .inr ⟨.inl ⟨x2, y2⟩, z2, by rw [if_neg (by omega)]⟩
  · exact .inr ⟨.inr (.inl ⟨x2, y2⟩), z2, by rw [if_neg (by omega)]⟩
  · exact .inr ⟨.inr (.inr ⟨x2, y2⟩), z2, by rw [if_neg (by omega)]⟩
theorem open_400 {w : World} {G : Nat → Prop} {p : Nat} (F : Nat → Prop) (h : Disk w G p (mk 400)) (hG : ∀ k, G k → F k) (hw : Halves w) :
    Calls Tryd.prog 16 #[.pointer (some ⟨p, 0, none⟩)] w (Ret fun r w' => ∃ s, r = .tuple #[.pointer (some ⟨s, 0, none⟩), .int .i64 0] ∧ Ext w w' ∧ StM w' (grow F w) s p (g0 400) []) := by
  have hop := new_open (n := 400) (by decide) (by decide)
  have hO := kvOpen_any (F := F) (L := []) h hG hw (by rw [hop.2.2]; rfl)
  rw [hop.1, hop.2.1, hop.2.2] at hO
  refine hO.mono fun e w' ⟨r, h1, e2, h3⟩ => ⟨r, h1, ?_⟩
  rcases h3 with ⟨h0, -⟩ | ⟨-, s, h4, h5, h6⟩
  · exact absurd rfl h0
  · exact ⟨s, h4, e2, h6⟩
theorem own_empty (w : World) : OwnC (w.alloc (.cells #[] 26)) (fun j => w.heap.size ≤ j) (.slice (some ⟨w.heap.size, 0, none⟩) 0 0) [] :=
  ⟨⟨World.ownsRow_made w #[] 0 (Nat.zero_le _) (by simp [maxLen]) rfl, fun k hk => by simp only [Value.ownBlock, Option.some.injEq] at hk; omega⟩, fun x hx => by simp at hx⟩
attribute [local irreducible] mk opL comL Kv.after
set_option maxRecDepth 20000 in
set_option maxHeartbeats 4000000 in
theorem kvJoins_any (v1 : Value) (a : List Ch) (v2 : Value) (b : List Ch) (w : World) (hw : Halves w) (h1 : Chs w v1 a) (h2 : Chs w v2 b) :
    Calls Tryd.prog 4 #[v1, v2] w (LawEnd w) := by
  have haw := awake11_any w hw
  have h1h := Lib.hid h1
  have h2h := Lib.hid h2
  have hwh := Lib.hid hw
  obtain ⟨aa, ca, rfl, ma, -⟩ := h1.shape
  obtain ⟨ab, cb, rfl, mb, -⟩ := h2.shape
  have hF1 := fun W (e : Ext w W) => refFew_any _ a W (h1.ext e)
  have hF2 := fun W (e : Ext w W) => refFew_any _ b W (h2.ext e)
  clear hw h1 h2
  have out : ∀ (fa fb : Bool), fewC a = fa → fewC b = fb → (fa = false ∨ fb = false ∨ 6 < a.length ∨ 6 < b.length) → Calls Tryd.prog 4 #[.slice aa a.length ca, .slice ab b.length cb] w (LawEnd w) := by
    intro fa fb ea eb hc
    rw [ea] at hF1
    rw [eb] at hF2
    clear ea eb
    cases fa
    · go_enter Tryd.func4, Tryd.ntmps4
      go_upto_region 2 with (go_at_call 8; refine haw.mono ?_; rintro e w1 ⟨rfl, e1⟩)
      go_upto_region 3 with (go_at_call 15; refine (hF1 _ e1).mono ?_; rintro e w' ⟨rfl, rfl⟩)
      go_upto_region 4 with (go_at_call 15; refine (hF2 _ e1).mono ?_; rintro e w' ⟨rfl, rfl⟩)
      go_wp2
      go_ret
      exact ⟨rfl, e1⟩
    · cases fb
      · go_enter Tryd.func4, Tryd.ntmps4
        go_upto_region 2 with (go_at_call 8; refine haw.mono ?_; rintro e w1 ⟨rfl, e1⟩)
        go_upto_region 3 with (go_at_call 15; refine (hF1 _ e1).mono ?_; rintro e w' ⟨rfl, rfl⟩)
        go_upto_region 4 with (go_at_call 15; refine (hF2 _ e1).mono ?_; rintro e w' ⟨rfl, rfl⟩)
        go_wp2
        go_ret
        exact ⟨rfl, e1⟩
      · by_cases hla : 6 < a.length
        · have i1 : (6 : Int) < (a.length : Int) := by omega
          go_enter Tryd.func4, Tryd.ntmps4
          go_upto_region 2 with (go_at_call 8; refine haw.mono ?_; rintro e w1 ⟨rfl, e1⟩)
          go_upto_region 3 with (go_at_call 15; refine (hF1 _ e1).mono ?_; rintro e w' ⟨rfl, rfl⟩)
          go_upto_region 4 with (go_at_call 15; refine (hF2 _ e1).mono ?_; rintro e w' ⟨rfl, rfl⟩)
          go_wp2
          go_ret
          exact ⟨rfl, e1⟩
        · have hlb : 6 < b.length := by rcases hc with h | h | h | h; cases h; cases h; exact absurd h hla; exact h
          have i1 : ¬ (6 : Int) < (a.length : Int) := by omega
          have i2 : (6 : Int) < (b.length : Int) := by omega
          go_enter Tryd.func4, Tryd.ntmps4
          go_upto_region 2 with (go_at_call 8; refine haw.mono ?_; rintro e w1 ⟨rfl, e1⟩)
          go_upto_region 3 with (go_at_call 15; refine (hF1 _ e1).mono ?_; rintro e w' ⟨rfl, rfl⟩)
          go_upto_region 4 with (go_at_call 15; refine (hF2 _ e1).mono ?_; rintro e w' ⟨rfl, rfl⟩)
          go_wp2
          go_ret
          exact ⟨rfl, e1⟩
  cases fa : fewC a
  · exact out _ _ fa rfl (.inl rfl)
  cases fb : fewC b
  · exact out _ _ fa fb (.inr (.inl rfl))
  by_cases hla : 6 < a.length
  · exact out _ _ fa fb (.inr (.inr (.inl hla)))
  by_cases hlb : 6 < b.length
  · exact out _ _ fa fb (.inr (.inr (.inr hlb)))
  clear out
  obtain ⟨g1, g2, g3, L1, L2, L3, c1, c2, c3, s1, t1, o1, n1, o2, n2, o3, n3, hend⟩ := joins_plain fa fb (by omega) (by omega)
  rw [fa] at hF1
  rw [fb] at hF2
  have i1 : ¬ (6 : Int) < (a.length : Int) := by omega
  have i2 : ¬ (6 : Int) < (b.length : Int) := by omega
  have hla' := Lib.hid (show a.length ≤ 6 from by omega)
  have hlb' := Lib.hid (show b.length ≤ 6 from by omega)
  have c1h := Lib.hid c1
  have c2h := Lib.hid c2
  have c3h := Lib.hid c3
  have s1h := Lib.hid s1
  have t1h := Lib.hid t1
  have o1h := Lib.hid o1
  have n1h := Lib.hid n1
  have o2h := Lib.hid o2
  have n2h := Lib.hid n2
  have o3h := Lib.hid o3
  have n3h := Lib.hid n3
  have hendh := Lib.hid hend
  have hs0 := Lib.hid (show Sane (g0 400) from (new_log (n := 400) (by decide) (by decide) 0).sane)
  have hst0 := Lib.hid (show (g0 400).d.st.length ≤ 90000 from by unfold g0 mk; exact Nat.zero_le _)
  have hcl : clamp 400 = 400 := by decide
  clear fa fb hla hlb c1 c2 c3 s1 t1 o1 n1 o2 n2 o3 n3 hend
  go_enter Tryd.func4, Tryd.ntmps4
  go_upto_region 2 with (go_at_call 8; refine haw.mono ?_; rintro e w1 ⟨rfl, e1⟩)
  go_upto_region 3 with (go_at_call 15; refine (hF1 _ e1).mono ?_; rintro e w' ⟨rfl, rfl⟩)
  go_upto_region 4 with (go_at_call 15; refine (hF2 _ e1).mono ?_; rintro e w' ⟨rfl, rfl⟩)
  have e1h := Lib.hid e1
  clear hF1 hF2 haw e1
  go_upto_region 6 with fail
  go_upto_region 7 with (first
    | (go_at_call 17; refine (new_any 400 w1).mono ?_; rintro e w2 ⟨v, rfl, p, rfl, d2, e2⟩; rw [hcl] at d2; have hop := open_400 (from_ w1) d2 (fun k hk => hk.1) (hwh.out.ext (e1h.out.trans e2)))
    | (go_at_call 16; refine hop.mono ?_; rintro e w3 ⟨r, rfl, s, rfl, e3, k3⟩))
  have e13 := Lib.hid (e2.trans e3)
  have k3h := Lib.hid ((k3.mono (from_grow e2)).bound)
  clear d2 hop e2 e3 k3
  go_upto_region 8 with (first
    | (go_at_call 17; refine (new_any 400 w3).mono ?_; rintro e w4 ⟨v, rfl, p2, rfl, d4, e4⟩; rw [hcl] at d4; have hop := open_400 (from_ w3) d4 (fun k hk => hk.1) (hwh.out.ext ((e1h.out.trans e13.out).trans e4)))
    | (go_at_call 16; refine hop.mono ?_; rintro e w5 ⟨r, rfl, t, rfl, e5, k5⟩))
  have e35 := Lib.hid (e4.trans e5)
  have k5h := Lib.hid ((k5.mono (from_grow e4)).bound)
  have e05 := Lib.hid (e1h.out.trans (e13.out.trans e35.out))
  clear d4 hop e4 e5 k5 hcl
  -- the blocks of the one store, and of the other
  obtain ⟨A, hA⟩ : ∃ A : Nat → Prop, A = fun k => (w1.heap.size ≤ k ∧ k < w3.heap.size) ∨ w5.heap.size ≤ k := ⟨_, rfl⟩
  obtain ⟨B, hB⟩ : ∃ B : Nat → Prop, B = fun k => w3.heap.size ≤ k ∧ k < w5.heap.size := ⟨_, rfl⟩
  have hhl : 1 < w.heap.size := World.block_lt_of_cell? w _ (hwh.out 0)
  have hsz := Lib.hid (And.intro e1h.out.size (And.intro e13.out.size e35.out.size))
  have hAB := Lib.hid (show ∀ k, A k → ¬ B k from fun k h1 h2 => by rw [hA] at h1; rw [hB] at h2; obtain ⟨-, -, -⟩ := hsz.out; rcases h1 with h | h <;> omega)
  have hhA := Lib.hid (show ¬ A 1 from fun h => by rw [hA] at h; obtain ⟨q1, q2, q3⟩ := hsz.out; rcases h with h | h <;> omega)
  have hhB := Lib.hid (show ¬ B 1 from fun h => by rw [hB] at h; obtain ⟨q1, q2, q3⟩ := hsz.out; omega)
  have hAe := Lib.hid (show ∀ W, w5.heap.size ≤ W.heap.size → ∀ k, grow A W k → A k from fun W hW k hk => by
    rw [hA] at hk ⊢
    rcases hk with h | h
    · exact h
    · exact .inr (Nat.le_trans hW h))
  have hAw := Lib.hid (show ∀ k, A k → w1.heap.size ≤ k from fun k hk => by rw [hA] at hk; obtain ⟨q1, q2, q3⟩ := hsz.out; rcases hk with h | h <;> omega)
  have hBw := Lib.hid (show ∀ k, B k → w1.heap.size ≤ k from fun k hk => by rw [hB] at hk; obtain ⟨q1, q2, q3⟩ := hsz.out; omega)
  have kA := Lib.hid (show StM w5 A s p (g0 400) [] from (k3h.out.ext e35.out).mono fun k hk => by rw [hA]; exact .inl hk)
  have kB := Lib.hid (show StM w5 B t p2 (g0 400) [] from k5h.out.mono fun k hk => by rw [hB]; exact hk)
  clear hA hB k3h k5h hhl
  have hC1 := kvCommit_any kA.out hs0.out hst0.out (hwh.out.ext e05.out) hhA.out (h1h.out.ext e05.out) (by have := hla'.out; simp; omega) (by have := hla'.out; omega) oks_nil (fun _ => snapOk_any)
  rw [c1h.out] at hC1
  go_upto_region 10 with fail
  go_upto_region 11 with (go_at_call 18; refine hC1.mono ?_; rintro e w6 ⟨rfl, d6, k6⟩)
  have e06 := Lib.hid (show Ext w w6 from e05.out.chg d6 fun i hi => Nat.le_trans e1h.out.size (hAw.out i hi))
  have z6 := Lib.hid d6.size
  have kA6 := Lib.hid (k6.mono (hAe.out w5 (Nat.le_refl _)))
  have kB6 := Lib.hid (kB.out.chg d6 fun k _ h1 h2 => hAB.out k h2 h1)
  clear hC1 d6 k6
  have hC2 := kvCommit_any kA6.out s1h.out (by rw [t1h.out]; exact Nat.zero_le _) (hwh.out.ext e06.out) hhA.out (h2h.out.ext e06.out) (by have := hlb'.out; have := n1h.out; omega) (by have := hlb'.out; omega) o1h.out (fun _ => snapOk_any)
  rw [c2h.out] at hC2
  go_upto_region 12 with (go_at_call 18; refine hC2.mono ?_; rintro e w7 ⟨rfl, d7, k7⟩)
  have e07 := Lib.hid (show Ext w w7 from e06.out.chg d7 fun i hi => Nat.le_trans e1h.out.size (hAw.out i hi))
  have kA7 := Lib.hid (k7.mono (hAe.out w6 z6.out))
  have kB7 := Lib.hid (kB6.out.chg d7 fun k _ h1 h2 => hAB.out k h2 h1)
  clear hC2 d7 k7
  have oe := Lib.hid (own_empty w7)
  have h1w := Lib.hid (fun W (e : Ext w7 W) => h1h.out.ext (e07.out.trans e))
  have h2w := Lib.hid (fun W (e : Ext w7 W) => h2h.out.ext (e07.out.trans e))
  have eE := Lib.hid ((Ext.refl w7).alloc (.cells #[] 26))
  have hla2 := Lib.hid (show ([] : List Ch).length + a.length ≤ 1048576 from by have := hla'.out; simp; omega)
  have hlb2 := Lib.hid (show ([] ++ a : List Ch).length + b.length ≤ 1048576 from by have := hla'.out; have := hlb'.out; simp; omega)
  have hC3 := Lib.hid (fun (W : World) (v : Value) (e : Ext w7 W) (hv : Chs W v (a ++ b)) => kvCommit_any (kB7.out.ext e) hs0.out hst0.out (hwh.out.ext (e07.out.trans e)) hhB.out hv (by have := hla'.out; have := hlb'.out; rw [List.length_append]; simp; omega) (by have := hla'.out; have := hlb'.out; rw [List.length_append]; omega) oks_nil (fun _ => snapOk_any))
  rw [c3h.out] at hC3
  go_upto_region 13 with (first
    | (at_builtin; refine wpList_appendR Tryd.underlying22 info_chz rfl (by decide) (by decide) chc_len chc_one (by decide) rfl (.tmp 68) (.tmp 69) rfl (fun j => w7.heap.size ≤ j) (.slice (some ⟨w7.heap.size, 0, none⟩) 0 0) [] rfl oe.out (.slice aa a.length ca) a rfl (h1w.out _ eE.out) hla2.out ?_; intro v8 w8 o8 g8; have e8 := Lib.hid (eE.out.chg g8 fun i hi => hi); have o8' := Lib.hid (o8.mono fun j h => h.elim id fun h => Nat.le_trans eE.out.size h))
    | (at_builtin; refine wpList_appendR Tryd.underlying22 info_chz rfl (by decide) (by decide) chc_len chc_one (by decide) rfl (.tmp 70) (.tmp 71) rfl (fun j => w7.heap.size ≤ j) v8 ([] ++ a) rfl o8'.out (.slice ab b.length cb) b rfl (h2w.out _ e8.out) hlb2.out ?_; intro v9 w9 o9 g9; have e9 := Lib.hid (e8.out.chg g9 fun i hi => hi); have o9' := Lib.hid (o9.rs (by decide) chc_len))
    | (go_at_call 18; refine (hC3.out w9 v9 e9.out o9'.out).mono ?_; rintro e w10 ⟨rfl, d10, k10⟩))
  have e010 := Lib.hid (show Ext w w10 from (e07.out.trans e9.out).chg d10 fun i hi => Nat.le_trans e1h.out.size (hBw.out i hi))
  have kA10 := Lib.hid ((kA7.out.ext e9.out).chg d10 fun k _ h1 h2 => hAB.out k h1 h2)
  have kB10 := Lib.hid k10
  clear d10 k10 g8 g9 o8 o9
  rcases hendh.out with ⟨x1, x2, x3, x4⟩ | ⟨x12, x3, x4⟩
  · subst x4
    have hAs := kvAll_any kA10.out o2h.out (by have := n2h.out; omega)
    have hAt := Lib.hid (fun W (e : Ext w10 W) => kvAll_any (kB10.out.ext e) o2h.out (by have := n2h.out; omega))
    rw [x1, x2, x3]
    clear x1 x2 x3 hendh
    go_upto_region 15 with fail
    go_wp2_with (first
      | (go_at_call 19; first
          | (refine hAs.mono ?_; rintro e w11 ⟨u1, rfl, q1, e11⟩; clear hAs)
          | (refine (hAt.out _ e11).mono ?_; rintro e w12 ⟨u2, rfl, q2, e12⟩))
      | (go_at_call 20; refine (refPrs_any u1 u2 L2 L2 w12 ((q1.ext e12).rs (by decide) prc_len) (q2.rs (by decide) prc_len)).mono ?_; rintro e w13 ⟨rfl, e13'⟩; rw [eqB_self]))
    go_ret
    exact ⟨rfl, ((e010.out.trans e11).trans e12).trans e13'⟩
  · subst x4
    have hAt := kvAll_any kB10.out oks_nil (by decide)
    rw [x3]
    rcases x12 with ⟨x1, x2⟩ | ⟨x1, x2⟩ | ⟨x1, x2⟩ <;> rw [x1, x2]
    all_goals
      clear x1 x2 x3 hendh
      go_upto_region 14 with fail
      go_wp2_with (go_at_call 19; refine hAt.mono ?_; rintro e w11 ⟨u1, rfl, q1, e11⟩; obtain ⟨au, cu, rfl, -⟩ := q1.shape)
      go_ret
      exact ⟨rfl, e010.out.trans e11⟩
end Go.Proofs.YtkdmljijgfejpaaDoor
