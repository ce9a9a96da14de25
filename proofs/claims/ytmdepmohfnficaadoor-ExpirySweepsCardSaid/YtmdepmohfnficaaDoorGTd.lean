/- The document's tree: New, At, Get, Kids, Path. -/
import Derived.Test.YtmdepmohfnficaaDoorGTs
import Derived.Test.YtmdepmohfnficaaDoorRecG
import Derived.Test.YtmdepmohfnficaaDoorTrV
namespace Go.Proofs.YtmdepmohfnficaaDoor
set_option linter.unusedVariables false
set_option linter.unusedSimpArgs false
open Go.RowKit Rk Tr

theorem refNew_any (z : Int) (w : World) :
    Calls Tryd.prog 37 #[.int .i64 z] w (Ret fun u w' => u = .pointer (some ⟨w.heap.size, 0, none⟩) ∧ TrM 34 w' (fun k => k = w.heap.size) w.heap.size (roomN z) [] ∧ Ext w w') := by
  have e0 := Ext.refl w
  go_enter Tryd.func37, Tryd.ntmps37
  go_wp2
  all_goals go_ret
  all_goals exact Ret.mk ⟨rfl, new_tr (by rw [roomN_eq]; omega) w, e0.alloc _⟩
attribute [local irreducible] rcells
set_option maxHeartbeats 1000000 in
theorem refAt_any {F : Nat → Prop} {p room : Nat} {l : List Rec} (n : List UInt8) {w : World} (h : TrM 34 w F p room l) :
    Calls Tryd.prog 68 #[.pointer (some ⟨p, 0, none⟩), .string (str n)] w fun e w' => e = .returned (.int .i64 (atI l n)) ∧ w = w' := by
  obtain ⟨a, cap, -, c1, hr⟩ := h.parts
  obtain ⟨a', cap', hq, hlen, hget⟩ := Rw.shape hr
  cases hq
  have hgh := Lib.hid hget
  clear hget hr h
  go_enter Tryd.func68, Tryd.ntmps68
  go_wp2
  go_loop [5] (fun i => ∃ k : Nat, k ≤ l.length ∧ i = .int .i64 (k : Int) ∧ RowKit.Hid (∀ j x, j < k → l[j]? = some x → seq x.name n = false)) (fun i => l.length - (intOf i).toNat)
  case atStart => exact ⟨0, Nat.zero_le _, rfl, Lib.hid fun j x hj => by omega⟩
  case round =>
    obtain ⟨k, hk, rfl, hno⟩ := hrel
    by_cases hlt : k < l.length
    · obtain ⟨x, hx⟩ := some_at hlt
      obtain ⟨g, o, cs, rfl, hr, rfl, hf⟩ := hgh.out k x hx
      have hki : (k : Int) < (l.length : Int) := by omega
      have hw : IntKind.i64.wrap ((k : Int) + 1) = (k : Int) + 1 := by rw [IntKind.wrap_i64]; omega
      have n1 := hr 1 _ (prow_cells x).2.1
      have hit := Lib.hid (fun h => idx_hit hno.out hx h : seq x.name n = true → idx (fun r => seq r.name n) l = (k : Int))
      have hnx := Lib.hid (fun h => (fun j y hj hy => if e : j = k then by subst e; rw [hx] at hy; cases hy; exact h else hno.out j y (by omega) hy) : seq x.name n = false → ∀ j y, j < k + 1 → l[j]? = some y → seq y.name n = false)
      clear hr hx hf hno
      cases hs : seq x.name n
      · have hnx2 := Lib.hid (hnx.out hs)
        clear hnx hit
        go_wp2
        go_round
        case rel => exact ⟨k + 1, by omega, by go_num, Lib.hid hnx2.out⟩
        case measure => simp [intOf]; omega
      · have hit2 := Lib.hid (hit.out hs)
        clear hnx hit
        go_wp2
        go_ret
        exact ⟨by unfold atI; rw [hit2.out]; rfl, rfl⟩
    · obtain rfl : k = l.length := by omega
      have hm := Lib.hid (idx_miss hno.out)
      go_wp2
      go_ret
      exact ⟨by unfold atI; rw [hm.out]; rfl, rfl⟩
set_option maxRecDepth 20000 in
set_option maxHeartbeats 1000000 in
theorem refGet_any {F : Nat → Prop} {p room : Nat} {l : List Rec} (n : List UInt8) {w : World} (h : TrM 34 w F p room l) :
    Calls Tryd.prog 31 #[.pointer (some ⟨p, 0, none⟩), .string (str n)] w fun e w' => e = .returned (.tuple #[.agg (rcells (getR l n)), .bool (isIn l n)]) ∧ Ext w w' := by
  have e1 := (Ext.refl w).alloc (.cells zcells 36)
  have hz := heap_alloc_new w (.cells zcells 36)
  have hat := refAt_any n (h.ext e1)
  have hpt := (h.ext e1).parts
  rcases atI_cases l n with ⟨h1, h2⟩ | ⟨i, r, h1, h2, h3, -⟩
  · have hR := Lib.hid (show getR l n = zero ∧ isIn l n = false from by unfold getR isIn; rw [h1]; exact ⟨rfl, rfl⟩)
    rw [h2] at hat
    clear h1 h2 h hpt
    have hzh := Lib.hid hz
    have e1h := Lib.hid e1
    clear hz e1
    go_enter Tryd.func31, Tryd.ntmps31
    go_wp2_with (first
      | (go_at_call 68; refine hat.mono ?_; rintro e w2 ⟨rfl, rfl⟩)
      | (refine wpList_store_row rfl 36 _ _ rfl w.heap.size zcells rfl rfl 36 zcells hzh.out info_rec rfl zcells_one ?_))
    refine bodyPost_ret (results_rec rfl _ _ w.heap.size zcells rfl (setRow_heap _ w.heap.size zcells zcells _ _ hzh.out) info_rec) rfl ⟨?_, e1h.out.setRow (Nat.le_refl _) _⟩
    rw [hR.out.1, hR.out.2, ← zc_rc]; rfl
  · have hR := Lib.hid (show getR l n = r ∧ isIn l n = true from by unfold getR isIn; rw [h1]; exact ⟨getD_at h3, rfl⟩)
    rw [h2] at hat
    have hil : (i : Int) < (l.length : Int) := by
      have := (List.getElem?_eq_some_iff.1 h3).1
      omega
    obtain ⟨a, cap, -, c1, hr⟩ := hpt
    obtain ⟨a', cap', hq, -, hget⟩ := Rw.shape hr
    cases hq
    obtain ⟨g, o, cs, rfl, hrr, rfl, -⟩ := hget i r h3
    have hzh := Lib.hid hz
    have e1h := Lib.hid e1
    clear h1 h2 h hz e1 h3 hr hget
    go_enter Tryd.func31, Tryd.ntmps31
    go_wp2_with (first
      | (go_at_call 68; refine hat.mono ?_; rintro e w2 ⟨rfl, rfl⟩)
      | (refine wpList_load_rec (by rfl) _ rfl g (o + i * 10) rfl r hrr ?_)
      | (refine wpList_store_row rfl 36 _ _ rfl w.heap.size (rcells r) rfl rfl 36 zcells hzh.out (rc_sz r) (zc_size r) (rc_one r) ?_))
    refine bodyPost_ret (results_rec rfl _ _ w.heap.size (rcells r) rfl (setRow_heap _ w.heap.size zcells (rcells r) _ _ hzh.out) (rc_sz r)) rfl ⟨?_, e1h.out.setRow (Nat.le_refl _) _⟩
    rw [hR.out.1, hR.out.2]; rfl
end Go.Proofs.YtmdepmohfnficaaDoor


namespace Go.Proofs.YtmdepmohfnficaaDoor
open Go.RowKit Rk Tr

/-- one text in a block that was just laid -/
theorem Own.one {w : World} {base g : Nat} {C : Array Value} {n : List UInt8} (hg : g = w.heap.size) (hb : base ≤ w.heap.size) (hC : C = #[.string (str n)]) : Own sv 9 (w.alloc (.cells C 9)) base (.slice (some ⟨g, 0, none⟩) 1 1) [n] := by
  subst hg hC
  exact ⟨rfl, .inr ⟨w.heap.size, 1, _, rfl, hb, heap_alloc_new w _, Nat.le_refl _, by simp [maxLen], rfl, rfl⟩⟩
attribute [local irreducible] rcells
set_option maxRecDepth 20000 in
set_option maxHeartbeats 1000000 in
theorem refKids_any {F : Nat → Prop} {p room : Nat} {l : List Rec} (n : List UInt8) {w : World} (h : TrM 34 w F p room l) (hl : l.length ≤ 1000) :
    Calls Tryd.prog 43 #[.pointer (some ⟨p, 0, none⟩), .string (str n)] w (Ret fun u w' => Own sv 9 w' w.heap.size u (kids l n) ∧ Ext w w') := by
  obtain ⟨a, cap, -, c1, hr⟩ := h.parts
  have e0 := Ext.refl w
  obtain ⟨a', cap', hq, hlen, hget⟩ := Rw.shape hr
  cases hq
  have hgh := Lib.hid hget
  have c1h := Lib.hid c1
  clear hget hr h c1
  go_enter Tryd.func43, Tryd.ntmps43
  go_wp2
  go_loopw [5, 6] (fun out i wr => ∃ k : Nat, k ≤ l.length ∧ i = .int .i64 (k : Int) ∧ (∃ a1 c1, out = .slice a1 (kids (l.take k) n).length c1) ∧ RowKit.Hid (Own sv 9 wr w.heap.size out (kids (l.take k) n)) ∧ Ext w wr) (fun _ i _ => l.length - (intOf i).toNat)
  case atStart => exact ⟨0, Nat.zero_le _, rfl, ⟨none, 0, by simp [kids]⟩, Lib.hid (by rw [show kids (l.take 0) n = [] by simp [kids]]; exact Own.nil _ _ _), e0⟩
  case round =>
    obtain ⟨k, hk, rfl, ⟨a1, c1', rfl⟩, ho, ek⟩ := hrel
    have c1 := ek.cell c1h.out
    by_cases hlt : k < l.length
    · obtain ⟨x, hx⟩ := some_at hlt
      obtain ⟨g, o, cs, rfl, hrr, rfl, -⟩ := hgh.out k x hx
      have hki : (k : Int) < (l.length : Int) := by omega
      have hw : IntKind.i64.wrap ((k : Int) + 1) = (k : Int) + 1 := by rw [IntKind.wrap_i64]; omega
      have k1 := ek.cell (hrr 1 _ (prow_cells x).2.1)
      have k2 := ek.cell (hrr 2 _ (prow_cells x).2.2)
      have hst := Lib.hid (kids_step hx n)
      have hkl := Lib.hid (kids_len l n k)
      have hs1 := Lib.hid ek.size
      clear hrr hx e0
      cases h2 : seq x.par n
      · have hst2 := Lib.hid (hst.out.trans (by rw [h2]; simp : _ = kids (l.take k) n))
        clear hst
        go_wp2
        go_roundw
        case rel => exact ⟨k + 1, by omega, by go_num, ⟨_, _, by rw [hst2.out]⟩, Lib.hid (by rw [hst2.out]; exact ho.out), ek⟩
        case measure => simp [intOf]; omega
      · cases h0 : seq n []
        · have hst2 := Lib.hid (hst.out.trans (by rw [h0, h2]; simp : _ = kids (l.take k) n ++ [x.name]))
          clear hst
          go_wp2_with (refine wpList_appendS (enc := sv) Tryd.underlying39 info_strS rfl (fun _ => rfl) rfl _ _ rfl w.heap.size _ (kids (l.take k) n) rfl (ho.out.alloc _) _ [x.name] rfl (Sl.lit rfl rfl rfl (by decide) (by decide)) (by have := hkl.out; simp only [List.length_singleton]; omega) (by have := hkl.out; simp only [List.length_singleton]; omega) (Nat.le_trans hs1.out ((Ext.refl wr).alloc _).size) ?_; intro v3 w3 o3 g3; obtain ⟨a3, cap3, rfl⟩ := o3.shapeN)
          rw [List.length_append, List.length_singleton] at o3
          go_roundw
          case rel => exact ⟨k + 1, by omega, by go_num, ⟨a3, cap3, by rw [hst2.out, List.length_append]; rfl⟩, Lib.hid (by rw [hst2.out]; exact o3), (ek.alloc _).grown g3 (fun k hk => ho.out.lt k hk)⟩
          case measure => simp [intOf]; omega
        · have hst2 := Lib.hid (hst.out.trans (by rw [h0]; simp : _ = kids (l.take k) n))
          clear hst
          go_wp2
          go_roundw
          case rel => exact ⟨k + 1, by omega, by go_num, ⟨_, _, by rw [hst2.out]⟩, Lib.hid (by rw [hst2.out]; exact ho.out), ek⟩
          case measure => simp [intOf]; omega
    · obtain rfl : k = l.length := by omega
      have ho2 := ho.out
      rw [List.take_length] at ho2
      have hoh := Lib.hid ho2
      rw [List.take_length]
      clear ho2 ho
      go_wp2
      go_ret
      exact Ret.mk ⟨hoh.out, ek⟩
set_option maxRecDepth 20000 in
set_option maxHeartbeats 1000000 in
theorem refPath_any {F : Nat → Prop} {p room : Nat} {l : List Rec} (n : List UInt8) {w : World} (h : TrM 34 w F p room l) (hok : Ok l) (hl : l.length ≤ 1000) :
    Calls Tryd.prog 45 #[.pointer (some ⟨p, 0, none⟩), .string (str n)] w (Ret fun u w' => Own sv 9 w' w.heap.size u (path l n) ∧ Ext w w') := by
  have hat := Lib.hid (fun m W (e : Ext w W) => refAt_any m (h.ext e))
  obtain ⟨a, cap, -, cc0, hr0⟩ := h.parts
  obtain ⟨a', cap', hq, -, hget0⟩ := Rw.shape hr0
  cases hq
  have hgh := Lib.hid hget0
  have e0 := Ext.refl w
  clear hget0 hr0
  have hokh := Lib.hid hok
  have hpl := Lib.hid (Nat.le_trans (path_le hok n) hl)
  clear h hok
  go_enter Tryd.func45, Tryd.ntmps45
  go_wp2_with (go_at_call 68; refine (hat.out n _ e0).mono ?_; rintro e w2 ⟨rfl, rfl⟩)
  go_loopw [5, 6] (fun out i wr => ∃ (S : List (List UInt8)) (m : List UInt8) (a1 : Option Addr) (c1 : Nat), i = .int .i64 (atI l m) ∧ RowKit.Hid (path l n = S ++ path l m) ∧ out = .slice a1 S.length c1 ∧ RowKit.Hid (Own sv 9 wr w.heap.size out S) ∧ Ext w wr) (fun _ i _ => (intOf i + 1).toNat)
  case atStart => exact ⟨[], n, none, 0, rfl, Lib.hid rfl, rfl, Lib.hid (Own.nil _ _ _), e0⟩
  case round =>
    obtain ⟨S, m, a1, c1, rfl, hp, rfl, ho, ek⟩ := hrel
    rcases atI_cases l m with ⟨h1, h2⟩ | ⟨j, r, h1, h2, h3, h4⟩
    · have hp2 := hp.out
      rw [path_none h1, List.append_nil] at hp2
      have hph := Lib.hid hp2
      rw [h2]
      clear h1 h2 hp hp2
      go_wp2
      go_ret
      exact Ret.mk ⟨by rw [hph.out]; exact ho.out, ek⟩
    · have hps := path_step hokh.out h1 h3
      have hp2 := Lib.hid (hp.out.trans (by rw [hps, ← h4]; simp : _ = (S ++ [r.name]) ++ path l r.par))
      have hSl := Lib.hid (show S.length + 1 ≤ 1000 from by
        have := congrArg List.length hp2.out
        have := hpl.out
        simp only [List.length_append, List.length_singleton] at *
        omega)
      have hjl : (j : Int) < (l.length : Int) := by
        have := (List.getElem?_eq_some_iff.1 h3).1
        omega
      have hj0 : (0 : Int) ≤ (j : Int) := by omega
      have hpar := Lib.hid (ix_par hokh.out h3)
      obtain ⟨g, o, cs, rfl, hrr, rfl, -⟩ := hgh.out j r h3
      have k1 := ek.cell (hrr 1 _ (prow_cells r).2.1)
      have cc := ek.cell cc0
      have k2h := Lib.hid (hrr 2 _ (prow_cells r).2.2)
      have cch := Lib.hid cc0
      have hs1 := Lib.hid ek.size
      rw [h2]
      clear hrr hps hp h1 h2 h4 h3 cc0
      go_upto_region 5 with (refine wpList_appendS (enc := sv) Tryd.underlying39 info_strS rfl (fun _ => rfl) rfl _ _ rfl w.heap.size _ S rfl (ho.out.alloc _) _ [r.name] rfl (Sl.lit rfl rfl rfl (by decide) (by decide)) (by have := hSl.out; simp only [List.length_singleton]; omega) (by have := hSl.out; simp only [List.length_singleton]; omega) (Nat.le_trans hs1.out ((Ext.refl wr).alloc _).size) ?_; intro v3 w3 o3 g3; obtain ⟨a3, cap3, rfl⟩ := o3.shapeN)
      rw [List.length_append, List.length_singleton] at o3
      have e3 := (ek.alloc (.cells #[.string (str r.name)] 9)).grown g3 (fun k hk => ho.out.lt k hk)
      have k2 := e3.cell k2h.out
      have cc3 := e3.cell cch.out
      have hs3 := Lib.hid o3
      clear k1 cc ek g3 o3 ho
      go_wp2_with (go_at_call 68; refine (hat.out r.par _ e3).mono ?_; rintro e w4 ⟨rfl, rfl⟩)
      go_roundw
      case rel => exact ⟨S ++ [r.name], r.par, a3, cap3, rfl, Lib.hid hp2.out, by rw [List.length_append]; rfl, Lib.hid hs3.out, e3⟩
      case measure =>
        rcases hpar.out with ⟨-, h5⟩ | ⟨j', t, h5, -, -, h6⟩
        · rw [atI_none h5]; simp [intOf]
        · rw [atI_some h6]; simp [intOf]; omega
set_option maxRecDepth 20000 in
set_option maxHeartbeats 1000000 in
theorem refBelow_d {F : Nat → Prop} {p room : Nat} {l : List Rec} (hok : Ok l) (hl : l.length ≤ 64) : ∀ (d i : Nat) (n : List UInt8), ix l n = some i → l.length - i ≤ d → ∀ (w : World), TrM 34 w F p room l →
    Calls Tryd.prog 44 #[.pointer (some ⟨p, 0, none⟩), .string (str n)] w (Ret fun u w' => OwnO sv 9 w' (fun k => w.heap.size ≤ k) u (below l n) ∧ Ext w w')
  | 0, i, n, hi, hd, w, h => by have := ix_lt hi; omega
  | d + 1, i, n, hi, hd, w, h => by
    have IH := Lib.hid (fun c j (hc : ix l c = some j) (hj : l.length - j ≤ d) W (e : Ext w W) => refBelow_d hok hl d j c hc hj W (h.ext e))
    have hat := refAt_any n h
    rw [atI_some hi] at hat
    have e1 := (Ext.refl w).alloc (.cells #[.string (str n)] 9)
    have hkd := refKids_any n (h.ext e1) (by omega)
    obtain ⟨K, hK⟩ : ∃ K, K = kids l n := ⟨_, rfl⟩
    have hKid := Lib.hid (fun c (hc : c ∈ K) => kid_at hok hi (by rw [← hK]; exact hc))
    have hKl := Lib.hid (kids_len l n l.length)
    have hbs := Lib.hid (below_step hok hi)
    have hbl := Lib.hid (Nat.le_trans (below_le hok n) hl)
    rw [← hK] at hkd hbs
    rw [List.take_length, ← hK] at hKl
    have hi0 : ¬ (i : Int) < 0 := by omega
    have own0 := Lib.hid (Own.one (w := w) (base := w.heap.size) (C := #[.string (str n)]) (n := n) rfl (Nat.le_refl _) rfl)
    have e1h := Lib.hid e1
    clear hK h e1
    go_enter Tryd.func44, Tryd.ntmps44
    go_upto_region 5 with (first
      | (go_at_call 68; refine hat.mono ?_; rintro e w2 ⟨rfl, rfl⟩)
      | (go_at_call 43; refine hkd.mono ?_; rintro e w3 ⟨_, rfl, hk3, e3⟩; obtain ⟨ak, ck, rfl⟩ := hk3.shapeN))
    have e03 := e1h.out.trans e3
    have own3 : RowKit.Hid (OwnO sv 9 w3 (fun k => k = w.heap.size ∨ w3.heap.size ≤ k) (.slice (some ⟨w.heap.size, 0, none⟩) 1 1) [n]) := Lib.hid (by
      have h := OwnO.of_own (own0.out.ext e3)
      rcases h with h | ⟨g, o, cap, cur, h1, -, r⟩
      · exact .inl h
      · refine .inr ⟨g, o, cap, cur, h1, .inl ?_, r⟩
        cases h1; rfl)
    have hKn : (K.length : Int) ≤ 64 := by have := hKl.out; omega
    have hk3h := Lib.hid hk3
    have hw1 := Lib.hid (alloc_size w (.cells #[.string (str n)] 9))
    have hwz := Lib.hid e03.size
    have e03h := Lib.hid e03
    clear hat hkd hk3 own0 e1h e3 e03
    go_wp2
    go_loopw [5, 7] (fun out i wr => ∃ (j : Nat) (S : List (List UInt8)), j ≤ K.length ∧ i = .int .i64 (j : Int) ∧ RowKit.Hid (S = n :: (K.take j).flatMap (below l)) ∧ (∃ a1 c1, out = .slice a1 S.length c1) ∧ RowKit.Hid (OwnO sv 9 wr (fun k => k = w.heap.size ∨ w3.heap.size ≤ k) out S) ∧ RowKit.Hid (Chg (fun k => k = w.heap.size) w3 wr)) (fun _ i _ => K.length - (intOf i).toNat)
    case atStart => exact ⟨0, [n], Nat.zero_le _, rfl, Lib.hid rfl, ⟨_, _, rfl⟩, own3, Lib.hid (Chg.refl _ _)⟩
    case round =>
      obtain ⟨j, S, hj, rfl, hS, ⟨a1, c1, rfl⟩, ho, hcg⟩ := hrel
      have e0r := e03h.out.chg hcg.out fun k hk => by omega
      by_cases hlt : j < K.length
      · obtain ⟨c, hc⟩ := some_at hlt
        obtain ⟨_, _, hq, sk⟩ := (hk3h.out.chgB hcg.out fun k hk e => by have := hk3h.out.lt k hk; have := hw1.out; omega).sl
        cases hq
        obtain ⟨g, o, rfl, k1⟩ := sk.cells j c hc
        unfold sv at k1
        have hji : (j : Int) < (K.length : Int) := by omega
        have hw : IntKind.i64.wrap ((j : Int) + 1) = (j : Int) + 1 := by rw [IntKind.wrap_i64]; omega
        obtain ⟨q, r, q1, q2, q3, q4, q5⟩ := hKid.out c (List.mem_of_getElem? hc)
        have hrec := IH.out c q q5 (by omega) wr e0r
        have hft := Lib.hid (show S ++ below l c = n :: (K.take (j + 1)).flatMap (below l) from by rw [hS.out, flat_take K j c hc]; rfl)
        have hfl := Lib.hid (show S.length + (below l c).length ≤ 64 from by
          have h1 := hbl.out
          rw [hbs.out] at h1
          have h2 := flat_take_len (f := below l) K (j + 1)
          have h3 := congrArg List.length hft.out
          rw [List.length_append, List.length_cons] at h3
          rw [List.length_cons] at h1
          omega)
        have hzr := Lib.hid hcg.out.size
        generalize below l c = X at *
        clear hc q2 sk e0r
        go_wp2_with (first
          | (go_at_call 44; refine hrec.mono ?_; rintro e w4 ⟨_, rfl, ob, e4⟩; obtain ⟨ab, cb, rfl⟩ := ob.shape; have hos := Lib.hid (ho.out.ext e4))
          | (refine wpList_appendO (enc := sv) Tryd.underlying39 info_strS rfl (fun _ => rfl) rfl _ _ rfl (fun k => k = w.heap.size ∨ w3.heap.size ≤ k) (.slice a1 S.length c1) S rfl hos.out _ X rfl ob.sl (by have := hfl.out; omega) (by have := hfl.out; omega) ?_; intro v5 w5 o5 g5; obtain ⟨a5, c5, rfl⟩ := o5.shape))
        rw [List.length_append] at o5
        go_roundw
        case rel => exact ⟨j + 1, S ++ X, by omega, by go_num, hft, ⟨a5, c5, by rw [List.length_append]⟩, Lib.hid (o5.mono fun k hk => hk.elim id fun h => .inr (Nat.le_trans (Nat.le_trans hzr.out e4.size) h)), Lib.hid ((hcg.out.ext e4).then g5 fun i hi h => h.elim id fun h => by omega)⟩
        case measure => simp [intOf]; omega
      · obtain rfl : j = K.length := by omega
        have hS2 := hS.out
        rw [List.take_length, ← hbs.out] at hS2
        have hS2h := Lib.hid hS2
        clear hS hS2
        go_wp2
        go_ret
        exact Ret.mk ⟨by rw [← hS2h.out]; exact ho.out.mono fun k hk => hk.elim (fun h => by omega) fun h => Nat.le_trans hwz.out h, e0r⟩
theorem refBelow_any {F : Nat → Prop} {p room : Nat} {l : List Rec} (n : List UInt8) {w : World} (h : TrM 34 w F p room l) (hok : Ok l) (hl : l.length ≤ 64) :
    Calls Tryd.prog 44 #[.pointer (some ⟨p, 0, none⟩), .string (str n)] w (Ret fun u w' => OwnO sv 9 w' (fun k => w.heap.size ≤ k) u (below l n) ∧ Ext w w') := by
  cases hi : ix l n with
  | some i => exact refBelow_d hok hl _ i n hi (Nat.le_refl _) w h
  | none =>
    have hat := refAt_any n h
    rw [atI_none hi] at hat
    rw [below_none hi]
    have e0 := Ext.refl w
    clear h hi
    go_enter Tryd.func44, Tryd.ntmps44
    go_wp2_with (go_at_call 68; refine hat.mono ?_; rintro e w2 ⟨rfl, rfl⟩)
    go_ret
    exact Ret.mk ⟨.inl ⟨rfl, rfl⟩, e0⟩
end Go.Proofs.YtmdepmohfnficaaDoor


namespace Go.Proofs.YtmdepmohfnficaaDoor
open Go.RowKit Rk Tr

theorem OwnR.nonnil {w : World} {F : Nat → Prop} {v : Value} {l : List Rec} (h : OwnR w F v l) (hl : 0 < l.length) : ∃ g cap, v = .slice (some ⟨g, 0, none⟩) l.length cap := by
  obtain ⟨⟨⟨h1, h⟩, h2⟩, hf⟩ := h
  rcases h with ⟨rfl, hn⟩ | ⟨g, cap, cur, rfl, -⟩
  · omega
  · exact ⟨g, cap, rfl⟩
theorem ref_right (r : Rec) (hf : Fits r) (hn1 : r.name.length ≤ 1099511627776) (hp1 : r.par.length ≤ 1099511627776) (w : World) :
    Calls Tryd.prog 72 #[.agg (rcells r)] w fun e w' => e = .returned (.bool (rightI r)) ∧ Ext w w' := refRight_any r hf hn1 hp1 w
attribute [local irreducible] rcells
set_option maxRecDepth 20000 in
set_option maxHeartbeats 2000000 in
theorem refDrop_any {F : Nat → Prop} {p room : Nat} {l : List Rec} (n : List UInt8) {w : World} (h : TrM 34 w F p room l) (hok : Ok l) (hl : l.length ≤ 64) :
    Calls Tryd.prog 40 #[.pointer (some ⟨p, 0, none⟩), .string (str n)] w (Ret fun u w' => OwnO sv 9 w' (fun k => w.heap.size ≤ k) u (below l n) ∧ (∃ a c, u = .slice a (below l n).length c) ∧ TrM 34 w' (fun k => F k ∨ w.heap.size ≤ k) p room (Tr.drop l n) ∧ Chg F w w') := by
  have hB := refBelow_any n h hok hl
  have hth := Lib.hid h.lt
  obtain ⟨a, cap, -, c1, hr⟩ := h.parts
  obtain ⟨a', cap', hq, hlen, hget⟩ := Rw.shape hr
  cases hq
  have hgh := Lib.hid hget
  have c1h := Lib.hid c1
  have hd : RowKit.Hid (Tr.drop l n = l.filter fun r => !inL (below l n) r.name) := Lib.hid (by unfold Tr.drop; congr 1; funext r; rw [inL_contains])
  obtain ⟨L, hL⟩ : ∃ L, L = below l n := ⟨_, rfl⟩
  rw [← hL] at hB hd ⊢
  clear h hL hget hr c1
  go_enter Tryd.func40, Tryd.ntmps40
  go_upto_region 2 with (go_at_call 44; refine hB.mono ?_; rintro e w1 ⟨u, rfl, hu, e1⟩; obtain ⟨a1, c1, rfl⟩ := hu.shape)
  have huh := Lib.hid hu
  have hush := Lib.hid hu.sl
  have e1h := Lib.hid e1
  clear hB hu e1
  go_wp2
  go_loopw [6, 7] (fun out i wr => ∃ (k : Nat) (S : List Rec), k ≤ l.length ∧ i = .int .i64 (k : Int) ∧ RowKit.Hid (S = (l.take k).filter fun r => !inL L r.name) ∧ (∃ a c, out = .slice a S.length c) ∧ RowKit.Hid (OwnR wr (fun k => w1.heap.size ≤ k) out S) ∧ Ext w1 wr) (fun _ i _ => l.length - (intOf i).toNat)
  case atStart => exact ⟨0, [], Nat.zero_le _, rfl, Lib.hid rfl, ⟨none, 0, rfl⟩, Lib.hid (OwnR.nil _ _), Ext.refl _⟩
  case round =>
    obtain ⟨k, S, hk, rfl, hS, ⟨ao, co, rfl⟩, ho, ek⟩ := hrel
    have e0k := Lib.hid (e1h.out.trans ek)
    have c1 := e0k.out.cell c1h.out
    by_cases hlt : k < l.length
    · obtain ⟨x, hx⟩ := some_at hlt
      obtain ⟨g, o, cs, rfl, hrr, rfl, hfx⟩ := hgh.out k x hx
      have hki : (k : Int) < (l.length : Int) := by omega
      have hw : IntKind.i64.wrap ((k : Int) + 1) = (k : Int) + 1 := by rw [IntKind.wrap_i64]; omega
      have hr2 : wr.rangeAt g (o + k * 10) (prow x) := fun i u hu => e0k.out.cell (hrr i u hu)
      have k1 := hr2 1 _ (prow_cells x).2.1
      have hin := in_any _ L x.name wr (hush.out.ext ek)
      have hyes := Lib.hid (keep_in (p := fun r => inL L r.name) hx)
      have hno := Lib.hid (keep_out (p := fun r => inL L r.name) hx)
      have hSl : S.length ≤ 64 := by
        rw [hS.out]
        exact Nat.le_trans (List.length_filter_le _ _) (by rw [List.length_take]; omega)
      clear hrr hx
      cases hb : inL L x.name
      · rw [hb] at hin
        have hS2 := Lib.hid (show S ++ [x] = (l.take (k + 1)).filter fun r => !inL L r.name from by rw [hS.out]; exact (hno.out hb).symm)
        clear hyes hno
        go_wp2_with (first
          | (go_at_call 34; refine hin.mono ?_; rintro e w2 ⟨rfl, rfl⟩)
          | (refine wpList_load_recL (by rfl) _ rfl g (o + k * 10) rfl x hr2 ?_)
          | (refine wpList_appendR (by rfl) _ _ rfl (fun k => w1.heap.size ≤ k) _ S rfl (ho.out.ext ((Ext.refl wr).alloc _)) _ [x] rfl (Recs.one rfl (rc_lit x).symm hfx) (by simp only [List.length_singleton]; omega) ?_; intro v8 w8 o8 c8; obtain ⟨a8, c8', rfl⟩ := o8.shape))
        rw [List.length_append, List.length_singleton] at o8
        have hz := ek.size
        have o8h := Lib.hid (o8.mono (G := fun k => w1.heap.size ≤ k) fun k hk => hk.elim id fun h => Nat.le_trans (Nat.le_trans hz ((Ext.refl wr).alloc _).size) h)
        have e8 := (ek.alloc (.cells #[.int .i64 x.kind, .string (str x.name), .string (str x.par), .string (str x.user), .string (str x.serv), .string (str x.url), .int .i64 x.made, .int .i64 x.used, .int .i64 x.uses, .bool x.fresh] 36)).chg c8 fun k hk => hk
        clear o8 c8
        go_roundw
        case rel => exact ⟨k + 1, S ++ [x], by omega, by go_num, hS2, ⟨a8, c8', by rw [List.length_append]; rfl⟩, o8h, e8⟩
        case measure => simp [intOf]; omega
      · rw [hb] at hin
        have hS2 := Lib.hid (show S = (l.take (k + 1)).filter fun r => !inL L r.name from by rw [hS.out]; exact (hyes.out hb).symm)
        clear hyes hno
        go_wp2_with (go_at_call 34; refine hin.mono ?_; rintro e w2 ⟨rfl, rfl⟩)
        go_roundw
        case rel => exact ⟨k + 1, S, by omega, by go_num, hS2, ⟨_, _, rfl⟩, ho, ek⟩
        case measure => simp [intOf]; omega
    · obtain rfl : k = l.length := by omega
      have hS2 := hS.out
      rw [List.take_length, ← hd.out] at hS2
      have hS2h := Lib.hid hS2
      obtain ⟨v0, hv0, hFp, -⟩ := hth.out.ext e0k.out
      have hcp := cell_at hv0 1 rfl
      have hfp := frozen_of_row wr p 1 _ _ hv0
      have hz := Lib.hid e1h.out.size
      have hpw : p < w.heap.size := hFp.2
      have hp5 := heap_setCell_same wr p 1 _ _ (.slice ao S.length co) hv0
      have c5 : Chg (fun k => k = p) wr (wr.setCell ⟨p, 1, none⟩ (.slice ao S.length co)) := (Chg.refl (fun k => k = p) wr).setCell (x := ⟨p, 1, none⟩) (fun _ => rfl) _
      have hres := Lib.hid ((hush.out.ext ek))
      have hu5 := Lib.hid ((huh.out.ext ek).chg c5 fun k hk e => by omega)
      have ho5 := Lib.hid (ho.out.chg c5 fun g cur _ hk e => by have := hz.out; omega)
      have hch := Lib.hid ((Chg.of_ext e0k.out : Chg F w wr).then c5 fun k _ h => by rw [h]; exact hFp.1)
      have hp5h := Lib.hid hp5
      clear hS hS2 hgh hp5 c5 hv0
      go_wp2
      go_ret
      refine Ret.mk ⟨hu5.out, ⟨_, _, rfl⟩, ⟨_, hp5h.out, .inl hFp.1, ?_⟩, hch.out⟩
      rw [← hS2h.out]
      exact ho5.out.mono fun k hk => .inr (Nat.le_trans hz.out hk)
set_option maxRecDepth 20000 in
set_option maxHeartbeats 2000000 in
theorem refPut_any {F : Nat → Prop} {p room : Nat} {l : List Rec} (r : Rec) {w : World} (h : TrM 34 w F p room l) (hf : Fits r) (hn1 : r.name.length ≤ 1099511627776) (hn2 : r.par.length ≤ 1099511627776) (hl : l.length ≤ 64) :
    Calls Tryd.prog 39 #[.pointer (some ⟨p, 0, none⟩), .agg (rcells r)] w fun e w' => e = .returned (.int .i64 (putE l r)) ∧ TrM 34 w' (fun k => F k ∨ w.heap.size ≤ k) p room (putL l r) ∧ Chg F w w' := by
  have e1 := (Ext.refl w).alloc (.cells (rcells r) 36)
  have hb := heap_alloc_new w (.cells (rcells r) 36)
  have k1 := cell_at hb 1 (rc_cells r).2.1
  have hth := Lib.hid h.lt
  have hat := Lib.hid (fun m W (e : Ext w W) => refAt_any m (h.ext e))
  have hRr := Lib.hid (fun W => ref_right r hf hn1 hn2 W)
  have hfh := Lib.hid hf
  have hbh := Lib.hid hb
  have e1h := Lib.hid e1
  have k1h := Lib.hid (fun W (e : Ext (w.alloc (.cells (rcells r) 36)) W) => e.cell k1)
  have hB := Lib.hid (fun W (e : Ext (w.alloc (.cells (rcells r) 36)) W) => e.heap hb)
  clear h hf hb e1
  cases hr : rightI r
  · have hn := Lib.hid (show putE l r = 1 from by unfold putE; rw [hr]; rfl)
    have hL := Lib.hid (show putL l r = l from by unfold putL; rw [hn.out]; rfl)
    go_enter Tryd.func39, Tryd.ntmps39
    go_wp2_with (first
      | (refine wpList_load_row rfl 36 _ rfl w.heap.size rfl 36 (rcells r) (0, 0) _ hbh.out Tryd.underlying36 rfl (rc_sz r) ?_)
      | (go_at_call 72; refine (hRr.out _).mono ?_; rw [hr]; rintro e w2 ⟨rfl, e2⟩))
    go_ret
    exact ⟨by rw [hn.out]; rfl, by rw [hL.out]; exact (hth.out.ext (e1h.out.trans e2)).mono fun k hk => .inl hk.1, Chg.of_ext (e1h.out.trans e2)⟩
  go_enter Tryd.func39, Tryd.ntmps39
  go_upto_region 4 with (first
    | (refine wpList_load_row rfl 36 _ rfl w.heap.size rfl 36 (rcells r) (0, 0) _ hbh.out Tryd.underlying36 rfl (rc_sz r) ?_)
    | (go_at_call 72; refine (hRr.out _).mono ?_; rw [hr]; rintro e w2 ⟨rfl, e2⟩))
  have d1 := k1h.out _ e2
  rcases atI_cases l r.name with ⟨h1, h2⟩ | ⟨i, x, h1, h2, h3, -⟩
  · have hn := Lib.hid (show putE l r = 6 from by unfold putE; rw [hr, h1]; rfl)
    have hL := Lib.hid (show putL l r = l from by unfold putL; rw [hn.out]; rfl)
    go_wp2_with (go_at_call 68; refine (hat.out r.name _ (e1h.out.trans e2)).mono ?_; rw [h2]; rintro e w3 ⟨rfl, rfl⟩)
    go_ret
    exact ⟨by rw [hn.out]; rfl, by rw [hL.out]; exact (hth.out.ext (e1h.out.trans e2)).mono fun k hk => .inl hk.1, Chg.of_ext (e1h.out.trans e2)⟩
  have hil := (List.getElem?_eq_some_iff.1 h3).1
  have hii : (i : Int) < (l.length : Int) := by omega
  have hi0 : ¬ (i : Int) < 0 := by omega
  have hi1 : (0 : Int) ≤ (i : Int) := by omega
  have hE := Lib.hid (show putE l r = if seq x.par r.par = false then 8 else 0 from by unfold putE; rw [hr, h1]; simp only [Bool.true_eq_false, if_false]; rw [getD_at h3])
  have hLL := Lib.hid (fun h : putE l r = 0 => (show putL l r = l.set i r from by unfold putL; rw [h, h1]; rfl))
  go_upto_region 7 with (go_at_call 68; refine (hat.out r.name _ (e1h.out.trans e2)).mono ?_; rw [h2]; rintro e w3 ⟨rfl, rfl⟩)
  have eW := e1h.out.trans e2
  obtain ⟨v0, hv0, hFp, hov⟩ := hth.out.ext eW
  obtain ⟨a, cap, rfl⟩ := hov.shape
  have hlen : (l.length : Int) ≤ 9223372036854775807 := by omega
  obtain ⟨_, _, hq, -, hget⟩ := Rw.shape hov.recs
  cases hq
  obtain ⟨g, o, cs, rfl, hrr, rfl, -⟩ := hget i x h3
  have k2 := hrr 2 _ (prow_cells x).2.2
  have kr := cell_at (hB.out _ e2) 2 (rc_cells r).2.2
  have cp := cell_at hv0 1 rfl
  clear hget hrr h1 h2 h3 d1 hRr hat
  go_quiet (fail)
  have eD := eW.trans (Ext.drewM _ nq)
  have eB := e2.trans (Ext.drewM _ nq)
  have hvD := (Ext.drewM w2 nq).heap hv0
  have hovD := hov.ext (Ext.drewM w2 nq)
  clear k2 kr cp hv0 hov eW e2
  generalize w2.drewN nq = WD at *
  cases hsp : seq x.par r.par
  · have hn : RowKit.Hid (putE l r = 8) := Lib.hid (by rw [hE.out, hsp]; rfl)
    have hL := Lib.hid (show putL l r = l from by unfold putL; rw [hn.out]; rfl)
    go_wp2
    go_ret
    exact ⟨by rw [hn.out]; rfl, by rw [hL.out]; exact (hth.out.ext eD).mono fun k hk => .inl hk.1, Chg.of_ext eD⟩
  · have hn : RowKit.Hid (putE l r = 0) := Lib.hid (by rw [hE.out, hsp]; rfl)
    have hL := Lib.hid (hLL.out hn.out)
    have cp := cell_at hvD 1 rfl
    have hBD := hB.out _ eB
    have hsD := eD.size
    have hpW := hFp.2
    have c1 := ((Ext.refl WD).alloc (.cells #[] 36)).cell cp
    have hemp := OwnR.empty (w := WD) (F := fun k => WD.heap.size ≤ k) rfl (Nat.le_refl _)
    have hvDh := Lib.hid hvD
    have eDh := Lib.hid eD
    have hBDh := Lib.hid hBD
    have hov2 := Lib.hid (hovD.ext ((Ext.refl WD).alloc (.cells #[] 36))).recs
    have hz1 := ((Ext.refl WD).alloc (.cells #[] 36)).size
    have eA := (Ext.refl WD).alloc (.cells #[] 36)
    clear hvD eD hBD hovD hsp hE hLL eB
    go_upto_region 10 with (refine wpList_appendR (by rfl) _ _ rfl (fun k => WD.heap.size ≤ k) _ [] rfl hemp _ l rfl hov2.out (by simp; omega) ?_; intro v5 w5 o5 c5)
    rw [List.nil_append] at o5
    have o5 := o5.mono (G := fun k => WD.heap.size ≤ k) fun k hk => hk.elim id fun h => Nat.le_trans hz1 h
    have e5 := eA.chg c5 fun k h => h
    obtain ⟨g5, cap5, rfl⟩ := o5.nonnil (by omega)
    obtain ⟨hFg, hthr, hset⟩ := o5.set hil hfh.out
    have hb5 := e5.heap hBDh.out
    have hp5 := e5.heap hvDh.out
    have hz5 := e5.size
    have o5h := Lib.hid hset
    have e5h := Lib.hid e5
    clear hemp hz1 eA o5 c5 e5 hset c1 cp
    go_upto_region 11 with (first
      | (refine wpList_load_row rfl 36 _ rfl w.heap.size rfl 36 (rcells r) (0, 0) _ hb5 Tryd.underlying36 rfl (rc_sz r) ?_)
      | (refine wpList_store_mid rfl 36 _ _ rfl g5 (i * 10) (rcells r) rfl rfl (by rw [rc_ten]; exact hthr) (rc_sz r) (rc_one r) ?_))
    have c6 : Chg (fun k => k = g5) w5 (w5.setCells g5 (i * 10) (rcells r).toList) := setCells_chg (p := fun k => k = g5) g5 rfl _ _ _
    have hset := o5h.out
    unfold prow at hset
    generalize w5.setCells g5 (i * 10) (rcells r).toList = w6 at *
    have hp6 := (c6.block p (by have := (Array.getElem?_eq_some_iff.1 hp5).1; exact this) (by omega)).trans hp5
    have cp6 := cell_at hp6 1 rfl
    have fp6 := frozen_of_row w6 p 1 _ _ hp6
    have c57 : Chg (fun k => k = g5 ∨ k = p) w5 (w6.setCell ⟨p, 1, none⟩ (.slice (some ⟨g5, 0, none⟩) l.length cap5)) := (c6.mono fun k h => .inl h).setCell (x := ⟨p, 1, none⟩) (fun _ => .inr rfl) _
    have hp7 := Lib.hid (heap_setCell_same w6 p 1 _ _ (.slice (some ⟨g5, 0, none⟩) l.length cap5) hp6)
    have h7 := Lib.hid (hset.chg ((Chg.refl (fun k => k = p) w6).setCell (x := ⟨p, 1, none⟩) (fun _ => rfl) (.slice (some ⟨g5, 0, none⟩) l.length cap5)) fun g cur _ hk e => by omega)
    have hch := Lib.hid (((Chg.of_ext eDh.out : Chg F w WD).trans (Chg.of_ext e5h.out)).then c57 fun k hk h => h.elim (fun h => by omega) fun h => by rw [h]; exact hFp.1)
    clear c6 hset hp6 c57 hthr hb5 hp5
    go_wp2
    go_ret
    refine ⟨by rw [hn.out]; rfl, ⟨_, hp7.out, .inl hFp.1, ?_⟩, hch.out⟩
    rw [hL.out]
    exact h7.out.mono fun k hk => .inr (Nat.le_trans hsD hk)
end Go.Proofs.YtmdepmohfnficaaDoor


namespace Go.Proofs.YtmdepmohfnficaaDoor
open Go.RowKit Rk Tr

theorem wpList_parOk {r : Rec} {l : List Rec} (h : ¬ (r.par ≠ [] ∧ isIn l r.par = false)) : seq r.par [] = true ∨ ∃ i : Nat, seq r.par [] = false ∧ atI l r.par = (i : Int) := by
  by_cases hp : r.par = []
  · exact .inl (seq_true.2 hp)
  · right
    rcases atI_cases l r.par with ⟨h1, h2⟩ | ⟨i, x, h1, h2, -⟩
    · exact absurd ⟨hp, by unfold isIn; rw [h1]; rfl⟩ h
    · exact ⟨i, seq_false.2 hp, h2⟩
theorem OwnR.empty' {w : World} {g : Nat} (hg : g = w.heap.size) : OwnR (w.alloc (.cells #[] 36)) (fun k => k = g) (.slice (some ⟨g, 0, none⟩) 0 0) [] := OwnR.empty hg hg.symm
theorem alloc2_size (w : World) (A B : Obj) : ((w.alloc A).alloc B).drew.heap.size = w.heap.size + 1 + 1 := by
  show ((w.alloc A).alloc B).heap.size = _
  rw [alloc_size, alloc_size]
theorem at_new2 (w : World) (A B : Obj) : ((w.alloc A).alloc B).drew.heap[w.heap.size + 1]? = some B := by
  show ((w.alloc A).alloc B).heap[w.heap.size + 1]? = _
  have := heap_alloc_new (w.alloc A) B
  rwa [alloc_size] at this
theorem at_old2 (w : World) (A B : Obj) : ((w.alloc A).alloc B).drew.heap[w.heap.size]? = some A := by
  show ((w.alloc A).alloc B).heap[w.heap.size]? = _
  rw [alloc_old _ _ (by rw [alloc_size]; omega)]
  exact heap_alloc_new w A
theorem empA {w : World} : OwnR (w.alloc (.cells #[] 36)).drew (fun k => k = w.heap.size) (.slice (some ⟨w.heap.size, 0, none⟩) 0 0) [] := (OwnR.empty' rfl).ext (Ext.refl _).drew
theorem empB {w : World} {C : Obj} : OwnR ((w.alloc C).alloc (.cells #[] 36)).drew (fun k => k = w.heap.size + 1) (.slice (some ⟨w.heap.size + 1, 0, none⟩) 0 0) [] := (OwnR.empty' (alloc_size w C).symm).ext (Ext.refl _).drew
theorem empC {w : World} {C : Obj} : OwnR ((w.alloc (.cells #[] 36)).alloc C).drew (fun k => k = w.heap.size) (.slice (some ⟨w.heap.size, 0, none⟩) 0 0) [] := (OwnR.empty' rfl).ext ((Ext.refl _).alloc _).drew
theorem Recs.at {w : World} {g : Nat} {r : Rec} {fr : Nat × Nat} (h : w.heap[g]? = some (.cells (rcells r) 36 fr)) (hf : Fits r) : Recs w (.slice (some ⟨g, 0, none⟩) 1 1) [r] :=
  ⟨_, 1, rfl, Nat.le_refl _, by simp [maxLen], fun h => by simp at h, fun j x hj => by
    match j, hj with
    | 0, hj =>
      obtain rfl : r = x := by simpa using hj
      refine ⟨g, 0, prow r, rfl, rfl, fun i u hu => ?_, rfl, hf⟩
      rw [cell_of_row _ _ _ _ _ _ h]
      unfold prow at hu
      simpa using hu⟩
attribute [local irreducible] rcells
set_option maxRecDepth 20000 in
set_option maxHeartbeats 2000000 in
theorem refAdd_any {F : Nat → Prop} {p room : Nat} {l : List Rec} (r : Rec) {w : World} (h : TrM 34 w F p room l) (hf : Fits r) (hn1 : r.name.length ≤ 1099511627776) (hn2 : r.par.length ≤ 1099511627776) (hl : l.length ≤ 64) :
    Calls Tryd.prog 38 #[.pointer (some ⟨p, 0, none⟩), .agg (rcells r)] w fun e w' => e = .returned (.int .i64 (addE room l r)) ∧ TrM 34 w' (fun k => F k ∨ w.heap.size ≤ k) p room (addL room l r) ∧ Chg F w w' := by
  have e1 := (Ext.refl w).alloc (.cells (rcells r) 36)
  have hb := heap_alloc_new w (.cells (rcells r) 36)
  have hth := Lib.hid h.lt
  have hat := Lib.hid (fun m W (e : Ext w W) => refAt_any m (h.ext e))
  have hRr := ref_right r hf hn1 hn2 (w.alloc (.cells (rcells r) 36))
  have hfh := Lib.hid hf
  have hbh := Lib.hid hb
  have e1h := Lib.hid e1
  have hB := Lib.hid (fun W (e : Ext (w.alloc (.cells (rcells r) 36)) W) => e.heap hb)
  clear h hf hb e1
  cases hr : rightI r
  · have hn := Lib.hid (show addE room l r = 1 from by unfold addE; rw [hr]; rfl)
    have hL := Lib.hid (show addL room l r = l from by unfold addL; rw [hn.out]; rfl)
    rw [hr] at hRr
    go_enter Tryd.func38, Tryd.ntmps38
    go_wp2_with (first
      | (refine wpList_load_row rfl 36 _ rfl w.heap.size rfl 36 (rcells r) (0, 0) _ hbh.out Tryd.underlying36 rfl (rc_sz r) ?_)
      | (go_at_call 72; refine hRr.mono ?_; rintro e w2 ⟨rfl, e2⟩))
    go_ret
    exact ⟨by rw [hn.out]; rfl, by rw [hL.out]; exact (hth.out.ext (e1h.out.trans e2)).mono fun k hk => .inl hk.1, Chg.of_ext (e1h.out.trans e2)⟩
  rw [hr] at hRr
  go_enter Tryd.func38, Tryd.ntmps38
  go_upto_region 4 with (first
    | (refine wpList_load_row rfl 36 _ rfl w.heap.size rfl 36 (rcells r) (0, 0) _ hbh.out Tryd.underlying36 rfl (rc_sz r) ?_)
    | (go_at_call 72; refine hRr.mono ?_; rintro e w2 ⟨rfl, e2⟩))
  have hB2 := hB.out _ e2
  have d1 := cell_at hB2 1 (rc_cells r).2.1
  have d2 := cell_at hB2 2 (rc_cells r).2.2
  have e02 := e1h.out.trans e2
  have e02h := Lib.hid e02
  clear hRr e2 e02
  rcases atI_cases l r.name with ⟨h1, h2⟩ | ⟨i, x, h1, h2, h3, -⟩
  rotate_left
  · have hn := Lib.hid (show addE room l r = 7 from by unfold addE isIn; rw [hr, h1]; rfl)
    have hL := Lib.hid (show addL room l r = l from by unfold addL; rw [hn.out]; rfl)
    have hi0 : (0 : Int) ≤ (i : Int) := by omega
    go_wp2_with (go_at_call 68; refine (hat.out r.name _ e02h.out).mono ?_; rw [h2]; rintro e w3 ⟨rfl, rfl⟩)
    go_ret
    exact ⟨by rw [hn.out]; rfl, by rw [hL.out]; exact (hth.out.ext e02h.out).mono fun k hk => .inl hk.1, Chg.of_ext e02h.out⟩
  have hin := Lib.hid (show isIn l r.name = false from by unfold isIn; rw [h1]; rfl)
  clear h1
  go_upto_region 6 with (go_at_call 68; refine (hat.out r.name _ e02h.out).mono ?_; rw [h2]; rintro e w3 ⟨rfl, rfl⟩)
  by_cases hpc : r.par ≠ [] ∧ isIn l r.par = false
  · have hp0 : seq r.par [] = false := seq_false.2 hpc.1
    have hn := Lib.hid (show addE room l r = 6 from by unfold addE; rw [hr, hin.out]; simp only [Bool.true_eq_false, Bool.false_eq_true, if_false]; rw [if_pos hpc])
    have hL := Lib.hid (show addL room l r = l from by unfold addL; rw [hn.out]; rfl)
    have h3 : atI l r.par = -1 := by
      rcases atI_cases l r.par with ⟨-, h⟩ | ⟨i, x, h, -⟩
      · exact h
      · have := hpc.2
        unfold isIn at this; rw [h] at this; cases this
    clear hpc h2
    go_wp2_with (go_at_call 68; refine (hat.out r.par _ e02h.out).mono ?_; rw [h3]; rintro e w4 ⟨rfl, rfl⟩)
    go_ret
    exact ⟨by rw [hn.out]; rfl, by rw [hL.out]; exact (hth.out.ext e02h.out).mono fun k hk => .inl hk.1, Chg.of_ext e02h.out⟩
  have hpar := Lib.hid hpc
  have hpk := wpList_parOk hpc
  clear hpc h2
  go_cut [24] (fun b wd => b = .bool false ∧ wd = w2)
  case first =>
    rcases hpk with hp0 | ⟨i, hp0, h3⟩
    · go_wp2
      go_meet
      exact ⟨rfl, rfl⟩
    · have hi0 : ¬ (i : Int) < 0 := by omega
      go_wp2_with (go_at_call 68; refine (hat.out r.par _ e02h.out).mono ?_; rw [h3]; rintro e w4 ⟨rfl, rfl⟩)
      go_meet
      exact ⟨rfl, rfl⟩
  case rest =>
    obtain ⟨rfl, rfl⟩ := hcut
    clear hpk d1 d2
    obtain ⟨v0, hv0, hFp, hov⟩ := hth.out.ext e02h.out
    obtain ⟨a, cap, rfl⟩ := hov.shape
    have cp := cell_at hv0 1 rfl
    have cr := cell_at hv0 0 rfl
    by_cases hroom : room ≤ l.length
    · have hn := Lib.hid (show addE room l r = 5 from by unfold addE; rw [hr, hin.out]; simp only [if_neg hpar.out, Bool.true_eq_false, Bool.false_eq_true, if_false]; rw [if_pos hroom])
      have hL := Lib.hid (show addL room l r = l from by unfold addL; rw [hn.out]; rfl)
      have hri : decide (room ≤ l.length) = true := decide_eq_true hroom
      have hri2 : ((room : Int) ≤ (l.length : Int)) := by omega
      go_upto_region 8 with fail
      go_quiet (fail)
      have eW := e02h.out.trans (Ext.drewM _ nq)
      go_wp2
      go_ret
      exact ⟨by rw [hn.out]; rfl, by rw [hL.out]; exact (hth.out.ext eW).mono fun k hk => .inl hk.1, Chg.of_ext eW⟩
    · have hn := Lib.hid (show addE room l r = 0 from by unfold addE; rw [hr, hin.out]; simp only [if_neg hpar.out, Bool.true_eq_false, Bool.false_eq_true, if_false]; rw [if_neg hroom])
      have hL := Lib.hid (show addL room l r = l ++ [r] from by unfold addL; rw [hn.out]; rfl)
      have hri : decide (room ≤ l.length) = false := decide_eq_false hroom
      have hri2 : ¬ ((room : Int) ≤ (l.length : Int)) := by omega
      have hri3 : ((l.length : Int) < (room : Int)) := by omega
      go_upto_region 8 with fail
      go_quiet (fail)
      have eW := e02h.out.trans (Ext.drewM _ nq)
      have hvD := (Ext.drewM _ nq).heap hv0
      have hovD := (hov.ext (Ext.drewM _ nq)).recs
      have hBD := (Ext.drewM _ nq).heap hB2
      clear cp cr hv0 hov hB2
      generalize World.drewN _ nq = WD0 at *
      have CP := Lib.hid (fun W (e : Ext WD0 W) => cell_at (e.heap hvD) 1 rfl)
      have RC := Lib.hid (fun W (e : Ext WD0 W) => rc_all (e.heap hBD))
      have hvDh := Lib.hid hvD
      have eDh := Lib.hid eW
      have hovh := Lib.hid hovD
      have hpW := hFp.2
      have hsD := eW.size
      clear hvD hBD hovD eW
      obtain ⟨r0, r1, r2, r3, r4, r5, r6, r7, r8, r9⟩ := RC.out WD0 (Ext.refl _)
      have q0 := fun o => (RC.out _ ((Ext.refl WD0).alloc o)).1
      have q1 := fun o => (RC.out _ ((Ext.refl WD0).alloc o)).2.1
      have q2 := fun o => (RC.out _ ((Ext.refl WD0).alloc o)).2.2.1
      have q3 := fun o => (RC.out _ ((Ext.refl WD0).alloc o)).2.2.2.1
      have q4 := fun o => (RC.out _ ((Ext.refl WD0).alloc o)).2.2.2.2.1
      have q5 := fun o => (RC.out _ ((Ext.refl WD0).alloc o)).2.2.2.2.2.1
      have q6 := fun o => (RC.out _ ((Ext.refl WD0).alloc o)).2.2.2.2.2.2.1
      have q7 := fun o => (RC.out _ ((Ext.refl WD0).alloc o)).2.2.2.2.2.2.2.1
      have q8 := fun o => (RC.out _ ((Ext.refl WD0).alloc o)).2.2.2.2.2.2.2.2.1
      have q9 := fun o => (RC.out _ ((Ext.refl WD0).alloc o)).2.2.2.2.2.2.2.2.2
      have cp := CP.out WD0 (Ext.refl _)
      have cpA := fun o => CP.out _ ((Ext.refl WD0).alloc o)
      have cpB := fun o o' => CP.out _ (((Ext.refl WD0).alloc o).alloc o')
      go_upto_region 10 with fail
      go_region_law (first
        | (refine step_appendR rfl _ _ rfl (fun k => WD0.heap.size ≤ k) _ l rfl (by refine OwnR.ext o5 ?_; (repeat (first | exact Ext.refl _ | with_reducible assumption | refine Ext.drew ?_ | refine Ext.alloc ?_ _ | refine Ext.trans ?_ (by assumption)))) _ [r] rfl (by first | exact Recs.one rfl (rc_lit r).symm hfh.out | exact Recs.at ((c5.block _ (by rw [alloc2_size]; omega) (by omega)).trans (by rw [rc_lit]; first | exact at_new2 _ _ _ | exact at_old2 _ _ _)) hfh.out) (by simp only [List.length_singleton]; omega) ?_; intro v6 w6 o6 c6; obtain ⟨a6, cap6, rfl⟩ := o6.shape; have e6 : Ext WD0 w6 := Ext.chg (by (repeat (first | exact Ext.refl _ | with_reducible assumption | refine Ext.drew ?_ | refine Ext.alloc ?_ _ | refine Ext.trans ?_ (by assumption)))) c6 (fun k hk => hk); have o6 := o6.mono (G := fun k => WD0.heap.size ≤ k) (fun k hk => hk.elim id fun h => Nat.le_trans (Below.size (by (repeat (first | exact Ext.refl _ | with_reducible assumption | refine Ext.drew ?_ | refine Ext.alloc ?_ _ | refine Ext.trans ?_ (by assumption))) : Ext WD0 _)) h); have hp6 := e6.heap hvDh.out; have cp6 := cell_at hp6 1 rfl; have fp6 := frozen_of_row w6 p 1 _ _ hp6)
        | (refine step_appendR rfl _ _ rfl _ _ [] rfl (by first | exact empA | exact empB | exact empC) _ l rfl (hovh.out.ext (by (repeat (first | exact Ext.refl _ | with_reducible assumption | refine Ext.drew ?_ | refine Ext.alloc ?_ _ | refine Ext.trans ?_ (by assumption))))) (by simp; omega) ?_; intro v5 w5 o5 c5; rw [List.nil_append] at o5; obtain ⟨a5, cap5, rfl⟩ := o5.shape; have e5 : Ext WD0 w5 := Ext.chg (by (repeat (first | exact Ext.refl _ | with_reducible assumption | refine Ext.drew ?_ | refine Ext.alloc ?_ _ | refine Ext.trans ?_ (by assumption)))) c5 (fun k hk => by subst hk; first | exact Nat.le_refl _ | exact Nat.le_succ _); have o5 := o5.mono (G := fun k => WD0.heap.size ≤ k) (fun k hk => hk.elim (fun h => by subst h; first | exact Nat.le_refl _ | exact Nat.le_succ _) fun h => Nat.le_trans (Below.size (by (repeat (first | exact Ext.refl _ | with_reducible assumption | refine Ext.drew ?_ | refine Ext.alloc ?_ _ | refine Ext.trans ?_ (by assumption))) : Ext WD0 _)) h); obtain ⟨s0, s1, s2, s3, s4, s5, s6, s7, s8, s9⟩ := RC.out w5 e5))
      all_goals
        rw [List.length_append, List.length_singleton] at o6
        have hp7 := heap_setCell_same w6 p 1 _ _ (.slice a6 (l.length + 1) cap6) hp6
        have c67 : Chg (fun k => k = p) w6 (w6.setCell ⟨p, 1, none⟩ (.slice a6 (l.length + 1) cap6)) := (Chg.refl (fun k => k = p) w6).setCell (x := ⟨p, 1, none⟩) (fun _ => rfl) _
        generalize w6.setCell ⟨p, 1, none⟩ (.slice a6 (l.length + 1) cap6) = w7 at *
        have o7 := Lib.hid (o6.chg c67 fun g cur _ hk e => by omega)
        have hch := Lib.hid ((Chg.of_ext (eDh.out.trans e6) : Chg F w w6).then c67 fun k _ h => by rw [h]; exact hFp.1)
        have hp7h := Lib.hid hp7
        clear hp7 c67 o6 c6 hp6 cp6 fp6 cp cpA cpB r0 r1 r2 r3 r4 r5 r6 r7 r8 r9 q0 q1 q2 q3 q4 q5 q6 q7 q8 q9
        go_wp2
        go_ret
        refine ⟨by rw [hn.out]; rfl, ⟨_, hp7h.out, .inl hFp.1, ?_⟩, hch.out⟩
        rw [hL.out]
        exact o7.out.mono fun k hk => .inr (Nat.le_trans hsD hk)
end Go.Proofs.YtmdepmohfnficaaDoor


