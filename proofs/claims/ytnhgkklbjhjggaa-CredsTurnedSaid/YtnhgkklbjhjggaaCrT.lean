/- The document's Names; Texts. -/
import Derived.Test.YtnhgkklbjhjggaaCrR
import Derived.Laws.Cover1
namespace Go.Proofs.Ytnhgkklbjhjggaa
open Go.RowKit Cr

def slt (a b : List UInt8) : Bool := decide (a < b)
theorem bytes_less : ∀ (x y : List UInt8), Op.bytesLess x y = decide (x < y)
  | [], [] => by simp [Op.bytesLess]
  | _ :: _, [] => by simp [Op.bytesLess]
  | [], _ :: _ => by simp [Op.bytesLess]
  | a :: x, b :: y => by
    rw [Op.bytesLess, bytes_less x y]
    by_cases h : a < b
    · simp [h, List.cons_lt_cons_iff]
    · by_cases he : a = b
      · subst he; simp [List.cons_lt_cons_iff]
      · simp [h, he, List.cons_lt_cons_iff]
@[go_sem] theorem less_slt (a b : List UInt8) : Op.bytesLess (str a).toList (str b).toList = slt a b := by rw [bytes_less, toList_str, toList_str]; rfl
theorem slt_gt (a b : List UInt8) : (!(slt a b || seq a b)) = slt b a := by
  unfold slt
  by_cases h : a = b
  · subst h; simp [seq_self, List.lt_irrefl]
  · rw [seq_false.2 h, Bool.or_false]
    by_cases h1 : a < b
    · have : ¬ b < a := List.lt_asymm h1
      simp [h1, this]
    · have : b < a := Classical.byContradiction fun h2 => h (List.le_antisymm (List.not_lt.1 h2) (List.not_lt.1 h1))
      simp [h1, this]
namespace Cr
theorem leB_trans (a b c : List UInt8) (h1 : leB a b = true) (h2 : leB b c = true) : leB a c = true := by simp only [leB, decide_eq_true_eq] at *; exact List.le_trans h1 h2
theorem leB_total (a b : List UInt8) : (leB a b || leB b a) = true := by simp only [leB, Bool.or_eq_true, decide_eq_true_eq]; exact List.le_total a b
/-- strictly rising -/
def Rise (S : List (List UInt8)) : Prop := S.Pairwise fun a b => slt a b = true
theorem rise_sort {N : List (List UInt8)} (h : N.Nodup) : Rise (N.mergeSort leB) := by
  have h1 := List.pairwise_mergeSort leB_trans leB_total N
  have h2 : (N.mergeSort leB).Nodup := (List.mergeSort_perm N leB).nodup_iff.2 h
  refine (List.Pairwise.and h1 h2).imp fun {a b} ⟨p, q⟩ => ?_
  simp only [leB, decide_eq_true_eq] at p
  unfold slt
  rw [decide_eq_true_eq]
  exact Classical.byContradiction fun h2 => q (List.le_antisymm p (List.not_lt.1 h2))
theorem rise_at {S : List (List UInt8)} (h : Rise S) {i j : Nat} {x y : List UInt8} (hi : S[i]? = some x) (hj : S[j]? = some y) (hij : i < j) : slt x y = true := by
  obtain ⟨hi1, rfl⟩ := List.getElem?_eq_some_iff.1 hi
  obtain ⟨hj1, rfl⟩ := List.getElem?_eq_some_iff.1 hj
  exact List.pairwise_iff_getElem.1 h i j hi1 hj1 hij
def abv (S : List (List UInt8)) (k : Nat) (x : List UInt8) : Bool := match (S.take k).getLast? with
  | none => true
  | some y => slt y x
theorem abv_zero (S : List (List UInt8)) (x : List UInt8) : abv S 0 x = true := by unfold abv; simp
theorem abv_succ {S : List (List UInt8)} {k : Nat} {y : List UInt8} (h : S[k]? = some y) (x : List UInt8) : abv S (k + 1) x = slt y x := by
  unfold abv; rw [List.take_add_one, h]; simp
theorem abv_at {S : List (List UInt8)} (h : Rise S) {k p : Nat} {x : List UInt8} (hk : k ≤ S.length) (hx : S[p]? = some x) : abv S k x = decide (k ≤ p) := by
  cases k with
  | zero => rw [abv_zero]; simp
  | succ k =>
    obtain ⟨y, hy⟩ := some_at (l := S) (show k < S.length by omega)
    rw [abv_succ hy]
    rcases Nat.lt_trichotomy k p with h1 | h1 | h1
    · rw [rise_at h hy hx h1, decide_eq_true (by omega)]
    · subst h1
      rw [hy] at hx; cases hx
      rw [decide_eq_false (by omega)]
      unfold slt; simp [List.lt_irrefl]
    · rw [decide_eq_false (by omega)]
      have := rise_at h hx hy h1
      unfold slt at this ⊢
      rw [decide_eq_true_eq] at this
      exact decide_eq_false (List.lt_asymm this)
/-- the best place so far -/
def Best (N S : List (List UInt8)) (k m : Nat) (b : Int) : Prop := (b = -1 ∧ ∀ i x, i < m → N[i]? = some x → abv S k x = false) ∨
  ∃ (j : Nat) (y : List UInt8), b = (j : Int) ∧ j < m ∧ N[j]? = some y ∧ abv S k y = true ∧ ∀ i x, i < m → N[i]? = some x → abv S k x = true → slt x y = false
theorem best_zero (N S : List (List UInt8)) (k : Nat) : Best N S k 0 (-1) := .inl ⟨rfl, fun i x h => absurd h (by omega)⟩
theorem best_below {N S : List (List UInt8)} {k m : Nat} {b : Int} {x : List UInt8} (h : Best N S k m b) (hx : N[m]? = some x) (ha : abv S k x = false) : Best N S k (m + 1) b := by
  rcases h with ⟨h1, h2⟩ | ⟨j, y, h1, h2, h3, h4, h5⟩
  · refine .inl ⟨h1, fun i z hi hz => ?_⟩
    by_cases e : i = m
    · subst e; rw [hx] at hz; cases hz; exact ha
    · exact h2 i z (by omega) hz
  · refine .inr ⟨j, y, h1, by omega, h3, h4, fun i z hi hz hz2 => ?_⟩
    by_cases e : i = m
    · subst e; rw [hx] at hz; cases hz; rw [ha] at hz2; cases hz2
    · exact h5 i z (by omega) hz hz2
theorem best_first {N S : List (List UInt8)} {k m : Nat} {x : List UInt8} (h : ∀ i x, i < m → N[i]? = some x → abv S k x = false) (hx : N[m]? = some x) (ha : abv S k x = true) : Best N S k (m + 1) (m : Int) :=
  .inr ⟨m, x, rfl, by omega, hx, ha, fun i z hi hz hz2 => by
    by_cases e : i = m
    · subst e; rw [hx] at hz; cases hz; unfold slt; simp [List.lt_irrefl]
    · rw [h i z (by omega) hz] at hz2; cases hz2⟩
theorem best_less {N S : List (List UInt8)} {k m : Nat} {x y : List UInt8} (h5 : ∀ i x, i < m → N[i]? = some x → abv S k x = true → slt x y = false) (hx : N[m]? = some x) (ha : abv S k x = true) (hl : slt x y = true) : Best N S k (m + 1) (m : Int) :=
  .inr ⟨m, x, rfl, by omega, hx, ha, fun i z hi hz hz2 => by
    by_cases e : i = m
    · subst e; rw [hx] at hz; cases hz; unfold slt; simp [List.lt_irrefl]
    · have h6 := h5 i z (by omega) hz hz2
      unfold slt at h6 hl ⊢
      rw [decide_eq_false_iff_not] at h6 ⊢
      rw [decide_eq_true_eq] at hl
      intro h7
      exact h6 (List.lt_trans h7 hl)⟩
theorem best_stays {N S : List (List UInt8)} {k m j : Nat} {x y : List UInt8} (h2 : j < m) (h3 : N[j]? = some y) (h4 : abv S k y = true) (h5 : ∀ i x, i < m → N[i]? = some x → abv S k x = true → slt x y = false) (hx : N[m]? = some x) (hl : slt x y = false) : Best N S k (m + 1) (j : Int) :=
  .inr ⟨j, y, rfl, by omega, h3, h4, fun i z hi hz hz2 => by
    by_cases e : i = m
    · subst e; rw [hx] at hz; cases hz; exact hl
    · exact h5 i z (by omega) hz hz2⟩
theorem best_is {N : List (List UInt8)} (hn : N.Nodup) {k : Nat} {b : Int} (hk : k < N.length) (h : Best N (N.mergeSort leB) k N.length b) : ∃ (j : Nat) (y : List UInt8), b = (j : Int) ∧ N[j]? = some y ∧ (N.mergeSort leB)[k]? = some y := by
  have hp := List.mergeSort_perm N leB
  have hR := rise_sort hn
  have hl : (N.mergeSort leB).length = N.length := hp.length_eq
  generalize N.mergeSort leB = S at *
  obtain ⟨z, hz⟩ := some_at (l := S) (show k < S.length by omega)
  obtain ⟨i, hi⟩ := List.getElem?_of_mem (hp.mem_iff.1 (List.mem_of_getElem? hz))
  have hil := (List.getElem?_eq_some_iff.1 hi).1
  have ha : abv S k z = true := by rw [abv_at hR (by omega) hz]; simp
  rcases h with ⟨-, h2⟩ | ⟨j, y, h1, h2, h3, h4, h5⟩
  · rw [h2 i z hil hi] at ha; cases ha
  · obtain ⟨p, hp2⟩ := List.getElem?_of_mem (hp.mem_iff.2 (List.mem_of_getElem? h3))
    rw [abv_at hR (by omega) hp2, decide_eq_true_eq] at h4
    refine ⟨j, y, h1, h3, ?_⟩
    rcases Nat.lt_or_eq_of_le h4 with h6 | h6
    · have := rise_at hR hz hp2 h6
      rw [h5 i z hil hi ha] at this; cases this
    · subst h6; exact hp2
end Cr
set_option maxRecDepth 20000 in
set_option maxHeartbeats 2000000 in
theorem refNames_any (v : Value) (l : List Us) (w : World) (h : Uss w v l) (hnd : (names l).Nodup) (hl : l.length ≤ 1000) :
    Calls Try.prog 21 #[v] w (Ret fun u w' => Own sv 9 w' w.heap.size u ((names l).mergeSort leB) ∧ Ext w w') := by
  obtain ⟨a, cap, rfl, hlen, hget⟩ := Rw.shape h
  have hgh := Lib.hid hget
  have hbi := Lib.hid (fun k b hk h => best_is hnd (k := k) (b := b) hk h)
  have hSl : ((names l).mergeSort leB).length = l.length := by rw [(List.mergeSort_perm _ _).length_eq]; simp [names]
  obtain ⟨S, hS⟩ : ∃ S, S = (names l).mergeSort leB := ⟨_, rfl⟩
  rw [← hS] at hbi hSl ⊢
  have hSh := Lib.hid hSl
  have hnl : (names l).length = l.length := by simp [names]
  have hnlh := Lib.hid hnl
  have e0 := Ext.refl w
  clear hget h hS hSl hnl
  go_enter Try.func21, Try.ntmps21
  go_wp2
  go_loopw [3] (fun out wr => ∃ (k : Nat) (a1 : Option Addr) (c1 : Nat), k ≤ l.length ∧ out = .slice a1 k c1 ∧ RowKit.Hid (Own sv 9 wr w.heap.size (.slice a1 k c1) (S.take k)) ∧ Ext w wr) (fun out _ => l.length - slen out)
  case atStart => exact ⟨0, none, 0, Nat.zero_le _, rfl, Lib.hid (by rw [List.take_zero]; exact Own.nil _ _ _), e0⟩
  case round =>
    obtain ⟨k, a1, c1, hk, rfl, ho, ek⟩ := hrel
    clear e0
    by_cases hlt : k < l.length
    · have hki : (k : Int) < (l.length : Int) := by omega
      go_wp2
      obtain ⟨Wq, hWq⟩ : ∃ W, W = wr := ⟨_, rfl⟩
      rw [← hWq] at ho ek ⊢
      have ekq := Lib.hid ek
      clear hWq ek
      go_loopw [4, 5] (fun bs i wm => ∃ (m : Nat) (b : Int), m ≤ l.length ∧ i = .int .i64 (m : Int) ∧ bs = .int .i64 b ∧ Best (names l) S k m b ∧ RowKit.Hid (Own sv 9 wm w.heap.size (.slice a1 k c1) (S.take k)) ∧ Ext Wq wm) (fun _ i _ => l.length - (intOf i).toNat)
      case atStart => exact ⟨0, -1, Nat.zero_le _, rfl, rfl, best_zero _ _ _, ho, Ext.refl _⟩
      case round =>
        obtain ⟨m, b, hml, rfl, rfl, hB, ho2, em⟩ := hrel
        clear ho
        by_cases hmlt : m < l.length
        · obtain ⟨x, hx⟩ := some_at hmlt
          have hxm : (names l)[m]? = some x.n := by unfold names; rw [List.getElem?_map, hx]; rfl
          obtain ⟨g, o, cs, rfl, hr, sl, rfl, -, -⟩ := hgh.out m x hx
          have hcx := (us_cells hr).1
          have hmi : (m : Int) < (l.length : Int) := by omega
          have hw2 : IntKind.i64.wrap ((m : Int) + 1) = (m : Int) + 1 := by rw [IntKind.wrap_i64]; omega
          have cx := (ekq.out.trans em).cell hcx
          clear hr hx
          rcases Nat.eq_zero_or_pos k with hk0 | hk0
          · have hab : abv S k x.n = true := by rw [hk0]; exact abv_zero S x.n
            have hkz : ((k : Int) == 0) = true := by simp; omega
            go_upto_region 8 with fail
            go_region
            go_upto_region 8 with fail
            clear hkz
            have em1 := em.drew
            have ho3 := Lib.hid (ho2.out.ext (Ext.refl wr).drew)
            have cx2 := (ekq.out.trans em1).cell hcx
            clear cx em ho2 hk0
            generalize wr.drew = W8 at *
            cases ha : abv S k x.n
            · rw [ha] at hab; cases hab
            · rcases hB with ⟨rfl, hB⟩ | ⟨j, yj, rfl, hjm, hjy, hja, hB⟩
              · go_wp2
                go_region
                go_wp2
                go_roundw
                case rel => exact ⟨m + 1, (m : Int), by omega, by go_num, rfl, best_first hB hxm ha, Lib.hid (ho3.out.ext (Ext.refl _).drew), em1.drew⟩
                case measure => simp [intOf]; omega
              · obtain ⟨u, hu⟩ := some_at (l := l) (show j < l.length by omega)
                have hun : yj = u.n := by
                  unfold names at hjy; rw [List.getElem?_map, hu] at hjy; simpa using hjy.symm
                subst hun
                obtain ⟨g4, o4, cs4, h4, hr4, sl4, rfl, -, -⟩ := hgh.out j u hu
                cases h4
                have cj := (ekq.out.trans em1).cell (us_cells hr4).1
                have hji : (j : Int) < (l.length : Int) := by omega
                have hj0 : ((j : Int) < 0) = False := by simp
                clear hr4 hu
                go_wp2
                go_region
                cases hsl2 : slt x.n u.n
                · go_wp2
                  go_roundw
                  case rel => exact ⟨m + 1, (j : Int), by omega, by go_num, rfl, best_stays hjm hjy hja hB hxm hsl2, Lib.hid (ho3.out.ext (Ext.refl _).drew), em1.drew⟩
                  case measure => simp [intOf]; omega
                · go_wp2
                  go_roundw
                  case rel => exact ⟨m + 1, (m : Int), by omega, by go_num, rfl, best_less hB hxm ha hsl2, Lib.hid (ho3.out.ext (Ext.refl _).drew), em1.drew⟩
                  case measure => simp [intOf]; omega
          · obtain ⟨q, hq⟩ : ∃ q, k = q + 1 := ⟨k - 1, by omega⟩
            obtain ⟨y, hy⟩ := some_at (l := S) (show q < S.length by have := hSh.out; omega)
            have hab : abv S k x.n = slt y x.n := by rw [hq]; exact abv_succ hy x.n
            have hyt : (S.take k)[q]? = some y := by rw [List.getElem?_take, if_pos (by omega), hy]
            obtain ⟨_, _, hv, hsl⟩ := ho2.out.sl
            simp only [Value.slice.injEq] at hv
            obtain ⟨rfl, -, rfl⟩ := hv
            obtain ⟨gy, oy, rfl, cy⟩ := hsl.cells q y hyt
            unfold sv at cy
            have hqk : (q : Int) < (k : Int) := by omega
            have hw3 : IntKind.i64.wrap ((k : Int) - 1) = (q : Int) := by rw [IntKind.wrap_i64]; omega
            have hkz : ((k : Int) == 0) = false := by simp; omega
            clear hy hyt hsl hq hk0
            go_upto_region 8 with fail
            go_region
            go_upto_region 8 with fail
            have hg : (!slt x.n y && !seq x.n y) = abv S k x.n := by rw [hab, ← slt_gt x.n y, Bool.not_or]
            rw [hg]
            clear hg hab hw3 hqk hkz
            have em1 := em.drew
            have ho3 := Lib.hid (ho2.out.ext (Ext.refl wr).drew)
            have cx2 := (ekq.out.trans em1).cell hcx
            clear cx em ho2 cy
            generalize wr.drew = W8 at *
            cases ha : abv S k x.n
            · go_wp2
              go_region
              go_wp2
              go_roundw
              case rel => exact ⟨m + 1, b, by omega, by go_num, rfl, best_below hB hxm ha, Lib.hid (ho3.out.ext (Ext.refl _).drew), em1.drew⟩
              case measure => simp [intOf]; omega
            · rcases hB with ⟨rfl, hB⟩ | ⟨j, yj, rfl, hjm, hjy, hja, hB⟩
              · go_wp2
                go_region
                go_wp2
                go_roundw
                case rel => exact ⟨m + 1, (m : Int), by omega, by go_num, rfl, best_first hB hxm ha, Lib.hid (ho3.out.ext (Ext.refl _).drew), em1.drew⟩
                case measure => simp [intOf]; omega
              · obtain ⟨u, hu⟩ := some_at (l := l) (show j < l.length by omega)
                have hun : yj = u.n := by
                  unfold names at hjy; rw [List.getElem?_map, hu] at hjy; simpa using hjy.symm
                subst hun
                obtain ⟨g4, o4, cs4, h4, hr4, sl4, rfl, -, -⟩ := hgh.out j u hu
                cases h4
                have cj := (ekq.out.trans em1).cell (us_cells hr4).1
                have hji : (j : Int) < (l.length : Int) := by omega
                have hj0 : ((j : Int) < 0) = False := by simp
                clear hr4 hu
                go_wp2
                go_region
                cases hsl2 : slt x.n u.n
                · go_wp2
                  go_roundw
                  case rel => exact ⟨m + 1, (j : Int), by omega, by go_num, rfl, best_stays hjm hjy hja hB hxm hsl2, Lib.hid (ho3.out.ext (Ext.refl _).drew), em1.drew⟩
                  case measure => simp [intOf]; omega
                · go_wp2
                  go_roundw
                  case rel => exact ⟨m + 1, (m : Int), by omega, by go_num, rfl, best_less hB hxm ha hsl2, Lib.hid (ho3.out.ext (Ext.refl _).drew), em1.drew⟩
                  case measure => simp [intOf]; omega
        · obtain rfl : m = l.length := by omega
          obtain ⟨j, y, rfl, hjy, hSk⟩ := hbi.out k b (by rw [hnlh.out]; omega) (by rw [hnlh.out]; exact hB)
          obtain ⟨u, hu⟩ := some_at (l := l) (show j < l.length by have := (List.getElem?_eq_some_iff.1 hjy).1; rw [hnlh.out] at this; exact this)
          have hun : y = u.n := by
            unfold names at hjy; rw [List.getElem?_map, hu] at hjy; simpa using hjy.symm
          subst hun
          obtain ⟨g4, o4, cs4, rfl, hr4, sl4, rfl, hp4, hf4⟩ := hgh.out j u hu
          have cj := (ekq.out.trans em).cell (us_cells hr4).1
          have hji : (j : Int) < (l.length : Int) := by
            have := (List.getElem?_eq_some_iff.1 hu).1
            omega
          have htk : S.take (k + 1) = S.take k ++ [u.n] := by rw [List.take_add_one, hSk]; rfl
          have hkl : (S.take k).length = k := by rw [List.length_take, hSh.out]; omega
          have hs2 := Lib.hid (ekq.out.trans em).size
          clear hr4 hu hjy hB
          go_wp2_with (refine wpList_appendS (enc := sv) Try.underlying23 info_str2 rfl (fun _ => rfl) rfl _ _ rfl w.heap.size _ (S.take k) rfl (ho2.out.alloc _) _ [u.n] rfl (Sl.lit rfl rfl rfl (by decide) (by decide)) (by rw [hkl, List.length_singleton]; omega) (by rw [hkl, List.length_singleton]; omega) (Nat.le_trans hs2.out ((Ext.refl wr).alloc _).size) ?_; intro v3 w3 o3 g3; obtain ⟨a3, cap3, rfl⟩ := o3.shapeN)
          rw [List.length_append, hkl, List.length_singleton] at o3
          rw [← htk] at o3
          go_roundw
          case rel => exact ⟨k + 1, a3, cap3, by omega, rfl, Lib.hid o3, ((ekq.out.trans em).alloc _).grown g3 (fun k hk => ho2.out.lt k hk)⟩
          case measure => simp only [slen, List.length_append, hkl, List.length_singleton]; omega
    · obtain rfl : k = l.length := by omega
      have ho3 := ho.out
      rw [← hSh.out, List.take_length, hSh.out] at ho3
      have hoh := Lib.hid ho3
      clear ho3
      go_wp2
      go_ret
      exact Ret.mk ⟨hoh.out, ek⟩
theorem texts_same (va vb : Value) (l : List (List UInt8)) (w : World) (ha : Sl sv w va l) (hb : Sl sv w vb l) :
    Calls Try.prog 19 #[va, vb] w fun e w' => e = .returned (.bool true) ∧ Ext w w' := by
  obtain ⟨a, cap, rfl, hA⟩ := ha
  obtain ⟨b, capb, rfl, hB⟩ := hb
  have hlen := hA.len
  have hga := Lib.hid hA.cells
  have hgb := Lib.hid hB.cells
  have e0 := Ext.refl w
  clear hA hB
  go_enter Try.func19, Try.ntmps19
  go_wp2
  go_loopw [5] (fun i wr => ∃ k : Nat, k ≤ l.length ∧ i = .int .i64 (k : Int) ∧ Ext w wr) (fun i _ => l.length - (intOf i).toNat)
  case atStart => exact ⟨0, Nat.zero_le _, rfl, e0⟩
  case round =>
    obtain ⟨k, hk, rfl, ek⟩ := hrel
    clear e0
    by_cases hlt : k < l.length
    · obtain ⟨x, hx⟩ := some_at hlt
      obtain ⟨g, o, rfl, c1⟩ := hga.out k x hx
      obtain ⟨g2, o2, rfl, c2⟩ := hgb.out k x hx
      have hki : (k : Int) < (l.length : Int) := by omega
      have hw : IntKind.i64.wrap ((k : Int) + 1) = (k : Int) + 1 := by rw [IntKind.wrap_i64]; omega
      have d1 := ek.cell c1
      have d2 := ek.cell c2
      have hq := seq_self x
      unfold sv at d1 d2
      clear c1 c2 hx
      go_wp2
      go_region
      go_wp2
      go_roundw
      case rel => exact ⟨k + 1, by omega, by go_num, by first | exact ek | exact ek.drew⟩
      case measure => simp [intOf]; omega
    · obtain rfl : k = l.length := by omega
      go_wp2
      go_ret
      exact ⟨rfl, ek⟩
end Go.Proofs.Ytnhgkklbjhjggaa
