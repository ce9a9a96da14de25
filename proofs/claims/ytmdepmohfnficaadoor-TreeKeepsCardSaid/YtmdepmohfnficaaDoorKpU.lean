/- tree.Diff, walked. -/
import Derived.Test.YtmdepmohfnficaaDoorKpT
import Derived.Test.YtmdepmohfnficaaDoorTrT
namespace Go.Proofs.YtmdepmohfnficaaDoor
set_option linter.unusedVariables false
set_option linter.unusedSimpArgs false
open Go.RowKit Rk Tr Kp

theorem names_in {l : List Rec} {n : List UInt8} : isIn l n = true ↔ n ∈ names l := by
  rw [isIn_ix, Ne, ix_none]
  constructor
  · intro h
    refine Classical.byContradiction fun hn => h fun r hr e => hn (by rw [← e]; exact name_mem hr)
  · intro h hn
    obtain ⟨r, hr, e⟩ := List.mem_map.1 h
    exact hn r hr e
theorem atI_neg (l : List Rec) (n : List UInt8) : decide (atI l n < 0) = !isIn l n := by
  unfold isIn
  rcases atI_cases l n with ⟨h1, h2⟩ | ⟨i, r, h1, h2, -, -⟩
  · rw [h1, h2]; rfl
  · rw [h1, h2]
    show decide ((i : Int) < 0) = false
    exact decide_eq_false (by omega)
/-- is it not there as it is -/
def diffC (a : List Rec) (x : Rec) : Bool := !isIn a x.name || !req (getR a x.name) x
theorem diffC_iff {a : List Rec} (hn : (names a).Nodup) (x : Rec) : diffC a x = decide (x ∉ a) := by
  unfold diffC getR isIn
  rw [Bool.eq_iff_iff, decide_eq_true_eq]
  rcases atI_cases a x.name with ⟨h1, -⟩ | ⟨i, r, h1, -, h3, h4⟩
  · rw [h1]
    refine ⟨fun _ hx => ix_none.1 h1 x hx rfl, fun _ => rfl⟩
  · rw [h1]
    have hr : a.getD i zero = r := by rw [List.getD_eq_getElem?_getD, h3]; rfl
    simp only [hr, Option.isSome_some, Bool.not_true, Bool.false_or, Bool.not_eq_true']
    have hm := List.mem_of_getElem? h3
    constructor
    · intro h hx
      rw [same_name hn hm hx h4, req_self] at h; cases h
    · intro h
      unfold req
      exact decide_eq_false fun e => h (e ▸ hm)
namespace Kp
def P1 (b l : List Rec) : List Kv.Ch := (l.filter fun r => decide (r.name ∉ names b)).map goneR
def P2 (a l : List Rec) : List Kv.Ch := (l.filter fun r => decide (r ∉ a)).map chR
theorem raw_parts (a b : List Rec) : raw a b = P1 b a ++ P2 a b := rfl
theorem P1_step {b l : List Rec} {k : Nat} {x : Rec} (h : l[k]? = some x) : P1 b (l.take (k + 1)) = P1 b (l.take k) ++ if isIn b x.name = false then [goneR x] else [] := by
  unfold P1
  rw [List.take_add_one, h, List.filter_append, List.map_append]
  congr 1
  simp only [Option.toList]
  cases hq : isIn b x.name
  · have : x.name ∉ names b := fun hm => by rw [names_in.2 hm] at hq; cases hq
    simp [this]
  · have := names_in.1 hq
    simp [this]
theorem P2_step {a l : List Rec} (hn : (names a).Nodup) {k : Nat} {x : Rec} (h : l[k]? = some x) : P2 a (l.take (k + 1)) = P2 a (l.take k) ++ if diffC a x = true then [chR x] else [] := by
  unfold P2
  rw [List.take_add_one, h, List.filter_append, List.map_append]
  congr 1
  simp only [Option.toList]
  rw [diffC_iff hn]
  by_cases hq : x ∈ a
  · simp [hq]
  · simp [hq]
theorem P1_len (b l : List Rec) (k : Nat) : (P1 b (l.take k)).length ≤ k := by
  unfold P1
  rw [List.length_map]
  refine Nat.le_trans (List.length_filter_le _ _) ?_
  rw [List.length_take]; omega
theorem P2_len (b l : List Rec) (k : Nat) : (P2 b (l.take k)).length ≤ k := by
  unfold P2
  rw [List.length_map]
  refine Nat.le_trans (List.length_filter_le _ _) ?_
  rw [List.length_take]; omega
def insC (c : Kv.Ch) : List Kv.Ch → List Kv.Ch
  | [] => [c]
  | x :: r => if c.k < x.k then c :: x :: r else x :: insC c r
theorem mem_insC {c p : Kv.Ch} : ∀ {l : List Kv.Ch}, p ∈ insC c l ↔ p = c ∨ p ∈ l
  | [] => by simp [insC]
  | x :: r => by
    unfold insC
    split
    · simp
    · rw [List.mem_cons, mem_insC, List.mem_cons]
      constructor
      · rintro (h | h | h)
        · exact .inr (.inl h)
        · exact .inl h
        · exact .inr (.inr h)
      · rintro (h | h | h)
        · exact .inr (.inl h)
        · exact .inl h
        · exact .inr (.inr h)
theorem srt_insC {c : Kv.Ch} : ∀ {l : List Kv.Ch}, SrtC l → (∀ x ∈ l, c.k ≠ x.k) → SrtC (insC c l)
  | [], _, _ => List.pairwise_singleton ..
  | x :: r, h, hc => by
    obtain ⟨h1, h2⟩ := List.pairwise_cons.1 h
    unfold insC
    split
    · rename_i hlt
      refine List.pairwise_cons.2 ⟨fun y hy => ?_, h⟩
      rcases List.mem_cons.1 hy with rfl | hy
      · exact hlt
      · exact List.lt_trans hlt (h1 y hy)
    · rename_i hlt
      refine List.pairwise_cons.2 ⟨fun y hy => ?_, srt_insC h2 fun y hy => hc y (List.mem_cons_of_mem _ hy)⟩
      rcases mem_insC.1 hy with rfl | hy
      · rcases List.le_iff_lt_or_eq.1 (List.not_lt.1 hlt) with h' | h'
        · exact h'
        · exact absurd h'.symm (hc x (List.mem_cons_self ..))
      · exact h1 y hy
theorem exists_sort : ∀ {l : List Kv.Ch}, l.Pairwise (fun x y => x.k ≠ y.k) → ∃ L, SrtC L ∧ ∀ p, p ∈ L ↔ p ∈ l
  | [], _ => ⟨[], List.Pairwise.nil, fun _ => Iff.rfl⟩
  | c :: l, h => by
    obtain ⟨h1, h2⟩ := List.pairwise_cons.1 h
    obtain ⟨L, s, m⟩ := exists_sort h2
    exact ⟨insC c L, srt_insC s fun x hx => h1 x ((m x).1 hx), fun p => by rw [mem_insC, m, List.mem_cons]⟩
theorem exists_diff {a b : List Rec} (ha : (names a).Nodup) (hb : (names b).Nodup) : ∃ d, IsDiff d a b :=
  let ⟨L, h1, h2⟩ := exists_sort (raw_apart ha hb)
  ⟨L, h1, h2⟩
theorem raw_nodup {a b : List Rec} (ha : (names a).Nodup) (hb : (names b).Nodup) : (raw a b).Nodup := (raw_apart ha hb).imp fun h e => h (congrArg Kv.Ch.k e)
theorem raw_len (a b : List Rec) : (raw a b).length ≤ a.length + b.length := by
  unfold raw
  rw [List.length_append, List.length_map, List.length_map]
  exact Nat.add_le_add (List.length_filter_le _ _) (List.length_filter_le _ _)
theorem IsDiff.len {d : List Kv.Ch} {a b : List Rec} (h : IsDiff d a b) (ha : (names a).Nodup) (hb : (names b).Nodup) : d.length = (raw a b).length :=
  ((List.perm_ext_iff_of_nodup (h.srt.imp fun h e => Kv.lt_ne h (congrArg Kv.Ch.k e)) (raw_nodup ha hb)).2 h.mem).length_eq
end Kp
theorem encS_fit (r : Rec) : fit (encS r) := by
  unfold fit encS
  split
  · rename_i h
    have R := (right_iff _).1 h
    rw [enc_length]
    have := R.parl
    have := R.user
    have := R.serv
    have := R.url
    omega
  · simp
theorem name_fit {r : Rec} (h : Fits r) : fit r.name := by unfold Fits at h; unfold fit; omega
theorem goneR_row (x : Rec) : ([.string (str x.name), .string ⟨#[]⟩, .bool true] : List Value) = chc (goneR x) := rfl
theorem chR_row (x : Rec) : ([.string (str x.name), .string (str (encS x)), .bool false] : List Value) = chc (chR x) := rfl
attribute [local irreducible] rcells req encS
set_option maxRecDepth 20000 in
set_option maxHeartbeats 4000000 in
theorem diff_any {F G : Nat → Prop} {p q room room2 : Nat} {a b : List Rec} {d : List Kv.Ch} {w : World} (ta : TrM 96 w F p room a) (tb : TrM 96 w G q room2 b) (hna : (names a).Nodup) (hnb : (names b).Nodup) (hd : IsDiff d a b) (hla : a.length ≤ 1000) (hlb : b.length ≤ 1000) (hw : Pres w) :
    Calls Tryd.prog 48 #[.pointer (some ⟨p, 0, none⟩), .pointer (some ⟨q, 0, none⟩)] w (Ret fun u w' => OwnC w' (fun j => w.heap.size ≤ j) u d ∧ Ext w w') := by
  have hAt := Lib.hid (fun n W (e : Ext w W) => at_any n (tb.ext e))
  have hGet := Lib.hid (fun n W (e : Ext w W) => get_any n (ta.ext e))
  have hwh := Lib.hid hw
  have hraw := Lib.hid (raw_parts a b)
  have hnd := Lib.hid (raw_nodup hna hnb)
  have hdh := Lib.hid hd
  have hnah := Lib.hid hna
  have hlr := Lib.hid (raw_len a b)
  obtain ⟨aa, ca, -, cA, rA⟩ := ta.parts
  obtain ⟨ab, cb, -, cB, rB⟩ := tb.parts
  obtain ⟨_, _, hq, hlma, hgA⟩ := Rw.shape rA
  cases hq
  obtain ⟨_, _, hq, hlmb, hgB⟩ := Rw.shape rB
  cases hq
  have hgA := Lib.hid hgA
  have hgB := Lib.hid hgB
  have cBh := Lib.hid (fun W (e : Ext w W) => e.cell cB)
  have e0 := Ext.refl w
  obtain ⟨R, hR⟩ : ∃ R, R = w.heap.size := ⟨_, rfl⟩
  rw [← hR]
  have hRh := Lib.hid hR
  clear rA rB ta tb cB hw hna hnb hd hR
  go_enter Tryd.func48, Tryd.ntmps48
  go_wp2
  go_loopw [5, 19] (fun out i wr => ∃ k : Nat, k ≤ a.length ∧ i = .int .i64 (k : Int) ∧ RowKit.Hid (OwnC wr (fun j => R ≤ j) out (P1 b (a.take k))) ∧ Ext w wr) (fun _ i _ => a.length - (intOf i).toNat)
  case atStart => exact ⟨0, Nat.zero_le _, rfl, Lib.hid (OwnRs.nil _ _), e0⟩
  case round =>
    obtain ⟨k, hk, rfl, ho, ek⟩ := hrel
    clear e0
    by_cases hlt : k < a.length
    · obtain ⟨x, hx⟩ := some_at hlt
      obtain ⟨g, o, cs, rfl, hr, rfl, hf⟩ := hgA.out k x hx
      have hki : (k : Int) < (a.length : Int) := by omega
      have hwr : IntKind.i64.wrap ((k : Int) + 1) = (k : Int) + 1 := by rw [IntKind.wrap_i64]; omega
      have hr2 : wr.rangeAt g (o + k * 10) (prow x) := fun i u hu => ek.cell (hr i u hu)
      have hst := Lib.hid (P1_step (b := b) hx)
      have hpl := Lib.hid (P1_len b a k)
      generalize P1 b (a.take k) = acc at *
      obtain ⟨ao, co, rfl⟩ := ho.out.shapeN
      clear hr hx
      go_upto_region 5 with (first
        | (refine wpList_load_rec (by rfl) _ rfl g (o + k * 10) rfl x hr2 ?_)
        | (refine wpList_store_new wr rfl 36 _ _ rfl (rcells x) _ rfl rfl rfl 10 info_rec (rc_ten _) rfl (rc_one _) ?_))
      have eA := (Ext.refl wr).alloc (.cells (rcells x) 36)
      have hB := heap_alloc_new wr (.cells (rcells x) 36)
      have c1 := cell_at hB 1 (rc_cells x).2.1
      have ho2 := Lib.hid (ho.out.ext eA)
      have e1 := ek.trans eA
      generalize wr.alloc (.cells (rcells x) 36) = WA at *
      generalize wr.heap.size = BA at *
      have hat := hAt.out x.name WA e1
      have hneg := atI_neg b x.name
      have c1h := Lib.hid (fun W (e : Ext WA W) => e.cell c1)
      clear hr2 hB eA ho ek
      cases hq : isIn b x.name
      · rw [hq] at hneg
        have hst2 := Lib.hid (hst.out.trans (show _ = acc ++ [goneR x] by rw [if_pos hq]))
        have hfc : chF (goneR x) := ⟨name_fit hf, by unfold goneR fit; simp⟩
        have hpl2 : acc.length ≤ 1000 := by have := hpl.out; omega
        clear hst hq
        go_upto_if 27 with (go_at_call 61; refine hat.mono ?_; rintro e W2 ⟨rfl, e2⟩)
        have c2 := c1h.out W2 e2
        clear hat c1
        go_wp2_with (at_builtin; refine wpList_appendRK Tryd.underlying82 info_chz rfl (by decide) (by decide) chc_len chc_one (by decide) rfl (.tmp 28) (.tmp 32) rfl (fun j => R ≤ j) (.slice ao acc.length co) acc rfl ((ho2.out.ext e2).ext ((Ext.refl W2).alloc _)) (.slice (some ⟨W2.heap.size, 0, none⟩) 1 1) [goneR x] rfl (Rs.one rfl rfl rfl hfc) (by simp; omega) ?_; intro v7 w7 o7 g7)
        have e3 := (e1.trans e2).alloc (.cells #[.string (str x.name), .string (str []), .bool true] 104)
        go_roundw
        case rel => exact ⟨k + 1, by omega, by go_num, Lib.hid (by rw [hst2.out]; exact o7.mono fun j h => h.elim id fun h => by have := e3.size; have := hRh.out; omega), e3.chg g7 fun j h => by have := hRh.out; omega⟩
        case measure => simp [intOf]; omega
      · rw [hq] at hneg
        have hst2 := Lib.hid (hst.out.trans (show _ = acc by rw [if_neg (by rw [hq]; simp), List.append_nil]))
        clear hst hq
        go_wp2_with (go_at_call 61; refine hat.mono ?_; rintro e W2 ⟨rfl, e2⟩)
        go_roundw
        case rel => exact ⟨k + 1, by omega, by go_num, Lib.hid (by rw [hst2.out]; exact ho2.out.ext e2), e1.trans e2⟩
        case measure => simp [intOf]; omega
    · obtain rfl : k = a.length := by omega
      rw [List.take_length] at ho
      have hpl := Lib.hid (P1_len b a a.length)
      rw [List.take_length] at hpl
      have cB := cBh.out wr ek
      obtain ⟨acc0, hacc0⟩ : ∃ z, z = P1 b a := ⟨_, rfl⟩
      rw [← hacc0] at ho hpl hraw
      obtain ⟨ao, co, rfl⟩ := ho.out.shapeN
      clear hacc0 hAt hgA cA
      go_wp2
      go_loopw [5, 40] (fun out i wr => ∃ k : Nat, k ≤ b.length ∧ i = .int .i64 (k : Int) ∧ RowKit.Hid (OwnC wr (fun j => R ≤ j) out (acc0 ++ P2 a (b.take k))) ∧ Ext w wr) (fun _ i _ => b.length - (intOf i).toNat)
      case atStart => exact ⟨0, Nat.zero_le _, rfl, Lib.hid (by rw [show P2 a (b.take 0) = [] from rfl, List.append_nil]; exact ho.out), ek⟩
      case round =>
        obtain ⟨k, hk, rfl, ho, ek⟩ := hrel
        by_cases hlt : k < b.length
        · obtain ⟨x, hx⟩ := some_at hlt
          obtain ⟨g, o, cs, rfl, hr, rfl, hf⟩ := hgB.out k x hx
          have hki : (k : Int) < (b.length : Int) := by omega
          have hwr : IntKind.i64.wrap ((k : Int) + 1) = (k : Int) + 1 := by rw [IntKind.wrap_i64]; omega
          have hr2 : wr.rangeAt g (o + k * 10) (prow x) := fun i u hu => ek.cell (hr i u hu)
          have hst := Lib.hid (show acc0 ++ P2 a (b.take (k + 1)) = (acc0 ++ P2 a (b.take k)) ++ if diffC a x = true then [chR x] else [] by rw [P2_step hnah.out hx, List.append_assoc])
          have hpl2 := Lib.hid (show (acc0 ++ P2 a (b.take k)).length ≤ 2000 by rw [List.length_append]; have := P2_len a b k; have := hpl.out; omega)
          generalize acc0 ++ P2 a (b.take k) = acc at *
          obtain ⟨ao, co, rfl⟩ := ho.out.shapeN
          clear hr hx
          go_upto_region 11 with (first
            | (refine wpList_load_rec (by rfl) _ rfl g (o + k * 10) rfl x hr2 ?_)
            | (refine wpList_store_new wr rfl 36 _ _ rfl (rcells x) _ rfl rfl rfl 10 info_rec (rc_ten _) rfl (rc_one _) ?_))
          have eA := (Ext.refl wr).alloc (.cells (rcells x) 36)
          have hB := heap_alloc_new wr (.cells (rcells x) 36)
          have c1 := cell_at hB 1 (rc_cells x).2.1
          have ho2 := Lib.hid (ho.out.ext eA)
          have e1 := ek.trans eA
          generalize wr.alloc (.cells (rcells x) 36) = WA at *
          generalize wr.heap.size = BA at *
          have hget := hGet.out x.name WA e1
          have hBh := Lib.hid hB
          have c1h := Lib.hid c1
          obtain ⟨y, hy⟩ : ∃ y, y = getR a x.name := ⟨_, rfl⟩
          obtain ⟨is, his⟩ : ∃ is, is = isIn a x.name := ⟨_, rfl⟩
          have hdc := Lib.hid (show diffC a x = (!is || !req y x) by rw [hy, his]; rfl)
          rw [← hy, ← his] at hget
          clear hr2 eA ho ek hy his
          go_upto_region 12 with (first
            | (go_at_call 41; refine hget.mono ?_; rintro e W2 ⟨rfl, e2⟩)
            | (refine wpList_store_new W2 rfl 36 _ _ rfl (rcells y) _ rfl rfl rfl 10 info_rec (rc_ten _) rfl (rc_one _) ?_))
          have eC := (Ext.refl W2).alloc (.cells (rcells y) 36)
          have hC := heap_alloc_new W2 (.cells (rcells y) 36)
          have hB2 := (e2.trans eC).heap hBh.out
          have c12 := Lib.hid ((e2.trans eC).cell c1h.out)
          have ho3 := Lib.hid (ho2.out.ext (e2.trans eC))
          have e3 := e1.trans (e2.trans eC)
          generalize W2.alloc (.cells (rcells y) 36) = WC at *
          generalize W2.heap.size = BC at *
          have hqr := fun W => rec_neq y x W
          have hE := Lib.hid (encode_r x hf WC (hwh.out.ext e3))
          clear hget c1 hB e2 eC ho2 e1 c1h hBh
          go_cut [57] (fun t wd => t = .bool (!is || !req y x) ∧ wd = WC)
          case first =>
            cases is
            · go_wp2
              go_meet
              exact ⟨rfl, rfl⟩
            · go_wp2_with (first
                | (refine wpList_load_rowG (by rfl) 36 _ rfl BC rfl 36 (rcells y) (0, 0) _ hC Tryd.underlying36 rfl (rc_sz y) ?_)
                | (refine wpList_load_rowG (by rfl) 36 _ rfl BA rfl 36 (rcells x) (0, 0) _ hB2 Tryd.underlying36 rfl (rc_sz x) ?_))
              go_meet
              exact ⟨rfl, rfl⟩
          case rest =>
            obtain ⟨rfl, rfl⟩ := hcut
            rw [← hdc.out]
            cases hq : diffC a x
            · have hst2 := Lib.hid (hst.out.trans (show _ = acc by rw [if_neg (by rw [hq]; simp), List.append_nil]))
              clear hst hq hdc
              go_wp2
              go_roundw
              case rel => exact ⟨k + 1, by omega, by go_num, Lib.hid (by rw [hst2.out]; exact ho3.out), e3⟩
              case measure => simp [intOf]; omega
            · have hst2 := Lib.hid (hst.out.trans (show _ = acc ++ [chR x] by rw [if_pos hq]))
              have hfc : chF (chR x) := ⟨name_fit hf, encS_fit x⟩
              clear hst hq hdc
              go_upto_region 14 with (first
                | (refine wpList_load_row rfl 36 _ rfl BA rfl 36 (rcells x) (0, 0) _ hB2 Tryd.underlying36 rfl (rc_sz x) ?_)
                | (go_at_call 75; refine hE.out.mono ?_; rintro e W4 ⟨rfl, e4⟩))
              have c14 := e4.cell c12.out
              have ho4 := Lib.hid (ho3.out.ext e4)
              have e34 := e3.trans e4
              clear hC hB2 hE c12 ho3 e3 e4
              go_wp2_with (at_builtin; refine wpList_appendRK Tryd.underlying82 info_chz rfl (by decide) (by decide) chc_len chc_one (by decide) rfl (.tmp 63) (.tmp 68) rfl (fun j => R ≤ j) (.slice ao acc.length co) acc rfl (ho4.out.ext ((Ext.refl W4).alloc _)) (.slice (some ⟨W4.heap.size, 0, none⟩) 1 1) [chR x] rfl (Rs.one rfl rfl rfl hfc) (by have := hpl2.out; simp; omega) ?_; intro v7 w7 o7 g7)
              have e5 := e34.alloc (.cells #[.string (str x.name), .string (str (encS x)), .bool false] 104)
              go_roundw
              case rel => exact ⟨k + 1, by omega, by go_num, Lib.hid (by rw [hst2.out]; exact o7.mono fun j h => h.elim id fun h => by have := e5.size; have := hRh.out; omega), e5.chg g7 fun j h => by have := hRh.out; omega⟩
              case measure => simp [intOf]; omega
        · obtain rfl : k = b.length := by omega
          rw [List.take_length, ← hraw.out] at ho
          have hmem := Lib.hid (show ∀ p, p ∈ raw a b ↔ p ∈ d from fun p => (hdh.out.mem p).symm)
          have hlr2 := Lib.hid (show (raw a b).length ≤ 1000000 by have := hlr.out; omega)
          have hsr := Lib.hid hdh.out.srt
          clear hraw hdh hnah hpl hGet hgB cBh hlr
          generalize raw a b = rw0 at *
          rcases ho.out.1.1.2 with ⟨hv, h0⟩ | ⟨g, cap, cur, hv, -⟩
          · obtain rfl : rw0 = [] := List.eq_nil_of_length_eq_zero h0
            obtain rfl : d = [] := List.eq_nil_iff_forall_not_mem.2 fun p hp => by have := (hmem.out p).2 hp; cases this
            subst hv
            have hS := AnyF.slices_SortFunc_none sortCh none 0 (.func (.func 77) #[] #[]) wr
            change Calls Tryd.prog 76 _ _ _ at hS
            clear h0 ho
            go_wp2_with (go_at_call 76; refine hS.mono ?_; rintro e w' ⟨rfl, rfl⟩)
            go_ret
            exact Ret.mk ⟨OwnRs.nil _ _, ek⟩
          · subst hv
            have hS := sort_any ho.out hsr.out hmem.out hnd.out hlr2.out
            have hgR := Lib.hid (show R ≤ g by obtain ⟨_, _, hv, hob⟩ := ho.out.shape; exact hob g rfl)
            clear ho
            go_wp2_with (go_at_call 76; refine hS.mono ?_; rintro e w3 ⟨rfl, c3, o3⟩)
            go_ret
            exact Ret.mk ⟨o3, ek.chg c3 fun i hi => by have := hRh.out; have := hgR.out; omega⟩
end Go.Proofs.YtmdepmohfnficaaDoor
