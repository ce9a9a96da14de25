/- TicketMints, walked. -/
import Derived.Test.YtkpcdbalhpmpmaaDoorTicketP
import Derived.Test.YtkpcdbalhpmpmaaDoorTicketW
import Derived.Deep.RegionWith
import Derived.Deep.DeepCutAuto
import Derived.Deep.CutBlock
namespace Go.Proofs.YtkpcdbalhpmpmaaDoor
open Go.RowKit

def iv (z : Int) : Value := .int .i64 z
def bv (b : Bool) : Value := .bool b
def uz (z : Int) : Value := .int .u64 z
theorem Own.uz {w : World} {base : Nat} {v : Value} {l : List (BitVec 64)} (h : Own uv 22 w base v l) : Own uz 22 w base v (l.map V) := by
  unfold Own at *
  rw [List.map_map, List.length_map]
  exact h
theorem Own.ltb {α : Type} {enc : α → Value} {E : TypeId} {w : World} {base : Nat} {v : Value} {l : List α} (h : Own enc E w base v l) : ∀ k, v.ownBlock = some k → k < w.heap.size := fun k hk => (World.ownsRow.lt h k hk).2
/-- the call's own elements, where there are some: each is read, and may be written -/
theorem Own.cells {α : Type} {enc : α → Value} {E : TypeId} {w : World} {base : Nat} {v : Value} {l : List α} (h : Own enc E w base v l) (j : Nat) (x : α) (hx : l[j]? = some x) : ∃ g cap, v = .slice (some ⟨g, 0, none⟩) l.length cap ∧ base ≤ g ∧ g < w.heap.size ∧
    w.cell? ⟨g, j, none⟩ = some (enc x) ∧ w.frozen? ⟨g, j, none⟩ = false ∧ ∀ y, Own enc E (w.setCell ⟨g, j, none⟩ (enc y)) base v (l.set j y) := by
  obtain ⟨hlen, h⟩ := h
  have hj : j < l.length := (List.getElem?_eq_some_iff.1 hx).1
  rcases h with ⟨rfl, h0⟩ | ⟨g, cap, cur, rfl, hb, hh, hn, hm, hs, ht⟩
  · omega
  refine ⟨g, cap, rfl, hb, (Array.getElem?_eq_some_iff.1 hh).1, ?_, ?_, fun y => ?_⟩
  · rw [cell_of_row w g j cur _ _ hh]
    have e : (cur.toList.take (l.length * 1))[j]? = (l.map enc)[j]? := by rw [ht]
    rw [List.getElem?_take, if_pos (by omega), List.getElem?_map, hx] at e
    simpa using e
  · simp [World.frozen?, hh]
  · refine ⟨by simp, .inr ⟨g, cap, cur.setIfInBounds j (enc y), by simp, hb, setCell_row w g j cur _ _ _ hh, by simpa using hn, hm, by simpa using hs, ?_⟩⟩
    rw [Array.toList_setIfInBounds, List.length_set, List.map_set, ← ht, List.take_set]
theorem Mint.le {w : World} {F : Nat → Prop} {g : Nat} {l : List (BitVec 64)} (h : Mint w F g l) {G : Nat → Prop} (hG : ∀ k, F k → G k) : Mint w G g l := by
  obtain ⟨a, cap, h1, h2, h3⟩ := h
  exact ⟨a, cap, h1, hG _ h2, h3.mono fun k hk => ⟨hG _ hk.1, hk.2⟩⟩
theorem Sl.chg {α : Type} {enc : α → Value} {w w' : World} {a : Option Addr} {n cap : Nat} {l : List α} {F : Nat → Prop} (h : Sl enc w (.slice a n cap) l) (c : Chg F w w') (hF : ∀ x, a = some x → ¬ F x.block) : Sl enc w' (.slice a n cap) l := by
  obtain ⟨a', cap', e, h⟩ := h
  cases e
  refine ⟨_, _, rfl, h.le, h.capm, h.none, fun j x hj => ?_⟩
  obtain ⟨g, o, e, hc⟩ := h.cells j x hj
  subst e
  refine ⟨g, o, rfl, ?_⟩
  rw [← hc]
  have hb := c.block g (World.block_lt_of_cell? w _ hc) (hF _ rfl)
  unfold World.cell?
  simp only [hb]

/-- what a Mint answers, and what is left -/
def mS (z : Int) (b : Bool) (l : List (BitVec 64)) : List UInt8 := if Tk.okK z then (match l with | [] => [] | x :: _ => if b then [] else Tk.nameI z x.toNat) else []
def mE (z : Int) (b : Bool) (l : List (BitVec 64)) : Int := if Tk.okK z then (match l with | [] => 6 | _ :: _ => if b then 7 else 0) else 8
def mR (z : Int) (l : List (BitVec 64)) : List (BitVec 64) := if Tk.okK z then l.tail else l
theorem always_any (b : Bool) (w : World) : Calls Tryd.prog 27 #[.bool b] w fun e w' => e = .returned (fnv b) ∧ w = w' := by
  cases b
  · exact always_no w
  · exact always_yes w
theorem next_any (g : Nat) (l : List (BitVec 64)) (z : Int) (b : Bool) (F : Nat → Prop) (w : World) (hw : Pres w) (h : Mint w F g l) :
    Calls Tryd.prog 26 #[.pointer (some ⟨g, 0, none⟩), .int .i64 z, fnv b] w fun e w' => e = .returned (.tuple #[.string (str (mS z b l)), .int .i64 (mE z b l)]) ∧ Mint w' F g (mR z l) ∧ Chg F w w' := by
  unfold mS mE mR
  cases hk : Tk.okK z
  · refine (next_bad g z hk _ w hw).mono ?_
    rintro e w' ⟨rfl, rfl⟩
    exact ⟨rfl, h, Chg.refl _ _⟩
  · cases l with
    | nil =>
      refine (next_none g z hk _ F w hw h).mono ?_
      rintro e w' ⟨rfl, rfl⟩
      exact ⟨rfl, h, Chg.refl _ _⟩
    | cons x l =>
      cases b
      · refine (next_no g x l z hk F w hw h).mono ?_
        rintro e w' ⟨rfl, h1, h2⟩
        exact ⟨rfl, h1, h2⟩
      · refine (next_yes g x l z hk F w hw h).mono ?_
        rintro e w' ⟨rfl, h1, h2⟩
        exact ⟨rfl, h1, h2⟩
theorem m_bad {z : Int} (h : Tk.okK z = false) (b : Bool) (l : List (BitVec 64)) : mS z b l = [] ∧ mE z b l = 8 ∧ mR z l = l := by unfold mS mE mR; rw [h]; exact ⟨rfl, rfl, rfl⟩
theorem m_none {z : Int} (h : Tk.okK z = true) (b : Bool) : mS z b [] = [] ∧ mE z b [] = 6 ∧ mR z [] = [] := by unfold mS mE mR; rw [h]; exact ⟨rfl, rfl, rfl⟩
theorem m_yes {z : Int} (h : Tk.okK z = true) (x : BitVec 64) (l : List (BitVec 64)) : mS z true (x :: l) = [] ∧ mE z true (x :: l) = 7 ∧ mR z (x :: l) = l := by unfold mS mE mR; rw [h]; exact ⟨rfl, rfl, rfl⟩
theorem m_no {z : Int} (h : Tk.okK z = true) (x : BitVec 64) (l : List (BitVec 64)) : mS z false (x :: l) = Tk.nameI z x.toNat ∧ mE z false (x :: l) = 0 ∧ mR z (x :: l) = l := by unfold mS mE mR; rw [h]; exact ⟨rfl, rfl, rfl⟩
attribute [local irreducible] fnv mS mE mR

set_option maxRecDepth 20000 in
set_option maxHeartbeats 8000000 in
theorem mints_any (vd : Value) (ds : List (BitVec 64)) (vm : Value) (ms : List (BitVec 64)) (vk : Value) (ks : List Int) (vt : Value) (bs : List Bool) (w : World) (hw : Pres w) (hd : Sl uv w vd ds) (hm : Sl uv w vm ms) (hk : Sl iv w vk ks) (hb : Sl bv w vt bs) :
    Calls Tryd.prog 7 #[vd, vm, vk, vt] w fun e w' => e = .returned (.bool true) ∧ Ext w w' := by
  have e0 := Ext.refl w
  have hd' := hd
  have hm' := hm
  have hm0 := hm
  obtain ⟨ad, cd, rfl, hd⟩ := hd
  obtain ⟨am, cm, rfl, hm⟩ := hm
  obtain ⟨ak, ck, rfl, hk⟩ := hk
  obtain ⟨ab, cb, rfl, hb⟩ := hb
  have ld := hd.len
  have lm := hm.len
  have lk := hk.len
  have lb := hb.len
  by_cases hcut : ds.length ≤ 20 ∧ ms.length ≤ 10 ∧ ks.length ≤ 40
  · obtain ⟨h20, h10, h40⟩ := hcut
    go_enter Tryd.func7, Tryd.ntmps7
    go_wp2_with (first
      | (go_at_call 13; refine (awake_any _ hw).mono ?_; rintro e w1 ⟨rfl, h⟩; have e0 := e0.trans h)
      | (at_builtin; refine wpList_appendS (z := .int .u64 0) (bytes := 8) Tryd.underlying32 (by kernel_rfl) rfl uv_one rfl _ _ rfl w.heap.size _ [] rfl (Own.empty rfl e0.size) _ ds rfl (hd'.ext (e0.alloc _)) (by simp; omega) (by simp; omega) ((e0.alloc _).size) ?_; intro v2 w2 g1 g2; have e0 := Ext.owns (e0.alloc _) (Own.empty (enc := uv) (E := 22) rfl e0.size) g2; rw [List.nil_append] at g1; have hB := g1.ltb; have e02 := e0; obtain ⟨a2, c2, rfl, -, -⟩ := g1.shape)
      | (go_at_call 24; refine (new_any _ ds (by omega) _ g1.sl).mono ?_; rintro e w3 ⟨v3, rfl, gm, rfl, hM, h⟩; have e0 := e0.trans h; have g1 := g1.ext h))
    have g1 := g1.uz
    go_loopw [12] (fun i wr => ∃ (k : Nat) (zs : List Int), k ≤ ds.length ∧ i = .int .i64 k ∧ zs.length = ds.length ∧ Own uz 22 wr w.heap.size (.slice a2 ds.length c2) zs ∧ Mint wr (fun k => w2.heap.size ≤ k ∧ k < w3.heap.size) gm ds ∧ Ext w wr ∧ w3.heap.size ≤ wr.heap.size) (fun i _ => ds.length - (intOf i).toNat)
    case atStart => exact ⟨0, _, Nat.zero_le _, rfl, by simp, g1, hM, e0, Nat.le_refl _⟩
    case round =>
      obtain ⟨k, zs, hk0, rfl, hzl, ho, hM, ek, h3r⟩ := hrel
      by_cases hlt : k < ds.length
      · obtain ⟨z, hz⟩ : ∃ z, zs[k]? = some z := ⟨zs[k]'(by omega), List.getElem?_eq_getElem (by omega)⟩
        obtain ⟨ga, ca, e, hga, hga2, cella, fza, seta⟩ := ho.cells k z hz
        simp only [Value.slice.injEq] at e
        obtain ⟨rfl, -, rfl⟩ := e
        have hB := hB ga (by simp [Value.ownBlock])
        unfold uz at cella
        clear hz
        go_wp2
        go_roundw
        case rel => exact ⟨k + 1, _, by omega, by go_num, by simp; exact hzl, (seta _), hM.chg (G := fun k => k = ga) ((Chg.refl (fun k => k = ga) wr).setCell (x := ⟨ga, k, none⟩) (fun _ => rfl) _) (fun k hk e => by omega), ek.setCell hga _, by simpa [World.setCell] using h3r⟩
        case measure => simp [intOf]; omega
      · obtain rfl : k = ds.length := by omega
        have hd' := hd'.ext ek
        have hm' := hm'.ext ek
        clear hB ho
        go_wp2_with (first
          | (at_builtin; refine wpList_appendS (z := .int .u64 0) (bytes := 8) Tryd.underlying32 (by kernel_rfl) rfl uv_one rfl _ _ rfl wr.heap.size _ [] rfl (Own.empty rfl (Nat.le_refl _)) _ ds rfl (hd'.ext ((Ext.refl _).alloc _)) (by simp; omega) (by simp; omega) (((Ext.refl _).alloc _).size) ?_; intro v5 w5 g5 g6; have e5 := Ext.owns ((Ext.refl _).alloc _) (Own.empty (enc := uv) (E := 22) rfl (Nat.le_refl _)) g6; rw [List.nil_append] at g5; have hm' := hm'.ext e5)
          | (at_builtin; refine wpList_appendS (z := .int .u64 0) (bytes := 8) Tryd.underlying32 (by kernel_rfl) rfl uv_one rfl _ _ rfl wr.heap.size _ ds rfl g5 _ ms rfl hm' (by omega) (by omega) e5.size ?_; intro v7 w7 g7 g8; have e7 := Ext.owns e5 g5 g8; have hB7 := g7.lt; have hB8 := g7.ltb; obtain ⟨a7, c7, rfl, -, -⟩ := g7.shape))
        have hM := hM.ext e7
        have e7 := ek.trans e7
        have sA := g7.sl
        have hF1 : ∀ j, (w2.heap.size ≤ j ∧ j < w3.heap.size) → w.heap.size ≤ j := fun j hj => by have := e02.size; omega
        have hF2 : ∀ x, a7 = some x → ¬ (w2.heap.size ≤ x.block ∧ x.block < w3.heap.size) := fun x hx hj => by subst hx; have := hB7 x.block (by simp [Value.ownBlock]); omega
        have hF3 : RowKit.Hid (∀ x, a7 = some x → x.block < w7.heap.size) := Lib.hid fun x hx => by subst hx; exact hB8 x.block (by simp [Value.ownBlock])
        generalize hFe : (fun k => w2.heap.size ≤ k ∧ k < w3.heap.size) = F at hM
        go_loopw [14, 15] (fun at_ i wq => ∃ (n k : Nat) (F : Nat → Prop) (L : List (BitVec 64)), at_ = .int .i64 n ∧ i = .int .i64 k ∧ k ≤ ks.length ∧ n ≤ L.length ∧ Mint wq F gm (L.drop n) ∧ RowKit.Hid (∀ j, F j → w.heap.size ≤ j) ∧ RowKit.Hid (∀ x, a7 = some x → ¬ F x.block) ∧ Sl uv wq (.slice a7 (ds.length + ms.length) c7) (ds ++ ms) ∧ Ext w wq ∧ w7.heap.size ≤ wq.heap.size ∧ RowKit.Hid (L = if ks.length / 2 < k then ds ++ ms else ds)) (fun _ i _ => ks.length - (intOf i).toNat)
        case atStart => exact ⟨0, 0, F, ds, rfl, rfl, Nat.zero_le _, Nat.zero_le _, hM, Lib.hid (by rw [← hFe]; exact hF1), Lib.hid (by rw [← hFe]; exact hF2), by simpa using sA, e7, Nat.le_refl _, Lib.hid (by simp)⟩
        case round =>
          clear hF1 hF2 hFe hM sA e7
          obtain ⟨n, k, F, L, rfl, rfl, hk0, hn, hN, hF1, hF2, sA, eq, h7q, hL⟩ := hrel
          by_cases hlt : k < ks.length
          · obtain ⟨z, hz⟩ : ∃ z, ks[k]? = some z := ⟨ks[k], List.getElem?_eq_getElem hlt⟩
            obtain ⟨gk, ok, rfl, cell0⟩ := hk.cells k z hz
            unfold iv at cell0
            clear hz
            have cellk := eq.cell cell0
            have hm2 := hm0.ext eq
            go_upto_if 73 with fail
            go_cut [15] (fun i wc => i = .int .i64 (k : Int) ∧ ∃ (F : Nat → Prop) (L : List (BitVec 64)), n ≤ L.length ∧ Mint wc F gm (L.drop n) ∧ RowKit.Hid (∀ j, F j → w.heap.size ≤ j) ∧ RowKit.Hid (∀ x, a7 = some x → ¬ F x.block) ∧ Sl uv wc (.slice a7 (ds.length + ms.length) c7) (ds ++ ms) ∧ Ext w wc ∧ w7.heap.size ≤ wc.heap.size ∧ RowKit.Hid (L = if ks.length / 2 ≤ k then ds ++ ms else ds))
            case first =>
              rcases Nat.lt_trichotomy k (ks.length / 2) with hh | hh | hh
              · have hq : ((k : Int) == (ks.length : Int) / 2) = false := by rw [beq_eq_false_iff_ne]; omega
                go_wp2
                go_meet
                case rel => exact ⟨rfl, F, L, hn, hN, hF1, hF2, sA, eq, h7q, Lib.hid (by rw [hL.out, if_neg (by omega), if_neg (by omega)])⟩
              · have hq : ((k : Int) == (ks.length : Int) / 2) = true := by rw [beq_iff_eq]; omega
                have hLd : RowKit.Hid (L = ds) := Lib.hid (by rw [hL.out, if_neg (by omega)])
                have hLl : L.length ≤ 20 := by rw [hLd.out]; omega
                go_wp2_with (go_at_call 25; refine (feed_any gm (L.drop n) _ ms (by rw [List.length_drop]; omega) F _ hN hm2).mono ?_; rintro e w' ⟨rfl, hN2, hC⟩)
                go_meet
                case rel =>
                  refine ⟨by have e : (k : Int) = (ks.length : Int) / 2 := by omega
                             rw [e], _, L ++ ms, by simp; omega, by rw [List.drop_append_of_le_length hn]; exact hN2, Lib.hid fun j hj => ?_, Lib.hid fun x hx hj => ?_, sA.chg hC hF2.out, eq.chg hC hF1.out, Nat.le_trans h7q hC.size, Lib.hid (by rw [if_pos (by omega), hLd.out])⟩
                  · have := eq.size
                    rcases hj with hj | hj
                    · exact hF1.out j hj
                    · omega
                  · rcases hj with hj | hj
                    · exact hF2.out x hx hj
                    · have := hF3.out x hx; omega
              · have hq : ((k : Int) == (ks.length : Int) / 2) = false := by rw [beq_eq_false_iff_ne]; omega
                go_wp2
                go_meet
                case rel => exact ⟨rfl, F, L, hn, hN, hF1, hF2, sA, eq, h7q, Lib.hid (by rw [hL.out, if_pos (by omega), if_pos (by omega)])⟩
            case rest =>
              clear hn hN hF1 hF2 sA eq h7q hL cellk hm2
              obtain ⟨rfl, F, L, hn, hN, hF1, hF2, sA, eq, h7q, hL⟩ := hcut
              have cellk := eq.cell cell0
              go_upto_if 83 with fail
              go_cut [16] (fun th wd => th = .int .i64 (L.length : Int) ∧ wc = wd)
              case first =>
                rcases Nat.lt_or_ge k (ks.length / 2) with hh | hh
                · obtain rfl : L = ds := by rw [hL.out, if_neg (by omega)]
                  go_wp2
                  go_meet
                  case rel => exact ⟨rfl, rfl⟩
                · obtain rfl : L = ds ++ ms := by rw [hL.out, if_pos (by omega)]
                  go_wp2
                  go_meet
                  case rel => exact ⟨by simp, rfl⟩
              case rest =>
                obtain ⟨rfl, rfl⟩ := hcut
                go_upto_region 22 with fail
                go_cut [17] (fun is wd => ∃ b : Bool, is = .bool b ∧ wc = wd)
                case first =>
                  by_cases hbk : bs.length ≤ k
                  · go_wp2
                    go_meet
                    case rel => exact ⟨false, rfl, rfl⟩
                  · obtain ⟨b, hbb⟩ : ∃ b, bs[k]? = some b := ⟨bs[k]'(by omega), List.getElem?_eq_getElem (by omega)⟩
                    obtain ⟨gb, ob, rfl, cellb⟩ := (hb.ext eq).cells k b hbb
                    unfold bv at cellb
                    clear hbb
                    go_wp2
                    go_meet
                    case rel => exact ⟨b, rfl, rfl⟩
                case rest =>
                  obtain ⟨b, rfl, rfl⟩ := hcut
                  go_upto_region 23 with fail
                  go_cut [18, 19] (fun s e wd => s = .string (str (mS z b (L.drop n))) ∧ e = .int .i64 (mE z b (L.drop n)) ∧ Mint wd F gm (mR z (L.drop n)) ∧ Sl uv wd (.slice a7 (ds.length + ms.length) c7) (ds ++ ms) ∧ Ext w wd ∧ w7.heap.size ≤ wd.heap.size)
                  case first =>
                    go_region_with (first
                      | (go_at_call 27; refine (always_any _ _).mono ?_; rintro e w' ⟨rfl, rfl⟩)
                      | (go_at_call 26; refine (next_any gm _ z b F _ (hw.ext eq.drew) (hN.ext (Ext.refl _).drew)).mono ?_; rintro e w' ⟨rfl, hN2, hC⟩))
                    all_goals
                      go_wp2
                      go_meet
                      case rel => exact ⟨rfl, rfl, hN2, (sA.ext (Ext.refl _).drew).chg hC hF2.out, eq.drew.chg hC hF1.out, Nat.le_trans h7q hC.size⟩
                  case rest =>
                    clear hN sA eq h7q cellk
                    obtain ⟨rfl, rfl, hN, sA, eq, h7q⟩ := hcut
                    have cellk := eq.cell cell0
                    go_upto_block 4 with fail
                    go_cut [14, 20, 21] (fun at_ want f wd => ∃ m : Nat, at_ = .int .i64 m ∧ want = .string (str (mS z b (L.drop n))) ∧ f = .int .i64 (mE z b (L.drop n)) ∧ m ≤ L.length ∧ mR z (L.drop n) = L.drop m ∧ Ext wc wd)
                    case first =>
                      cases hok : Tk.okK z
                      · have hp : seq (Tk.preI z) [] = true := by rw [Tk.preI_empty, hok]; rfl
                        go_wp2_with (go_at_call 21; refine (refPrefix_any _ _).mono ?_; rintro e w' ⟨rfl, rfl⟩)
                        go_meet
                        case rel =>
                          obtain ⟨q1, q2, q3⟩ := m_bad hok b (L.drop n)
                          exact ⟨n, rfl, by rw [q1], by rw [q2], hn, q3, Ext.refl _⟩
                      · have hp : seq (Tk.preI z) [] = false := by rw [Tk.preI_empty, hok]; rfl
                        by_cases hnl : n < L.length
                        · obtain ⟨x, hx⟩ : ∃ x, L[n]? = some x := ⟨L[n], List.getElem?_eq_getElem hnl⟩
                          have hd1 : RowKit.Hid (L.drop n = x :: L.drop (n + 1)) := Lib.hid (by
                            rw [List.drop_eq_getElem_cons hnl]
                            congr 1
                            rw [List.getElem?_eq_getElem hnl] at hx
                            exact Option.some.inj hx)
                          have hxa : (ds ++ ms)[n]? = some x := by
                            rw [hL.out] at hx
                            split at hx
                            · exact hx
                            · rw [List.getElem?_append_left (by rw [hL.out, if_neg (by assumption)] at hnl; exact hnl)]; exact hx
                          have hna : n < (ds ++ ms).length := (List.getElem?_eq_some_iff.1 hxa).1
                          obtain ⟨_, _, e, hsl⟩ := sA
                          simp only [Value.slice.injEq] at e
                          obtain ⟨rfl, -, rfl⟩ := e
                          obtain ⟨g9, o9, rfl, cell9⟩ := hsl.cells n x hxa
                          rw [List.length_append] at hna
                          unfold uv at cell9
                          clear hx hxa
                          cases b
                          · go_wp2_with (go_at_call 21; refine (refPrefix_any _ _).mono ?_; rintro e w' ⟨rfl, rfl⟩)
                            go_region_with (go_at_call 17; refine (refName_any _ _ _).mono ?_; rintro e w' ⟨rfl, rfl⟩)
                            all_goals
                              go_wp2
                              go_meet
                              case rel =>
                                obtain ⟨q1, q2, q3⟩ := m_no hok x (L.drop (n + 1))
                                exact ⟨n + 1, by go_num, by rw [hd1.out, q1] <;> rfl, by rw [hd1.out, q2] <;> rfl, hnl, by rw [hd1.out, q3], (Ext.refl _).drew⟩
                          · go_wp2_with (go_at_call 21; refine (refPrefix_any _ _).mono ?_; rintro e w' ⟨rfl, rfl⟩)
                            go_region_with (go_at_call 17; refine (refName_any _ _ _).mono ?_; rintro e w' ⟨rfl, rfl⟩)
                            all_goals
                              go_wp2
                              go_meet
                              case rel =>
                                obtain ⟨q1, q2, q3⟩ := m_yes hok x (L.drop (n + 1))
                                exact ⟨n + 1, by go_num, by rw [hd1.out, q1] <;> rfl, by rw [hd1.out, q2] <;> rfl, hnl, by rw [hd1.out, q3], (Ext.refl _).drew⟩
                        · have hd1 : RowKit.Hid (L.drop n = []) := Lib.hid (List.drop_eq_nil_of_le (by omega))
                          go_wp2_with (go_at_call 21; refine (refPrefix_any _ _).mono ?_; rintro e w' ⟨rfl, rfl⟩)
                          go_meet
                          case rel =>
                            obtain ⟨q1, q2, q3⟩ := m_none hok b
                            exact ⟨n, rfl, by rw [hd1.out, q1] <;> rfl, by rw [hd1.out, q2] <;> rfl, hn, by rw [hd1.out, q3], Ext.refl _⟩
                    case rest =>
                      obtain ⟨m, rfl, rfl, rfl, hm7, hR, ew⟩ := hcut
                      rw [hR] at hN
                      have hself := seq_self (mS z b (L.drop n))
                      have hL2 : RowKit.Hid (L = if ks.length / 2 < k + 1 then ds ++ ms else ds) := Lib.hid (by
                        rw [hL.out]
                        by_cases h : ks.length / 2 ≤ k
                        · rw [if_pos h, if_pos (by omega)]
                        · rw [if_neg h, if_neg (by omega)])
                      have hL30 : L.length ≤ 30 := by
                        rw [hL.out]
                        split
                        · rw [List.length_append]; omega
                        · omega
                      have hlen : (((L.length - m : Nat) : Int) != (L.length : Int) - (m : Int)) = false := by rw [bne_eq_false_iff_eq]; omega
                      go_wp2_with (go_at_call 28; refine (left_any gm _ F _ (hN.ext ew)).mono ?_; rintro e w' ⟨rfl, rfl⟩)
                      go_roundw
                      case rel => first | exact ⟨m, k + 1, F, L, rfl, by go_num, by omega, hm7, hN.ext ew, hF1, hF2, sA.ext ew, eq.trans ew, Nat.le_trans h7q ew.size, hL2⟩ | ((repeat apply Exists.intro); exact ⟨⟨m, k + 1, F, L, rfl, by go_num, by omega, hm7, hN.ext ew, hF1, hF2, sA.ext ew, eq.trans ew, Nat.le_trans h7q ew.size, hL2⟩, rfl⟩)
                      case measure => simp [intOf]; omega
          · obtain rfl : k = ks.length := by omega
            go_wp2
            go_ret
            exact ⟨rfl, eq⟩
  · by_cases h20 : ds.length ≤ 20
    · by_cases h10 : ms.length ≤ 10
      · have h40 : ¬ ks.length ≤ 40 := fun h => hcut ⟨h20, h10, h⟩
        go_enter Tryd.func7, Tryd.ntmps7
        go_wp2_with (go_at_call 13; refine (awake_any _ hw).mono ?_; rintro e w1 ⟨rfl, h⟩; have e0 := e0.trans h)
        go_ret
        exact ⟨rfl, e0⟩
      · go_enter Tryd.func7, Tryd.ntmps7
        go_wp2_with (go_at_call 13; refine (awake_any _ hw).mono ?_; rintro e w1 ⟨rfl, h⟩; have e0 := e0.trans h)
        go_ret
        exact ⟨rfl, e0⟩
    · go_enter Tryd.func7, Tryd.ntmps7
      go_wp2_with (go_at_call 13; refine (awake_any _ hw).mono ?_; rintro e w1 ⟨rfl, h⟩; have e0 := e0.trans h)
      go_ret
      exact ⟨rfl, e0⟩
end Go.Proofs.YtkpcdbalhpmpmaaDoor
