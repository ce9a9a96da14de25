/- DiskOpens, walked. -/
import Derived.Test.YtehgdoceaeammaaDiskW
import Derived.Deep.RegionHeld3
import Derived.Deep.DeepCutAuto
namespace Go.Proofs.Ytehgdoceaeammaa
open Go.RowKit Dk

attribute [local irreducible] mk over opk opn nb clamp
theorem nb_opn (b : List UInt8) : (opn b).kept.length = 32 * nb b := by rw [(opn_to b).1]; exact opk_len b _ (Nat.le_refl _)
/-- the document's disk, just opened -/
def Opened (w0 w : World) (q : Nat) (l : List UInt8) : Prop := ∃ vk, w.cell? ⟨q, 0, none⟩ = some vk ∧ OwnB w w0.heap.size vk l ∧ w0.heap.size ≤ q
theorem opn_take (b : List UInt8) : b.take (32 * nb b) = (opn b).kept := by unfold opn; rfl
theorem Bytes.init {w : World} {a : Option Addr} {n cap : Nat} {l : List UInt8} (h : Bytes w (.slice a n cap) l) (m : Nat) (hm : m ≤ l.length) : Bytes w (.slice a m cap) (l.take m) := by
  obtain ⟨a', cap', e, hat⟩ := h
  simp only [Value.slice.injEq] at e
  obtain ⟨rfl, rfl, rfl⟩ := e
  have hl : (l.take m).length = m := by rw [List.length_take]; omega
  refine ⟨_, _, by rw [hl], by have := hat.le; omega, hat.capm, hat.none, fun j hj => ?_⟩
  obtain ⟨g, o, h1, h2⟩ := hat.cells j (by omega)
  exact ⟨g, o, h1, by rw [h2]; simp⟩
theorem new_at (w : World) (C : Array Value) (t : TypeId) (v : Value) (h : C[0]? = some v) : (w.alloc (.cells C t)).cell? ⟨w.heap.size, 0, none⟩ = some v := (cell_of_row _ _ _ _ _ _ (heap_alloc_new w _)).trans h
set_option maxRecDepth 20000 in
set_option maxHeartbeats 1000000 in
theorem refOpen_any (v : Value) (b : List UInt8) (w : World) (hb : Bytes w v b) :
    Calls Try.prog 25 #[v] w (Ret fun u w' => ∃ q, u = .pointer (some ⟨q, 0, none⟩) ∧ Opened w w' q (opn b).kept ∧ Ext w w') := by
  have e0 := Ext.refl w
  have hb0 := hb
  obtain ⟨a, cap, rfl, hb⟩ := hb
  have hbl := hb.len
  have hcl := hb.le
  clear hb
  have hnb := nb_le b
  have hq : IntKind.i64.wrap ((b.length : Int) / 32) = (b.length : Int) / 32 := by rw [IntKind.wrap_i64]; omega
  have hB := hb0.init (32 * nb b) hnb.2
  have hcase : (b.length : Int) / 32 ≤ 512 ∧ nb b = b.length / 32 ∨ 512 < (b.length : Int) / 32 ∧ nb b = 512 := by unfold nb; omega
  rw [opn_take] at hB
  have ho : OwnB (w.alloc (.cells #[] 5)) w.heap.size (.slice (some ⟨w.heap.size, 0, none⟩) 0 0) [] := OwnB.empty rfl (Nat.le_refl _)
  have ea := e0.alloc (.cells #[] 5)
  have hkl := nb_opn b
  have hBa := hB.ext ea
  rcases hcase with ⟨h1, h2⟩ | ⟨h1, h2⟩
  · rw [h2] at hB hBa hnb hkl
    have t1 : IntKind.i64.wrap (32 * ((b.length : Int) / 32)) = 32 * ((b.length : Int) / 32) := by rw [IntKind.wrap_i64]; omega
    have t2 : (0 : Int) ≤ 32 * ((b.length : Int) / 32) := by omega
    have t3 : 32 * ((b.length : Int) / 32) ≤ (cap : Int) := by omega
    have t4 : (32 * ((b.length : Int) / 32)).toNat = 32 * (b.length / 32) := by omega
    have hklh := Lib.hid hkl
    clear h2 hkl hnb
    go_enter Try.func25, Try.ntmps25
    go_wp2_with (at_builtin; refine wpList_appendB rfl _ _ rfl w.heap.size _ [] rfl ho _ (opn b).kept rfl hBa (by rw [hklh.out]; simp; omega) ea.size ?_; intro v8 w8 g1 g2; have g1b := g1.bytes; obtain ⟨a8, c8, rfl, -⟩ := g1b)
    go_ret
    exact Ret.mk ⟨_, rfl, ⟨_, new_at _ _ _ _ rfl, OwnB.alloc g1 _, by have := ea.size; have := g2.size; omega⟩, (Ext.own ea ho g2).alloc _⟩
  · rw [h2] at hB hBa hnb hkl
    have h1' : ¬ (b.length : Int) / 32 ≤ 512 := by omega
    have t3 : (16384 : Int) ≤ (cap : Int) := by omega
    have hklh := Lib.hid hkl
    clear h2 hkl hnb
    go_enter Try.func25, Try.ntmps25
    go_wp2_with (at_builtin; refine wpList_appendB rfl _ _ rfl w.heap.size _ [] rfl ho _ (opn b).kept rfl hBa (by rw [hklh.out]; simp) ea.size ?_; intro v8 w8 g1 g2; have g1b := g1.bytes; obtain ⟨a8, c8, rfl, -⟩ := g1b)
    go_ret
    exact Ret.mk ⟨_, rfl, ⟨_, new_at _ _ _ _ rfl, OwnB.alloc g1 _, by have := ea.size; have := g2.size; omega⟩, (Ext.own ea ho g2).alloc _⟩
theorem refLen_any {w : World} {q : Nat} {vk : Value} {l : List UInt8} (h : w.cell? ⟨q, 0, none⟩ = some vk) (hb : Bytes w vk l) :
    Calls Try.prog 26 #[.pointer (some ⟨q, 0, none⟩)] w fun e w' => e = .returned (.int .i64 ((l.length : Int) / 32)) ∧ w = w' := by
  obtain ⟨a, cap, rfl, hb⟩ := hb
  have hl := hb.len
  clear hb
  go_enter Try.func26, Try.ntmps26
  go_wp2
  go_ret
  exact ⟨rfl, rfl⟩
def behF (d : D) (l : List Dop) : D := l.foldl (fun d x => doB x d) d
theorem behF_len (d : D) (l : List Dop) : (behF d l).st.length ≤ d.st.length + l.length := by
  unfold behF
  induction l generalizing d with
  | nil => simp
  | cons x l ih =>
    have h1 := ih (doB x d)
    have h2 := doB_len x d
    rw [List.foldl_cons, List.length_cons]; omega
theorem behF_take {d : D} {l : List Dop} {k : Nat} (hk : k < l.length) : behF d (l.take (k + 1)) = doB l[k] (behF d (l.take k)) := by
  unfold behF
  rw [List.take_add_one, List.getElem?_eq_getElem hk, List.foldl_append]; rfl
theorem opn_st (b : List UInt8) : (opn b).st = [] := (opn_to b).2.1
theorem ok_of {w : World} {F : Nat → Prop} {p : Nat} {d : D} (h : Disk w F p d) : d.Ok := by
  obtain ⟨gk, s, v, z, h1, h2, h3, r1, r2, r3, rok⟩ := h
  exact rok
theorem opn_again {d : D} (h : d.Ok) : (opn d.kept).kept = d.kept := by
  rw [← opn_take]
  have h1 := h.len
  have h2 := h.most
  have h3 : nb d.kept = d.n := by unfold nb D.n; omega
  rw [h3, ← h1, List.take_length]
theorem DiskN.of_new {w0 w w1 : World} {p : Nat} {d : D} (e : Ext w0 w) (e1 : Ext w w1) (h : Disk w1 (fun k => w.heap.size ≤ k ∧ k < w1.heap.size) p d) : DiskN w0 w1 p d := ⟨e.trans e1, h.mono fun _ hk => Nat.le_trans e.size hk.1⟩
attribute [local irreducible] behF doB doE
set_option maxRecDepth 100000 in
set_option maxHeartbeats 4000000 in
theorem diskOpens_any (vb : Value) (b : List UInt8) (vl : Value) (l : List Dop) (w : World) (hb : Bytes w vb b) (hl : Ops w vl l) :
    Calls Try.prog 5 #[vb, vl] w fun e w' => e = .returned (.bool true) ∧ Ext w w' := by
  have hl0 := hl
  obtain ⟨al, cl, rfl, hget⟩ := hl.get
  clear hl
  have hgh := Lib.hid hget
  clear hget
  have hb0 := hb
  obtain ⟨ab, cb, rfl, hb⟩ := hb
  have hbl := hb.len
  clear hb
  go_enter Try.func5, Try.ntmps5
  go_upto_region 3 with (first
    | (go_at_call 9; refine (awake_any _).mono ?_; rintro e wA ⟨rfl, eA⟩)
    | (go_at_call 15; refine (few_any _ l _ (hl0.ext eA)).mono ?_; rintro e w' ⟨rfl, rfl⟩))
  by_cases hf : fewO l = true
  · rw [hf]
    by_cases hsz : 3000 < b.length ∧ b.length ≤ 16384
    · have i1 : decide ((3000 : Int) < (b.length : Int)) = true := by rw [decide_eq_true_iff]; omega
      have i2 : decide ((b.length : Int) ≤ 16384) = true := by rw [decide_eq_true_iff]; omega
      go_wp2
      go_ret
      exact ⟨rfl, eA⟩
    · have hcase : decide ((3000 : Int) < (b.length : Int)) = false ∨ decide ((3000 : Int) < (b.length : Int)) = true ∧ decide ((b.length : Int) ≤ 16384) = false := by
        by_cases h : 3000 < b.length
        · right
          exact ⟨by rw [decide_eq_true_iff]; omega, by rw [decide_eq_false_iff_not]; omega⟩
        · left
          rw [decide_eq_false_iff_not]; omega
      obtain ⟨hl40, hsm⟩ := few_facts hf
      have hsh := Lib.hid hsm
      have hO := open_any _ b wA (hb0.ext eA)
      have hO2 := fun W (e : Ext wA W) => refOpen_any _ b W ((hb0.ext eA).ext e)
      clear hsm hf hsz
      go_cut [25] (fun t wd => t = .bool false ∧ wA = wd)
      case first =>
        rcases hcase with i1 | ⟨i1, i2⟩
        all_goals
          go_wp2
          go_meet
          case rel => exact ⟨rfl, rfl⟩
      case rest =>
        obtain ⟨rfl, rfl⟩ := hcut
        go_upto_region 6 with (go_at_call 24; refine hO.mono ?_; rintro e w1 ⟨v1, rfl, p, rfl, h1, e1⟩)
        have hN := DiskN.of_new eA e1 h1
        go_upto_region 7 with (go_at_call 25; refine (hO2 _ e1).mono ?_; rintro e w2 ⟨v2, rfl, q, rfl, ⟨vk, hvk, hvo, hq⟩, e2⟩)
        have hN := hN.ext e2
        have hvb := hvo.bytes
        have hBy := bytes_any hN.2
        have hLe := fun W (e : Ext w2 W) => len_any (hN.ext e).2
        have hRL := fun W (e : Ext w2 W) => refLen_any (e.cell hvk) (hvb.ext e)
        have hSm := fun W u (e : Ext w2 W) (g : Bytes W u (opn b).kept) => same_any u vk _ _ W g (hvb.ext e)
        rw [seq_self] at hSm
        rw [opn_n] at hLe
        have hnl := nb_opn b
        have hd : ((opn b).kept.length : Int) / 32 = (nb b : Int) := by omega
        rw [hd] at hRL
        have hnn := bne_self_eq_false (nb b : Int)
        clear hO hO2 hd hnl h1
        have hq0 := fun W (e : Ext w2 W) => e.cell hvk
        have hq0h := Lib.hid hq0
        have hN2 := hN.2
        have hBy := fun W (e : Ext w2 W) => bytes_any (hN2.ext e)
        obtain ⟨ak, ck, rfl, -⟩ := hvb
        have eNh := Lib.hid hN
        have ewh := Lib.hid hN.1
        clear hq0 hvk hvo hN eA e1 e2 hN2 hq
        go_region_held3 (fun W => W.cell? ⟨q, 0, none⟩ = some (.slice ak (opn b).kept.length ck)) ((refine hq0h.out _ ?_; (repeat (first | exact Ext.refl _ | with_reducible assumption | refine Ext.drew ?_ | refine Ext.alloc ?_ _ | refine Ext.trans ?_ (by assumption)))))
          (first
            | (go_at_call 20; refine (hBy _ (by (repeat (first | exact Ext.refl _ | with_reducible assumption | refine Ext.drew ?_ | refine Ext.alloc ?_ _ | refine Ext.trans ?_ (by assumption))))).mono ?_; rintro e w3 ⟨v3, rfl, hb3, e3⟩)
            | (go_at_call 23; refine (hSm _ _ (by (repeat (first | exact Ext.refl _ | with_reducible assumption | refine Ext.drew ?_ | refine Ext.alloc ?_ _ | refine Ext.trans ?_ (by assumption)))) (by first | assumption | (refine Bytes.ext (by assumption) ?_; (repeat (first | exact Ext.refl _ | with_reducible assumption | refine Ext.drew ?_ | refine Ext.alloc ?_ _ | refine Ext.trans ?_ (by assumption)))))).mono ?_; rintro e w' ⟨rfl, rfl⟩)
            | (go_at_call 22; refine (hLe _ (by (repeat (first | exact Ext.refl _ | with_reducible assumption | refine Ext.drew ?_ | refine Ext.alloc ?_ _ | refine Ext.trans ?_ (by assumption))))).mono ?_; rintro e w' ⟨rfl, rfl⟩)
            | (go_at_call 26; refine (hRL _ (by (repeat (first | exact Ext.refl _ | with_reducible assumption | refine Ext.drew ?_ | refine Ext.alloc ?_ _ | refine Ext.trans ?_ (by assumption))))).mono ?_; rintro e w' ⟨rfl, rfl⟩))
        have hN3 := eNh.out.ext (((Ext.refl w2).drew).trans e3)
        have hst : RowKit.Hid (behF (opn b) (l.take 0) = opn b) := Lib.hid (by unfold behF; rfl)
        have hs0 := Lib.hid (opn_st b)
        clear hLe hRL hSm hnn hBy hq0h eNh ewh hb3 e3
        go_wp2
        go_loopw [9] (fun i wr => ∃ k : Nat, k ≤ l.length ∧ i = .int .i64 (k : Int) ∧ DiskN w wr p (behF (opn b) (l.take k))) (fun i _ => l.length - (intOf i).toNat)
        case atStart => exact ⟨0, Nat.zero_le _, rfl, by rw [hst.out]; exact hN3⟩
        case round =>
          clear hN3
          obtain ⟨k, hk, rfl, hd⟩ := hrel
          by_cases hlt : k < l.length
          · obtain ⟨g, o, rfl, vb, vp, hr, hb, hp, r1, r2⟩ := hgh.out k hlt
            have hki : (k : Int) < (l.length : Int) := by omega
            have hq := hsh.out k hlt
            have hnx := Lib.hid (behF_take (d := opn b) hlt)
            have hrw : wr.rangeAt g (o + k * 4) [.int .i64 l[k].what, .int .i64 l[k].place, vb, vp] := fun j u hu => hd.1.cell (hr j u hu)
            have hl1 := behF_len (opn b) (l.take k)
            rw [List.length_take, hs0.out, List.length_nil] at hl1
            have hD := do_any hd (by omega) l[k] vb vp hb (hp.ext hd.1) (by omega) r1 r2
            clear hr hb hp hq
            generalize l[k] = x at *
            generalize behF (opn b) (l.take k) = dk at *
            go_wp2_with (first
              | (refine wpList_load_mid rfl 49 _ rfl g (o + k * 4) rfl [.int .i64 x.what, .int .i64 x.place, vb, vp] _ hrw Try.underlying49 rfl info_op ?_)
              | (go_at_call 27; refine hD.mono ?_; rintro e w2 ⟨rfl, h2⟩))
            go_roundw
            case rel => exact ⟨k + 1, by omega, by go_num, by rw [hnx.out]; exact h2⟩
            case measure => simp [intOf]; omega
          · obtain rfl : k = l.length := by omega
            rw [List.take_length] at hd
            generalize behF (opn b) l = d at *
            have hag := Lib.hid (opn_again (ok_of hd.2))
            have hBy := bytes_any hd.2
            go_upto_region 14 with (first
              | (go_at_call 20; refine hBy.mono ?_; rintro e w5 ⟨v5, rfl, hb5, e5⟩; have hO := open_any _ _ _ hb5; clear hBy)
              | (go_at_call 24; refine hO.mono ?_; rintro e w6 ⟨v6, rfl, p6, rfl, h6, e6⟩; clear hO))
            have hd6 := (hd.ext e5).ext e6
            have hB1 := bytes_any h6
            have hB2 := fun W (e : Ext w6 W) => bytes_any (hd6.ext e).2
            have hSt := fun W (e : Ext w6 W) => staged_any (h6.ext e)
            rw [hag.out] at hB1
            rw [opn_st] at hSt
            have hfin := hd6.1
            clear hd hst hb5 e5 e6 h6 hd6
            go_wp2_with (first
              | (go_at_call 20; refine hB1.mono ?_; rintro e w7 ⟨v7, rfl, hb7, e7⟩; have hB3 := hB2 _ e7; clear hB1)
              | (go_at_call 20; refine hB3.mono ?_; rintro e w8 ⟨v8, rfl, hb8, e8⟩; have hS3 := same_any _ _ _ _ _ (hb7.ext e8) hb8; rw [seq_self] at hS3; have hSt2 := hSt _ (e7.trans e8); clear hB3)
              | (go_at_call 23; refine hS3.mono ?_; rintro e w' ⟨rfl, rfl⟩)
              | (go_at_call 12; refine hSt2.mono ?_; rintro e w' ⟨rfl, rfl⟩))
            go_ret
            exact ⟨rfl, hfin.trans (e7.trans e8)⟩
  · have hf' : fewO l = false := by simpa using hf
    rw [hf']
    go_wp2
    go_ret
    exact ⟨rfl, eA⟩
end Go.Proofs.Ytehgdoceaeammaa
