/- Trees that are built of records, of the program and of the document. -/
import Derived.Test.YtmdepmohfnficaaDoorFxH
import Derived.OwnWalk
namespace Go.Proofs.YtmdepmohfnficaaDoor
set_option linter.unusedVariables false
set_option linter.unusedSimpArgs false
open Go.RowKit Rk Tr

namespace Tr
def bldL : List Rec → List Rec → List Rec
  | t, [] => t
  | t, r :: rs => bldL (addL 64 t r) rs
theorem bldL_append : ∀ (a b t : List Rec), bldL t (a ++ b) = bldL (bldL t a) b
  | [], _, _ => rfl
  | r :: a, b, t => by rw [List.cons_append, bldL, bldL, bldL_append a b]
theorem bldL_step {l : List Rec} {k : Nat} {r : Rec} (h : l[k]? = some r) (t : List Rec) : bldL t (l.take (k + 1)) = addL 64 (bldL t (l.take k)) r := by
  rw [List.take_add_one, h, bldL_append]; rfl
theorem St.bld : ∀ (rs : List Rec) {t : List Rec}, St 64 t → St 64 (bldL t rs)
  | [], _, h => h
  | r :: rs, _, h => St.bld rs ⟨okAdd h.ok _ _, addL_len _ _ _ h.len, h.few⟩
end Tr
/-- a step on the program's tree, then one on the document's -/
theorem Tw.start {w0 w w1 w2 : World} {p q room : Nat} {F G : Nat → Prop} (t1 : TrM 96 w1 F p room []) (hF : ∀ k, F k ↔ k = w.heap.size) (e0 : Ext w0 w) (e1 : Ext w w1) (t2 : TrM 34 w2 G q room []) (hG : ∀ k, G k ↔ k = w1.heap.size) (e2 : Ext w1 w2) : Tw w0 w2 p q room [] := by
  have hp3 : w.heap.size < w1.heap.size := by
    obtain ⟨v, h, hp, -⟩ := t1
    have := (Array.getElem?_eq_some_iff.1 h).1
    rw [(hF p).1 hp] at this
    exact this
  have := e0.size
  exact ⟨F, G, t1.ext e2, t2, fun k hk => by rw [(hF k).1 hk]; exact this, fun k hk => by have := (hG k).1 hk; omega, fun k hk h => by have := (hF k).1 hk; have := (hG k).1 h; omega, (e0.trans e1).trans e2⟩
attribute [local irreducible] rcells fewI bldL
set_option maxRecDepth 20000 in
set_option maxHeartbeats 2000000 in
theorem built_any (v : Value) (l : List Rec) (w : World) (h : Recs w v l) (hw : Pres w) :
    Calls Tryd.prog 15 #[v] w fun e w' => ∃ p q, (e = .returned (.tuple #[.pointer (some ⟨p, 0, none⟩), .pointer (some ⟨q, 0, none⟩), .bool true]) ∧ Tw w w' p q 64 (bldL [] l)) ∨ (e = .returned (.tuple #[.pointer (some ⟨p, 0, none⟩), .pointer (some ⟨q, 0, none⟩), .bool false]) ∧ Ext w w') := by
  obtain ⟨a, cap, rfl, hlm, hget⟩ := Rw.shape h
  have hgh := Lib.hid hget
  have hwh := Lib.hid hw
  have hT := new_any 64 w
  have hT2 := fun W => refNew_any 64 W
  have h64 : roomN 64 = 64 := by decide
  rw [h64] at hT
  simp only [h64] at hT2
  clear h hget hw h64
  go_enter Tryd.func15, Tryd.ntmps15
  go_upto_region 3 with (first
    | (go_at_call 36; refine hT.mono ?_; rintro e W3 ⟨_, rfl, rfl, t3, e3⟩)
    | (go_at_call 37; refine (hT2 _).mono ?_; rintro e W4 ⟨_, rfl, rfl, t4, e4⟩))
  have hTw := Tw.start t3 (fun _ => Iff.rfl) (Ext.refl w) e3 t4 (fun _ => Iff.rfl) e4
  obtain ⟨p, hp⟩ : ∃ p, p = w.heap.size := ⟨_, rfl⟩
  obtain ⟨q, hq⟩ : ∃ q, q = W3.heap.size := ⟨_, rfl⟩
  rw [← hp, ← hq] at hTw ⊢
  have hb := Lib.hid (e3.trans e4)
  clear hT hT2 t3 t4 e3 e4 hp hq
  by_cases h40 : (40 : Int) < (l.length : Int)
  · have d40 : decide ((40 : Int) < (l.length : Int)) = true := decide_eq_true h40
    go_wp2
    go_ret3
    exact ⟨p, q, .inr ⟨rfl, hb.out⟩⟩
  have d40 : decide ((40 : Int) < (l.length : Int)) = false := decide_eq_false h40
  have hTwh : RowKit.Hid (Tw w W4 p q 64 (bldL [] (l.take 0))) := Lib.hid (by rw [show bldL [] (l.take 0) = [] by unfold bldL; rfl]; exact hTw)
  clear hTw hb
  go_wp2
  go_loopw [7] (fun i wr => ∃ k : Nat, k ≤ l.length ∧ i = .int .i64 (k : Int) ∧ RowKit.Hid (Tw w wr p q 64 (bldL [] (l.take k)))) (fun i _ => l.length - (intOf i).toNat)
  case atStart => exact ⟨0, Nat.zero_le _, rfl, hTwh⟩
  case round =>
    obtain ⟨k, hk, rfl, hT⟩ := hrel
    clear hTwh
    by_cases hlt : k < l.length
    · obtain ⟨x, hx⟩ := some_at hlt
      obtain ⟨g, o, cs, rfl, hr, rfl, hf⟩ := hgh.out k x hx
      have hki : (k : Int) < (l.length : Int) := by omega
      have hw : IntKind.i64.wrap ((k : Int) + 1) = (k : Int) + 1 := by rw [IntKind.wrap_i64]; omega
      have hSt := Lib.hid (St.bld (l.take k) (St.nil (Nat.le_refl 64)))
      have hst := Lib.hid (bldL_step hx [])
      obtain ⟨L, hL⟩ : ∃ L, L = bldL [] (l.take k) := ⟨_, rfl⟩
      rw [← hL] at hT hSt hst
      obtain ⟨F, G, tp, tq, hF, hG, hFG, e0r⟩ := hT.out
      have hrh := Lib.hid hr
      have hr2 : wr.rangeAt g (o + k * 10) (prow x) := fun i u hu => e0r.cell (hr i u hu)
      have hfw := few_any x wr
      clear hr hx hL hT
      cases hfx : fewI x
      · rw [hfx] at hfw
        go_wp2_with (first
          | (refine wpList_load_rec (by rfl) _ rfl g (o + k * 10) rfl x hr2 ?_)
          | (go_at_call 56; refine hfw.mono ?_; rintro e w2 ⟨rfl, e2⟩))
        go_ret3
        exact ⟨p, q, .inr ⟨rfl, e0r.trans e2⟩⟩
      · rw [hfx] at hfw
        have hfn := few_name hfx
        go_upto_region 11 with (first
          | (refine wpList_load_rec (by rfl) _ rfl g (o + k * 10) rfl x hr2 ?_)
          | (go_at_call 56; refine hfw.mono ?_; rintro e w2 ⟨rfl, e2⟩))
        have e02 := e0r.trans e2
        have hA := add_any x (tp.ext e2).lt hf (hwh.out.ext e02) (by have := hSt.out.small; omega)
        have hr3 : w2.rangeAt g (o + k * 10) (prow x) := fun i u hu => e2.cell (hr2 i u hu)
        have hor : RowKit.Hid (w.heap.size ≤ w2.heap.size) := Lib.hid e02.size
        go_upto_region 12 with (first
          | (refine wpList_load_rec (by rfl) _ rfl g (o + k * 10) rfl x hr3 ?_)
          | (go_at_call 57; refine hA.mono ?_; rintro e w3 ⟨rfl, t3, g3⟩))
        have tq3 := (tq.ext e2).lt.chg g3 fun k hk _ h => hFG k h.1 hk.1
        have hB := refAdd_any x tq3 hf (by omega) (by omega) hSt.out.small
        have e03 := e02.chg g3 fun k hk => hF k hk.1
        have hr4 : w3.rangeAt g (o + k * 10) (prow x) := fun i u hu => e03.cell (hrh.out i u hu)
        have t3h := Lib.hid t3
        have g3h := Lib.hid g3
        clear hA tq3 t3 g3 hr3 e03
        go_wp2_with (first
          | (refine wpList_load_rec (by rfl) _ rfl g (o + k * 10) rfl x hr4 ?_)
          | (go_at_call 38; refine hB.mono ?_; rintro e w4 ⟨rfl, t4, g4⟩))
        go_roundw
        case rel => exact ⟨k + 1, by omega, by go_num, Lib.hid (by rw [hst.out]; exact Tw.step hF hG hFG (e0r.trans e2) t3h.out g3h.out t4 g4)⟩
        case measure => simp [intOf]; omega
    · obtain rfl : k = l.length := by omega
      have hT2 := hT.out
      rw [List.take_length] at hT2
      have hTh := Lib.hid hT2
      clear hT hT2
      go_wp2
      go_ret3
      exact ⟨p, q, .inl ⟨rfl, hTh.out⟩⟩
end Go.Proofs.YtmdepmohfnficaaDoor
