/- The document's Records, In. -/
import Derived.Test.YtmdepmohfnficaaDoorTrR
import Derived.Deep.QuietTactic
import Derived.BigQuiet
namespace Go.Proofs.YtmdepmohfnficaaDoor
open Go.RowKit Rk Tr

theorem Ext.drewM (w : World) : ∀ n, Ext w (w.drewN n)
  | 0 => Ext.refl w
  | n + 1 => (Ext.drewM w n).drew
/-- in a region that draws and only reads: a record out of the middle of a row -/
theorem wpQuiet_load_rec {ops : Array Oper} {C : World → Prop} {Q : Act → Prop} {a : Act} {o : Oper} {rest : List Oper} (hw : Region.wanted o (yielded ops a.tmps) = true) (x : Operand) (ho : o.op = .load 36 x) (b i : Nat)
    (hx : a.eval x = .pointer (some ⟨b, i, none⟩)) (r : Rec) (hC : ∀ w, C w → w.rangeAt b i (prow r)) (h : wpQuiet Tryd.prog ops C Q rest (a.put o.dst (.agg (rcells r)))) : wpQuiet Tryd.prog ops C Q (o :: rest) a :=
  BigFrame.wpQuiet_want hw fun _ hK => ⟨_, fun w hw => by
    have e : (prow r).toArray = rcells r := by simp [prow]
    unfold Oper.quietAt execOp
    simp only [ho, hx, Instr.loadAt, Instr.sureAddr, Sem.run_bind, Sem.run_pure, Result.andThen_ok, run_loadVar_mid w b i 36 (prow r) _ (hC w hw) Tryd.underlying36 rfl info_rec]
    exact ⟨rfl, congrArg Value.agg e⟩, hK _ h⟩
theorem range_drew {w : World} {b i : Nat} {cs : List Value} (h : w.rangeAt b i cs) : ∀ W, (∃ n, W = w.drewN n) → W.rangeAt b i cs := fun W ⟨n, e⟩ => by
  subst e
  exact fun j u hu => (Ext.drewM w n).cell (h j u hu)
def recsB (l m : List Rec) : Bool := decide (l = m)
theorem recsB_len {l m : List Rec} (h : l.length ≠ m.length) : recsB l m = false := decide_eq_false fun e => h (by rw [e])
theorem recsB_no {l m : List Rec} {k : Nat} {x y : Rec} (hx : l[k]? = some x) (hy : m[k]? = some y) (h : req x y = false) : recsB l m = false := decide_eq_false fun e => by
  rw [e, hy] at hx
  cases hx
  rw [req_self] at h; cases h
theorem recsB_all {l m : List Rec} (hl : l.length = m.length) (h : ∀ j x y, j < l.length → l[j]? = some x → m[j]? = some y → req x y = true) : recsB l m = true := decide_eq_true (by
  apply List.ext_getElem?
  intro j
  by_cases hj : j < l.length
  · obtain ⟨x, hx⟩ := some_at hj
    obtain ⟨y, hy⟩ := some_at (l := m) (by omega : j < m.length)
    have := h j x y hj hx hy
    unfold req at this
    rw [hx, hy, of_decide_eq_true this]
  · rw [List.getElem?_eq_none (by omega), List.getElem?_eq_none (by omega)])
attribute [local irreducible] rcells req
set_option maxRecDepth 20000 in
set_option maxHeartbeats 1000000 in
theorem records_any (v u : Value) (l m : List Rec) (w : World) (hb : Recs w v l) (hc : Recs w u m) :
    Calls Tryd.prog 24 #[v, u] w fun e w' => e = .returned (.bool (recsB l m)) ∧ Ext w w' := by
  have e0 := Ext.refl w
  obtain ⟨a, cap, rfl, hlen, hb⟩ := Rw.shape hb
  obtain ⟨b, cap', rfl, hlen2, hc⟩ := Rw.shape hc
  by_cases hne : l.length = m.length
  · have hfl : ((l.length : Int) != (m.length : Int)) = false := by simp [hne]
    obtain ⟨L, hL⟩ : ∃ L, L = l.length := ⟨_, rfl⟩
    have hL2 : L = m.length := by omega
    rw [← hL] at hlen ⊢
    rw [← hL2] at hlen2 ⊢
    have hbh := Lib.hid hb
    have hch := Lib.hid hc
    clear hb hc hne hfl
    have hLh := Lib.hid hL
    have hL2h := Lib.hid hL2
    clear hL hL2
    go_enter Tryd.func24, Tryd.ntmps24
    go_wp2
    go_loopw [5] (fun i wr => ∃ k : Nat, k ≤ L ∧ i = .int .i64 k ∧ RowKit.Hid (∀ j x y, j < k → l[j]? = some x → m[j]? = some y → req x y = true) ∧ Ext w wr) (fun i _ => L - (intOf i).toNat)
    case atStart => exact ⟨0, Nat.zero_le _, rfl, Lib.hid (fun j x y hj => by omega), e0⟩
    case round =>
      obtain ⟨k, hk, rfl, hn, ek⟩ := hrel
      by_cases hlt : k < L
      · obtain ⟨x, hx⟩ := some_at (l := l) (by have := hLh.out; omega : k < l.length)
        obtain ⟨y, hy⟩ := some_at (l := m) (by have := hL2h.out; omega : k < m.length)
        obtain ⟨g, o, cs, rfl, hr, rfl, -⟩ := hbh.out k x hx
        obtain ⟨g2, o2, cs2, rfl, hr2, rfl, -⟩ := hch.out k y hy
        have hki : (k : Int) < (L : Int) := by omega
        have hw : IntKind.i64.wrap ((k : Int) + 1) = (k : Int) + 1 := by rw [IntKind.wrap_i64]; omega
        have l1 := range_drew (fun i u hu => ek.cell (hr i u hu) : wr.rangeAt g (o + k * 10) (prow x))
        have l2 := range_drew (fun i u hu => ek.cell (hr2 i u hu) : wr.rangeAt g2 (o2 + k * 10) (prow y))
        have hq := fun W => rec_neq x y W
        have hno := Lib.hid (recsB_no hx hy)
        have hnx := Lib.hid (fun h => (fun j x' y' hj hx' hy' => if e : j = k then by subst e; rw [hx] at hx'; rw [hy] at hy'; cases hx'; cases hy'; exact h else hn.out j x' y' (by omega) hx' hy') : req x y = true → ∀ j x y, j < k + 1 → l[j]? = some x → m[j]? = some y → req x y = true)
        clear hr hr2 hn hx hy e0
        go_upto_region 6 with fail
        refine wp_region_quiet_lit (by kernel_rfl) (by kernel_rfl) ?_
        repeat (first | (quiet_step (fail)) | (refine wpQuiet_load_rec (by rfl) _ rfl _ _ rfl x l1 ?_) | (refine wpQuiet_load_rec (by rfl) _ rfl _ _ rfl y l2 ?_))
        refine wpQuiet_nil ?_
        rintro _ ⟨nq, rfl⟩
        have e1 := ek.trans (Ext.drewM wr nq)
        generalize wr.drewN nq = W1 at *
        clear l1 l2
        cases hs : req x y
        · have hno2 := Lib.hid (hno.out hs)
          clear hno hnx
          go_wp2
          go_ret
          exact ⟨by rw [hno2.out]; rfl, e1⟩
        · have hnx2 := Lib.hid (hnx.out hs)
          clear hno hnx
          go_wp2
          go_roundw
          case rel => exact ⟨k + 1, by omega, by go_num, Lib.hid hnx2.out, e1⟩
          case measure => simp [intOf]; omega
      · obtain rfl : k = L := by omega
        have hf := Lib.hid (recsB_all (l := l) (m := m) (by rw [← hLh.out, ← hL2h.out]) (fun j x y hj => hn.out j x y (by rw [hLh.out]; exact hj)))
        clear hn
        go_wp2
        go_ret
        exact ⟨by rw [hf.out]; rfl, ek⟩
  · have hfl : ((l.length : Int) != (m.length : Int)) = true := by simp; omega
    have hf := Lib.hid (recsB_len hne)
    clear hb hc
    go_enter Tryd.func24, Tryd.ntmps24
    go_wp2
    go_ret
    exact ⟨by rw [hf.out]; rfl, e0⟩
theorem in_any (v : Value) (l : List (List UInt8)) (n : List UInt8) (w : World) (h : Sl sv w v l) :
    Calls Tryd.prog 34 #[v, .string (str n)] w fun e w' => e = .returned (.bool (inL l n)) ∧ w = w' := by
  obtain ⟨a, cap, rfl, hb⟩ := h
  have hlen := hb.len
  obtain ⟨-, -, -, hget⟩ := hb
  have hgh := Lib.hid hget
  clear hget
  go_enter Tryd.func34, Tryd.ntmps34
  go_wp2
  go_loop [5] (fun i => ∃ k : Nat, k ≤ l.length ∧ i = .int .i64 k ∧ RowKit.Hid (∀ j x, j < k → l[j]? = some x → seq x n = false)) (fun i => l.length - (intOf i).toNat)
  case atStart => exact ⟨0, Nat.zero_le _, rfl, Lib.hid fun j x hj => by omega⟩
  case round =>
    obtain ⟨k, hk, rfl, hn⟩ := hrel
    by_cases hlt : k < l.length
    · obtain ⟨x, hx⟩ := some_at hlt
      obtain ⟨g, o, rfl, hc⟩ := hgh.out k x hx
      have hki : (k : Int) < (l.length : Int) := by omega
      have hw : IntKind.i64.wrap ((k : Int) + 1) = (k : Int) + 1 := by rw [IntKind.wrap_i64]; omega
      unfold sv at hc
      have hyes := Lib.hid (fun h => inL_iff.2 (by have := seq_true.1 h; subst this; exact List.mem_of_getElem? hx) : seq x n = true → inL l n = true)
      have hnx := Lib.hid (fun h => (fun j y hj hy => if e : j = k then by subst e; rw [hx] at hy; cases hy; exact h else hn.out j y (by omega) hy) : seq x n = false → ∀ j y, j < k + 1 → l[j]? = some y → seq y n = false)
      clear hx hn
      cases hs : seq x n
      · have hnx2 := Lib.hid (hnx.out hs)
        clear hnx hyes
        go_wp2
        go_round
        case rel => exact ⟨k + 1, by omega, by go_num, Lib.hid hnx2.out⟩
        case measure => simp [intOf]; omega
      · have hy2 := Lib.hid (hyes.out hs)
        clear hnx hyes
        go_wp2
        go_ret
        exact ⟨by rw [hy2.out]; rfl, rfl⟩
    · obtain rfl : k = l.length := by omega
      have hf := Lib.hid (show inL l n = false from by
        cases e : inL l n
        · rfl
        · obtain ⟨j, hj⟩ := List.getElem?_of_mem (inL_iff.1 e)
          exact absurd rfl (seq_false.1 (hn.out j n (List.getElem?_eq_some_iff.1 hj).1 hj)))
      clear hn
      go_wp2
      go_ret
      exact ⟨by rw [hf.out]; rfl, rfl⟩
end Go.Proofs.YtmdepmohfnficaaDoor
