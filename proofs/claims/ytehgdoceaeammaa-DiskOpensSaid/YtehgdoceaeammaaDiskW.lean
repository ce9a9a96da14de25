/- disk.Open. -/
import Derived.Test.YtehgdoceaeammaaDiskR
namespace Go.Proofs.Ytehgdoceaeammaa
open Go.RowKit Dk

def nb (b : List UInt8) : Nat := min (b.length / 32) 512
def opk (b : List UInt8) (k : Nat) : List UInt8 := b.take (32 * k) ++ List.replicate (32 * (nb b - k)) 0
def opn (b : List UInt8) : D := ⟨b.take (32 * nb b), [], [], false, 0⟩
theorem nb_le (b : List UInt8) : nb b ≤ 512 ∧ 32 * nb b ≤ b.length := by unfold nb; omega
theorem clamp_nb (b : List UInt8) : clamp ((b.length : Int) / 32) = nb b := by unfold clamp nb; omega
theorem opk_zero (b : List UInt8) : opk b 0 = (mk (nb b)).kept := by unfold opk mk; simp
theorem opk_len (b : List UInt8) (k : Nat) (hk : k ≤ nb b) : (opk b k).length = 32 * nb b := by
  have := nb_le b
  unfold opk; rw [List.length_append, List.length_take, List.length_replicate]; omega
theorem opk_step (b : List UInt8) (k : Nat) (hk : k < nb b) : opk b (k + 1) = over (opk b k) (k * 32) ((b.drop (k * 32)).take 32) := by
  have hn := nb_le b
  have hl : ((b.drop (k * 32)).take 32).length = 32 := by rw [List.length_take, List.length_drop]; omega
  apply List.ext_getElem?
  intro j
  rw [over_get (by rw [hl, opk_len b k (by omega)]; omega), hl]
  unfold opk
  have l1 : (b.take (32 * (k + 1))).length = 32 * (k + 1) := by rw [List.length_take]; omega
  have l2 : (b.take (32 * k)).length = 32 * k := by rw [List.length_take]; omega
  by_cases h1 : j < 32 * (k + 1)
  · rw [List.getElem?_append_left (by omega), List.getElem?_take, if_pos h1]
    by_cases h2 : k * 32 ≤ j
    · rw [if_pos (by omega), List.getElem?_take, if_pos (by omega), List.getElem?_drop]
      congr 1; omega
    · rw [if_neg (by omega), List.getElem?_append_left (by omega), List.getElem?_take, if_pos (by omega)]
  · rw [List.getElem?_append_right (by omega), l1, if_neg (by omega), List.getElem?_append_right (by omega), l2, List.getElem?_replicate, List.getElem?_replicate]
    by_cases h3 : j < 32 * nb b
    · rw [if_pos (by omega), if_pos (by omega)]
    · rw [if_neg (by omega), if_neg (by omega)]
theorem opk_full (b : List UInt8) : opk b (nb b) = b.take (32 * nb b) := by unfold opk; simp
theorem opn_n (b : List UInt8) : (opn b).n = nb b := by
  have := nb_le b
  unfold D.n opn; simp only [List.length_take]; omega
theorem opn_ok (b : List UInt8) : (opn b).Ok := by
  have := nb_le b
  exact ⟨by rw [opn_n]; unfold opn; simp only [List.length_take]; omega, by rw [opn_n]; omega, fun w hw => by simp [opn] at hw⟩
theorem bytes_from {w : World} {g o n cap : Nat} {l : List UInt8} (h : Bytes w (.slice (some ⟨g, o, none⟩) n cap) l) (k : Nat) (hk : k < l.length) : Bytes w (.slice (some ⟨g, o + k, none⟩) (n - k) (cap - k)) (l.drop k) := by
  obtain ⟨a, cap', e, h⟩ := h
  simp only [Value.slice.injEq] at e
  obtain ⟨rfl, rfl, rfl⟩ := e
  have h1 := h.le
  have h2 := h.capm
  refine Bytes.row (by simp) (by simp; omega) (by omega) fun j hj => ?_
  have hj' : k + j < l.length := by simp at hj; omega
  obtain ⟨g', o', e, hc⟩ := h.cells (k + j) hj'
  cases e
  rw [Nat.add_assoc, hc]
  simp
theorem mk_off (n : Nat) : (mk n).off = false ∧ (mk n).left = 0 ∧ (mk n).st = [] ∧ (mk n).plan = [] := ⟨rfl, rfl, rfl, rfl⟩
theorem opn_to (b : List UInt8) : (opn b).kept = opk b (nb b) ∧ (opn b).st = [] ∧ (opn b).plan = [] ∧ (opn b).off = false ∧ (opn b).left = 0 := ⟨(opk_full b).symm, rfl, rfl, rfl, rfl⟩
attribute [local irreducible] mk over opk opn nb clamp
set_option maxRecDepth 20000 in
set_option maxHeartbeats 1000000 in
theorem open_any (v : Value) (b : List UInt8) (w : World) (hb : Bytes w v b) :
    Calls Try.prog 24 #[v] w (Ret fun u w' => ∃ p, u = .pointer (some ⟨p, 0, none⟩) ∧ Disk w' (fun k => w.heap.size ≤ k ∧ k < w'.heap.size) p (opn b) ∧ Ext w w') := by
  have e0 := Ext.refl w
  have hb0 := hb
  obtain ⟨a, cap, rfl, hb⟩ := hb
  have hbl := hb.len
  have hcl := hb.le
  have hbh := Lib.hid hb
  clear hb
  have hq : IntKind.i64.wrap ((b.length : Int) / 32) = (b.length : Int) / 32 := by rw [IntKind.wrap_i64]; omega
  have hN := new_any ((b.length : Int) / 32) w
  rw [clamp_nb] at hN
  go_enter Try.func24, Try.ntmps24
  go_upto_region 2 with (go_at_call 10; refine hN.mono ?_; rintro e w1 ⟨v1, rfl, p, rfl, h1, e1⟩)
  obtain ⟨gk, s, u, z, h1, h2, h3, r1, r2, r3, rok⟩ := h1
  obtain ⟨m1, m2, m3, m4⟩ := mk_off (nb b)
  rw [mk_n, m1] at h1
  have hz := opk_zero b
  have hnb := nb_le b
  generalize hM : nb b = M at *
  have hL0 : Lay w1 (fun k => w.heap.size ≤ k ∧ k < w1.heap.size) p gk M s u false z (mk M) (opk b 0) := ⟨h1, by rw [hz]; exact h3⟩
  obtain ⟨c0, -⟩ := hdr_cells h1
  have hL0h := Lib.hid hL0
  have hrest := Lib.hid (And.intro r1 (And.intro r2 r3))
  have hMh := Lib.hid hM
  have e11 := Chg.refl (fun k => w.heap.size ≤ k ∧ k < w1.heap.size) w1
  have m1h := Lib.hid (And.intro m1 (And.intro m2 (And.intro m3 m4)))
  have h2' := h3.fk
  clear hL0 r1 r2 r3 rok hN h1 h3 hz hM m1 m2 m3 m4
  go_wp2
  go_loopw [14] (fun i wr => ∃ k : Nat, k ≤ M ∧ i = .int .i64 (k : Int) ∧ Lay wr (fun k => w.heap.size ≤ k ∧ k < w1.heap.size) p gk M s u false z (mk M) (opk b k) ∧ Chg (fun k => w.heap.size ≤ k ∧ k < w1.heap.size) w1 wr) (fun i _ => M - (intOf i).toNat)
  case atStart => exact ⟨0, Nat.zero_le _, rfl, hL0h.out, e11⟩
  case round =>
    clear e11 c0
    obtain ⟨k, hk, rfl, hL, ek⟩ := hrel
    by_cases hlt : k < M
    · have hki : (k : Int) < (M : Int) := by omega
      obtain ⟨c0, -⟩ := hdr_cells hL.head
      obtain ⟨cur, hkk, hcur⟩ := hL.parts.kept
      have hbw : Bytes wr (.slice a b.length cap) b := hb0.ext (e1.chg ek fun k h => h.1)
      obtain ⟨a', cap', e, hat⟩ := hbw
      simp only [Value.slice.injEq] at e
      obtain ⟨rfl, -, rfl⟩ := e
      obtain ⟨gb, ob, rfl, -⟩ := hat.get (k * 32) (by omega)
      have hB := bytes_from ⟨_, _, rfl, hat⟩ (k * 32) (by omega)
      have hst := Lib.hid (opk_step b k (by rw [hMh.out]; exact hlt))
      have hcs := Lib.hid (show cur.size = 32 * M by rw [← Array.length_toList, hcur, List.length_map]; exact (opk_len b k (by rw [hMh.out]; omega)).trans (by rw [hMh.out]))
      have hcurh := Lib.hid hcur
      have hkkh := Lib.hid hkk
      have hLh := Lib.hid hL
      have hFk := Lib.hid hL.parts.fk
      have hBh := Lib.hid (hB.ext (Ext.refl _).drew)
      have hne0 : ¬ p = gk := apart hL.head hkk (by decide)
      have t1 : IntKind.i64.wrap ((k : Int) * 32) = (k : Int) * 32 := by rw [IntKind.wrap_i64]; omega
      have t2 : (0 : Int) ≤ (k : Int) * 32 := by omega
      have t3 : (k : Int) * 32 ≤ (b.length : Int) := by omega
      have t4 : ((k : Int) * 32).toNat = k * 32 := by omega
      have t5 : ¬ cap = k * 32 := by omega
      clear hL hkk hcur hat hB
      go_upto_region 5 with fail
      go_region_held3 (fun W => W.cell? ⟨p, 0, none⟩ = some (.slice (some ⟨gk, 0, none⟩) M M))
        ((first | exact c0 | exact f0))
        (first
          | (refine step_copyB rfl (.tmp 23) (.tmp 27) rfl gk (k * 32) 32 32 rfl cur 63 hkkh.out (.slice (some ⟨gb, ob + k * 32, none⟩) (b.length - k * 32) (cap - k * 32)) (b.drop (k * 32)) rfl hBh.out (by have := hcs.out; omega) ?_; intro w3 g1 g2; have f0 := g2.cell c0 hne0))
      go_wp2
      go_roundw
      case rel =>
        have hcc : (cur.toList.take (k * 32) ++ ((b.drop (k * 32)).take 32).map u8v ++ cur.toList.drop (k * 32 + ((b.drop (k * 32)).take 32).length)).toArray.toList = (opk b (k + 1)).map u8v := by
          rw [List.toList_toArray, hst.out]; exact splice_cells hcurh.out _
        exact ⟨k + 1, by omega, by go_num, hLh.out.put (Chg.trans ((Chg.refl _ _).drew) g2) g1 hcc, ek.trans ((Chg.trans ((Chg.refl _ _).drew) g2).mono fun j hj => by rw [hj]; exact hFk.out)⟩
      case measure => simp [intOf]; omega
    · obtain rfl : k = M := by omega
      go_wp2
      go_ret
      obtain ⟨q1, q2, q3, q4, q5⟩ := opn_to b
      obtain ⟨m1, m2, m3, m4⟩ := m1h.out
      rw [hMh.out] at q1
      have hn := opn_n b
      rw [hMh.out] at hn
      refine Ret.mk ⟨p, rfl, ⟨gk, s, u, z, by rw [hn, q4]; exact hL.head, ⟨h2.1, by have := h2.2; have := ek.size; omega⟩, ⟨?_, ⟨h2'.1, by have := h2'.2; have := ek.size; omega⟩, ?_, ?_⟩, by rw [q5, ← m2]; exact hrest.out.1, hrest.out.2.1, hrest.out.2.2, opn_ok b⟩, e1.chg ek fun k h => h.1⟩
      · rw [q1]; exact hL.parts.kept
      · have := hL.parts.st
        rw [q2]
        rw [show ({ mk k with kept := opk b k } : D).st = [] from m3] at this
        exact this.mono fun j hj => ⟨hj.1, by have := hj.2; have := ek.size; omega⟩
      · have := hL.parts.plan
        rw [q3]
        rw [show ({ mk k with kept := opk b k } : D).plan = [] from m4] at this
        exact this.mono fun j hj => ⟨hj.1, by have := hj.2; have := ek.size; omega⟩
end Go.Proofs.Ytehgdoceaeammaa
