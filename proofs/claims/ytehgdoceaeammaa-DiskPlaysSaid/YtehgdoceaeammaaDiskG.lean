/- The chapter's example; are bytes one. -/
import Derived.Test.YtehgdoceaeammaaDiskF
import Derived.Test.YtehgdoceaeammaaStr
import Derived.Lib.SlBytesConst
namespace Go.Proofs.Ytehgdoceaeammaa
open Go.RowKit Dk

theorem same_any (u v : Value) (a b : List UInt8) (w : World) (ha : Bytes w u a) (hb : Bytes w v b) :
    Calls Try.prog 23 #[u, v] w fun e w' => e = .returned (.bool (seq a b)) ∧ w = w' := by
  have k1 := conv_bytes ha
  have k2 := conv_bytes hb
  obtain ⟨a1, c1, rfl, -⟩ := ha
  obtain ⟨a2, c2, rfl, -⟩ := hb
  go_enter Try.func23, Try.ntmps23
  go_wp2
  go_ret
  exact ⟨rfl, rfl⟩
def rng (a b : World) : Nat → Prop := fun k => a.heap.size ≤ k ∧ k < b.heap.size
/-- a disk that lies in what was made since w0 -/
def DiskN (w0 w : World) (p : Nat) (d : D) : Prop := Ext w0 w ∧ Disk w (fun k => w0.heap.size ≤ k) p d
theorem DiskN.aft {w0 w w' : World} {p : Nat} {d d' : D} (h : DiskN w0 w p d) (a : Aft (fun k => w0.heap.size ≤ k) w w' p d') : DiskN w0 w' p d' :=
  ⟨h.1.chg a.1 fun _ h => h, a.2.mono fun k hk => hk.elim id fun h2 => Nat.le_trans h.1.size h2⟩
theorem DiskN.chg {w0 w w' : World} {p : Nat} {d d' : D} (h : DiskN w0 w p d) (c : Chg (fun k => w0.heap.size ≤ k) w w') (a : Disk w' (fun k => w0.heap.size ≤ k) p d') : DiskN w0 w' p d' := ⟨h.1.chg c fun _ h => h, a⟩
theorem DiskN.ext {w0 w w' : World} {p : Nat} {d : D} (h : DiskN w0 w p d) (e : Ext w w') : DiskN w0 w' p d := ⟨h.1.trans e, h.2.ext e⟩
/-- bytes that were there stay, whatever is done to what was made since -/
theorem DiskN.bytes {w0 w : World} {p : Nat} {d : D} (h : DiskN w0 w p d) {u : Value} {l : List UInt8} (hb : Bytes w0 u l) : ∀ w', Chg (fun k => w0.heap.size ≤ k) w w' → Bytes w' u l := fun _ c => hb.ext (h.1.chg c fun _ h => h)
theorem write_n {w0 w : World} {p : Nat} {d : D} (h : DiskN w0 w p d) (hst : d.st.length ≤ 1048576) (i : Int) (u : Value) (b : List UInt8) (hb : Bytes w0 u b) :
    Calls Try.prog 11 #[.pointer (some ⟨p, 0, none⟩), .int .i64 i, u] w fun e w' => e = .returned (.int .i64 (wrE i b d)) ∧ DiskN w0 w' p (wrB i b d) :=
  (write_any h.2 hst i u b (h.bytes hb)).mono fun _ _ ⟨h1, h2⟩ => ⟨h1, h.aft h2⟩
theorem sync_n {w0 w : World} {p : Nat} {d : D} (h : DiskN w0 w p d) :
    Calls Try.prog 13 #[.pointer (some ⟨p, 0, none⟩)] w fun e w' => e = .returned (.int .i64 (syncE d)) ∧ DiskN w0 w' p (sync d) :=
  (sync_any h.2).mono fun _ _ ⟨h1, h2, h3⟩ => ⟨h1, h.chg h2 h3⟩
theorem crash_n {w0 w : World} {p : Nat} {d : D} (h : DiskN w0 w p d) (u : Value) (b : List UInt8) (hb : Bytes w0 u b) :
    Calls Try.prog 28 #[.pointer (some ⟨p, 0, none⟩), u] w fun e w' => e = .returned (.tuple #[]) ∧ DiskN w0 w' p (crash b d) :=
  (crash_any h.2 u b (h.bytes hb)).mono fun _ _ ⟨h1, h2, h3⟩ => ⟨h1, h.chg h2 h3⟩
theorem drop_n {w0 w : World} {p : Nat} {d : D} (h : DiskN w0 w p d) :
    Calls Try.prog 18 #[.pointer (some ⟨p, 0, none⟩)] w fun e w' => e = .returned (.tuple #[]) ∧ DiskN w0 w' p (drop d) :=
  (drop_any h.2).mono fun _ _ ⟨h1, h2, h3⟩ => ⟨h1, h.chg (h2.mono fun k hk => by rw [hk]; exact h.2.hd) h3⟩
theorem stop_n {w0 w : World} {p : Nat} {d : D} (h : DiskN w0 w p d) (n : Int) (hn1 : -9223372036854775808 ≤ n) (hn2 : n ≤ 9223372036854775807) :
    Calls Try.prog 19 #[.pointer (some ⟨p, 0, none⟩), .int .i64 n] w fun e w' => e = .returned (.tuple #[]) ∧ DiskN w0 w' p (stop n d) :=
  (stop_any h.2 n hn1 hn2).mono fun _ _ ⟨h1, h2, h3⟩ => ⟨h1, h.chg (h2.mono fun k hk => by rw [hk]; exact h.2.hd) h3⟩
theorem faults_n {w0 w : World} {p : Nat} {d : D} (h : DiskN w0 w p d) (v : Value) (l : List Bool) (hl : l.length ≤ 1048576) (hv : Sl bv w v l) :
    Calls Try.prog 21 #[.pointer (some ⟨p, 0, none⟩), v] w fun e w' => e = .returned (.tuple #[]) ∧ DiskN w0 w' p (faults l d) :=
  (faults_any h.2 v l hl hv).mono fun _ _ ⟨h1, h2⟩ => ⟨h1, h.aft h2⟩
theorem new_n (n : Int) {w0 w : World} (e0 : Ext w0 w) :
    Calls Try.prog 10 #[.int .i64 n] w (Ret fun v w' => ∃ p, v = .pointer (some ⟨p, 0, none⟩) ∧ DiskN w0 w' p (mk (clamp n))) :=
  (new_any n w).mono fun _ _ ⟨v, h1, p, h2, h3, h4⟩ => ⟨v, h1, p, h2, e0.trans h4, h3.mono fun _ h => Nat.le_trans e0.size h.1⟩

theorem Bytes.chg {w w' : World} {F : Nat → Prop} {g o n cap : Nat} {l : List UInt8} (h : Bytes w (.slice (some ⟨g, o, none⟩) n cap) l) (c : Chg F w w') (hg : ¬ F g) : Bytes w' (.slice (some ⟨g, o, none⟩) n cap) l := by
  obtain ⟨a, cap', e, h⟩ := h
  simp only [Value.slice.injEq] at e
  obtain ⟨rfl, rfl, rfl⟩ := e
  exact ⟨_, _, rfl, h.le, h.capm, h.none, fun j hj => by
    obtain ⟨g', o', e, hc⟩ := h.cells j hj
    cases e
    exact ⟨g, o, rfl, c.cell hc hg⟩⟩
theorem awake_plain : wrE 0 [97, 98] (mk 2) = 0 ∧ (crash [1] (wrB 0 [97, 98] (mk 2))).n = 2 ∧ (crash [1] (wrB 0 [97, 98] (mk 2))).kept.length = 64 ∧ (crash [1] (wrB 0 [97, 98] (mk 2))).kept.getD 0 0 = 97 ∧ (crash [1] (wrB 0 [97, 98] (mk 2))).kept.getD 1 0 = 0 ∧ (mk 2).st.length = 0 ∧ (mk 2).off = false := by decide +kernel
attribute [local irreducible] crash wrB wrE mk
set_option maxRecDepth 20000 in
set_option maxHeartbeats 1000000 in
theorem awake_any (w : World) :
    Calls Try.prog 9 #[] w fun e w' => e = .returned (.bool true) ∧ Ext w w' := by
  have e0 := Ext.refl w
  obtain ⟨q1, q2, q3, q4, q5, q6, q7⟩ := awake_plain
  have hcv := fun (W : World) (C : Array Value) (n c : Nat) => Lib.run_convert_bytes_const (P := Try.prog) W 22 5 C n c Try.underlying22 Try.underlying5
  go_enter Try.func9, Try.ntmps9
  go_upto_region 2 with (go_at_call 10; refine (new_any 2 w).mono ?_; rintro e w1 ⟨v, rfl, p, rfl, h1, e1⟩)
  have hl1 : Bytes (w1.alloc (.cells #[.int .u8 97, .int .u8 98] 5 (2, 3))) (.slice (some ⟨w1.heap.size, 0, none⟩) 2 2) [97, 98] := Bytes.lit rfl rfl rfl (Nat.le_refl _) (by decide)
  have h2 := h1.ext ((Ext.refl w1).alloc (.cells #[.int .u8 97, .int .u8 98] 5 (2, 3)))
  have hb2 := fun w' (c : Chg (fun k => w.heap.size ≤ k ∧ k < w1.heap.size) _ w') => Bytes.chg hl1 c (fun h => Nat.lt_irrefl _ h.2)
  have hclamp : clamp 2 = 2 := rfl
  rw [hclamp] at h1 h2
  have hon := on_any h1
  rw [q7] at hon
  have hW := write_any h2 (by omega) 0 _ _ hb2
  rw [q1] at hW
  go_upto_region 6 with (first
    | (go_at_call 17; refine hon.mono ?_; rintro e w' ⟨rfl, rfl⟩)
    | (go_at_call 11; refine hW.mono ?_; rintro e w3 ⟨rfl, hc3, h3⟩))
  have hl2 : Bytes (w3.alloc (.cells #[.int .u8 1] 5)) (.slice (some ⟨w3.heap.size, 0, none⟩) 1 1) [1] := Bytes.lit rfl rfl rfl (Nat.le_refl _) (by decide)
  have h4 := h3.bound.ext ((Ext.refl w3).alloc (.cells #[.int .u8 1] 5))
  have hb4 : ∀ w', Chg (fun k => grow (fun k => w.heap.size ≤ k ∧ k < w1.heap.size) (w1.alloc (.cells #[.int .u8 97, .int .u8 98] 5 (2, 3))) k ∧ k < w3.heap.size) (w3.alloc (.cells #[.int .u8 1] 5)) w' → Bytes w' (.slice (some ⟨w3.heap.size, 0, none⟩) 1 1) [1] := fun w' c => Bytes.chg hl2 c (fun h => Nat.lt_irrefl _ h.2)
  have hC := crash_any h4 _ _ hb4
  have e3 : Ext w w3 := (e1.alloc _).chg hc3 fun k hk => hk.1
  clear hon hW hb2 h2 h1 hl1 hc3
  obtain ⟨D2, hD2⟩ : ∃ D2, D2 = crash [1] (wrB 0 [97, 98] (mk 2)) := ⟨_, rfl⟩
  rw [← hD2] at q2 q3 q4 q5 hC
  clear hD2
  go_upto_region 7 with (go_at_call 28; refine hC.mono ?_; rintro e w5 ⟨rfl, hc5, h5⟩)
  have e5 : Ext w w5 := (e3.alloc _).chg hc5 fun k hk => by
    have := e1.size
    have h6 := hk.1
    rcases h6 with h6 | h6
    · exact h6.1
    · exact Nat.le_trans (Nat.le_trans this (by show _ ≤ (w1.heap.push _).size; simp)) h6
  have hBy := bytes_any h5
  have hLe := len_any h5
  clear hC hb4 h4 hl2 hc5
  go_upto_region 8 with (go_at_call 20; refine hBy.mono ?_; rintro e w6 ⟨v6, rfl, hb6, e6⟩)
  have hLe := len_any (h5.ext e6)
  obtain ⟨a6, c6, rfl, hb6⟩ := hb6
  obtain ⟨g, o, rfl, k0⟩ := hb6.get 0 (by omega)
  obtain ⟨g', o', e, k1⟩ := hb6.get 1 (by omega)
  cases e
  rw [q4] at k0
  rw [q5] at k1
  rw [q2] at hLe
  rw [Nat.add_zero] at k0
  have hle6 := hb6.le
  clear hb6 q4 q5
  rw [q3] at hle6 ⊢
  go_wp2_with (go_at_call 22; refine hLe.mono ?_; rintro e w' ⟨rfl, rfl⟩)
  go_ret
  exact ⟨rfl, e5.trans e6⟩
end Go.Proofs.Ytehgdoceaeammaa
