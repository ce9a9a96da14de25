/- Heads of the log, plain: their eight bytes, and what a torn one tells. -/
import Derived.Test.YtkdmljijgfejpaaDoorFrMath
import Derived.Test.YtkdmljijgfejpaaDoorGCr
import Derived.Test.YtkdmljijgfejpaaDoorDiskMath
namespace Go.Proofs.YtkdmljijgfejpaaDoor
set_option linter.unusedVariables false
set_option linter.unusedSimpArgs false

namespace Wl
open Fr
theorem four_surj (a b c d : UInt8) : ∃ r, [a, b, c, d] = Crc.four r := by
  have ha := a.toNat_lt
  have hb := b.toNat_lt
  have hc := c.toNat_lt
  have hd := d.toNat_lt
  refine ⟨BitVec.ofNat 32 (a.toNat + 256 * b.toNat + 65536 * c.toNat + 16777216 * d.toNat), ?_⟩
  have hN : (BitVec.ofNat 32 (a.toNat + 256 * b.toNat + 65536 * c.toNat + 16777216 * d.toNat)).toNat = a.toNat + 256 * b.toNat + 65536 * c.toNat + 16777216 * d.toNat := by
    rw [BitVec.toNat_ofNat]; omega
  have key : ∀ r : BitVec 32, (Crc.byteOf r).toNat = r.toNat % 256 := fun r => by
    show (r.setWidth 8).toNat = _
    rw [BitVec.toNat_setWidth]
  unfold Crc.four
  congr 1
  · apply UInt8.toNat_inj.1; rw [key, hN]; omega
  · congr 1
    · apply UInt8.toNat_inj.1; rw [key, BitVec.toNat_ushiftRight, hN, Nat.shiftRight_eq_div_pow]; omega
    · congr 1
      · apply UInt8.toNat_inj.1; rw [key, BitVec.toNat_ushiftRight, hN, Nat.shiftRight_eq_div_pow]; omega
      · congr 1
        apply UInt8.toNat_inj.1; rw [key, BitVec.toNat_ushiftRight, hN, Nat.shiftRight_eq_div_pow]; omega
theorem list4 {l : List UInt8} (h : l.length = 4) : ∃ a b c d, l = [a, b, c, d] := by
  match l, h with
  | [a, b, c, d], _ => exact ⟨a, b, c, d, rfl⟩
theorem sum_inj4 {x y : List UInt8} (hx : x.length = 4) (hy : y.length = 4) (h : Crc.sum x = Crc.sum y) : x = y := by
  obtain ⟨a, b, c, d, rfl⟩ := list4 hx
  obtain ⟨a', b', c', d', rfl⟩ := list4 hy
  obtain ⟨r, hr⟩ := four_surj a b c d
  obtain ⟨s, hs⟩ := four_surj a' b' c' d'
  rw [hr, hs] at h ⊢
  unfold Crc.sum Crc.more at h
  rw [Crc.run_four, Crc.run_four] at h
  have h0 : Crc.pw 32 (~~~ (0#32) ^^^ r) = Crc.pw 32 (~~~ (0#32) ^^^ s) := by
    rw [← BitVec.not_not (b := Crc.pw 32 (~~~ (0#32) ^^^ r)), h, BitVec.not_not]
  have h1 := Crc.pw_inj 32 h0
  have h3 : r = s := by
    have e : ∀ x : BitVec 32, ~~~ (0#32) ^^^ (~~~ (0#32) ^^^ x) = x := fun x => by rw [← BitVec.xor_assoc, BitVec.xor_self, BitVec.zero_xor]
    have h4 : ~~~ (0#32) ^^^ (~~~ (0#32) ^^^ r) = ~~~ (0#32) ^^^ (~~~ (0#32) ^^^ s) := by rw [h1]
    rwa [e, e] at h4
  rw [h3]
theorem sum4_inj {s t : BitVec 32} (h : sum4 s = sum4 t) : s = t := by
  unfold sum4 at h
  simp only [List.cons.injEq, and_true] at h
  obtain ⟨h1, h2, h3, h4⟩ := h
  have k : ∀ {m n : Nat}, b8 m = b8 n → m % 256 = n % 256 := fun e => by rw [← b8_toNat, ← b8_toNat, e]
  have k1 := k h1; have k2 := k h2; have k3 := k h3; have k4 := k h4
  simp only [BitVec.toNat_ushiftRight, Nat.shiftRight_eq_div_pow] at k1 k2 k3 k4
  apply BitVec.eq_of_toNat_eq
  have := s.isLt
  have := t.isLt
  omega
/-- a word behind its sum -/
def vd (w : List UInt8) : List UInt8 := sum4 (Crc.sum w) ++ w
def Vd (b : List UInt8) : Prop := ∃ w, w.length = 4 ∧ b = vd w
def Zr (b : List UInt8) : Prop := b = List.replicate 8 0
theorem vd_length {w : List UInt8} (h : w.length = 4) : (vd w).length = 8 := by simp [vd, sum4_length, h]
theorem Vd.length {b : List UInt8} (h : Vd b) : b.length = 8 := let ⟨_, h1, h2⟩ := h; by rw [h2, vd_length h1]
theorem Zr.length {b : List UInt8} (h : Zr b) : b.length = 8 := by rw [h]; rfl
theorem vd_take (w : List UInt8) : (vd w).take 4 = sum4 (Crc.sum w) := rfl
theorem vd_drop (w : List UInt8) : (vd w).drop 4 = w := rfl
theorem vd_zero : vd [0, 0, 0, 0] = [72, 103, 75, 199, 0, 0, 0, 0] := by decide +kernel
theorem Zr.not_vd {b : List UInt8} (h : Zr b) : ¬ Vd b := by
  rintro ⟨w, hw, e⟩
  rw [h] at e
  have h1 := congrArg (List.drop 4) e
  rw [vd_drop] at h1
  have : w = [0, 0, 0, 0] := h1.symm
  subst this
  rw [vd_zero] at e
  exact absurd e (by decide)
/-- a torn head tells nothing, or what was there, or it is whole -/
theorem torn {w B : List UInt8} (n : Nat) (hw : w.length = 4) (hB : Vd B ∨ Zr B) (h : Vd ((vd w).take n ++ B.drop n)) : (vd w).take n ++ B.drop n = vd w ∨ (vd w).take n ++ B.drop n = B := by
  have hBl : B.length = 8 := by rcases hB with h | h; exact h.length; exact h.length
  have hl := vd_length hw
  obtain ⟨m, hm, e⟩ := h
  by_cases h4 : 4 ≤ n
  · left
    have h1 := congrArg (List.take 4) e
    rw [vd_take, List.take_append, List.take_take, Nat.min_eq_left h4, vd_take, List.length_take, hl] at h1
    have h2 : (List.drop n B).take (4 - min n 8) = [] := by rw [show 4 - min n 8 = 0 by omega, List.take_zero]
    rw [h2, List.append_nil] at h1
    rw [e, sum_inj4 hw hm (sum4_inj h1)]
  · right
    have h1 := congrArg (List.drop 4) e
    rw [vd_drop, List.drop_append, List.drop_of_length_le (by rw [List.length_take]; omega), List.nil_append, List.length_take, hl, List.drop_drop, Nat.min_eq_left (by omega), show n + (4 - n) = 4 by omega] at h1
    rcases hB with ⟨v, hv, rfl⟩ | hz
    · rw [vd_drop] at h1
      rw [e, ← h1]
    · have hm0 : m = [0, 0, 0, 0] := by rw [← h1, hz]; rfl
      have h3 : (List.take n (vd w) ++ List.drop n B)[3]? = (vd m)[3]? := by rw [e]
      rw [hm0, vd_zero, List.getElem?_append_right (by rw [List.length_take]; omega), List.length_take, hl, Nat.min_eq_left (by omega), List.getElem?_drop, show n + (3 - n) = 3 by omega, hz] at h3
      exact absurd h3 (by decide)

/-! ### words -/
def be4 (n : Nat) : List UInt8 := [b8 (n / 16777216), b8 (n / 65536), b8 (n / 256), b8 n]
theorem be4_length (n : Nat) : (be4 n).length = 4 := rfl
structure H where
  gen : Nat
  area : Nat
  used : Nat
def H.zero : H := ⟨0, 0, 0⟩
def wd (h : H) : Nat := h.gen * 16384 + h.area * 8192 + h.used
structure H.Fine (h : H) : Prop where
  gen : h.gen < 262144
  area : h.area < 2
  used : h.used < 8192
theorem H.Fine.wd {h : H} (f : h.Fine) : wd h < 4294967296 := by
  have := f.gen; have := f.area; have := f.used; unfold Wl.wd; omega
/-- a head's eight bytes -/
def hb (h : H) : List UInt8 := vd (be4 (wd h))
theorem hb_length (h : H) : (hb h).length = 8 := vd_length rfl
theorem hb_vd (h : H) : Vd (hb h) := ⟨_, rfl, rfl⟩
def nOf (b : List UInt8) : Nat := at0 b 4 * 16777216 + at0 b 5 * 65536 + at0 b 6 * 256 + at0 b 7
def hOf (b : List UInt8) : H := ⟨nOf b / 16384, nOf b / 8192 % 2, nOf b % 8192⟩
theorem nOf_lt (b : List UInt8) : nOf b < 4294967296 := by
  unfold nOf at0
  have := (b.getD 4 0).toNat_lt
  have := (b.getD 5 0).toNat_lt
  have := (b.getD 6 0).toNat_lt
  have := (b.getD 7 0).toNat_lt
  omega
theorem hOf_fine (b : List UInt8) : (hOf b).Fine := by
  have := nOf_lt b
  exact ⟨by show nOf b / 16384 < _; omega, by show nOf b / 8192 % 2 < _; omega, by show nOf b % 8192 < _; omega⟩
theorem nOf_vd (k : Nat) (hk : k < 4294967296) (t : List UInt8) : nOf (vd (be4 k) ++ t) = k := by
  have e : vd (be4 k) ++ t = b8 (Crc.sum (be4 k) >>> 24).toNat :: b8 (Crc.sum (be4 k) >>> 16).toNat :: b8 (Crc.sum (be4 k) >>> 8).toNat :: b8 (Crc.sum (be4 k)).toNat :: b8 (k / 16777216) :: b8 (k / 65536) :: b8 (k / 256) :: b8 k :: t := rfl
  rw [e]
  unfold nOf at0
  simp only [List.getD_cons_succ, List.getD_cons_zero, b8_toNat]
  omega
theorem H.ext' {a b : H} (h1 : a.gen = b.gen) (h2 : a.area = b.area) (h3 : a.used = b.used) : a = b := by
  obtain ⟨_, _, _⟩ := a; obtain ⟨_, _, _⟩ := b; simp_all
theorem hOf_hb {h : H} (f : h.Fine) (t : List UInt8) : hOf (hb h ++ t) = h := by
  have hn : nOf (hb h ++ t) = wd h := nOf_vd _ f.wd t
  have := f.gen; have := f.area; have := f.used
  unfold wd at hn
  refine H.ext' ?_ ?_ ?_
  · show nOf _ / 16384 = _; omega
  · show nOf _ / 8192 % 2 = _; omega
  · show nOf _ % 8192 = _; omega
theorem nOf_take {b : List UInt8} (k : Nat) (h : 8 ≤ k) : nOf (b.take k) = nOf b := by
  unfold nOf at0
  simp only [List.getD_eq_getElem?_getD, List.getElem?_take, if_pos (show 4 < k by omega), if_pos (show 5 < k by omega), if_pos (show 6 < k by omega), if_pos (show 7 < k by omega)]
theorem hOf_take {b : List UInt8} (k : Nat) (h : 8 ≤ k) : hOf (b.take k) = hOf b := by unfold hOf; rw [nOf_take k h]
/-- is it a head? -/
def isHead (room i : Nat) (b : List UInt8) : Bool := (hb (hOf b) == b.take 8) && (((hOf b).gen % 2 == i) && decide ((hOf b).used ≤ room))
theorem isHead_iff {room i : Nat} {b : List UInt8} : isHead room i b = true ↔ hb (hOf b) = b.take 8 ∧ (hOf b).gen % 2 = i ∧ (hOf b).used ≤ room := by
  unfold isHead
  rw [Bool.and_eq_true, Bool.and_eq_true, beq_iff_eq, beq_iff_eq, decide_eq_true_iff]
theorem isHead_vd {room i : Nat} {b : List UInt8} (h : isHead room i b = true) : Vd (b.take 8) := by
  rw [← (isHead_iff.1 h).1]; exact hb_vd _
theorem isHead_hb {room : Nat} {h : H} (f : h.Fine) (hu : h.used ≤ room) {b : List UInt8} (hB : b.take 8 = hb h) : isHead room (h.gen % 2) b = true ∧ hOf b = h := by
  have e : hOf b = h := by rw [← hOf_take 8 (Nat.le_refl _), hB]; have := hOf_hb f []; rwa [List.append_nil] at this
  exact ⟨isHead_iff.2 ⟨by rw [e, hB], by rw [e], by rw [e]; exact hu⟩, e⟩
/-- which head counts -/
def pickH (room : Nat) (b0 b1 : List UInt8) : H :=
  let h0 := if isHead room 0 b0 then hOf b0 else H.zero
  if isHead room 1 b1 && decide (h0.gen ≤ (hOf b1).gen) then hOf b1 else h0
end Wl
end Go.Proofs.YtkdmljijgfejpaaDoor


namespace Go.Proofs.YtkdmljijgfejpaaDoor
set_option linter.unusedVariables false
set_option linter.unusedSimpArgs false

namespace Wl
open Fr Dk

/-! ### bytes of laid blocks -/
theorem lay_get {K : List UInt8} {st : List (Nat × List UInt8)} {n : Nat} (hK : K.length = 32 * n) (hs : ∀ w ∈ st, w.1 < n ∧ w.2.length = 32) (cut : Nat → Nat) (hc : ∀ i, cut i ≤ 32) {x : Nat} {v : UInt8} (hx : K[x]? = some v)
    (hv : ∀ w ∈ st, 32 * w.1 ≤ x → x < 32 * w.1 + 32 → w.2[x - 32 * w.1]? = some v) : ∀ k, k ≤ st.length → (lay K st cut k)[x]? = some v
  | 0, _ => hx
  | k + 1, hk => by
    have ih := lay_get hK hs cut hc hx hv k (by omega)
    have hl := lay_length hK hs cut hc k (by omega)
    have hm : st.getD k (0, []) ∈ st := by
      rw [List.getD_eq_getElem?_getD, List.getElem?_eq_getElem (by omega)]; exact List.getElem_mem _
    obtain ⟨h1, h2⟩ := hs _ hm
    have h3 := hv _ hm
    have hck := hc k
    show (over (lay K st cut k) (32 * (st.getD k (0, [])).1) ((st.getD k (0, [])).2.take (cut k)))[x]? = _
    generalize st.getD k (0, []) = w at *
    rw [over_get (by rw [List.length_take, h2, hl]; omega), List.length_take, h2]
    split
    · rw [List.getElem?_take, if_pos (by omega)]
      exact h3 (by omega) (by omega)
    · exact ih
theorem lay_full {K : List UInt8} {st : List (Nat × List UInt8)} {n : Nat} (hK : K.length = 32 * n) (hs : ∀ w ∈ st, w.1 < n ∧ w.2.length = 32) {x : Nat} {v : UInt8}
    (hv : ∀ w ∈ st, 32 * w.1 ≤ x → x < 32 * w.1 + 32 → w.2[x - 32 * w.1]? = some v) : ∀ k, k ≤ st.length → (∃ j, j < k ∧ ∃ w, st[j]? = some w ∧ 32 * w.1 ≤ x ∧ x < 32 * w.1 + 32) → (lay K st (fun _ => 32) k)[x]? = some v
  | 0, _, h => by obtain ⟨j, h1, _⟩ := h; omega
  | k + 1, hk, h => by
    have hl := lay_length hK hs (fun _ => 32) (fun _ => Nat.le_refl _) k (by omega)
    have hg : st[k]? = some (st.getD k (0, [])) := by
      rw [List.getD_eq_getElem?_getD, List.getElem?_eq_getElem (by omega)]; rfl
    have hm : st.getD k (0, []) ∈ st := List.mem_of_getElem? hg
    obtain ⟨h1, h2⟩ := hs _ hm
    have h3 := hv _ hm
    obtain ⟨j, hj, w', hw, hx1, hx2⟩ := h
    have ih := lay_full hK hs hv k (by omega)
    show (over (lay K st (fun _ => 32) k) (32 * (st.getD k (0, [])).1) ((st.getD k (0, [])).2.take 32))[x]? = _
    rw [over_get (by rw [List.length_take, h2, hl]; omega), List.length_take, h2]
    by_cases hc : 32 * (st.getD k (0, [])).1 ≤ x ∧ x < 32 * (st.getD k (0, [])).1 + min 32 32
    · rw [if_pos hc, List.getElem?_take, if_pos (by omega)]
      exact h3 hc.1 (by omega)
    · rw [if_neg hc]
      refine ih ⟨j, ?_, w', hw, hx1, hx2⟩
      rcases Nat.lt_or_ge j k with h | h
      · exact h
      · obtain rfl : j = k := by omega
        rw [hg] at hw
        have := Option.some.inj hw
        rw [this] at hc
        omega

/-! ### calls of the disk -/
inductive C where
  | wr (i : Nat) (b : List UInt8)
  | sy
def cE : C → D → Int
  | .wr i b, d => wrE i b d
  | .sy, d => syncE d
def cD : C → D → D
  | .wr i b, d => wrB i b d
  | .sy, d => sync d
def run : List C → D → Bool × D
  | [], d => (true, d)
  | c :: cs, d => if cE c d = 0 then run cs (cD c d) else (false, drop (cD c d))
def C.ok (n : Nat) : C → Prop
  | .wr i b => i < n ∧ b.length ≤ 32
  | .sy => True
/-- what is kept, and staged, behind calls that do not fail -/
def eff : C → List UInt8 × List (Nat × List UInt8) → List UInt8 × List (Nat × List UInt8)
  | .wr i b, (K, st) => (K, st ++ [(i, pad b)])
  | .sy, (K, st) => (lay K st (fun _ => 32) st.length, [])
def effs (cs : List C) (e : List UInt8 × List (Nat × List UInt8)) : List UInt8 × List (Nat × List UInt8) := cs.foldl (fun e c => eff c e) e
def D.e (d : D) : List UInt8 × List (Nat × List UInt8) := (d.kept, d.st)
theorem c_good {c : C} {d : D} (hc : c.ok d.n) (hf : fl d = false) : cE c d = 0 ∧ D.e (cD c d) = eff c (D.e d) ∧ (cD c d).off = (after d).off ∧ (cD c d).left = (after d).left ∧ (cD c d).plan = (after d).plan := by
  cases c with
  | wr i b =>
    obtain ⟨h1, h2⟩ := hc
    have hh : has d (i : Int) = true := by simp [has]; omega
    refine ⟨?_, ?_⟩
    · show wrE _ _ _ = 0
      unfold wrE
      rw [hh, if_neg (by simp), if_neg (by omega), hf]; simp
    · have e : cD (.wr i b) d = { after d with st := d.st ++ [(i, pad b)] } := by
        show wrB _ _ _ = _
        unfold wrB
        rw [hh, if_neg (by simp), if_neg (by omega), hf]; simp
      rw [e]
      refine ⟨?_, rfl, rfl, rfl⟩
      show ((after d).kept, _) = _
      rw [after_kept]; rfl
  | sy =>
    refine ⟨?_, ?_⟩
    · show syncE d = 0
      unfold syncE; rw [hf]; rfl
    · have e : cD .sy d = { after d with kept := lay d.kept d.st (fun _ => 32) d.st.length, st := [] } := by
        show sync d = _
        unfold sync; rw [hf]; rfl
      rw [e]
      exact ⟨rfl, rfl, rfl, rfl⟩
theorem c_bad {c : C} {d : D} (hc : c.ok d.n) (hf : fl d = true) : cE c d = 21 ∧ cD c d = after d := by
  cases c with
  | wr i b =>
    obtain ⟨h1, h2⟩ := hc
    have hh : has d (i : Int) = true := by simp [has]; omega
    refine ⟨?_, ?_⟩
    · show wrE _ _ _ = 21
      unfold wrE
      rw [hh, if_neg (by simp), if_neg (by omega), hf]; simp
    · show wrB _ _ _ = _
      unfold wrB
      rw [hh, if_neg (by simp), if_neg (by omega), hf]; simp
  | sy =>
    refine ⟨?_, ?_⟩
    · show syncE d = 21
      unfold syncE; rw [hf]; rfl
    · show sync d = _
      unfold sync; rw [hf]; rfl
theorem D.n_of {d d' : D} (h : d'.kept.length = d.kept.length) : d'.n = d.n := by unfold D.n; rw [h]
theorem c_ok {c : C} {d : D} (h : d.Ok) : (cD c d).Ok := by
  cases c with
  | wr i b => exact write_ok _ _ h
  | sy => exact sync_ok h
theorem sync_len {d : D} (h : d.Ok) : (sync d).kept.length = d.kept.length := by
  unfold sync
  split
  · rw [after_kept]
  · show (lay _ _ _ _).length = _
    rw [lay_length h.len h.at_ _ (fun _ => Nat.le_refl _) _ (Nat.le_refl _), h.len]
theorem c_n {c : C} {d : D} (h : d.Ok) : (cD c d).n = d.n := by
  cases c with
  | wr i b =>
    refine D.n_of ?_
    show (wrB _ _ _).kept.length = _
    unfold wrB
    split
    · rfl
    · split
      · rfl
      · split
        · rw [after_kept]
        · show (after d).kept.length = _
          rw [after_kept]
  | sy => exact D.n_of (sync_len h)
theorem run_ok : ∀ (cs : List C) {d : D}, d.Ok → (run cs d).2.Ok
  | [], _, h => h
  | c :: cs, d, h => by
    show (if cE c d = 0 then _ else _ : Bool × D).2.Ok
    split
    · exact run_ok cs (c_ok (c := c) h)
    · exact drop_ok (c_ok (c := c) h)
theorem run_n : ∀ (cs : List C) {d : D}, d.Ok → (run cs d).2.n = d.n
  | [], _, h => rfl
  | c :: cs, d, h => by
    show (if cE c d = 0 then _ else _ : Bool × D).2.n = _
    split
    · rw [run_n cs (c_ok (c := c) h), c_n h]
    · refine (D.n_of ?_).trans (c_n (c := c) h)
      show (drop (cD c d)).kept.length = _
      unfold drop; split <;> rfl
/-- calls of a disk that stops behind s of them (s = 0: it is off) -/
theorem run_stop : ∀ (cs : List C) (s : Nat) {d : D}, d.Ok → (∀ c ∈ cs, c.ok d.n) → d.plan = [] → (s = 0 ∧ d.off = true ∨ 0 < s ∧ d.off = false ∧ d.left = s) →
    (run cs d).1 = decide (cs.length ≤ s) ∧ D.e (run cs d).2 = effs (cs.take s) (D.e d)
  | [], s, d, _, _, _, _ => ⟨(decide_eq_true (Nat.zero_le _)).symm, by simp [run, effs]⟩
  | c :: cs, s, d, hok, hcs, hp, h => by
    have hc := hcs c (List.mem_cons_self ..)
    rcases h with ⟨rfl, ho⟩ | ⟨hs, ho, hl⟩
    · have hf : fl d = true := by unfold fl; rw [ho]; rfl
      obtain ⟨h1, h2⟩ := c_bad hc hf
      have e : run (c :: cs) d = (false, drop (cD c d)) := by
        show (if cE c d = 0 then _ else _ : Bool × D) = _
        rw [h1]; rfl
      have ea : after d = d := by unfold after; rw [ho]; rfl
      rw [e, h2, ea]
      refine ⟨by rw [decide_eq_false (by simp)], ?_⟩
      show D.e (drop d) = _
      unfold drop; rw [ho]; rfl
    · have hf : fl d = false := by unfold fl; rw [ho, hp]; rfl
      obtain ⟨h1, h2, h3, h4, h5⟩ := c_good hc hf
      have e : run (c :: cs) d = run cs (cD c d) := by
        show (if cE c d = 0 then _ else _ : Bool × D) = _
        rw [h1]; rfl
      have ea : after d = { d with off := d.left == 1, left := d.left - 1, plan := d.plan.tail } := by unfold after; rw [ho]; rfl
      rw [ea] at h3 h4 h5
      have ih := run_stop cs (s - 1) (c_ok (c := c) hok) (fun c' hc' => by rw [c_n hok]; exact hcs c' (List.mem_cons_of_mem _ hc')) (by rw [h5, hp]; rfl) (by
        rw [h3, h4, hl]
        by_cases h1 : s = 1
        · left; subst h1; exact ⟨rfl, rfl⟩
        · right; exact ⟨by omega, by simpa using h1, rfl⟩)
      rw [e]
      refine ⟨ih.1.trans ?_, ?_⟩
      · rw [List.length_cons]
        by_cases hh : cs.length ≤ s - 1
        · rw [decide_eq_true hh, decide_eq_true (by omega)]
        · rw [decide_eq_false hh, decide_eq_false (by omega)]
      · rw [ih.2, h2]
        obtain ⟨s', rfl⟩ : ∃ s', s = s' + 1 := ⟨s - 1, by omega⟩
        rw [List.take_succ_cons]; rfl
/-- calls of a disk that does not stop, and of which the k-th fails (or none) -/
theorem run_plan : ∀ (cs : List C) (k : Nat) {d : D}, d.Ok → (∀ c ∈ cs, c.ok d.n) → d.plan = List.replicate k false ++ [true] → d.off = false → d.left = 0 →
    (run cs d).1 = decide (cs.length ≤ k) ∧ (run cs d).2.off = false ∧ (run cs d).2.left = 0 ∧ (run cs d).2.kept = (effs (cs.take k) (D.e d)).1 ∧ (run cs d).2.st = if cs.length ≤ k then (effs cs (D.e d)).2 else []
  | [], k, d, _, _, _, ho, hl => ⟨(decide_eq_true (Nat.zero_le _)).symm, ho, hl, by simp [run, effs, D.e], by simp [run, effs, D.e]⟩
  | c :: cs, k, d, hok, hcs, hp, ho, hl => by
    have hc := hcs c (List.mem_cons_self ..)
    have ea : after d = { d with off := d.left == 1, left := d.left - 1, plan := d.plan.tail } := by unfold after; rw [ho]; rfl
    cases k with
    | zero =>
      have hf : fl d = true := by unfold fl; rw [ho, hp]; rfl
      obtain ⟨h1, h2⟩ := c_bad hc hf
      have e : run (c :: cs) d = (false, drop (cD c d)) := by
        show (if cE c d = 0 then _ else _ : Bool × D) = _
        rw [h1]; rfl
      have ed : drop (cD c d) = { after d with st := [] } := by
        rw [h2, ea, hl]; rfl
      rw [e]
      refine ⟨by rw [decide_eq_false (by simp)], ?_⟩
      show (drop (cD c d)).off = false ∧ (drop (cD c d)).left = 0 ∧ (drop (cD c d)).kept = _ ∧ (drop (cD c d)).st = _
      rw [ed, ea, hl, if_neg (by simp)]
      exact ⟨rfl, rfl, rfl, rfl⟩
    | succ k =>
      have hf : fl d = false := by unfold fl; rw [ho, hp]; rfl
      obtain ⟨h1, h2, h3, h4, h5⟩ := c_good hc hf
      have e : run (c :: cs) d = run cs (cD c d) := by
        show (if cE c d = 0 then _ else _ : Bool × D) = _
        rw [h1]; rfl
      rw [ea] at h3 h4 h5
      obtain ⟨i1, i2, i3, i4, i5⟩ := run_plan cs k (c_ok (c := c) hok) (fun c' hc' => by rw [c_n hok]; exact hcs c' (List.mem_cons_of_mem _ hc')) (by rw [h5, hp]; rfl) (by rw [h3, hl]; rfl) (by rw [h4, hl])
      rw [e]
      refine ⟨i1.trans ?_, i2, i3, ?_, ?_⟩
      · rw [List.length_cons]
        by_cases hh : cs.length ≤ k
        · rw [decide_eq_true hh, decide_eq_true (by omega)]
        · rw [decide_eq_false hh, decide_eq_false (by omega)]
      · rw [i4, h2, List.take_succ_cons]; rfl
      · rw [i5, h2, List.length_cons]
        by_cases hh : cs.length ≤ k
        · rw [if_pos hh, if_pos (by omega)]; rfl
        · rw [if_neg hh, if_neg (by omega)]
/-- calls of a disk that is calm -/
theorem run_calm : ∀ (cs : List C) {d : D}, d.Ok → (∀ c ∈ cs, c.ok d.n) → d.plan = [] → d.off = false → d.left = 0 →
    (run cs d).1 = true ∧ (run cs d).2 = ⟨(effs cs (D.e d)).1, (effs cs (D.e d)).2, [], false, 0⟩
  | [], d, _, _, hp, ho, hl => ⟨rfl, by obtain ⟨_, _, _, _, _⟩ := d; simp only at hp ho hl; subst hp ho hl; rfl⟩
  | c :: cs, d, hok, hcs, hp, ho, hl => by
    have hc := hcs c (List.mem_cons_self ..)
    have ea : after d = { d with off := d.left == 1, left := d.left - 1, plan := d.plan.tail } := by unfold after; rw [ho]; rfl
    have hf : fl d = false := by unfold fl; rw [ho, hp]; rfl
    obtain ⟨h1, h2, h3, h4, h5⟩ := c_good hc hf
    have e : run (c :: cs) d = run cs (cD c d) := by
      show (if cE c d = 0 then _ else _ : Bool × D) = _
      rw [h1]; rfl
    rw [ea] at h3 h4 h5
    obtain ⟨i1, i2⟩ := run_calm cs (c_ok (c := c) hok) (fun c' hc' => by rw [c_n hok]; exact hcs c' (List.mem_cons_of_mem _ hc')) (by rw [h5, hp]; rfl) (by rw [h3, hl]; rfl) (by rw [h4, hl])
    rw [e]
    exact ⟨i1, by rw [i2, h2]; rfl⟩
end Wl
end Go.Proofs.YtkdmljijgfejpaaDoor


namespace Go.Proofs.YtkdmljijgfejpaaDoor
set_option linter.unusedVariables false
set_option linter.unusedSimpArgs false

namespace Wl
open Fr Dk
def areaN (n : Nat) : Nat := (n - 2) / 2
/-- how many blocks bytes take -/
def nb (u : List UInt8) : Nat := (u.length + 31) / 32
def part (u : List UInt8) (j : Nat) : List UInt8 := (u.drop (32 * j)).take 32
def wrs (b : Nat) (u : List UInt8) (i0 : Nat) : List C := (List.range' i0 (nb u - i0)).map fun j => .wr (b + j) (part u j)
def stW (b : Nat) (u : List UInt8) (i0 : Nat) : List (Nat × List UInt8) := (List.range' i0 (nb u - i0)).map fun j => (b + j, pad (part u j))
/-- the calls that have a head be followed by bytes, from one on -/
def calls (m : Nat) (h : H) (u : List UInt8) (i0 : Nat) : List C := wrs (2 + h.area * m) u i0 ++ [.sy, .wr (h.gen % 2) (hb h), .sy]
theorem part_length (u : List UInt8) (j : Nat) : (part u j).length ≤ 32 := by unfold part; rw [List.length_take]; omega
theorem wrs_length (b : Nat) (u : List UInt8) (i0 : Nat) : (wrs b u i0).length = nb u - i0 := by simp [wrs]
theorem stW_length (b : Nat) (u : List UInt8) (i0 : Nat) : (stW b u i0).length = nb u - i0 := by simp [stW]
theorem effs_append (a b : List C) (e : List UInt8 × List (Nat × List UInt8)) : effs (a ++ b) e = effs b (effs a e) := by simp [effs, List.foldl_append]
theorem effs_map (b : Nat) (u K : List UInt8) : ∀ (js : List Nat) (st : List (Nat × List UInt8)), effs (js.map fun j => .wr (b + j) (part u j)) (K, st) = (K, st ++ js.map fun j => (b + j, pad (part u j)))
  | [], st => by simp [effs]
  | j :: js, st => by
    have := effs_map b u K js (st ++ [(b + j, pad (part u j))])
    show effs (js.map _) (K, st ++ [(b + j, pad (part u j))]) = _
    rw [this]; simp
theorem effs_wrs (b : Nat) (u K : List UInt8) (i0 k : Nat) : effs ((wrs b u i0).take k) (K, []) = (K, (stW b u i0).take k) := by
  unfold wrs stW
  rw [← List.map_take, ← List.map_take, effs_map]; simp
theorem effs_all (b : Nat) (u K : List UInt8) (i0 : Nat) : effs (wrs b u i0) (K, []) = (K, stW b u i0) := by
  unfold wrs stW
  rw [effs_map]; simp
/-- what is kept when the bytes are there -/
def laid (K : List UInt8) (W : List (Nat × List UInt8)) : List UInt8 := lay K W (fun _ => 32) W.length
theorem effs_calls (m : Nat) (h : H) (u K : List UInt8) (i0 k : Nat) :
    (k ≤ nb u - i0 ∧ effs ((calls m h u i0).take k) (K, []) = (K, (stW (2 + h.area * m) u i0).take k)) ∨
    (k = nb u - i0 + 1 ∧ effs ((calls m h u i0).take k) (K, []) = (laid K (stW (2 + h.area * m) u i0), [])) ∨
    (k = nb u - i0 + 2 ∧ effs ((calls m h u i0).take k) (K, []) = (laid K (stW (2 + h.area * m) u i0), [(h.gen % 2, pad (hb h))])) ∨
    (nb u - i0 + 3 ≤ k ∧ effs ((calls m h u i0).take k) (K, []) = (over (laid K (stW (2 + h.area * m) u i0)) (32 * (h.gen % 2)) ((pad (hb h)).take 32), [])) := by
  have hl := wrs_length (2 + h.area * m) u i0
  have key : ∀ t, effs ((calls m h u i0).take (nb u - i0 + t)) (K, []) = effs (([.sy, .wr (h.gen % 2) (hb h), .sy] : List C).take t) (K, stW (2 + h.area * m) u i0) := fun t => by
    unfold calls
    rw [List.take_append, List.take_of_length_le (by rw [hl]; omega), hl, effs_append, effs_all, show nb u - i0 + t - (nb u - i0) = t by omega]
  by_cases h1 : k ≤ nb u - i0
  · left
    refine ⟨h1, ?_⟩
    unfold calls
    rw [List.take_append, hl, show k - (nb u - i0) = 0 by omega, List.take_zero, List.append_nil, effs_wrs]
  · right
    by_cases h2 : k = nb u - i0 + 1
    · left; subst h2
      exact ⟨rfl, key 1⟩
    · right
      by_cases h3 : k = nb u - i0 + 2
      · left; subst h3
        exact ⟨rfl, key 2⟩
      · right
        refine ⟨by omega, ?_⟩
        have := key (k - (nb u - i0))
        rw [show nb u - i0 + (k - (nb u - i0)) = k by omega] at this
        rw [this, List.take_of_length_le (by show 3 ≤ _; omega)]
        rfl
theorem calls_length (m : Nat) (h : H) (u : List UInt8) (i0 : Nat) : (calls m h u i0).length = nb u - i0 + 3 := by unfold calls; rw [List.length_append, wrs_length]; rfl

/-! ### what lies on a disk -/
def hd8 (K : List UInt8) (i : Nat) : List UInt8 := (K.drop (32 * i)).take 8
theorem hd8_get (K : List UInt8) (i y : Nat) (h : y < 8) : (hd8 K i)[y]? = K[32 * i + y]? := by unfold hd8; rw [List.getElem?_take, if_pos h, List.getElem?_drop]
theorem hd8_congr {K K' : List UInt8} {i : Nat} (h : ∀ y, y < 8 → K'[32 * i + y]? = K[32 * i + y]?) : hd8 K' i = hd8 K i := by
  apply List.ext_getElem?
  intro y
  by_cases hy : y < 8
  · rw [hd8_get _ _ _ hy, hd8_get _ _ _ hy, h y hy]
  · rw [List.getElem?_eq_none (by unfold hd8; rw [List.length_take]; omega), List.getElem?_eq_none (by unfold hd8; rw [List.length_take]; omega)]
/-- what may have lain at the other head's place -/
def Base (h : H) (B : List UInt8) : Prop := Zr B ∨ ∃ h0 : H, h0.Fine ∧ h0.gen < h.gen ∧ B = hb h0
theorem Base.vd {h : H} {B : List UInt8} (b : Base h B) : Vd B ∨ Zr B := by
  rcases b with b | ⟨h0, _, _, rfl⟩
  · exact .inr b
  · exact .inl (hb_vd h0)
/-- a log lies on a disk: its head, its bytes; the other head is an older one, or none, or torn at c -/
structure On (c N : Nat) (K : List UInt8) (h : H) (u : List UInt8) : Prop where
  len : K.length = 32 * N
  n4 : 4 ≤ N
  n512 : N ≤ 512
  fine : h.Fine
  used : u.length = h.used
  room : h.used ≤ 32 * areaN N
  data : ∀ j, j < h.used → K[32 * (2 + h.area * areaN N) + j]? = u[j]?
  own : hd8 K (h.gen % 2) = hb h ∨ (h = H.zero ∧ Zr (hd8 K 0))
  other : ∃ B, Base h B ∧ (hd8 K ((h.gen + 1) % 2) = B ∨ (¬ Vd (hd8 K ((h.gen + 1) % 2)) ∧ (hd8 K ((h.gen + 1) % 2)).drop c = B.drop c))
theorem hd8_blk (K : List UInt8) (i : Nat) : (blk K i).take 8 = hd8 K i := by unfold blk hd8; rw [List.take_take]; rfl
theorem On.other_old {c N : Nat} {K u : List UInt8} {h : H} (o : On c N K h u) {r : Nat} (hi : isHead r ((h.gen + 1) % 2) (blk K ((h.gen + 1) % 2)) = true) : (hOf (blk K ((h.gen + 1) % 2))).gen < h.gen := by
  have hv := isHead_vd hi
  rw [hd8_blk] at hv
  obtain ⟨B, hB, hq⟩ := o.other
  have e : hd8 K ((h.gen + 1) % 2) = B := by
    rcases hq with h | h
    · exact h
    · exact absurd hv h.1
  rcases hB with hz | ⟨h0, f0, hg, rfl⟩
  · rw [e] at hv; exact absurd hv hz.not_vd
  · rw [← hOf_take 8 (Nat.le_refl _), hd8_blk, e, show hb h0 = hb h0 ++ [] by simp, hOf_hb f0]
    exact hg
/-- the head that counts -/
theorem On.pick {c N : Nat} {K u : List UInt8} {h : H} (o : On c N K h u) : pickH (32 * areaN N) (blk K 0) (blk K 1) = h := by
  have ho := fun r => o.other_old (r := r)
  have hown : (isHead (32 * areaN N) (h.gen % 2) (blk K (h.gen % 2)) = true ∧ hOf (blk K (h.gen % 2)) = h) ∨ (h = H.zero ∧ isHead (32 * areaN N) 0 (blk K 0) = false) := by
    rcases o.own with e | ⟨e, hz⟩
    · exact .inl (isHead_hb o.fine o.room (by rw [hd8_blk, e]))
    · refine .inr ⟨e, ?_⟩
      cases hi : isHead (32 * areaN N) 0 (blk K 0) with
      | false => rfl
      | true => have := isHead_vd hi; rw [hd8_blk] at this; exact absurd this hz.not_vd
  unfold pickH
  by_cases hp : h.gen % 2 = 0
  · have hp1 : (h.gen + 1) % 2 = 1 := by omega
    rw [hp1] at ho
    have h0 : (if isHead (32 * areaN N) 0 (blk K 0) then hOf (blk K 0) else H.zero) = h := by
      rcases hown with ⟨h1, h2⟩ | ⟨h1, h2⟩
      · rw [hp] at h1 h2; rw [h1, if_pos rfl, h2]
      · rw [h2, if_neg (by simp), h1]
    simp only [h0]
    cases hi : isHead (32 * areaN N) 1 (blk K 1) with
    | false => rfl
    | true =>
      have := ho _ hi
      rw [Bool.true_and, if_neg (by simp; omega)]
  · have hp1 : (h.gen + 1) % 2 = 0 := by omega
    have hp0 : h.gen % 2 = 1 := by omega
    rw [hp1] at ho
    rw [hp0] at hown
    rcases hown with ⟨h1, h2⟩ | ⟨h1, h2⟩
    · have hle : (if isHead (32 * areaN N) 0 (blk K 0) then hOf (blk K 0) else H.zero).gen ≤ h.gen := by
        cases hi : isHead (32 * areaN N) 0 (blk K 0) with
        | false => exact Nat.zero_le _
        | true => have := ho _ hi; rw [if_pos rfl]; omega
      simp only [h1, h2, decide_eq_true hle, Bool.and_self, if_true]
    · rw [h1] at hp; exact absurd rfl hp
/-- a head that goes on from another one, with its bytes, of which those ahead of block i0 are there already -/
structure Nx (N : Nat) (h : H) (u : List UInt8) (h' : H) (u' : List UInt8) (i0 : Nat) : Prop where
  gen : h'.gen = h.gen + 1
  fine : h'.Fine
  used : u'.length = h'.used
  room : h'.used ≤ 32 * areaN N
  way : (h'.area = h.area ∧ i0 = h.used / 32 ∧ ∃ f, u' = u ++ f) ∨ (h'.area = 1 - h.area ∧ i0 = 0)
theorem pad_get {b : List UInt8} {y : Nat} (h : y < b.length) : (pad b)[y]? = b[y]? := by unfold pad; rw [List.getElem?_append_left h]
theorem part_get {u : List UInt8} {j y : Nat} (hy : y < 32) (h : 32 * j + y < u.length) : (pad (part u j))[y]? = u[32 * j + y]? := by
  have hl : y < (part u j).length := by unfold part; rw [List.length_take, List.length_drop]; omega
  rw [pad_get hl]
  unfold part
  rw [List.getElem?_take, if_pos hy, List.getElem?_drop]
theorem stW_mem {b i0 : Nat} {u : List UInt8} {w : Nat × List UInt8} (h : w ∈ stW b u i0) : ∃ j, i0 ≤ j ∧ j < nb u ∧ w = (b + j, pad (part u j)) := by
  unfold stW at h
  obtain ⟨j, hj, rfl⟩ := List.mem_map.1 h
  rw [List.mem_range'_1] at hj
  exact ⟨j, hj.1, by omega, rfl⟩
theorem area_case {a : Nat} (h : a < 2) (m : Nat) : (a = 0 ∧ a * m = 0) ∨ (a = 1 ∧ a * m = m) := by
  have : a = 0 ∨ a = 1 := by omega
  rcases this with rfl | rfl
  · exact .inl ⟨rfl, by simp⟩
  · exact .inr ⟨rfl, by simp⟩
section
variable {c N : Nat} {K u u' : List UInt8} {h h' : H} {i0 : Nat}
theorem areaN_le (N : Nat) (h : 4 ≤ N) : 2 + 2 * areaN N ≤ N := by unfold areaN; omega
theorem Nx.nb (x : Nx N h u h' u' i0) : nb u' ≤ areaN N := by
  have := x.room; have := x.used; unfold Wl.nb; omega
theorem Nx.st (o : On c N K h u) (x : Nx N h u h' u' i0) : ∀ w ∈ stW (2 + h'.area * areaN N) u' i0, w.1 < N ∧ w.2.length = 32 := fun w hw => by
  obtain ⟨j, _, hj, rfl⟩ := stW_mem hw
  have := x.nb
  have := areaN_le N o.n4
  rcases area_case x.fine.area (areaN N) with ⟨_, e⟩ | ⟨_, e⟩
  · exact ⟨by show 2 + _ + j < N; omega, pad_length (part_length _ _)⟩
  · exact ⟨by show 2 + _ + j < N; omega, pad_length (part_length _ _)⟩
theorem Nx.low {x : Nat} (hx : x < 64) : ∀ w ∈ stW (2 + h'.area * areaN N) u' i0, 32 * w.1 ≤ x → False := fun w hw hl => by
  obtain ⟨j, _, hj, rfl⟩ := stW_mem hw
  simp only at hl
  omega
/-- a staged block does not differ where the old log's bytes lie -/
theorem Nx.old (o : On c N K h u) (x : Nx N h u h' u' i0) {j : Nat} (hj : j < h.used) {v : UInt8} (hv : u[j]? = some v) : ∀ w ∈ stW (2 + h'.area * areaN N) u' i0, 32 * w.1 ≤ 32 * (2 + h.area * areaN N) + j → 32 * (2 + h.area * areaN N) + j < 32 * w.1 + 32 → w.2[32 * (2 + h.area * areaN N) + j - 32 * w.1]? = some v := fun w hw h1 h2 => by
  obtain ⟨k, _, hk, rfl⟩ := stW_mem hw
  have hn := x.nb
  have hr := o.room
  simp only at h1 h2 ⊢
  rcases x.way with ⟨ha, -, f, rfl⟩ | ⟨ha, -⟩
  · rw [ha] at h1 h2 ⊢
    have hu := o.used
    have e : 32 * (2 + h.area * areaN N) + j - 32 * (2 + h.area * areaN N + k) = j - 32 * k := by omega
    rw [e, part_get (by omega) (by rw [List.length_append]; omega), show 32 * k + (j - 32 * k) = j by omega, List.getElem?_append_left (by omega), hv]
  · exfalso
    rcases area_case o.fine.area (areaN N) with ⟨a1, e1⟩ | ⟨a1, e1⟩
    · rw [a1] at ha
      rw [ha] at h1 h2
      omega
    · rw [a1] at ha
      rw [ha] at h1 h2
      omega
theorem On.at_old (o : On c N K h u) {j : Nat} (hj : j < h.used) : ∃ v, u[j]? = some v ∧ K[32 * (2 + h.area * areaN N) + j]? = some v := by
  have hu := o.used
  refine ⟨u[j], List.getElem?_eq_getElem (by omega), ?_⟩
  rw [o.data j hj]
  exact List.getElem?_eq_getElem (by omega)
/-- heads and old bytes stay under whatever is kept of staged data -/
theorem On.keep (o : On c N K h u) (x : Nx N h u h' u' i0) (st : List (Nat × List UInt8)) (hst : ∀ w ∈ st, w ∈ stW (2 + h'.area * areaN N) u' i0) (cut : Nat → Nat) (hc : ∀ i, cut i ≤ 32) : On c N (lay K st cut st.length) h u := by
  have hs : ∀ w ∈ st, w.1 < N ∧ w.2.length = 32 := fun w hw => x.st o w (hst w hw)
  have hh : ∀ i, i < 2 → hd8 (lay K st cut st.length) i = hd8 K i := fun i hi => hd8_congr fun y hy => by
    have hlt : 32 * i + y < K.length := by have := o.len; have := o.n4; omega
    rw [List.getElem?_eq_getElem hlt]
    exact lay_get o.len hs cut hc (List.getElem?_eq_getElem hlt) (fun w hw h1 _ => (Nx.low (by omega) w (hst w hw) h1).elim) _ (Nat.le_refl _)
  refine ⟨lay_length o.len hs cut hc _ (Nat.le_refl _), o.n4, o.n512, o.fine, o.used, o.room, fun j hj => ?_, ?_, ?_⟩
  · obtain ⟨v, h1, h2⟩ := o.at_old hj
    rw [h1]
    exact lay_get o.len hs cut hc h2 (fun w hw => x.old o hj h1 w (hst w hw)) _ (Nat.le_refl _)
  · rw [hh _ (by omega), hh 0 (by omega)]; exact o.own
  · rw [hh _ (by omega)]; exact o.other
/-- the new bytes are there when all of them are kept -/
theorem On.fresh (o : On c N K h u) (x : Nx N h u h' u' i0) (j : Nat) (hj : j < h'.used) : (laid K (stW (2 + h'.area * areaN N) u' i0))[32 * (2 + h'.area * areaN N) + j]? = u'[j]? := by
  have hs := x.st o
  have hu := x.used
  obtain ⟨v, hv⟩ : ∃ v, u'[j]? = some v := ⟨u'[j], List.getElem?_eq_getElem (by omega)⟩
  rw [hv]
  have hcov : ∀ w ∈ stW (2 + h'.area * areaN N) u' i0, 32 * w.1 ≤ 32 * (2 + h'.area * areaN N) + j → 32 * (2 + h'.area * areaN N) + j < 32 * w.1 + 32 → w.2[32 * (2 + h'.area * areaN N) + j - 32 * w.1]? = some v := fun w hw h1 h2 => by
    obtain ⟨k, _, hk, rfl⟩ := stW_mem hw
    simp only at h1 h2 ⊢
    rw [show 32 * (2 + h'.area * areaN N) + j - 32 * (2 + h'.area * areaN N + k) = j - 32 * k by omega, part_get (by omega) (by omega), show 32 * k + (j - 32 * k) = j by omega, hv]
  by_cases hi : i0 ≤ j / 32
  · refine lay_full o.len hs hcov _ (Nat.le_refl _) ⟨j / 32 - i0, ?_, (2 + h'.area * areaN N + j / 32, pad (part u' (j / 32))), ?_, by simp only; omega, by simp only; omega⟩
    · rw [stW_length]; unfold Wl.nb; omega
    · unfold stW
      rw [List.getElem?_map, List.getElem?_range' (by unfold Wl.nb; omega)]
      simp only [Option.map_some, Option.some.injEq, Prod.mk.injEq]
      rw [show i0 + 1 * (j / 32 - i0) = j / 32 by omega]
      exact ⟨rfl, rfl⟩
  · rcases x.way with ⟨ha, hi0, f, rfl⟩ | ⟨_, h0⟩
    · have hju : j < h.used := by omega
      obtain ⟨v', h1, h2⟩ := o.at_old hju
      have hou := o.used
      rw [List.getElem?_append_left (by omega), h1] at hv
      cases hv
      rw [ha] at hcov ⊢
      rw [ha] at hs
      exact lay_get o.len hs _ (fun _ => Nat.le_refl _) h2 hcov _ (Nat.le_refl _)
    · omega
theorem hb_pad (h : H) : (pad (hb h)).length = 32 := pad_length (by rw [hb_length]; omega)
/-- a head's place when its first n bytes are kept -/
theorem hd8_over {K : List UInt8} {p n : Nat} (hK : 32 * p + 32 ≤ K.length) (hn : n ≤ 32) (h : H) : hd8 (over K (32 * p) ((pad (hb h)).take n)) p = (hb h).take n ++ (hd8 K p).drop n := by
  have hl := hb_pad h
  have h8 := hb_length h
  have hk8 : (hd8 K p).length = 8 := by unfold hd8; rw [List.length_take, List.length_drop]; omega
  apply List.ext_getElem?
  intro y
  by_cases hy : y < 8
  · rw [hd8_get _ _ _ hy, over_get (by rw [List.length_take, hl]; omega), List.length_take, hl]
    by_cases hyn : y < n
    · rw [if_pos (by omega), List.getElem?_take, if_pos (by omega), show 32 * p + y - 32 * p = y by omega, pad_get (by omega), List.getElem?_append_left (by rw [List.length_take]; omega), List.getElem?_take, if_pos hyn]
    · rw [if_neg (by omega), List.getElem?_append_right (by rw [List.length_take]; omega), List.length_take, List.getElem?_drop, show n + (y - min n (hb h).length) = y by omega, hd8_get _ _ _ hy]
  · rw [List.getElem?_eq_none (by unfold hd8; rw [List.length_take]; omega), List.getElem?_eq_none (by rw [List.length_append, List.length_take, List.length_drop]; omega)]
theorem over_else {K m : List UInt8} {o x : Nat} (hK : o + m.length ≤ K.length) (hx : x < o ∨ o + m.length ≤ x) : (over K o m)[x]? = K[x]? := by
  rw [over_get hK, if_neg (by omega)]
/-- behind the head's write: the old log, or the new one; the new one, if it is whole -/
theorem On.head (o : On c N K h u) (x : Nx N h u h' u' i0) (n : Nat) (hn : n ≤ 32) (hnc : n = c ∨ n = 32) :
    On c N (over (laid K (stW (2 + h'.area * areaN N) u' i0)) (32 * (h'.gen % 2)) ((pad (hb h')).take n)) h' u' ∨
    (n ≠ 32 ∧ On c N (over (laid K (stW (2 + h'.area * areaN N) u' i0)) (32 * (h'.gen % 2)) ((pad (hb h')).take n)) h u) := by
  have o1 : On c N (laid K (stW (2 + h'.area * areaN N) u' i0)) h u := o.keep x _ (fun _ hw => hw) _ (fun _ => Nat.le_refl _)
  have hf := o.fresh x
  generalize laid K (stW (2 + h'.area * areaN N) u' i0) = K1 at *
  have hl := hb_pad h'
  have hlen := o1.len
  have hn4 := o1.n4
  have hp : (h'.gen) % 2 = (h.gen + 1) % 2 := by rw [x.gen]
  have hm : ((pad (hb h')).take n).length = n := by rw [List.length_take, hl]; omega
  have hK2 : (over K1 (32 * (h'.gen % 2)) ((pad (hb h')).take n)).length = 32 * N := by rw [over_length (by rw [hm]; omega), hlen]
  have hq : hd8 (over K1 (32 * (h'.gen % 2)) ((pad (hb h')).take n)) (h.gen % 2) = hd8 K1 (h.gen % 2) := hd8_congr fun y hy => over_else (by rw [hm]; omega) (by rw [hm]; omega)
  have h64 : ∀ t, 64 ≤ t → (over K1 (32 * (h'.gen % 2)) ((pad (hb h')).take n))[t]? = K1[t]? := fun t ht => over_else (by rw [hm]; omega) (by rw [hm]; omega)
  have hpp := hd8_over (K := K1) (p := h'.gen % 2) (by omega) hn h'
  have h8 := hb_length h'
  have hother : ∃ B, Base h' B ∧ (hd8 (over K1 (32 * (h'.gen % 2)) ((pad (hb h')).take n)) ((h'.gen + 1) % 2) = B) := by
    have e : (h'.gen + 1) % 2 = h.gen % 2 := by rw [x.gen]; omega
    rw [e, hq]
    rcases o1.own with e2 | ⟨e2, hz⟩
    · exact ⟨_, .inr ⟨h, o.fine, by rw [x.gen]; omega, rfl⟩, e2⟩
    · refine ⟨_, .inl ?_, rfl⟩
      rw [e2]; exact hz
  have hnew : hd8 (over K1 (32 * (h'.gen % 2)) ((pad (hb h')).take n)) (h'.gen % 2) = hb h' → On c N (over K1 (32 * (h'.gen % 2)) ((pad (hb h')).take n)) h' u' := fun e => by
    obtain ⟨B, hB, hB2⟩ := hother
    exact ⟨hK2, o.n4, o.n512, x.fine, x.used, x.room, fun j hj => by rw [h64 _ (by omega)]; exact hf j hj, .inl e, B, hB, .inl hB2⟩
  have hk8 : (hd8 K1 (h'.gen % 2)).length = 8 := by unfold hd8; rw [List.length_take, List.length_drop]; omega
  rcases hnc with rfl | rfl
  · -- torn at c
    obtain ⟨B, hB, hBq⟩ := o1.other
    rw [← hp] at hBq
    have hdr : (hd8 K1 (h'.gen % 2)).drop n = B.drop n := by
      rcases hBq with e | e
      · rw [e]
      · exact e.2
    rw [hdr] at hpp
    have hBl : B.length = 8 := by rcases hB.vd with h | h; exact h.length; exact h.length
    by_cases hv : Vd ((hb h').take n ++ B.drop n)
    · rcases torn n (be4_length _) hB.vd hv with e | e
      · left; exact hnew (by rw [hpp]; exact e)
      · by_cases h32 : n = 32
        · left
          refine hnew ?_
          rw [hpp, List.take_of_length_le (by omega), List.drop_of_length_le (by omega), List.append_nil]
        · right
          refine ⟨h32, hK2, o.n4, o.n512, o.fine, o.used, o.room, fun j hj => by rw [h64 _ (by omega)]; exact o1.data j hj, ?_, B, hB, .inl ?_⟩
          · rw [hq]
            rcases o1.own with e2 | ⟨e2, hz⟩
            · exact .inl e2
            · refine .inr ⟨e2, ?_⟩
              have : h.gen % 2 = 0 := by rw [e2]; rfl
              rw [this] at hq
              rw [hq]; exact hz
          · rw [← hp, hpp]; exact e
    · right
      have h32 : n ≠ 32 := fun h32 => hv (by
        rw [List.take_of_length_le (by omega), List.drop_of_length_le (by omega), List.append_nil]
        exact hb_vd _)
      refine ⟨h32, hK2, o.n4, o.n512, o.fine, o.used, o.room, fun j hj => by rw [h64 _ (by omega)]; exact o1.data j hj, ?_, B, hB, .inr ?_⟩
      · rw [hq]
        rcases o1.own with e2 | ⟨e2, hz⟩
        · exact .inl e2
        · refine .inr ⟨e2, ?_⟩
          have : h.gen % 2 = 0 := by rw [e2]; rfl
          rw [this] at hq
          rw [hq]; exact hz
      · rw [← hp, hpp]
        refine ⟨hv, ?_⟩
        by_cases hn8 : n ≤ 8
        · rw [List.drop_append, List.drop_of_length_le (by rw [List.length_take]; omega), List.nil_append, List.length_take, h8, List.drop_drop, show n + (n - min n 8) = n by omega]
        · exact absurd (by
            rw [List.take_of_length_le (by omega), List.drop_of_length_le (by omega), List.append_nil]
            exact hb_vd _) hv
  · left
    refine hnew ?_
    rw [hpp, List.take_of_length_le (by omega), List.drop_of_length_le (by omega), List.append_nil]
end
end Wl
end Go.Proofs.YtkdmljijgfejpaaDoor


namespace Go.Proofs.YtkdmljijgfejpaaDoor
set_option linter.unusedVariables false
set_option linter.unusedSimpArgs false

namespace Wl
open Fr Dk
/-! ### what is found on a disk -/
def openH (d : D) : H := pickH (32 * areaN d.n) (rdB 0 d) (rdB 1 d)
def areaB (d : D) (a : Nat) : List UInt8 := (List.range (areaN d.n)).flatMap fun i => rdB ((2 + a * areaN d.n + i : Nat) : Int) d
def openU (d : D) : List UInt8 := (areaB d (openH d).area).take (openH d).used
def openE (d : D) : Int := if d.n < 4 then 1 else if size (scan (openU d)) = (openH d).used then 0 else 20
theorem rdB_calm {d : D} (hs : d.st = []) {i : Nat} (hi : i < d.n) : rdB (i : Int) d = blk d.kept i := by
  have hh : has d (i : Int) = true := by simp [has]; omega
  unfold rdB
  rw [hh, if_pos rfl, hs]; rfl
theorem flat_get {α : Type} (f : Nat → List α) (hf : ∀ i, (f i).length = 32) : ∀ (m j : Nat), j < 32 * m → ((List.range m).flatMap f)[j]? = (f (j / 32))[j % 32]?
  | 0, j, h => by omega
  | m + 1, j, h => by
    have hl : ∀ m, ((List.range m).flatMap f).length = 32 * m := fun m => by
      induction m with
      | zero => rfl
      | succ m ih => rw [List.range_succ, List.flatMap_append, List.length_append, ih]; simp [hf]; omega
    rw [List.range_succ, List.flatMap_append]
    by_cases hj : j < 32 * m
    · rw [List.getElem?_append_left (by rw [hl]; exact hj)]
      exact flat_get f hf m j hj
    · rw [List.getElem?_append_right (by rw [hl]; omega), hl, List.flatMap_singleton, show j / 32 = m by omega, show j % 32 = j - 32 * m by omega]
theorem flat_length {α : Type} (f : Nat → List α) : ∀ (m : Nat), (∀ i, i < m → (f i).length = 32) → ((List.range m).flatMap f).length = 32 * m
  | 0, _ => rfl
  | m + 1, h => by
    rw [List.range_succ, List.flatMap_append, List.length_append, flat_length f m (fun i hi => h i (by omega))]
    simp [h m (by omega)]; omega
/-- a log that is there is found -/
structure Lg where
  d : D
  h : H
  u : List UInt8
structure Lw (c : Nat) (g : Lg) (rs : List (List UInt8)) : Prop where
  ok : g.d.Ok
  st : g.d.st = []
  plan : g.d.plan = []
  off : g.d.off = false
  left : g.d.left = 0
  on : On c g.d.n g.d.kept g.h g.u
  recs : g.u = all rs
  oks : oks rs = true
theorem Lw.found {c : Nat} {g : Lg} {rs : List (List UInt8)} (l : Lw c g rs) : openH g.d = g.h ∧ openU g.d = g.u ∧ openE g.d = 0 ∧ scan g.u = rs := by
  have hn := l.on.n4
  have hH : openH g.d = g.h := by
    unfold openH
    have e0 := rdB_calm l.st (show 0 < g.d.n by omega)
    have e1 := rdB_calm l.st (show 1 < g.d.n by omega)
    have e0' : rdB 0 g.d = blk g.d.kept 0 := e0
    have e1' : rdB 1 g.d = blk g.d.kept 1 := e1
    rw [e0', e1']
    exact l.on.pick
  have hm := areaN_le g.d.n hn
  have hU : openU g.d = g.u := by
    unfold openU areaB
    rw [hH]
    have hr := l.on.room
    have hu := l.on.used
    have hlt : ∀ i, i < areaN g.d.n → 2 + g.h.area * areaN g.d.n + i < g.d.n := fun i hi => by
      rcases area_case l.on.fine.area (areaN g.d.n) with ⟨_, e⟩ | ⟨_, e⟩ <;> omega
    have hf : ∀ i, i < areaN g.d.n → rdB ((2 + g.h.area * areaN g.d.n + i : Nat) : Int) g.d = blk g.d.kept (2 + g.h.area * areaN g.d.n + i) := fun i hi => rdB_calm l.st (hlt i hi)
    have e : ((List.range (areaN g.d.n)).flatMap fun i => rdB ((2 + g.h.area * areaN g.d.n + i : Nat) : Int) g.d) = (List.range (areaN g.d.n)).flatMap fun i => pad (blk g.d.kept (2 + g.h.area * areaN g.d.n + i)) := by
      rw [List.flatMap_def, List.flatMap_def]
      congr 1
      refine List.map_congr_left fun i hi => ?_
      rw [List.mem_range] at hi
      rw [hf i hi]
      unfold pad
      rw [blk_length l.ok.len (hlt i hi)]; simp
    rw [e]
    have hp : ∀ i, (pad (blk g.d.kept (2 + g.h.area * areaN g.d.n + i))).length = 32 := fun i => pad_length (by unfold blk; rw [List.length_take]; omega)
    apply List.ext_getElem?
    intro j
    rw [List.getElem?_take]
    by_cases hj : j < g.h.used
    · rw [if_pos hj, flat_get _ hp _ _ (by omega)]
      obtain ⟨v, h1, h2⟩ := l.on.at_old hj
      rw [h1, ← h2]
      have hi : j / 32 < areaN g.d.n := by omega
      have hbl := blk_length l.ok.len (hlt _ hi)
      rw [pad_get (by rw [hbl]; omega), blk_get _ _ _ (by omega)]
      congr 1; omega
    · rw [if_neg hj, List.getElem?_eq_none (by omega)]
  have hsc : scan g.u = rs := by
    have := scan_all rs [] l.oks
    rw [List.append_nil, scan_nil, List.append_nil, ← l.recs] at this
    exact this
  refine ⟨hH, hU, ?_, hsc⟩
  unfold openE
  rw [if_neg (by omega), hU, hH, hsc, if_pos]
  rw [← all_length, ← l.recs]
  exact l.on.used

/-! ### what is done -/
inductive Lo where
  | app (b : List UInt8)
  | rep (ls : List (List UInt8))
/-- an error, or the next head and bytes -/
def planL (o : Lo) (n : Nat) (h : H) (u : List UInt8) : Int ⊕ (H × List UInt8 × Nat) :=
  match o with
  | .app b => if errOf b ≠ 0 then .inl (errOf b) else if 32 * areaN n < h.used + (6 + b.length) ∨ 262144 ≤ h.gen + 1 then .inl 5 else .inr (⟨h.gen + 1, h.area, h.used + (6 + b.length)⟩, u ++ frm b, h.used / 32)
  | .rep ls => if errAll ls ≠ 0 then .inl (errAll ls) else if 32 * areaN n < size ls ∨ 262144 ≤ h.gen + 1 then .inl 5 else .inr (⟨h.gen + 1, 1 - h.area, size ls⟩, all ls, 0)
def putL (h' : H) (u' : List UInt8) (i0 : Nat) (g : Lg) : Int × Lg :=
  if (run (calls (areaN g.d.n) h' u' i0) g.d).1 then (0, ⟨(run (calls (areaN g.d.n) h' u' i0) g.d).2, h', u'⟩) else (21, ⟨(run (calls (areaN g.d.n) h' u' i0) g.d).2, g.h, g.u⟩)
def opL (o : Lo) (g : Lg) : Int × Lg :=
  match planL o g.d.n g.h g.u with
  | .inl e => (e, g)
  | .inr (h', u', i0) => putL h' u' i0 g
def nextR : Lo → List (List UInt8) → List (List UInt8)
  | .app b, rs => rs ++ [b]
  | .rep ls, _ => ls
theorem planL_app (b : List UInt8) (n : Nat) (h : H) (u : List UInt8) : (errOf b ≠ 0 ∧ planL (.app b) n h u = .inl (errOf b)) ∨
    (errOf b = 0 ∧ (32 * areaN n < h.used + (6 + b.length) ∨ 262144 ≤ h.gen + 1) ∧ planL (.app b) n h u = .inl 5) ∨
    (errOf b = 0 ∧ ¬ (32 * areaN n < h.used + (6 + b.length) ∨ 262144 ≤ h.gen + 1) ∧ planL (.app b) n h u = .inr (⟨h.gen + 1, h.area, h.used + (6 + b.length)⟩, u ++ frm b, h.used / 32)) := by
  have e : planL (.app b) n h u = if errOf b ≠ 0 then .inl (errOf b) else if 32 * areaN n < h.used + (6 + b.length) ∨ 262144 ≤ h.gen + 1 then .inl 5 else .inr (⟨h.gen + 1, h.area, h.used + (6 + b.length)⟩, u ++ frm b, h.used / 32) := rfl
  by_cases h1 : errOf b = 0
  · rw [if_neg (by omega)] at e
    by_cases h2 : 32 * areaN n < h.used + (6 + b.length) ∨ 262144 ≤ h.gen + 1
    · rw [if_pos h2] at e; exact .inr (.inl ⟨h1, h2, e⟩)
    · rw [if_neg h2] at e; exact .inr (.inr ⟨h1, h2, e⟩)
  · rw [if_pos h1] at e; exact .inl ⟨h1, e⟩
theorem planL_rep (ls : List (List UInt8)) (n : Nat) (h : H) (u : List UInt8) : (errAll ls ≠ 0 ∧ planL (.rep ls) n h u = .inl (errAll ls)) ∨
    (errAll ls = 0 ∧ (32 * areaN n < size ls ∨ 262144 ≤ h.gen + 1) ∧ planL (.rep ls) n h u = .inl 5) ∨
    (errAll ls = 0 ∧ ¬ (32 * areaN n < size ls ∨ 262144 ≤ h.gen + 1) ∧ planL (.rep ls) n h u = .inr (⟨h.gen + 1, 1 - h.area, size ls⟩, all ls, 0)) := by
  have e : planL (.rep ls) n h u = if errAll ls ≠ 0 then .inl (errAll ls) else if 32 * areaN n < size ls ∨ 262144 ≤ h.gen + 1 then .inl 5 else .inr (⟨h.gen + 1, 1 - h.area, size ls⟩, all ls, 0) := rfl
  by_cases h1 : errAll ls = 0
  · rw [if_neg (by omega)] at e
    by_cases h2 : 32 * areaN n < size ls ∨ 262144 ≤ h.gen + 1
    · rw [if_pos h2] at e; exact .inr (.inl ⟨h1, h2, e⟩)
    · rw [if_neg h2] at e; exact .inr (.inr ⟨h1, h2, e⟩)
  · rw [if_pos h1] at e; exact .inl ⟨h1, e⟩
theorem planL_err {o : Lo} {n : Nat} {h : H} {u : List UInt8} {e : Int} (hp : planL o n h u = .inl e) : e = 1 ∨ e = 2 ∨ e = 5 := by
  cases o with
  | app b =>
    rcases planL_app b n h u with ⟨h1, q⟩ | ⟨_, _, q⟩ | ⟨_, _, q⟩
    · rw [q] at hp
      have := Sum.inl.inj hp
      rcases errOf_cases b with h | h | h <;> omega
    · rw [q] at hp
      have := Sum.inl.inj hp
      omega
    · rw [q] at hp; exact absurd hp (by intro h; cases h)
  | rep ls =>
    rcases planL_rep ls n h u with ⟨h1, q⟩ | ⟨_, _, q⟩ | ⟨_, _, q⟩
    · rw [q] at hp
      have := Sum.inl.inj hp
      rcases errAll_cases ls with h | h | h <;> omega
    · rw [q] at hp
      have := Sum.inl.inj hp
      omega
    · rw [q] at hp; exact absurd hp (by intro h; cases h)
theorem planL_next {c : Nat} {o : Lo} {g : Lg} {rs : List (List UInt8)} (l : Lw c g rs) {h' : H} {u' : List UInt8} {i0 : Nat} (hp : planL o g.d.n g.h g.u = .inr (h', u', i0)) :
    Nx g.d.n g.h g.u h' u' i0 ∧ u' = all (nextR o rs) ∧ Fr.oks (nextR o rs) = true := by
  have hn := l.on.n4
  have h512 := l.on.n512
  have hm : areaN g.d.n ≤ 255 := by unfold areaN; omega
  have hf := l.on.fine
  have hu := l.on.used
  cases o with
  | app b =>
    rcases planL_app b g.d.n g.h g.u with ⟨h1, q⟩ | ⟨_, _, q⟩ | ⟨h1, h2, q⟩
    · rw [q] at hp; exact absurd hp (by intro h; cases h)
    · rw [q] at hp; exact absurd hp (by intro h; cases h)
    · rw [q] at hp
      simp only [Sum.inr.injEq, Prod.mk.injEq] at hp
      obtain ⟨rfl, rfl, rfl⟩ := hp
      have hb : ok b = true := errOf_ok.1 h1
      refine ⟨⟨rfl, ⟨by show g.h.gen + 1 < _; omega, hf.area, by show g.h.used + (6 + b.length) < _; omega⟩, by rw [List.length_append, frm_length, hu], by show g.h.used + (6 + b.length) ≤ _; omega, .inl ⟨rfl, rfl, _, rfl⟩⟩, ?_, ?_⟩
      · show g.u ++ frm b = all (rs ++ [b])
        rw [all_append, ← l.recs]
        show _ = g.u ++ (frm b ++ [])
        rw [List.append_nil]
      · show (rs ++ [b]).all ok = true
        rw [List.all_append, Bool.and_eq_true]
        exact ⟨l.oks, by simp [hb]⟩
  | rep ls =>
    rcases planL_rep ls g.d.n g.h g.u with ⟨h1, q⟩ | ⟨_, _, q⟩ | ⟨h1, h2, q⟩
    · rw [q] at hp; exact absurd hp (by intro h; cases h)
    · rw [q] at hp; exact absurd hp (by intro h; cases h)
    · rw [q] at hp
      simp only [Sum.inr.injEq, Prod.mk.injEq] at hp
      obtain ⟨rfl, rfl, rfl⟩ := hp
      exact ⟨⟨rfl, ⟨by show g.h.gen + 1 < _; omega, by show 1 - g.h.area < _; omega, by show size ls < _; omega⟩, all_length ls, by show size ls ≤ _; omega, .inr ⟨rfl, rfl⟩⟩, rfl, errAll_ok.1 h1⟩
theorem calls_ok {c N : Nat} {K u u' : List UInt8} {h h' : H} {i0 : Nat} (o : On c N K h u) (x : Nx N h u h' u' i0) : ∀ k ∈ calls (areaN N) h' u' i0, k.ok N := by
  intro k hk
  have hm := areaN_le N o.n4
  have hn4 := o.n4
  unfold calls at hk
  rcases List.mem_append.1 hk with hk | hk
  · unfold wrs at hk
    obtain ⟨j, hj, rfl⟩ := List.mem_map.1 hk
    rw [List.mem_range'_1] at hj
    have := x.nb
    refine ⟨?_, part_length _ _⟩
    rcases area_case x.fine.area (areaN N) with ⟨_, e⟩ | ⟨_, e⟩ <;> omega
  · simp only [List.mem_cons, List.not_mem_nil, or_false] at hk
    rcases hk with rfl | rfl | rfl
    · exact trivial
    · exact ⟨by omega, by rw [hb_length]; omega⟩
    · exact trivial
/-! ### calls that go through -/
theorem put_calm {c : Nat} {g : Lg} {rs rs' : List (List UInt8)} (l : Lw c g rs) {h' : H} {u' : List UInt8} {i0 : Nat} (x : Nx g.d.n g.h g.u h' u' i0) (hr : u' = all rs') (ho : Fr.oks rs' = true) :
    ∃ d', putL h' u' i0 g = (0, ⟨d', h', u'⟩) ∧ Lw c ⟨d', h', u'⟩ rs' ∧ d'.n = g.d.n := by
  have hk := calls_ok l.on x
  obtain ⟨h1, h2⟩ := run_calm _ l.ok hk l.plan l.off l.left
  have hok := run_ok (calls (areaN g.d.n) h' u' i0) l.ok
  have hn := run_n (calls (areaN g.d.n) h' u' i0) l.ok
  have hl := calls_length (areaN g.d.n) h' u' i0
  have he : D.e g.d = (g.d.kept, []) := by unfold D.e; rw [l.st]
  have ef : effs (calls (areaN g.d.n) h' u' i0) (D.e g.d) = (over (laid g.d.kept (stW (2 + h'.area * areaN g.d.n) u' i0)) (32 * (h'.gen % 2)) ((pad (hb h')).take 32), []) := by
    rw [he]
    have := effs_calls (areaN g.d.n) h' u' g.d.kept i0 (calls (areaN g.d.n) h' u' i0).length
    rw [List.take_length] at this
    rcases this with ⟨q, _⟩ | ⟨q, _⟩ | ⟨q, _⟩ | ⟨_, q⟩
    · omega
    · omega
    · omega
    · exact q
  refine ⟨_, by unfold putL; rw [h1, if_pos rfl], ?_, hn⟩
  rw [h2] at hok hn ⊢
  rw [ef] at hok hn ⊢
  refine ⟨hok, rfl, rfl, rfl, rfl, ?_, hr, ho⟩
  show On c (D.n _) _ h' u'
  rw [hn]
  rcases l.on.head x 32 (Nat.le_refl _) (.inr rfl) with h | h
  · exact h
  · exact absurd rfl h.1
theorem op_calm {c : Nat} (o : Lo) {g : Lg} {rs : List (List UInt8)} (l : Lw c g rs) :
    (∃ e, planL o g.d.n g.h g.u = .inl e ∧ opL o g = (e, g) ∧ (e = 1 ∨ e = 2 ∨ e = 5)) ∨
    (∃ d' h' u' i0, planL o g.d.n g.h g.u = .inr (h', u', i0) ∧ opL o g = (0, ⟨d', h', u'⟩) ∧ Lw c ⟨d', h', u'⟩ (nextR o rs) ∧ d'.n = g.d.n) := by
  cases hp : planL o g.d.n g.h g.u with
  | inl e => exact .inl ⟨e, rfl, by unfold opL; rw [hp], planL_err hp⟩
  | inr t =>
    obtain ⟨h', u', i0⟩ := t
    obtain ⟨x, h1, h2⟩ := planL_next l hp
    obtain ⟨d', q1, q2, q3⟩ := put_calm l x h1 h2
    exact .inr ⟨d', h', u', i0, rfl, by unfold opL; rw [hp]; exact q1, q2, q3⟩
/-! ### a stop, and a crash -/
theorem stop_n (z : Int) (d : D) : (stop z d).n = d.n := rfl
theorem op_stop {c : Nat} (o : Lo) {g : Lg} {rs : List (List UInt8)} (l : Lw c g rs) (s : Nat) (cuts : List UInt8) (hc : cutAt cuts 0 = c) :
    let r := opL o ⟨stop s g.d, g.h, g.u⟩
    r.2.d.Ok ∧ (crash cuts r.2.d).n = g.d.n ∧ ∃ h u,
      (r.1 = 0 ∧ Lw c ⟨crash cuts r.2.d, h, u⟩ (nextR o rs)) ∨ (r.1 ≠ 0 ∧ Lw c ⟨crash cuts r.2.d, h, u⟩ rs) ∨ (r.1 = 21 ∧ Lw c ⟨crash cuts r.2.d, h, u⟩ (nextR o rs)) := by
  have hok : (stop s g.d).Ok := l.ok.of rfl fun w hw => hw
  have hcr : ∀ {d : D}, d.Ok → d.n = g.d.n → ∀ {h u rs'}, On c g.d.n (crash cuts d).kept h u → u = all rs' → Fr.oks rs' = true → (crash cuts d).n = g.d.n ∧ Lw c ⟨crash cuts d, h, u⟩ rs' := fun {d} hd hn {h u rs'} ho h1 h2 => by
    have hn2 : (crash cuts d).n = g.d.n := by
      rw [← hn]
      refine D.n_of ?_
      show (lay _ _ _ _).length = _
      rw [lay_length hd.len hd.at_ _ (cutAt_le cuts) _ (Nat.le_refl _), hd.len]
    exact ⟨hn2, crash_ok cuts hd, rfl, rfl, rfl, rfl, by show On c (crash cuts d).n _ _ _; rw [hn2]; exact ho, h1, h2⟩
  show (opL o ⟨stop s g.d, g.h, g.u⟩).2.d.Ok ∧ (crash cuts (opL o ⟨stop s g.d, g.h, g.u⟩).2.d).n = _ ∧ _
  cases hp : planL o g.d.n g.h g.u with
  | inl e =>
    have he : opL o ⟨stop s g.d, g.h, g.u⟩ = (e, ⟨stop s g.d, g.h, g.u⟩) := by
      unfold opL
      show (match planL o g.d.n g.h g.u with | .inl e => _ | .inr (h', u', i0) => _ : Int × Lg) = _
      rw [hp]
    have hk : (crash cuts (stop s g.d)).kept = g.d.kept := by
      show lay g.d.kept g.d.st _ g.d.st.length = _
      rw [l.st]; rfl
    obtain ⟨q1, q2⟩ := hcr hok rfl (h := g.h) (u := g.u) (rs' := rs) (by rw [hk]; exact l.on) l.recs l.oks
    rw [he]
    refine ⟨hok, q1, g.h, g.u, .inr (.inl ⟨?_, q2⟩)⟩
    show e ≠ 0
    rcases planL_err hp with rfl | rfl | rfl <;> decide
  | inr t =>
    obtain ⟨h', u', i0⟩ := t
    obtain ⟨x, h1, h2⟩ := planL_next l hp
    have he : opL o ⟨stop s g.d, g.h, g.u⟩ = putL h' u' i0 ⟨stop s g.d, g.h, g.u⟩ := by
      unfold opL
      show (match planL o g.d.n g.h g.u with | .inl e => _ | .inr (h', u', i0) => _ : Int × Lg) = _
      rw [hp]
    rw [he]
    have hk := calls_ok l.on x
    have hs0 : s = 0 ∧ (stop s g.d).off = true ∨ 0 < s ∧ (stop s g.d).off = false ∧ (stop s g.d).left = s := by
      by_cases h0 : s = 0
      · left; subst h0
        exact ⟨rfl, by show (g.d.off || _) = true; simp⟩
      · right
        refine ⟨by omega, ?_, ?_⟩
        · show (g.d.off || ((s : Int) == 0)) = false
          rw [l.off, Bool.false_or, beq_eq_false_iff_ne]; omega
        · show (s : Int).toNat = s
          omega
    obtain ⟨r1, r2⟩ := run_stop (calls (areaN g.d.n) h' u' i0) s hok hk l.plan hs0
    have rok := run_ok (calls (areaN g.d.n) h' u' i0) hok
    have rn := run_n (calls (areaN g.d.n) h' u' i0) hok
    have hl := calls_length (areaN g.d.n) h' u' i0
    have he0 : D.e (stop s g.d) = (g.d.kept, []) := by show (g.d.kept, g.d.st) = _; rw [l.st]
    rw [he0] at r2
    have hput : putL h' u' i0 ⟨stop s g.d, g.h, g.u⟩ = if (run (calls (areaN g.d.n) h' u' i0) (stop s g.d)).1 then (0, ⟨(run (calls (areaN g.d.n) h' u' i0) (stop s g.d)).2, h', u'⟩) else (21, ⟨(run (calls (areaN g.d.n) h' u' i0) (stop s g.d)).2, g.h, g.u⟩) := rfl
    generalize run (calls (areaN g.d.n) h' u' i0) (stop s g.d) = R at *
    obtain ⟨b, d'⟩ := R
    have hd : (putL h' u' i0 ⟨stop s g.d, g.h, g.u⟩).2.d = d' := by rw [hput]; cases b <;> rfl
    have hr1 : (putL h' u' i0 ⟨stop s g.d, g.h, g.u⟩).1 = if b then 0 else 21 := by rw [hput]; cases b <;> rfl
    rw [hd, hr1]
    simp only at r1 r2 rok rn
    have hkept : (crash cuts d').kept = lay (effs ((calls (areaN g.d.n) h' u' i0).take s) (g.d.kept, [])).1 (effs ((calls (areaN g.d.n) h' u' i0).take s) (g.d.kept, [])).2 (cutAt cuts) (effs ((calls (areaN g.d.n) h' u' i0).take s) (g.d.kept, [])).2.length := by
      rw [← r2]; rfl
    refine ⟨rok, ?_⟩
    rcases effs_calls (areaN g.d.n) h' u' g.d.kept i0 s with ⟨q, e⟩ | ⟨q, e⟩ | ⟨q, e⟩ | ⟨q, e⟩
    · rw [e] at hkept
      have o2 := l.on.keep x ((stW (2 + h'.area * areaN g.d.n) u' i0).take s) (fun w hw => List.mem_of_mem_take hw) (cutAt cuts) (cutAt_le cuts)
      rw [← hkept] at o2
      obtain ⟨q1, q2⟩ := hcr rok rn o2 l.recs l.oks
      exact ⟨q1, g.h, g.u, .inr (.inl ⟨by rw [r1, decide_eq_false (by omega)]; decide, q2⟩)⟩
    · rw [e] at hkept
      have o2 := l.on.keep x (stW (2 + h'.area * areaN g.d.n) u' i0) (fun w hw => hw) (fun _ => 32) (fun _ => Nat.le_refl _)
      have hk2 : (crash cuts d').kept = laid g.d.kept (stW (2 + h'.area * areaN g.d.n) u' i0) := hkept
      rw [show lay g.d.kept (stW (2 + h'.area * areaN g.d.n) u' i0) (fun _ => 32) (stW (2 + h'.area * areaN g.d.n) u' i0).length = laid g.d.kept (stW (2 + h'.area * areaN g.d.n) u' i0) from rfl, ← hk2] at o2
      obtain ⟨q1, q2⟩ := hcr rok rn o2 l.recs l.oks
      exact ⟨q1, g.h, g.u, .inr (.inl ⟨by rw [r1, decide_eq_false (by omega)]; decide, q2⟩)⟩
    · rw [e] at hkept
      have hk2 : (crash cuts d').kept = over (laid g.d.kept (stW (2 + h'.area * areaN g.d.n) u' i0)) (32 * (h'.gen % 2)) ((pad (hb h')).take (cutAt cuts 0)) := hkept
      have hb21 : (if b then (0 : Int) else 21) = 21 := by rw [r1, decide_eq_false (by omega)]; rfl
      rcases l.on.head x (cutAt cuts 0) (cutAt_le cuts 0) (.inl hc) with o2 | ⟨_, o2⟩
      · rw [← hk2] at o2
        obtain ⟨q1, q2⟩ := hcr rok rn o2 h1 h2
        exact ⟨q1, h', u', .inr (.inr ⟨hb21, q2⟩)⟩
      · rw [← hk2] at o2
        obtain ⟨q1, q2⟩ := hcr rok rn o2 l.recs l.oks
        exact ⟨q1, g.h, g.u, .inr (.inl ⟨by rw [hb21]; decide, q2⟩)⟩
    · rw [e] at hkept
      have hk2 : (crash cuts d').kept = over (laid g.d.kept (stW (2 + h'.area * areaN g.d.n) u' i0)) (32 * (h'.gen % 2)) ((pad (hb h')).take 32) := hkept
      rcases l.on.head x 32 (Nat.le_refl _) (.inr rfl) with o2 | h
      · rw [← hk2] at o2
        obtain ⟨q1, q2⟩ := hcr rok rn o2 h1 h2
        exact ⟨q1, h', u', .inl ⟨by rw [r1, decide_eq_true (by omega)]; rfl, q2⟩⟩
      · exact absurd rfl h.1
/-! ### a call that fails -/
theorem op_fail {c : Nat} (o : Lo) {g : Lg} {rs : List (List UInt8)} (l : Lw c g rs) (k : Nat) :
    let r := opL o ⟨faults (List.replicate k false ++ [true]) g.d, g.h, g.u⟩
    (r.1 = 0 ∧ r.2.d.n = g.d.n ∧ Lw c ⟨faults [] r.2.d, r.2.h, r.2.u⟩ (nextR o rs)) ∨ (r.1 ≠ 0 ∧ r.2.h = g.h ∧ r.2.u = g.u ∧ r.2.d.n = g.d.n ∧ Lw c ⟨faults [] r.2.d, g.h, g.u⟩ rs) := by
  show ((opL o ⟨faults _ g.d, g.h, g.u⟩).1 = 0 ∧ _) ∨ _
  have hok : (faults (List.replicate k false ++ [true]) g.d).Ok := l.ok.of rfl fun w hw => hw
  cases hp : planL o g.d.n g.h g.u with
  | inl e =>
    have he : opL o ⟨faults (List.replicate k false ++ [true]) g.d, g.h, g.u⟩ = (e, ⟨faults (List.replicate k false ++ [true]) g.d, g.h, g.u⟩) := by
      unfold opL
      show (match planL o g.d.n g.h g.u with | .inl e => _ | .inr (h', u', i0) => _ : Int × Lg) = _
      rw [hp]
    rw [he]
    exact .inr ⟨by show e ≠ 0; rcases planL_err hp with rfl | rfl | rfl <;> decide, rfl, rfl, rfl, l.ok.of rfl (fun w hw => hw), l.st, rfl, l.off, l.left, l.on, l.recs, l.oks⟩
  | inr t =>
    obtain ⟨h', u', i0⟩ := t
    obtain ⟨x, h1, h2⟩ := planL_next l hp
    have he : opL o ⟨faults (List.replicate k false ++ [true]) g.d, g.h, g.u⟩ = putL h' u' i0 ⟨faults (List.replicate k false ++ [true]) g.d, g.h, g.u⟩ := by
      unfold opL
      show (match planL o g.d.n g.h g.u with | .inl e => _ | .inr (h', u', i0) => _ : Int × Lg) = _
      rw [hp]
    rw [he]
    have hk := calls_ok l.on x
    obtain ⟨r1, r2, r3, r4, r5⟩ := run_plan (calls (areaN g.d.n) h' u' i0) k hok hk rfl l.off l.left
    have rok := run_ok (calls (areaN g.d.n) h' u' i0) hok
    have rn := run_n (calls (areaN g.d.n) h' u' i0) hok
    have hl := calls_length (areaN g.d.n) h' u' i0
    have he0 : D.e (faults (List.replicate k false ++ [true]) g.d) = (g.d.kept, []) := by show (g.d.kept, g.d.st) = _; rw [l.st]
    rw [he0] at r4 r5
    have hput : putL h' u' i0 ⟨faults (List.replicate k false ++ [true]) g.d, g.h, g.u⟩ = if (run (calls (areaN g.d.n) h' u' i0) (faults (List.replicate k false ++ [true]) g.d)).1 then (0, ⟨(run (calls (areaN g.d.n) h' u' i0) (faults (List.replicate k false ++ [true]) g.d)).2, h', u'⟩) else (21, ⟨(run (calls (areaN g.d.n) h' u' i0) (faults (List.replicate k false ++ [true]) g.d)).2, g.h, g.u⟩) := rfl
    generalize run (calls (areaN g.d.n) h' u' i0) (faults (List.replicate k false ++ [true]) g.d) = R at *
    obtain ⟨b, d'⟩ := R
    rw [hput]
    simp only at r1 r2 r3 r4 r5 rok rn
    cases hbb : b with
    | true =>
      left
      have hkl : (calls (areaN g.d.n) h' u' i0).length ≤ k := by rw [hbb] at r1; exact of_decide_eq_true r1.symm
      rw [if_pos hkl] at r5
      rw [List.take_of_length_le hkl] at r4
      have e : effs (calls (areaN g.d.n) h' u' i0) (g.d.kept, []) = (over (laid g.d.kept (stW (2 + h'.area * areaN g.d.n) u' i0)) (32 * (h'.gen % 2)) ((pad (hb h')).take 32), []) := by
        have := effs_calls (areaN g.d.n) h' u' g.d.kept i0 (calls (areaN g.d.n) h' u' i0).length
        rw [List.take_length] at this
        rcases this with ⟨q, _⟩ | ⟨q, _⟩ | ⟨q, _⟩ | ⟨_, q⟩
        · omega
        · omega
        · omega
        · exact q
      rw [e] at r4 r5
      refine ⟨rfl, rn, rok.of rfl (fun w hw => hw), r5, rfl, r2, r3, ?_, h1, h2⟩
      show On c d'.n d'.kept h' u'
      rw [rn, r4]
      rcases l.on.head x 32 (Nat.le_refl _) (.inr rfl) with h | h
      · exact h
      · exact absurd rfl h.1
    | false =>
      right
      have hkl : ¬ (calls (areaN g.d.n) h' u' i0).length ≤ k := fun hh => by rw [hbb, decide_eq_true hh] at r1; cases r1
      rw [if_neg hkl] at r5
      refine ⟨by show (21 : Int) ≠ 0; decide, rfl, rfl, rn, rok.of rfl (fun w hw => hw), r5, rfl, r2, r3, ?_, l.recs, l.oks⟩
      show On c d'.n d'.kept g.h g.u
      rw [rn, r4]
      show On c g.d.n _ g.h g.u
      rcases effs_calls (areaN g.d.n) h' u' g.d.kept i0 k with ⟨q, e⟩ | ⟨q, e⟩ | ⟨q, e⟩ | ⟨q, e⟩
      · rw [e]; exact l.on
      · rw [e]; exact l.on.keep x (stW (2 + h'.area * areaN g.d.n) u' i0) (fun w hw => hw) (fun _ => 32) (fun _ => Nat.le_refl _)
      · rw [e]; exact l.on.keep x (stW (2 + h'.area * areaN g.d.n) u' i0) (fun w hw => hw) (fun _ => 32) (fun _ => Nat.le_refl _)
      · omega
/-! ### a new disk -/
theorem new_log {n : Nat} (h4 : 4 ≤ n) (h512 : n ≤ 512) (c : Nat) : Lw c ⟨mk n, H.zero, []⟩ [] := by
  have hz : ∀ i, i < 2 → Zr (hd8 (mk n).kept i) := fun i hi => by
    show ((List.replicate (32 * n) 0).drop (32 * i)).take 8 = _
    rw [List.drop_replicate, List.take_replicate]
    congr 1; omega
  refine ⟨mk_ok h512, rfl, rfl, rfl, rfl, ?_, rfl, rfl⟩
  show On c (mk n).n _ _ _
  rw [mk_n]
  exact ⟨by simp [mk], h4, h512, ⟨by show (0 : Nat) < 262144; decide, by show (0 : Nat) < 2; decide, by show (0 : Nat) < 8192; decide⟩, rfl, Nat.zero_le _, fun j hj => absurd hj (Nat.not_lt_zero _), .inr ⟨rfl, hz 0 (by omega)⟩, _, .inl (hz 1 (by omega)), .inl rfl⟩
end Wl
end Go.Proofs.YtkdmljijgfejpaaDoor


