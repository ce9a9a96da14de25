/- Plain facts on disks: bytes that are kept, blocks that are staged. -/
import Derived.Test.YtkdmljijgfejpaaDoorSeq
namespace Go.Proofs.YtkdmljijgfejpaaDoor
set_option linter.unusedVariables false
set_option linter.unusedSimpArgs false
namespace Dk

/-! ### bytes laid over others -/
/-- m laid over l at o -/
def over (l : List UInt8) (o : Nat) (m : List UInt8) : List UInt8 := l.take o ++ m ++ l.drop (o + m.length)
theorem over_length {l m : List UInt8} {o : Nat} (h : o + m.length ≤ l.length) : (over l o m).length = l.length := by
  simp [over]; omega
theorem over_nil (l : List UInt8) (o : Nat) : over l o [] = l := by simp [over]
theorem over_get {l m : List UInt8} {o : Nat} (h : o + m.length ≤ l.length) (j : Nat) : (over l o m)[j]? = if o ≤ j ∧ j < o + m.length then m[j - o]? else l[j]? := by
  unfold over
  by_cases h1 : j < o
  · rw [if_neg (by omega), List.append_assoc, List.getElem?_append_left (by simp; omega), List.getElem?_take, if_pos h1]
  · by_cases h2 : j < o + m.length
    · rw [if_pos (by omega), List.append_assoc, List.getElem?_append_right (by simp; omega), List.getElem?_append_left (by simp; omega)]
      congr 1; simp; omega
    · rw [if_neg (by omega), List.getElem?_append_right (by simp; omega), List.getElem?_drop]
      congr 1; simp; omega
theorem over_snoc {l m : List UInt8} {o : Nat} (c : UInt8) (h : o + m.length < l.length) : over l o (m ++ [c]) = (over l o m).set (o + m.length) c := by
  apply List.ext_getElem?
  intro j
  rw [over_get (by simp; omega), List.getElem?_set, over_length (by omega), over_get (by omega)]
  simp only [List.length_append, List.length_singleton]
  by_cases h1 : o + m.length = j
  · subst h1
    rw [if_pos (by omega), if_pos rfl, if_pos h, List.getElem?_append_right (by omega)]
    simp
  · rw [if_neg h1]
    by_cases h2 : o ≤ j ∧ j < o + m.length
    · rw [if_pos (by omega), if_pos h2, List.getElem?_append_left (by omega)]
    · rw [if_neg (by omega), if_neg h2]
/-- a block's bytes -/
def blk (l : List UInt8) (i : Nat) : List UInt8 := (l.drop (32 * i)).take 32
theorem blk_length {l : List UInt8} {n i : Nat} (hl : l.length = 32 * n) (h : i < n) : (blk l i).length = 32 := by simp [blk]; omega
theorem blk_get (l : List UInt8) (i j : Nat) (h : j < 32) : (blk l i)[j]? = l[32 * i + j]? := by
  unfold blk; rw [List.getElem?_take, if_pos h, List.getElem?_drop]

/-! ### disks -/
structure D where
  kept : List UInt8
  st : List (Nat × List UInt8)
  plan : List Bool
  off : Bool
  left : Nat
/-- how many blocks it has -/
def D.n (d : D) : Nat := d.kept.length / 32
structure D.Ok (d : D) : Prop where
  len : d.kept.length = 32 * d.n
  most : d.n ≤ 512
  at_ : ∀ w ∈ d.st, w.1 < d.n ∧ w.2.length = 32
def mk (n : Nat) : D := ⟨List.replicate (32 * n) 0, [], [], false, 0⟩
def clamp (z : Int) : Nat := (max 0 (min z 512)).toNat
/-- what the plan says of a call -/
def fl (d : D) : Bool := d.off || d.plan.headD false
def after (d : D) : D := if d.off then d else { d with off := d.left == 1, left := d.left - 1, plan := d.plan.tail }
def pad (b : List UInt8) : List UInt8 := b ++ List.replicate (32 - b.length) 0
def has (d : D) (i : Int) : Bool := decide (0 ≤ i) && decide (i < (d.n : Int))
def wrE (i : Int) (b : List UInt8) (d : D) : Int := if !has d i then 4 else if 32 < b.length then 2 else if fl d then 21 else 0
def wrB (i : Int) (b : List UInt8) (d : D) : D := if !has d i then d else if 32 < b.length then d else if fl d then after d else { after d with st := d.st ++ [(i.toNat, pad b)] }
/-- so many staged blocks are kept, each as far as its cut -/
def lay (K : List UInt8) (st : List (Nat × List UInt8)) (cut : Nat → Nat) : Nat → List UInt8
  | 0 => K
  | i + 1 => over (lay K st cut i) (32 * (st.getD i (0, [])).1) ((st.getD i (0, [])).2.take (cut i))
def syncE (d : D) : Int := if fl d then 21 else 0
def sync (d : D) : D := if fl d then after d else { after d with kept := lay d.kept d.st (fun _ => 32) d.st.length, st := [] }
def drop (d : D) : D := if d.off then d else { d with st := [] }
def stop (z : Int) (d : D) : D := { d with left := z.toNat, off := d.off || z == 0 }
def cutAt (cuts : List UInt8) (i : Nat) : Nat := if i < cuts.length then (cuts.getD i 0).toNat % 33 else 0
def crash (cuts : List UInt8) (d : D) : D := ⟨lay d.kept d.st (cutAt cuts) d.st.length, [], [], false, 0⟩
def faults (p : List Bool) (d : D) : D := { d with plan := p }
/-- a block, with so many staged ones looked at -/
def rd (K : List UInt8) (st : List (Nat × List UInt8)) (i : Nat) : Nat → List UInt8
  | 0 => blk K i
  | k + 1 => if (st.getD k (0, [])).1 = i then (st.getD k (0, [])).2 else rd K st i k
def rdB (i : Int) (d : D) : List UInt8 := if has d i then rd d.kept d.st i.toNat d.st.length else []

theorem pad_length {b : List UInt8} (h : b.length ≤ 32) : (pad b).length = 32 := by simp [pad]; omega
theorem after_kept (d : D) : (after d).kept = d.kept := by unfold after; split <;> rfl
theorem after_st (d : D) : (after d).st = d.st := by unfold after; split <;> rfl
theorem D.Ok.of {d d' : D} (h : d.Ok) (hk : d'.kept = d.kept) (hs : ∀ w ∈ d'.st, w ∈ d.st) : d'.Ok := by
  have e : d'.n = d.n := by unfold D.n; rw [hk]
  exact ⟨by rw [hk, e]; exact h.len, by rw [e]; exact h.most, fun w hw => by rw [e]; exact h.at_ w (hs w hw)⟩
theorem after_ok {d : D} (h : d.Ok) : (after d).Ok := h.of (after_kept d) (fun w hw => by rwa [after_st] at hw)
theorem lay_length {K : List UInt8} {st : List (Nat × List UInt8)} {n : Nat} (hK : K.length = 32 * n) (hs : ∀ w ∈ st, w.1 < n ∧ w.2.length = 32) (cut : Nat → Nat) (hc : ∀ i, cut i ≤ 32) : ∀ i, i ≤ st.length → (lay K st cut i).length = 32 * n
  | 0, _ => hK
  | i + 1, hi => by
    have ih := lay_length hK hs cut hc i (by omega)
    have hm : st.getD i (0, []) ∈ st := by
      rw [List.getD_eq_getElem?_getD, List.getElem?_eq_getElem (by omega)]; exact List.getElem_mem _
    obtain ⟨h1, h2⟩ := hs _ hm
    have := hc i
    rw [lay, over_length (by rw [List.length_take, h2, ih]; omega), ih]
theorem cutAt_le (cuts : List UInt8) (i : Nat) : cutAt cuts i ≤ 32 := by unfold cutAt; split <;> omega
theorem D.Ok.laid {d : D} (h : d.Ok) (cut : Nat → Nat) (hc : ∀ i, cut i ≤ 32) (p : List Bool) (o : Bool) (l : Nat) : (⟨lay d.kept d.st cut d.st.length, [], p, o, l⟩ : D).Ok := by
  have hl := lay_length h.len h.at_ cut hc _ (Nat.le_refl _)
  have hn : (⟨lay d.kept d.st cut d.st.length, [], p, o, l⟩ : D).n = d.n := by show (lay _ _ _ _).length / 32 = _; rw [hl]; omega
  exact ⟨by rw [hn]; exact hl, by rw [hn]; exact h.most, fun w hw => by simp at hw⟩
theorem sync_ok {d : D} (h : d.Ok) : (sync d).Ok := by
  unfold sync
  split
  · exact after_ok h
  · exact h.laid (fun _ => 32) (fun _ => Nat.le_refl _) _ _ _
theorem drop_ok {d : D} (h : d.Ok) : (drop d).Ok := by
  unfold drop; split
  · exact h
  · exact h.of rfl (fun w hw => by simp at hw)
theorem crash_ok (cuts : List UInt8) {d : D} (h : d.Ok) : (crash cuts d).Ok := h.laid _ (cutAt_le cuts) _ _ _
theorem write_ok (i : Int) (b : List UInt8) {d : D} (h : d.Ok) : (wrB i b d).Ok := by
  unfold wrB
  split
  · exact h
  · rename_i hh
    split
    · exact h
    · split
      · exact after_ok h
      · rename_i hb _
        refine ⟨by show (after d).kept.length = 32 * ((after d).kept.length / 32); rw [after_kept]; exact h.len, by show (after d).kept.length / 32 ≤ 512; rw [after_kept]; exact h.most, fun w hw => ?_⟩
        show w.1 < (after d).kept.length / 32 ∧ _
        rw [after_kept]
        rcases List.mem_append.1 hw with hw | hw
        · exact h.at_ w hw
        · rw [List.mem_singleton] at hw
          subst hw
          simp [has] at hh
          exact ⟨by show i.toNat < d.n; omega, pad_length (by omega)⟩
theorem mk_n (n : Nat) : (mk n).n = n := by unfold D.n mk; simp
theorem mk_ok {n : Nat} (h : n ≤ 512) : (mk n).Ok := ⟨by rw [mk_n]; simp [mk], by rw [mk_n]; exact h, fun w hw => by simp [mk] at hw⟩
theorem clamp_le (z : Int) : clamp z ≤ 512 := by unfold clamp; omega
end Dk
end Go.Proofs.YtkdmljijgfejpaaDoor
