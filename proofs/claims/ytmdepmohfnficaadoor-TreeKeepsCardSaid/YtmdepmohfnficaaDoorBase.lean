/- Words that all walks of this seat use: numbers of 32 bits, slices of bytes in memory. -/
import Derived.Test.YtmdepmohfnficaaDoorRows
import Derived.WalkKit
import Derived.WalkSpells
import Derived.WalkLawsBesides
import Derived.Deep.DeepFit
import Derived.Lib.Hide
namespace Go.Proofs.YtmdepmohfnficaaDoor
set_option linter.unusedVariables false
set_option linter.unusedSimpArgs false
open Go.RowKit

/-- a number of 32 bits, as Go's uint32 holds it -/
def U (x : BitVec 32) : Int := (x.toNat : Int)
theorem U_lo (x : BitVec 32) : 0 ≤ U x := by unfold U; omega
theorem U_hi (x : BitVec 32) : U x < 4294967296 := by unfold U; omega
theorem U_inj {x y : BitVec 32} (h : U x = U y) : x = y := by unfold U at h; exact BitVec.eq_of_toNat_eq (by omega)
theorem ofInt_U (x : BitVec 32) : BitVec.ofInt 32 (U x) = x := by unfold U; rw [BitVec.ofInt_natCast]; simp
theorem U_ofInt (n : Int) (h0 : 0 ≤ n) (h1 : n < 4294967296) : U (BitVec.ofInt 32 n) = n := by
  obtain ⟨m, rfl⟩ := Int.eq_ofNat_of_zero_le h0
  unfold U; rw [BitVec.ofInt_natCast, BitVec.toNat_ofNat]; omega
theorem wrapU (x : BitVec 32) : IntKind.u32.wrap (U x) = U x := by rw [IntKind.wrap_u32]; have := U_lo x; have := U_hi x; omega
theorem bitsU_xor (a b : Int) : bits .xor .u32 a b = U (BitVec.ofInt 32 a ^^^ BitVec.ofInt 32 b) := wrapU _
theorem bitsU_and (a b : Int) : bits .and .u32 a b = U (BitVec.ofInt 32 a &&& BitVec.ofInt 32 b) := wrapU _
theorem bitsU_or (a b : Int) : bits .or .u32 a b = U (BitVec.ofInt 32 a ||| BitVec.ofInt 32 b) := wrapU _
@[go_sem] theorem bits_U_xor (x y : BitVec 32) : bits .xor .u32 (U x) (U y) = U (x ^^^ y) := by rw [bitsU_xor, ofInt_U, ofInt_U]
@[go_sem] theorem bits_U_and (x y : BitVec 32) : bits .and .u32 (U x) (U y) = U (x &&& y) := by rw [bitsU_and, ofInt_U, ofInt_U]
@[go_sem] theorem bits_U_and15 (x : BitVec 32) : bits .and .u32 (U x) 15 = U (x &&& 15#32) := by rw [bitsU_and, ofInt_U]; rfl
@[go_sem] theorem bits_U_and1 (x : BitVec 32) : bits .and .u32 (U x) 1 = U (x &&& 1#32) := by rw [bitsU_and, ofInt_U]; rfl
theorem U_shr (x : BitVec 32) (n : Nat) : U x / (2 ^ n : Nat) = U (x >>> n) := by
  unfold U; rw [BitVec.toNat_ushiftRight, Nat.shiftRight_eq_div_pow]; exact (Int.natCast_ediv _ _).symm
theorem shiftU_shr (yk : IntKind) (x : BitVec 32) (n : Nat) (hn : n ≤ 32) : Op.shift .shr .u32 (U x) yk (n : Int) = pure (.int .u32 (U (x >>> n))) := by
  rw [shift_shr .u32 yk (U x) n (by omega) (by simp only [IntKind.bits]; omega), ← U_shr]; rfl
@[go_sem ↓] theorem shiftU_shr1 (yk : IntKind) (x : BitVec 32) : Op.shift .shr .u32 (U x) yk 1 = pure (.int .u32 (U (x >>> 1))) := shiftU_shr yk x 1 (by omega)
@[go_sem ↓] theorem shiftU_shr8 (yk : IntKind) (x : BitVec 32) : Op.shift .shr .u32 (U x) yk 8 = pure (.int .u32 (U (x >>> 8))) := shiftU_shr yk x 8 (by omega)
@[go_sem ↓] theorem shiftU_shr16 (yk : IntKind) (x : BitVec 32) : Op.shift .shr .u32 (U x) yk 16 = pure (.int .u32 (U (x >>> 16))) := shiftU_shr yk x 16 (by omega)
@[go_sem ↓] theorem shiftU_shr24 (yk : IntKind) (x : BitVec 32) : Op.shift .shr .u32 (U x) yk 24 = pure (.int .u32 (U (x >>> 24))) := shiftU_shr yk x 24 (by omega)
@[go_sem ↓] theorem shiftU_shr31 (yk : IntKind) (x : BitVec 32) : Op.shift .shr .u32 (U x) yk 31 = pure (.int .u32 (U (x >>> 31))) := shiftU_shr yk x 31 (by omega)
@[go_sem ↓] theorem shiftU_shl1 (yk : IntKind) (x : BitVec 32) : Op.shift .shl .u32 (U x) yk 1 = pure (.int .u32 (U (x <<< 1))) := by
  have h := shift_shl .u32 yk (U x) 1 (by omega) (by simp only [IntKind.bits]; omega)
  rw [h, IntKind.wrap_u32]
  congr 2
  unfold U
  rw [BitVec.toNat_shiftLeft, Nat.shiftLeft_eq]
  simp only [Int.toNat_one]
  omega
@[go_sem ↓] theorem shiftU_shr4 (yk : IntKind) (x : BitVec 32) : Op.shift .shr .u32 (U x) yk 4 = pure (.int .u32 (U (x >>> 4))) := shiftU_shr yk x 4 (by omega)
@[go_sem] theorem signed_u32 : IntKind.u32.signed = false := rfl
@[go_sem] theorem bits_U_not (x : BitVec 32) : bits .xor .u32 IntKind.u32.max (U x) = U (~~~ x) := by
  rw [bitsU_xor, ofInt_U]; congr 1
@[go_sem] theorem U_shrI (x : BitVec 32) (n : Nat) : U x / (2 : Int) ^ n = U (x >>> n) := by
  rw [← U_shr]; congr 1
theorem and1 (x : BitVec 32) : U (x &&& 1#32) = if x.getLsbD 0 then 1 else 0 := by
  have e : x &&& 1#32 = if x.getLsbD 0 then 1#32 else 0#32 := by
    apply BitVec.eq_of_getLsbD_eq
    intro i hi
    have key : ∀ i, i < 32 → (1#32).getLsbD i = decide (i = 0) := by decide
    rw [BitVec.getLsbD_and, key i hi]
    by_cases h : i = 0
    · subst h; cases x.getLsbD 0 <;> simp
    · cases x.getLsbD 0 <;> simp [h]
  rw [e]; cases x.getLsbD 0 <;> rfl
/-- a bit, behind a name that simp does not open -/
def bit (x : BitVec 32) (n : Nat) : Bool := x.getLsbD n
@[go_sem] theorem U_bit0 (x : BitVec 32) : (U (x &&& 1#32) == 1) = bit x 0 := by rw [and1]; unfold bit; cases x.getLsbD 0 <;> rfl
@[go_sem high] theorem U_bit (x : BitVec 32) (n : Nat) : (U ((x >>> n) &&& 1#32) == 1) = bit x n := by rw [U_bit0]; simp [bit]
@[go_sem] theorem U_bit31 (x : BitVec 32) : (U (x >>> 31) == 1) = bit x 31 := by
  have e : x >>> 31 = (x >>> 31) &&& 1#32 := by
    apply BitVec.eq_of_getLsbD_eq
    intro i hi
    have key : ∀ i, i < 32 → (1#32).getLsbD i = decide (i = 0) := by decide
    rw [BitVec.getLsbD_and, key i hi, BitVec.getLsbD_ushiftRight]
    by_cases h : i = 0
    · simp [h]
    · rw [BitVec.getLsbD_of_ge x (31 + i) (by omega)]; simp
  rw [e, U_bit]
@[go_sem] theorem bits_U_or1 (x : BitVec 32) : bits .or .u32 (U x) 1 = U (x ||| 1#32) := by rw [bitsU_or, ofInt_U]; rfl
@[go_sem] theorem bits_U_poly (x : BitVec 32) : bits .xor .u32 (U x) 2197175160 = U (x ^^^ 0x82f63b78#32) := by rw [bitsU_xor, ofInt_U]; rfl
@[go_sem] theorem bits_i64_and1 (z : Int) : bits .and .i64 z 1 = z % 2 := by
  show IntKind.i64.wrap ((BitVec.ofInt 64 z &&& BitVec.ofInt 64 1).toNat : Int) = _
  have e : (BitVec.ofInt 64 z &&& BitVec.ofInt 64 1).toNat = (z % 2).toNat := by
    rw [BitVec.toNat_and, BitVec.toNat_ofInt, show (BitVec.ofInt 64 1).toNat = 1 from by decide, Nat.and_one_is_mod]
    omega
  rw [e, IntKind.wrap_i64]; omega
theorem U_and15 (x : BitVec 32) : U (x &&& 15#32) < 16 := by
  unfold U; rw [BitVec.toNat_and]; have : x.toNat &&& (15#32).toNat ≤ (15#32).toNat := Nat.and_le_right; simp only [BitVec.toNat_ofNat] at this ⊢; omega
@[go_sem] theorem U_lo' (x : BitVec 32) : (0 ≤ U x) = True := eq_true (U_lo x)
@[go_sem] theorem U_and15' (x : BitVec 32) : (U (x &&& 15#32) < 16) = True := eq_true (U_and15 x)

/-! ### What lies below the heap's size when a call began stays -/
/-- w' goes on from w: nothing that was there has turned -/
def Ext (w w' : World) : Prop := Below w.heap.size w w'
theorem Ext.refl (w : World) : Ext w w := Below.refl _ _
theorem Ext.trans {a b c : World} (h : Ext a b) (k : Ext b c) : Ext a c := Below.trans h (Below.mono k h.size)
theorem Ext.alloc {a w : World} (h : Ext a w) (o : Obj) : Ext a (w.alloc o) := Below.alloc h h.size o
theorem Ext.drew {a w : World} (h : Ext a w) : Ext a w.drew := Below.drew h
theorem Ext.setCell {a w : World} (h : Ext a w) {p : Addr} (hp : a.heap.size ≤ p.block) (u : Value) : Ext a (w.setCell p u) := Below.setCell h hp u
theorem Ext.grown {a w w' : World} {row : Option Nat} (h : Ext a w) (hg : w.grownBy w' row) (hr : ∀ k, row = some k → a.heap.size ≤ k) : Ext a w' := Below.grown h hg h.size hr
theorem Ext.cell {w w' : World} (h : Ext w w') {p : Addr} {v : Value} (hc : w.cell? p = some v) : w'.cell? p = some v := by
  rw [Below.cell h (World.block_lt_of_cell? w p hc)]; exact hc
theorem Ext.heap {w w' : World} (h : Ext w w') {k : Nat} {o : Obj} (hc : w.heap[k]? = some o) : w'.heap[k]? = some o := by
  rw [h.block k (Array.getElem?_eq_some_iff.1 hc).1]; exact hc

/-! ### Slices of bytes that are read -/
/-- a slice's parts (address, capacity), and the bytes that are read through it -/
structure BytesAt (w : World) (a : Option Addr) (cap : Nat) (l : List UInt8) : Prop where
  le : l.length ≤ cap
  capm : cap ≤ maxLen
  none : a = none → cap = 0
  cells : ∀ j (h : j < l.length), ∃ g o, a = some ⟨g, o, Option.none⟩ ∧ w.cell? ⟨g, o + j, Option.none⟩ = some (.int .u8 (l[j].toNat : Int))

theorem BytesAt.len {w : World} {a : Option Addr} {cap : Nat} {l : List UInt8} (h : BytesAt w a cap l) : l.length ≤ 9223372036854775807 := by
  have h1 := h.le; have h2 := h.capm; unfold maxLen at h2; omega
theorem BytesAt.ext {w w' : World} {a : Option Addr} {cap : Nat} {l : List UInt8} (h : BytesAt w a cap l) (e : Ext w w') : BytesAt w' a cap l :=
  ⟨h.le, h.capm, h.none, fun j hj => let ⟨g, o, h1, h2⟩ := h.cells j hj; ⟨g, o, h1, e.cell h2⟩⟩
theorem BytesAt.get {w : World} {a : Option Addr} {cap : Nat} {l : List UInt8} (h : BytesAt w a cap l) (j : Nat) (hj : j < l.length) : ∃ g o, a = some ⟨g, o, Option.none⟩ ∧ w.cell? ⟨g, o + j, Option.none⟩ = some (.int .u8 ((l.getD j 0).toNat : Int)) := by
  obtain ⟨g, o, h1, h2⟩ := h.cells j hj
  exact ⟨g, o, h1, by rw [h2]; simp [List.getD, hj]⟩
/-- the value reads as bytes -/
def Bytes (w : World) (v : Value) (l : List UInt8) : Prop := ∃ a cap, v = .slice a l.length cap ∧ BytesAt w a cap l
theorem Bytes.ext {w w' : World} {v : Value} {l : List UInt8} (h : Bytes w v l) (e : Ext w w') : Bytes w' v l :=
  let ⟨a, cap, h1, h2⟩ := h; ⟨a, cap, h1, h2.ext e⟩
theorem Bytes.nil (w : World) : Bytes w (.slice none 0 0) [] := ⟨none, 0, rfl, Nat.le_refl _, by simp [maxLen], fun _ => rfl, fun j h => by simp at h⟩
/-- bytes that lie in a row -/
theorem Bytes.row {w : World} {g o n cap : Nat} {l : List UInt8} (hn : n = l.length) (hc : l.length ≤ cap) (hm : cap ≤ maxLen)
    (h : ∀ j (hj : j < l.length), w.cell? ⟨g, o + j, Option.none⟩ = some (.int .u8 (l[j].toNat : Int))) : Bytes w (.slice (some ⟨g, o, none⟩) n cap) l :=
  ⟨_, _, by rw [hn], hc, hm, fun h => by simp at h, fun j hj => ⟨g, o, rfl, h j hj⟩⟩

/-- a byte's cell -/
def u8v (c : UInt8) : Value := .int .u8 (c.toNat : Int)
/-- bytes that the call owns from a block on: they may be appended to -/
def OwnB (w : World) (base : Nat) (v : Value) (l : List UInt8) : Prop := w.ownsRow base 5 1 v l.length (l.map u8v)
theorem OwnB.shape {w : World} {base : Nat} {v : Value} {l : List UInt8} (h : OwnB w base v l) : ∃ a cap, v = .slice a l.length cap ∧ BytesAt w a cap l ∧ ∀ k, v.ownBlock = some k → base ≤ k := by
  obtain ⟨_, h⟩ := h
  rcases h with ⟨rfl, h0⟩ | ⟨g, cap, cur, rfl, hb, hh, hn, hm, hs, ht⟩
  · have : l = [] := List.eq_nil_of_length_eq_zero h0
    subst this
    exact ⟨none, 0, rfl, ⟨Nat.le_refl _, by simp [maxLen], fun _ => rfl, fun j h => by simp at h⟩, fun k hk => by simp [Value.ownBlock] at hk⟩
  · refine ⟨some ⟨g, 0, none⟩, cap, rfl, ⟨hn, hm, fun h => by simp at h, fun j hj => ⟨g, 0, rfl, ?_⟩⟩, fun k hk => by simp [Value.ownBlock] at hk; omega⟩
    rw [cell_of_row w g (0 + j) cur _ _ hh]
    have e : (cur.toList.take (l.length * 1))[j]? = (l.map u8v)[j]? := by rw [ht]
    rw [List.getElem?_take, if_pos (by omega), List.getElem?_map, List.getElem?_eq_getElem hj] at e
    simpa [u8v] using e
theorem OwnB.bytes {w : World} {base : Nat} {v : Value} {l : List UInt8} (h : OwnB w base v l) : Bytes w v l :=
  let ⟨a, cap, h1, h2, _⟩ := h.shape; ⟨a, cap, h1, h2⟩
theorem OwnB.alloc {w : World} {base : Nat} {v : Value} {l : List UInt8} (h : OwnB w base v l) (o : Obj) : OwnB (w.alloc o) base v l := World.ownsRow.alloc h o
theorem OwnB.drew {w : World} {base : Nat} {v : Value} {l : List UInt8} (h : OwnB w base v l) : OwnB w.drew base v l := World.ownsRow.drew h
theorem OwnB.ext {w w' : World} {base : Nat} {v : Value} {l : List UInt8} (h : OwnB w base v l) (e : Ext w w') : OwnB w' base v l := by
  obtain ⟨h1, h⟩ := h
  refine ⟨h1, ?_⟩
  rcases h with ⟨rfl, h0⟩ | ⟨g, cap, cur, rfl, hb, hh, r⟩
  · exact .inl ⟨rfl, h0⟩
  · exact .inr ⟨g, cap, cur, rfl, hb, e.heap hh, r⟩
/-- bytes of a block that was just laid -/
theorem Bytes.lit {w : World} {C : Array Value} {e : TypeId} {fr : Nat × Nat} {g n cap : Nat} {l : List UInt8} (hg : g = w.heap.size) (hC : C.toList = l.map u8v) (hn : n = l.length) (hc : n ≤ cap) (hm : cap ≤ maxLen) :
    Bytes (w.alloc (.cells C e fr)) (.slice (some ⟨g, 0, none⟩) n cap) l := by
  subst hg
  refine Bytes.row hn (by omega) hm fun j hj => ?_
  have : (w.alloc (.cells C e fr)).heap[w.heap.size]? = some (.cells C e fr) := by
    show (w.heap.push _)[w.heap.size]? = _
    simp
  rw [cell_of_row _ _ _ _ _ _ this, Nat.zero_add]
  have h2 : C.toList[j]? = (l.map u8v)[j]? := by rw [hC]
  rw [List.getElem?_map, List.getElem?_eq_getElem hj] at h2
  simpa [u8v] using h2
/-- what a call returns, and the world behind it; a plain def, so that the walk does not open it -/
def Ret (p : Value → World → Prop) (e : Ending) (w' : World) : Prop := ∃ v, e = .returned v ∧ p v w'
theorem Ret.mk {p : Value → World → Prop} {v : Value} {w' : World} (h : p v w') : Ret p (.returned v) w' := ⟨v, rfl, h⟩
theorem OwnB.empty {w : World} {base g : Nat} (hg : g = w.heap.size) (hb : base ≤ w.heap.size) : OwnB (w.alloc (.cells #[] 5)) base (.slice (some ⟨g, 0, none⟩) 0 0) [] := by
  subst hg; exact World.ownsRow_made w #[] 0 hb (by simp [maxLen]) rfl
theorem OwnB.lt {w : World} {base : Nat} {v : Value} {l : List UInt8} (h : OwnB w base v l) : ∀ k, v.ownBlock = some k → base ≤ k := fun k hk => (World.ownsRow.lt h k hk).1
/-- the world goes on over an append to the call's own bytes -/
theorem Ext.own {a w w' : World} {v : Value} {l : List UInt8} (h : Ext a w) (ho : OwnB w a.heap.size v l) (hg : w.grownBy w' v.ownBlock) : Ext a w' := h.grown hg ho.lt
theorem setCell_row (w : World) (g j : Nat) (cur : Array Value) (e : TypeId) (fr : Nat × Nat) (u : Value) (h : w.heap[g]? = some (.cells cur e fr)) : (w.setCell ⟨g, j, none⟩ u).heap[g]? = some (.cells (cur.setIfInBounds j u) e fr) := by
  simp [World.setCell, Array.getElem?_modify, h]
/-- the call's own bytes, where there are some: each is read, and may be written -/
theorem OwnB.cells {w : World} {base : Nat} {v : Value} {l : List UInt8} (h : OwnB w base v l) (hl : 0 < l.length) : ∃ g cap, v = .slice (some ⟨g, 0, none⟩) l.length cap ∧ base ≤ g ∧ g < w.heap.size ∧
    (∀ j, j < l.length → w.cell? ⟨g, j, none⟩ = some (.int .u8 ((l.getD j 0).toNat : Int))) ∧ (∀ j, w.frozen? ⟨g, j, none⟩ = false) ∧
    ∀ j (c : UInt8), OwnB (w.setCell ⟨g, j, none⟩ (.int .u8 (c.toNat : Int))) base v (l.set j c) := by
  obtain ⟨hlen, h⟩ := h
  rcases h with ⟨rfl, h0⟩ | ⟨g, cap, cur, rfl, hb, hh, hn, hm, hs, ht⟩
  · omega
  refine ⟨g, cap, rfl, hb, (Array.getElem?_eq_some_iff.1 hh).1, fun j hj => ?_, fun j => ?_, fun j c => ?_⟩
  · rw [cell_of_row w g j cur _ _ hh]
    have e : (cur.toList.take (l.length * 1))[j]? = (l.map u8v)[j]? := by rw [ht]
    rw [List.getElem?_take, if_pos (by omega), List.getElem?_map, List.getElem?_eq_getElem hj] at e
    simpa [u8v, List.getD, hj] using e
  · simp [World.frozen?, hh]
  · refine ⟨by simp, .inr ⟨g, cap, cur.setIfInBounds j (u8v c), by simp, hb, setCell_row w g j cur _ _ _ hh, by simpa using hn, hm, by simpa using hs, ?_⟩⟩
    rw [Array.toList_setIfInBounds, List.length_set, List.map_set, ← ht, List.take_set]
/-- behind a name that simp does not open -/
def xr (a b : UInt8) : UInt8 := a ^^^ b
@[go_sem] theorem bits_u8_xor (a b : UInt8) : bits .xor .u8 (a.toNat : Int) (b.toNat : Int) = ((xr a b).toNat : Int) := by
  rw [u8_xor_nat _ _ a.toNat_lt b.toNat_lt]; unfold xr; rw [UInt8.toNat_xor]
theorem byte_lt (c : UInt8) : (c.toNat : Int) < 256 := by have := c.toNat_lt; omega
theorem ret_int {k : IntKind} {a b : Int} (h : a = b) : Ending.returned (.int k a) = .returned (.int k b) := by rw [h]

theorem info8 : (Tryd.prog.info? 5).map (fun i => (i.zero, i.size, i.bytes)) = some (some (.int .u8 0), 1, 1) := by kernel_rfl

/-- 'append(s, x...)', s the call's own bytes (or nil), x any bytes -/
theorem wp_appendB {o : Oper} {a : Act} {w : World} {K : Act → World → Prop} {Q : Exit → Act → World → Prop} (s x : Operand)
    (ho : o.op = .call { callee := .builtin .append, args := #[s, x], argTypes := #[120, 120] })
    (base : Nat) (v : Value) (l : List UInt8) (hs : a.eval s = v) (hown : OwnB w base v l) (u : Value) (m : List UInt8) (hx : a.eval x = u) (hb : Bytes w u m)
    (hsz : l.length + m.length ≤ 140737488355328) (hbase : base ≤ w.heap.size)
    (h : ∀ v' w', OwnB w' base v' (l ++ m) → w.grownBy w' v.ownBlock → K (a.put o.dst v') w') : o.wp Tryd.prog a w K Q := by
  obtain ⟨i, hi, hz0, hz1, hz2⟩ := info_parts info8
  obtain ⟨ax, cx, rfl, hle, hcm, hnone, hcells⟩ := hb
  cases ax with
  | none =>
    have hc := hnone rfl
    subst hc
    have hm : m = [] := List.eq_nil_of_length_eq_zero (by omega)
    subst hm
    have hr := run_append_owned_none (P := Tryd.prog) w base 120 o.type 5 i 1 Tryd.underlying120 hi v _ _ hown
    unfold Oper.wp execOp
    simp only [ho, resolve, invoke, builtin, Sem.run_bind, Sem.run_pure, Result.andThen_ok, List.map_toArray, List.map_cons, List.map_nil, hs, hx, List.length_nil, hr]
    exact h v w (by simpa using hown) ⟨rfl, rfl, rfl, Nat.le_refl _, fun _ _ _ => rfl⟩
  | some ad =>
    refine wp_append_own w s x 120 ho base 5 i (.int .u8 0) 1 1 Tryd.underlying120 hi hz0 hz1 hz2 rfl (by decide) v l.length _ hs hown ad m.length cx (m.map u8v) hx (by simp) ?_ ?_ (by unfold maxLen; omega) (by omega) hbase ?_
    · intro j u hu
      obtain ⟨hj, rfl⟩ := List.getElem?_eq_some_iff.1 hu
      simp only [List.length_map] at hj
      obtain ⟨g, o', e, hc⟩ := hcells j hj
      cases e
      rw [Addr.add_lit, hc]; simp [u8v]
    · intro u hu
      obtain ⟨c, _, rfl⟩ := List.mem_map.1 hu
      rfl
    · intro v' w' h1 h2 _
      exact h v' w' (by unfold OwnB; rw [List.length_append, List.map_append]; exact h1) h2

theorem wpList_appendB {ops : Array Oper} {rest : List Oper} {o : Oper} {a : Act} {w : World} {Q : Exit → Act → World → Prop} (hgd : o.guard = none) (s x : Operand)
    (ho : o.op = .call { callee := .builtin .append, args := #[s, x], argTypes := #[120, 120] })
    (base : Nat) (v : Value) (l : List UInt8) (hs : a.eval s = v) (hown : OwnB w base v l) (u : Value) (m : List UInt8) (hx : a.eval x = u) (hb : Bytes w u m)
    (hsz : l.length + m.length ≤ 140737488355328) (hbase : base ≤ w.heap.size)
    (h : ∀ v' w', OwnB w' base v' (l ++ m) → w.grownBy w' v.ownBlock → wpList Tryd.prog ops Q rest (a.put o.dst v') w') : wpList Tryd.prog ops Q (o :: rest) a w :=
  wpList_plain hgd fun _ hK => wp_appendB s x ho base v l hs hown u m hx hb hsz hbase fun v' w' h1 h2 => hK _ _ (h v' w' h1 h2)
end Go.Proofs.YtmdepmohfnficaaDoor
