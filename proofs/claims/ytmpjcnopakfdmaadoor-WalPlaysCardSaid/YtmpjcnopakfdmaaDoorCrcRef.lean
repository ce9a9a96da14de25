/- The document's sum, bit by bit: its contracts. -/
import Derived.Test.YtmpjcnopakfdmaaDoorMem
import Derived.Test.YtmpjcnopakfdmaaDoorCrc
namespace Go.Proofs.YtmpjcnopakfdmaaDoor
set_option linter.unusedVariables false
set_option linter.unusedSimpArgs false
open Go.RowKit

/-- a bit as a number, behind a name that simp does not open -/
def bi (b : Bool) : Int := if b then 1 else 0
theorem bi_lo (b : Bool) : 0 ≤ bi b := by cases b <;> decide
theorem bi_hi (b : Bool) : bi b ≤ 1 := by cases b <;> decide
@[go_sem] theorem bi_add (x y : Bool) : (bi x + bi y) % 2 = bi (x ^^ y) := by cases x <;> cases y <;> rfl
@[go_sem] theorem bi_one (x : Bool) : (bi x == 1) = x := by cases x <;> rfl
@[go_sem] theorem bi_not (x : Bool) : 1 - bi x = bi (!x) := by cases x <;> rfl
@[go_sem] theorem bi_wrap (b : Bool) : IntKind.i64.wrap (bi b) = bi b := IntWalk.i64_in _ (by have := bi_lo b; have := bi_hi b; omega)
@[go_sem] theorem bi_wrap64 (b : Bool) : wrap64 (bi b) = bi b := IntWalk.wrap64_in _ (by have := bi_lo b; have := bi_hi b; omega)
@[go_sem] theorem bi_wrapU (b : Bool) : IntKind.u32.wrap (bi b) = bi b := IntWalk.u32_in _ (by have := bi_lo b; have := bi_hi b; omega)
@[go_sem] theorem U_wrap (x : BitVec 32) : IntKind.i64.wrap (U x) = U x := IntWalk.i64_in _ (by have := U_lo x; have := U_hi x; omega)
@[go_sem] theorem U_wrap64 (x : BitVec 32) : wrap64 (U x) = U x := IntWalk.wrap64_in _ (by have := U_lo x; have := U_hi x; omega)
@[go_sem] theorem U_wrapU (x : BitVec 32) : IntKind.u32.wrap (U x) = U x := wrapU x
theorem U_mod2' (x : BitVec 32) : U x % 2 = bi (bit x 0) := by
  have h := and1 x
  have e : U (x &&& 1#32) = U x % 2 := by unfold U; rw [BitVec.toNat_and, show (1#32).toNat = 1 from rfl, Nat.and_one_is_mod]; omega
  rw [← e, h]; rfl
@[go_sem] theorem U_mod2 (x : BitVec 32) : U x % 2 = bi (bit x 0) := U_mod2' x
@[go_sem high] theorem U_mod2s (x : BitVec 32) (k : Nat) : U (x >>> k) % 2 = bi (bit x k) := by rw [U_mod2']; unfold bit; simp
@[go_sem] theorem U_div2 (x : BitVec 32) : U x / (2 : Int) = U (x >>> 1) := by have := U_shr x 1; simpa using this

theorem rem2 (k : IntKind) (x : BitVec 32) : Op.intDiv .rem k (U x) 2 = pure (.int k (bi (bit x 0))) := by
  have h := U_lo x
  unfold Op.intDiv
  rw [if_neg (by decide)]
  show pure (Value.int k ((U x).tmod 2)) = _
  rw [Int.tmod_eq_emod_of_nonneg h, U_mod2']
@[go_sem ↓] theorem rem2_u32 (x : BitVec 32) : Op.intDiv .rem .u32 (U x) 2 = pure (.int .u32 (bi (bit x 0))) := rem2 .u32 x
@[go_sem ↓] theorem rem2_i64 (x : BitVec 32) : Op.intDiv .rem .i64 (U x) 2 = pure (.int .i64 (bi (bit x 0))) := rem2 .i64 x
@[go_sem ↓] theorem quo2_u32 (x : BitVec 32) : Op.intDiv .quo .u32 (U x) 2 = pure (.int .u32 (U (x >>> 1))) := by
  have h := U_lo x
  have h2 := U_hi x
  unfold Op.intDiv
  rw [if_neg (by decide)]
  show pure (Value.int .u32 (IntKind.u32.wrap ((U x).tdiv 2))) = _
  rw [IntWalk.u32_quo _ _ (by omega), U_div2]
@[go_sem ↓] theorem quo2_i64 (x : BitVec 32) : Op.intDiv .quo .i64 (U x) 2 = pure (.int .i64 (U (x >>> 1))) := by
  have h := U_lo x
  have h2 := U_hi x
  unfold Op.intDiv
  rw [if_neg (by decide)]
  show pure (Value.int .i64 (IntKind.i64.wrap ((U x).tdiv 2))) = _
  rw [IntWalk.i64_quo _ _ (by omega), U_div2]
@[go_sem] theorem bit_shr (x : BitVec 32) (k : Nat) : bit (x >>> k) 0 = bit x k := by unfold bit; simp

/-- the register's bits lie in block g -/
def Reg (w : World) (g : Nat) (R : BitVec 32) : Prop := IRow w g 32 fun i => bi (bit R i)

/-- a bit goes in: behind a name -/
def bstep (R : BitVec 32) (b : Bool) : BitVec 32 := Crc.step (R ^^^ if b then 1#32 else 0#32)
/-- the register, moved by one -/
def moved (R : BitVec 32) (i : Nat) : Bool := if i < 31 then bit R (i + 1) else false
theorem step_bit (R : BitVec 32) (b : Bool) (i : Nat) (hi : i < 32) : bit (bstep R b) i = (moved R i ^^ ((bit R 0 ^^ b) && bit Crc.poly i)) := by
  have key : ∀ i, i < 32 → (1#32).getLsbD i = decide (i = 0) := by decide
  have h0 : (R ^^^ if b then 1#32 else 0#32).getLsbD 0 = (R.getLsbD 0 ^^ b) := by
    rw [BitVec.getLsbD_xor]; cases b <;> rfl
  have h1 : ((R ^^^ if b then 1#32 else 0#32) >>> 1).getLsbD i = if i < 31 then R.getLsbD (i + 1) else false := by
    rw [BitVec.getLsbD_ushiftRight, Nat.add_comm 1 i]
    by_cases h : i < 31
    · rw [if_pos h, BitVec.getLsbD_xor]
      cases b
      · simp only [Bool.false_eq_true, if_false]
        rw [show (0#32).getLsbD (i + 1) = false by simp]; simp
      · simp only [if_true]
        rw [key (i + 1) (by omega)]; simp
    · rw [if_neg h]; exact BitVec.getLsbD_of_ge _ _ (by omega)
  unfold bit bstep moved Crc.step
  rw [BitVec.getLsbD_xor, h0, h1]
  cases (R.getLsbD 0 ^^ b) <;> simp [bit]

/-- one place on -/
def shifting (R : BitVec 32) (k j : Nat) : Bool := if j < k then bit R (j + 1) else bit R j
theorem shifting_lt {R : BitVec 32} {k j : Nat} (h : j < k) : shifting R k j = bit R (j + 1) := if_pos h
theorem shifting_ge {R : BitVec 32} {k j : Nat} (h : ¬ j < k) : shifting R k j = bit R j := if_neg h
/-- so many places have been added to -/
def adding (R : BitVec 32) (k j : Nat) : Bool := moved R j ^^ (decide (j < k) && bit Crc.poly j)
theorem adding_self (R : BitVec 32) (k : Nat) : adding R k k = moved R k := by simp [adding]
theorem adding_next (R : BitVec 32) (k : Nat) : adding R (k + 1) k = (moved R k ^^ bit Crc.poly k) := by simp [adding]
theorem adding_other (R : BitVec 32) {k j : Nat} (h : j ≠ k) : adding R (k + 1) j = adding R k j := by
  unfold adding
  have : decide (j < k + 1) = decide (j < k) := by simp; omega
  rw [this]

set_option maxHeartbeats 1000000 in
theorem bit_any (R : BitVec 32) (b : Bool) (g : Nat) (w : World) (hr : Reg w g R) :
    Calls Tryd.prog 84 #[.slice (some ⟨g, 0, none⟩) 32 32, .int .i64 (bi b)] w
      fun e w' => e = .returned (.tuple #[]) ∧ Reg w' g (bstep R b) ∧ Chg (· = g) w w' := by
  have c0 := hr.cell 0 (by omega)
  have l0 := bi_lo (bit R 0)
  have u0 := bi_hi (bit R 0)
  have lb := bi_lo b
  have ub := bi_hi b
  have HE := Lib.hid (step_bit R b)
  go_enter Tryd.func84, Tryd.ntmps84
  go_wp2
  clear c0 l0 u0 lb ub
  go_loopw [5] (fun i wr => ∃ k : Nat, k ≤ 31 ∧ i = .int .i64 k ∧ IRow wr g 32 (fun j => bi (shifting R k j)) ∧ Chg (· = g) w wr) (fun i _ => 31 - (intOf i).toNat)
  case atStart => exact ⟨0, Nat.zero_le _, rfl, hr.congr (fun i _ => by rw [shifting_ge (by omega)]), Chg.refl _ _⟩
  case round =>
    obtain ⟨k, hk, rfl, rk, ek⟩ := hrel
    by_cases hlt : k < 31
    · have ck := rk.cell (k + 1) (by omega)
      rw [shifting_ge (by omega)] at ck
      have f0 := rk.free k
      have ck0 := rk.cell k (by omega)
      go_wp2
      go_roundw
      case rel =>
        refine ⟨k + 1, by omega, by go_num, ?_, ek.setCell (fun _ => rfl) _⟩
        refine rk.set k _ _ (fun _ => by rw [shifting_lt (by omega)]) (fun i _ hne => ?_)
        by_cases h : i < k
        · rw [shifting_lt h, shifting_lt (by omega)]
        · rw [shifting_ge h, shifting_ge (by omega)]
      case measure => simp [intOf]; omega
    · obtain rfl : k = 31 := by omega
      have f0 := rk.free 31
      have c31 := rk.cell 31 (by omega)
      have r1 : IRow (wr.setCell ⟨g, 31, none⟩ (.int .i64 0)) g 32 (fun j => bi (moved R j)) :=
        rk.set 31 _ _ (fun _ => rfl) (fun i hi hne => by
          have : i < 31 := by omega
          rw [shifting_lt this]; unfold moved; rw [if_pos this])
      have e1 : Chg (· = g) w (wr.setCell ⟨g, 31, none⟩ (.int .i64 0)) := ek.setCell (fun _ => rfl) _
      cases hs : bit R 0 ^^ b
      · rw [hs] at HE
        go_wp2
        refine bodyPost_end (results_none rfl _ _ _) rfl ⟨rfl, ?_, e1⟩
        exact r1.congr fun i hi => by rw [HE.out i hi]; simp
      · rw [hs] at HE
        go_wp2
        go_loopw [6, 7] (fun p i wr => ∃ k : Nat, k ≤ 32 ∧ i = .int .i64 k ∧ p = .int .u32 (U (Crc.poly >>> k)) ∧ IRow wr g 32 (fun j => bi (adding R k j)) ∧ Chg (· = g) w wr) (fun _ i _ => 32 - (intOf i).toNat)
        case atStart => exact ⟨0, Nat.zero_le _, rfl, rfl, r1.congr (fun i _ => by simp [adding]), e1⟩
        case round =>
          obtain ⟨k, hk, rfl, rfl, rk2, ek2⟩ := hrel
          clear r1 e1 f0 c31
          by_cases hlt : k < 32
          · have ck := rk2.cell k hlt
            have fk := rk2.free k
            rw [adding_self] at ck
            have l1 := bi_lo (moved R k)
            have u1 := bi_hi (moved R k)
            have l2 := bi_lo (bit Crc.poly k)
            have u2 := bi_hi (bit Crc.poly k)
            go_wp2
            go_roundw
            case rel =>
              refine ⟨k + 1, by omega, by go_num, by rw [BitVec.shiftRight_add], ?_, ek2.setCell (fun _ => rfl) _⟩
              exact rk2.set k _ _ (fun _ => by rw [adding_next]) (fun i _ hne => by rw [adding_other R hne])
            case measure => simp [intOf]; omega
          · obtain rfl : k = 32 := by omega
            go_wp2
            refine bodyPost_end (results_none rfl _ _ _) rfl ⟨rfl, ?_, ek2⟩
            exact rk2.congr fun i hi => by rw [HE.out i hi]; simp [adding, hi]

/-- the register behind some bits of a byte -/
theorem bits_of_byte (R c : BitVec 32) (k : Nat) (hk : k < 32) : bstep (Crc.pw k (R ^^^ Crc.part c k)) (bit c k) = Crc.pw (k + 1) (R ^^^ Crc.part c (k + 1)) := by
  have e : (if bit c k then 1#32 else 0#32) = Crc.pw k (if c.getLsbD k then 1#32 <<< k else 0#32) := by
    unfold bit
    cases c.getLsbD k
    · simp [Crc.pw_zero]
    · simp [Crc.pw_bit k hk]
  unfold bstep
  rw [e, ← Crc.pw_xor, BitVec.xor_assoc]
  rfl
theorem part_byte (c : UInt8) : Crc.part (c.toBitVec.setWidth 32) 8 = c.toBitVec.setWidth 32 := by
  apply BitVec.eq_of_getLsbD_eq
  intro i hi
  rw [Crc.part_bit _ 8 (by omega) i hi]
  by_cases h : i < 8
  · simp [h]
  · have : (c.toBitVec.setWidth 32).getLsbD i = false := by
      simp only [BitVec.getLsbD_setWidth]
      rw [BitVec.getLsbD_of_ge c.toBitVec i (by omega)]; simp
    simp [this]
def ones32 : Array Value := (List.replicate 32 (.int .i64 0)).toArray
theorem ones32_at (i : Nat) (hi : i < 32) : ones32[i]? = some (.int .i64 0) := by
  show (List.replicate 32 (Value.int .i64 0)).toArray[i]? = _
  rw [List.getElem?_toArray, List.getElem?_replicate, if_pos hi]
theorem U_byte (c : UInt8) : ((c.toNat : Nat) : Int) = U (c.toBitVec.setWidth 32 >>> 0) := by
  unfold U; have := c.toNat_lt
  simp
theorem not_bit (s : BitVec 32) (i : Nat) (hi : i < 32) : bit (~~~ s) i = !bit s i := by unfold bit; simp [hi]
/-- the top bits so far -/
theorem top_next (x : BitVec 32) (i : Nat) (_hi : i < 32) : 2 * U (x >>> (i + 1)) + bi (bit x i) = U (x >>> i) := by
  have h1 : x >>> (i + 1) = (x >>> i) >>> 1 := BitVec.shiftRight_add _ _ _
  have h2 := U_div2 (x >>> i)
  have h3 := U_mod2s x i
  rw [h1, ← h2, ← h3]
  omega
theorem top_none (x : BitVec 32) : U (x >>> 32) = 0 := by
  unfold U; rw [BitVec.toNat_ushiftRight, Nat.shiftRight_eq_div_pow]; have := x.isLt; omega

set_option maxHeartbeats 2000000 in
theorem refMore_any (s : BitVec 32) (v : Value) (l : List UInt8) (w : World) (hb : Bytes w v l) :
    Calls Tryd.prog 70 #[.int .u32 (U s), v] w fun e w' => e = .returned (.int .u32 (U (Crc.more s l))) ∧ Ext w w' := by
  obtain ⟨a, cap, rfl, hb⟩ := hb
  have hlen := hb.len
  have hmk : ∀ w, (Instr.makeSlice 118 (.int .i64 32) (.int .i64 32)).run Tryd.prog w = .ok (.slice (some ⟨w.heap.size, 0, none⟩) 32 32) (w.alloc (.cells ones32 3)) := fun _ => by kernel_rfl
  obtain ⟨g, hg⟩ : ∃ g, g = w.heap.size := ⟨_, rfl⟩
  have r0 : IRow (w.alloc (.cells ones32 3)) g 32 (fun _ => 0) := by
    refine ⟨ones32, ?_, by decide, fun i hi => ?_⟩
    · rw [hg]; show (w.heap.push _)[w.heap.size]? = _; simp
    · exact ones32_at i hi
  have e0 : Ext w (w.alloc (.cells ones32 3)) := (Ext.refl w).alloc _
  have hgw : ∀ i, i = g → w.heap.size ≤ i := fun i h => by omega
  have HG := Lib.hid hg
  have HGW := Lib.hid hgw
  clear hgw
  go_enter Tryd.func70, Tryd.ntmps70
  go_wp2
  rw [← hg]
  clear hg hmk
  go_loopw [0, 6] (fun x i wr => ∃ k : Nat, k ≤ 32 ∧ i = .int .i64 k ∧ x = .int .u32 (U (s >>> k)) ∧ IRow wr g 32 (fun j => if j < k then bi (bit (~~~ s) j) else 0) ∧ Ext w wr) (fun _ i _ => 32 - (intOf i).toNat)
  case atStart => exact ⟨0, Nat.zero_le _, rfl, by simp, r0.congr (fun i _ => by simp), e0⟩
  case round =>
    obtain ⟨k, hk, rfl, rfl, rk, ek⟩ := hrel
    by_cases hlt : k < 32
    · have ck := rk.cell k hlt
      rw [if_neg (Nat.lt_irrefl k)] at ck
      have fk := rk.free k
      have l2 := bi_lo (bit s k)
      have u2 := bi_hi (bit s k)
      go_wp2
      go_roundw
      case rel =>
        refine ⟨k + 1, by omega, by go_num, by rw [BitVec.shiftRight_add], ?_, ek.setCell (HGW.out g rfl) _⟩
        refine rk.set k _ _ (fun _ => by rw [if_pos (by omega), not_bit s k hlt]) (fun i _ hne => ?_)
        by_cases h : i < k
        · rw [if_pos h, if_pos (by omega)]
        · rw [if_neg h, if_neg (by omega)]
      case measure => simp [intOf]; omega
    · obtain rfl : k = 32 := by omega
      have r1 : Reg wr g (~~~ s) := rk.congr fun i hi => by rw [if_pos hi]
      have R1 := Lib.hid r1
      clear rk r0 e0 r1
      go_wp2
      go_loopw [7] (fun i wr => ∃ k : Nat, k ≤ l.length ∧ i = .int .i64 k ∧ RowKit.Hid (Reg wr g (Crc.run (~~~ s) (l.take k))) ∧ Ext w wr) (fun i _ => l.length - (intOf i).toNat)
      case atStart => exact ⟨0, Nat.zero_le _, rfl, R1, ek⟩
      case round =>
        obtain ⟨k, hk, rfl, rk, ek2⟩ := hrel
        clear R1 ek
        by_cases hlt : k < l.length
        · have hsn : RowKit.Hid (Crc.run (~~~ s) (l.take (k + 1)) = Crc.step8 (Crc.run (~~~ s) (l.take k) ^^^ l[k].toBitVec.setWidth 32)) := Lib.hid (by rw [← Crc.run_snoc, List.take_succ_eq_append_getElem hlt])
          obtain ⟨gb, ob, rfl, hcell⟩ := hb.cells k hlt
          have hcell2 := ek2.cell hcell
          clear hcell
          generalize l[k] = c at *
          generalize Crc.run (~~~ s) (l.take k) = R at *
          have hc8 := part_byte c
          have hcu := U_byte c
          generalize c.toBitVec.setWidth 32 = C at *
          have HC8 := Lib.hid hc8
          clear hc8
          rw [hcu] at hcell2
          clear hcu
          go_wp2
          go_loopw [8, 9] (fun x j wr => ∃ m : Nat, m ≤ 8 ∧ j = .int .i64 m ∧ x = .int .i64 (U (C >>> m)) ∧ RowKit.Hid (Reg wr g (Crc.pw m (R ^^^ Crc.part C m))) ∧ Ext w wr) (fun _ j _ => 8 - (intOf j).toNat)
          case atStart => exact ⟨0, Nat.zero_le _, rfl, by simp, by simpa [Crc.part, Crc.pw] using rk, ek2⟩
          case round =>
            obtain ⟨m, hm, rfl, rfl, rm, em⟩ := hrel
            clear rk
            by_cases hml : m < 8
            · have lu := U_lo (C >>> m)
              have HB := Lib.hid (bits_of_byte R C m (by omega))
              go_wp2_with (go_at_call 84; refine (bit_any _ (bit C m) g _ rm.out).mono ?_; rintro e w' ⟨rfl, hr', hc'⟩; have em' := em.chg hc' HGW.out; rw [HB.out] at hr'; have HR' := Lib.hid hr'; clear hr' hc' rm)
              go_roundw
              case rel => first | exact ⟨m + 1, by omega, by go_num, by rw [BitVec.shiftRight_add], HR', em'⟩ | ((repeat apply Exists.intro); exact ⟨⟨m + 1, by omega, by go_num, by rw [BitVec.shiftRight_add], HR', em'⟩, rfl⟩)
              case measure => simp [intOf]; omega
            · obtain rfl : m = 8 := by omega
              go_wp2
              go_roundw
              case rel => exact ⟨k + 1, by omega, by go_num, by rw [hsn.out, ← HC8.out]; exact rm, em⟩
              case measure => simp [intOf]; omega
        · have hk' : k = l.length := by omega
          have rk' : RowKit.Hid (Reg wr g (Crc.run (~~~ s) l)) := by rw [hk', List.take_length] at rk; exact rk
          clear rk
          go_wp2
          go_loopw [10, 11] (fun o i wr' => ∃ m : Nat, m ≤ 32 ∧ i = .int .i64 ((m : Int) - 1) ∧ o = .int .u32 (U (~~~ Crc.run (~~~ s) l >>> m)) ∧ wr' = wr) (fun _ i _ => (intOf i + 1).toNat)
          case atStart => exact ⟨32, by omega, by first | rfl | trivial, by rw [top_none], by first | rfl | trivial⟩
          case round =>
            obtain ⟨m, hm, rfl, rfl, rfl⟩ := hrel
            by_cases hm0 : 0 < m
            · obtain ⟨i, rfl⟩ : ∃ i, m = i + 1 := ⟨m - 1, by omega⟩
              have ci := rk'.out.cell i (by omega)
              have ht := top_next (~~~ Crc.run (~~~ s) l) i (by omega)
              have hn := not_bit (Crc.run (~~~ s) l) i (by omega)
              have l1 := bi_lo (bit (Crc.run (~~~ s) l) i)
              have u1 := bi_hi (bit (Crc.run (~~~ s) l) i)
              rw [hn] at ht
              have l2 := bi_lo (!bit (Crc.run (~~~ s) l) i)
              have u2 := bi_hi (!bit (Crc.run (~~~ s) l) i)
              have l3 := U_lo (~~~ Crc.run (~~~ s) l >>> (i + 1))
              have u3 := U_hi (~~~ Crc.run (~~~ s) l >>> i)
              have u4 : 2 * U (~~~ Crc.run (~~~ s) l >>> (i + 1)) ≤ 4294967295 := by omega
              have u5 : 2 * U (~~~ Crc.run (~~~ s) l >>> (i + 1)) + bi (!bit (Crc.run (~~~ s) l) i) ≤ 4294967295 := by omega
              have ei : ((i + 1 : Nat) : Int) - 1 = (i : Int) := by omega
              rw [ei]
              have HT := Lib.hid ht
              clear ht hn ei
              go_wp2
              go_roundw
              case rel => exact ⟨i, by omega, by go_num, by rw [← HT.out], by first | rfl | trivial⟩
              case measure => first | (simp [intOf]; done) | (simp [intOf]; omega)
            · obtain rfl : m = 0 := by omega
              go_wp2
              go_ret
              exact ⟨ret_int (by simp [Crc.more]), ek2⟩

theorem refOf_any (v : Value) (l : List UInt8) (w : World) (hb : Bytes w v l) :
    Calls Tryd.prog 49 #[v] w fun e w' => e = .returned (.int .u32 (U (Crc.sum l))) ∧ Ext w w' := by
  go_enter Tryd.func49, Tryd.ntmps49
  go_wp2_with (go_at_call 70; refine (refMore_any 0#32 _ _ _ hb).mono ?_; rintro e w' ⟨rfl, e1⟩)
  go_ret
  exact ⟨rfl, e1⟩
end Go.Proofs.YtmpjcnopakfdmaaDoor
