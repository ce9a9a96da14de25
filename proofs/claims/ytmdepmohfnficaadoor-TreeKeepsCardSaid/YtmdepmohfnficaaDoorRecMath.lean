/- Plain facts on records: their bytes, and which record bytes tell. -/
import Derived.Test.YtmdepmohfnficaaDoorGTk
namespace Go.Proofs.YtmdepmohfnficaaDoor
set_option linter.unusedVariables false
set_option linter.unusedSimpArgs false
namespace Rk

/-! ### numbers in bytes -/
/-- so many bytes of a number, the greatest first -/
def beB : Nat → Nat → List UInt8
  | 0, _ => []
  | k + 1, n => beB k (n / 256) ++ [UInt8.ofNat (n % 256)]
theorem beB_length : ∀ k n, (beB k n).length = k
  | 0, _ => rfl
  | k + 1, n => by simp [beB, beB_length k]
theorem beB_cons : ∀ k n, beB (k + 1) n = UInt8.ofNat (n / 256 ^ k % 256) :: beB k n
  | 0, n => by simp [beB]
  | k + 1, n => by
    rw [beB, beB_cons k (n / 256)]
    have e : n / 256 / 256 ^ k = n / 256 ^ (k + 1) := by rw [Nat.div_div_eq_div_mul, Nat.pow_succ, Nat.mul_comm]
    rw [e]; rfl
/-- so many bytes lie at the end, 0s ahead -/
def fill8 (k n : Nat) : List UInt8 := List.replicate (8 - k) 0 ++ beB k n
theorem fill8_length (k n : Nat) (h : k ≤ 8) : (fill8 k n).length = 8 := by simp [fill8, beB_length]; omega
theorem fill8_set (k n : Nat) (h : k < 8) : (fill8 k n).set (7 - k) (UInt8.ofNat (n / 256 ^ k % 256)) = fill8 (k + 1) n := by
  unfold fill8
  rw [beB_cons]
  have e : 8 - k = (7 - k) + 1 := by omega
  rw [e, List.replicate_succ', List.append_assoc, List.set_append_right _ _ (by simp)]
  simp only [List.length_replicate, Nat.sub_self, List.singleton_append, List.set_cons_zero]
  have e2 : 8 - (k + 1) = 7 - k := by omega
  rw [e2]
theorem fill8_end (n : Nat) : fill8 8 n = beB 8 n := by simp [fill8]
/-- the number that bytes tell -/
def beN (l : List UInt8) : Nat := l.foldl (fun n c => 256 * n + c.toNat) 0
theorem beN_snoc (l : List UInt8) (c : UInt8) : beN (l ++ [c]) = 256 * beN l + c.toNat := by simp [beN]
theorem beB_snoc (k n : Nat) (c : UInt8) : beB (k + 1) (256 * n + c.toNat) = beB k n ++ [c] := by
  have hc := c.toNat_lt
  rw [beB, show (256 * n + c.toNat) / 256 = n by omega, show (256 * n + c.toNat) % 256 = c.toNat by omega, UInt8.ofNat_toNat]
theorem beB_beN (l : List UInt8) : beB l.length (beN l) = l := by
  generalize hr : l.reverse = r
  induction r generalizing l with
  | nil => simp at hr; subst hr; rfl
  | cons c r ih =>
    have : l = r.reverse ++ [c] := by rw [← List.reverse_reverse l, hr]; simp
    subst this
    rw [beN_snoc, List.length_append, List.length_singleton, beB_snoc, ih _ (by simp)]
theorem beN_beB : ∀ k n, n < 256 ^ k → beN (beB k n) = n
  | 0, n, h => by simp at h; subst h; rfl
  | k + 1, n, h => by
    rw [beB, beN_snoc, beN_beB k (n / 256) (by rw [Nat.pow_succ] at h; omega)]
    rw [UInt8.toNat_ofNat']
    omega
theorem beN_lt (l : List UInt8) : beN l < 256 ^ l.length := by
  generalize hr : l.reverse = r
  induction r generalizing l with
  | nil => simp at hr; subst hr; decide
  | cons c r ih =>
    have : l = r.reverse ++ [c] := by rw [← List.reverse_reverse l, hr]; simp
    subst this
    have h1 := ih r.reverse (by simp)
    have h2 := c.toNat_lt
    rw [beN_snoc, List.length_append, List.length_singleton, Nat.pow_succ]
    omega
/-- the same, as 64 bits -/
def tb (l : List UInt8) : BitVec 64 := l.foldl (fun n c => (n <<< 8) ||| BitVec.ofNat 64 c.toNat) 0#64
theorem tb_snoc (l : List UInt8) (c : UInt8) : tb (l ++ [c]) = (tb l <<< 8) ||| BitVec.ofNat 64 c.toNat := by simp [tb]
theorem or_low (a : BitVec 64) (c : Nat) (h : c < 256) : ((a <<< 8) ||| BitVec.ofNat 64 c).toNat = (256 * a.toNat + c) % 2 ^ 64 := by
  have e : (a <<< 8) ||| BitVec.ofNat 64 c = (a <<< 8) + BitVec.ofNat 64 c := by
    refine (BitVec.add_eq_or_of_and_eq_zero _ _ ?_).symm
    apply BitVec.eq_of_getLsbD_eq
    intro i hi
    rw [BitVec.getLsbD_and, BitVec.getLsbD_shiftLeft]
    by_cases h8 : i < 8
    · simp [h8]
    · have : (BitVec.ofNat 64 c).getLsbD i = false := by
        rw [BitVec.getLsbD_ofNat]
        rw [Nat.testBit_lt_two_pow (Nat.lt_of_lt_of_le h (show 256 ≤ 2 ^ i from Nat.pow_le_pow_right (n := 2) (by omega) (show 8 ≤ i by omega)))]
        simp
      rw [this]; simp
  rw [e, BitVec.toNat_add, BitVec.toNat_shiftLeft, Nat.shiftLeft_eq, BitVec.toNat_ofNat]
  omega
theorem tb_beN (l : List UInt8) : (tb l).toNat = beN l % 2 ^ 64 := by
  generalize hr : l.reverse = r
  induction r generalizing l with
  | nil => simp at hr; subst hr; rfl
  | cons c r ih =>
    have : l = r.reverse ++ [c] := by rw [← List.reverse_reverse l, hr]; simp
    subst this
    rw [tb_snoc, beN_snoc, or_low _ _ c.toNat_lt, ih _ (by simp)]
    omega
/-- 64 bits as Go's int -/
def S (x : BitVec 64) : Int := x.toInt
theorem S_pos {x : BitVec 64} (h : 0 ≤ S x) : S x = (x.toNat : Int) := by
  unfold S at *
  rw [BitVec.toInt_eq_toNat_cond] at *
  split at h
  · rw [if_pos (by assumption)]
  · have := x.isLt; omega
theorem S_small {x : BitVec 64} (h : x.toNat < 2 ^ 63) : S x = (x.toNat : Int) := by
  unfold S
  rw [BitVec.toInt_eq_toNat_cond, if_pos (by omega)]

/-! ### records -/
structure Rec where
  kind : Int
  name : List UInt8
  par : List UInt8
  user : List UInt8
  serv : List UInt8
  url : List UInt8
  made : Int
  used : Int
  uses : Int
  fresh : Bool
deriving DecidableEq
def zero : Rec := ⟨0, [], [], [], [], [], 0, 0, 0, false⟩
/-- what comes of what -/
def cm (k o : Int) : Bool := (k == 1 || k == 6) && o == 0 || k == 2 && o == 1 || (k == 3 || k == 5) && o == 4 || k == 4 && (o == 2 || o == 3)
def parI (k : Int) (n : List UInt8) : Bool := if n = [] then cm k 0 else Tk.pok n && cm k (Tk.pk n)
def textsI (r : Rec) : Bool := decide (r.user.length ≤ 32) && decide (r.serv.length ≤ 100) && decide (r.url.length ≤ 100)
def numsI (r : Rec) : Bool := decide (0 ≤ r.made) && decide (r.made ≤ r.used) && decide (r.used ≤ 1099511627776) && decide (0 ≤ r.uses) && decide (r.uses ≤ 255)
def rightI (r : Rec) : Bool := textsI r && numsI r && isI r.name r.kind && parI r.kind r.par
def tx (l : List UInt8) : List UInt8 := UInt8.ofNat l.length :: l
def hd (r : Rec) : List UInt8 := [UInt8.ofNat r.kind.toNat, UInt8.ofNat r.uses.toNat, if r.fresh then 1 else 0]
def enc (r : Rec) : List UInt8 := hd r ++ beB 8 r.made.toNat ++ beB 8 r.used.toNat ++ tx r.par ++ tx r.user ++ tx r.serv ++ tx r.url
def encS (r : Rec) : List UInt8 := if rightI r then enc r else []
def encE (r : Rec) : Int := if rightI r then 0 else 1
theorem enc_length (r : Rec) : (enc r).length = 23 + r.par.length + r.user.length + r.serv.length + r.url.length := by
  simp [enc, hd, tx, beB_length]; omega
structure Right (r : Rec) : Prop where
  user : r.user.length ≤ 32
  serv : r.serv.length ≤ 100
  url : r.url.length ≤ 100
  made : 0 ≤ r.made
  used : r.made ≤ r.used
  last : r.used ≤ 1099511627776
  uses : 0 ≤ r.uses
  most : r.uses ≤ 255
  is : isI r.name r.kind = true
  par : parI r.kind r.par = true
theorem right_iff (r : Rec) : rightI r = true ↔ Right r := by
  unfold rightI textsI numsI
  simp only [Bool.and_eq_true, decide_eq_true_eq]
  exact ⟨fun ⟨⟨⟨⟨⟨h1, h2⟩, h3⟩, ⟨⟨⟨h4, h5⟩, h6⟩, h7⟩, h8⟩, h9⟩, h10⟩ => ⟨h1, h2, h3, h4, h5, h6, h7, h8, h9, h10⟩, fun h => ⟨⟨⟨⟨⟨h.user, h.serv⟩, h.url⟩, ⟨⟨⟨h.made, h.used⟩, h.last⟩, h.uses⟩, h.most⟩, h.is⟩, h.par⟩⟩
theorem pok_len {s : List UInt8} (h : Tk.pok s = true) : s.length ≤ 23 := by
  obtain ⟨k, n, hn⟩ := (Tk.pok_iff s).1 h
  obtain ⟨hk, hlt, e⟩ := hn
  rw [e]
  have := Tk.pre_length hk
  simp [Tk.name_length]; omega
theorem Right.kind {r : Rec} (h : Right r) : 1 ≤ r.kind ∧ r.kind ≤ 6 := by
  have hi := h.is
  unfold isI at hi
  simp only [Bool.and_eq_true, beq_iff_eq] at hi
  obtain ⟨k, n, hn⟩ := (Tk.pok_iff _).1 hi.1
  obtain ⟨h1, _, _⟩ := pk_some ((Tk.parse_iff _ _ _).2 hn)
  obtain ⟨hk, _, _⟩ := hn
  unfold Tk.isKind at hk
  omega
theorem Right.parl {r : Rec} (h : Right r) : r.par.length ≤ 23 := by
  have hp := h.par
  unfold parI at hp
  split at hp
  · rename_i e; rw [e]; simp
  · simp only [Bool.and_eq_true] at hp
    exact pok_len hp.1

/-! ### texts behind one another -/
/-- a text that bytes begin with, and the rest -/
def pt : List UInt8 → Option (List UInt8 × List UInt8)
  | [] => none
  | c :: t => if c.toNat ≤ t.length then some (t.take c.toNat, t.drop c.toNat) else none
theorem pt_tx (l r : List UInt8) (h : l.length ≤ 255) : pt (tx l ++ r) = some (l, r) := by
  have e : (UInt8.ofNat l.length).toNat = l.length := by rw [UInt8.toNat_ofNat']; omega
  simp [tx, pt, e]
theorem pt_some {s a r : List UInt8} (h : pt s = some (a, r)) : s = tx a ++ r ∧ a.length ≤ 255 := by
  cases s with
  | nil => cases h
  | cons c t =>
    by_cases hc : c.toNat ≤ t.length
    · rw [pt, if_pos hc] at h
      simp only [Option.some.injEq, Prod.mk.injEq] at h
      obtain ⟨rfl, rfl⟩ := h
      have hl : (t.take c.toNat).length = c.toNat := by simp; omega
      refine ⟨?_, by rw [hl]; have := c.toNat_lt; omega⟩
      unfold tx
      rw [hl, UInt8.ofNat_toNat]
      simp
    · rw [pt, if_neg hc] at h; cases h
/-- four texts -/
def p4 (s : List UInt8) : Option (List UInt8 × List UInt8 × List UInt8 × List UInt8 × List UInt8) :=
  match pt s with
  | none => none
  | some (a, r1) => match pt r1 with
    | none => none
    | some (b, r2) => match pt r2 with
      | none => none
      | some (c, r3) => match pt r3 with
        | none => none
        | some (d, r4) => some (a, b, c, d, r4)
theorem p4_tx (a b c d r : List UInt8) (ha : a.length ≤ 255) (hb : b.length ≤ 255) (hc : c.length ≤ 255) (hd : d.length ≤ 255) : p4 (tx a ++ (tx b ++ (tx c ++ (tx d ++ r)))) = some (a, b, c, d, r) := by
  unfold p4
  simp only [pt_tx _ _ ha, pt_tx _ _ hb, pt_tx _ _ hc, pt_tx _ _ hd]
theorem p4_some {s a b c d r : List UInt8} (h : p4 s = some (a, b, c, d, r)) : s = tx a ++ (tx b ++ (tx c ++ (tx d ++ r))) := by
  unfold p4 at h
  split at h
  · cases h
  · rename_i a' r1 h1
    split at h
    · cases h
    · rename_i b' r2 h2
      split at h
      · cases h
      · rename_i c' r3 h3
        split at h
        · cases h
        · rename_i d' r4 h4
          simp only [Option.some.injEq, Prod.mk.injEq] at h
          obtain ⟨rfl, rfl, rfl, rfl, rfl⟩ := h
          rw [(pt_some h1).1, (pt_some h2).1, (pt_some h3).1, (pt_some h4).1]

/-! ### decoding -/
/-- a record out of bytes: its numbers as the program reads them -/
def raw (name s : List UInt8) (a b c d : List UInt8) : Rec :=
  ⟨((s.getD 0 0).toNat : Int), name, a, b, c, d, S (tb ((s.drop 3).take 8)), S (tb ((s.drop 11).take 8)), ((s.getD 1 0).toNat : Int), s.getD 2 0 == 1⟩
/-- the program's answer -/
def dec (name s : List UInt8) : Option Rec :=
  if s.length < 19 then none else match p4 (s.drop 19) with
  | none => none
  | some (a, b, c, d, _) => if rightI (raw name s a b c d) && enc (raw name s a b c d) == s then some (raw name s a b c d) else none
/-- the document's -/
def raw2 (name s : List UInt8) (a b c d : List UInt8) : Rec :=
  ⟨((s.getD 0 0).toNat : Int), name, a, b, c, d, (beN ((s.drop 3).take 8) : Int), (beN ((s.drop 11).take 8) : Int), ((s.getD 1 0).toNat : Int), s.getD 2 0 == 1⟩
def few2 (s : List UInt8) : Prop := 23 ≤ s.length ∧ (s.getD 2 0).toNat ≤ 1 ∧ (s.getD 3 0).toNat = 0 ∧ (s.getD 4 0).toNat = 0 ∧ (s.getD 11 0).toNat = 0 ∧ (s.getD 12 0).toNat = 0
instance (s : List UInt8) : Decidable (few2 s) := by unfold few2; infer_instance
def rdec (name s : List UInt8) : Option Rec :=
  if few2 s then match p4 (s.drop 19) with
  | none => none
  | some (a, b, c, d, e) => if e = [] ∧ rightI (raw2 name s a b c d) = true then some (raw2 name s a b c d) else none
  else none
theorem enc_split (r : Rec) : enc r = (hd r ++ (beB 8 r.made.toNat ++ beB 8 r.used.toNat)) ++ (tx r.par ++ (tx r.user ++ (tx r.serv ++ (tx r.url ++ [])))) := by simp [enc, List.append_assoc]
theorem drop19 {a b c d : List UInt8} (ha : a.length = 3) (hb : b.length = 8) (hc : c.length = 8) : ((a ++ (b ++ c)) ++ d).drop 19 = d := by
  rw [List.drop_append_of_le_length (by simp; omega), List.drop_eq_nil_of_le (by simp; omega)]; rfl
theorem take3 {a b c d : List UInt8} (ha : a.length = 3) (hb : b.length = 8) : (((a ++ (b ++ c)) ++ d).drop 3).take 8 = b := by
  rw [List.append_assoc, List.drop_append_of_le_length (by omega), List.drop_eq_nil_of_le (by omega), List.nil_append, List.append_assoc, List.take_append_of_le_length (by omega), List.take_of_length_le (by omega)]
theorem take11 {a b c d : List UInt8} (ha : a.length = 3) (hb : b.length = 8) (hc : c.length = 8) : (((a ++ (b ++ c)) ++ d).drop 11).take 8 = c := by
  rw [show (a ++ (b ++ c)) ++ d = (a ++ b) ++ (c ++ d) by simp [List.append_assoc], List.drop_append_of_le_length (by simp; omega), List.drop_eq_nil_of_le (by simp; omega), List.nil_append, List.take_append_of_le_length (by omega), List.take_of_length_le (by omega)]
theorem u8_of (n : Nat) (h : n ≤ 255) : (UInt8.ofNat n).toNat = n := by rw [UInt8.toNat_ofNat']; omega
/-- what is encoded reads back -/
theorem raw2_enc {r : Rec} (h : Right r) : raw2 r.name (enc r) r.par r.user r.serv r.url = r := by
  have hk := h.kind
  have h1 := h.uses
  have h2 := h.most
  have h3 := h.made
  have h4 := h.used
  have h5 := h.last
  have hh : (hd r).length = 3 := rfl
  obtain ⟨k, n, p, u, sv, ur, m, us, ct, f⟩ := r
  unfold raw2
  simp only at *
  rw [enc_split, take3 hh (beB_length _ _), take11 hh (beB_length _ _) (beB_length _ _), beN_beB _ _ (by simp only; omega), beN_beB _ _ (by simp only; omega)]
  simp only [hd, List.cons_append, List.getD_cons_zero, List.getD_cons_succ, Rec.mk.injEq, true_and]
  rw [u8_of _ (by omega), u8_of _ (by omega)]
  refine ⟨by omega, by omega, by omega, by omega, ?_⟩
  cases f <;> rfl
theorem S_tb {l : List UInt8} (h : beN l < 2 ^ 63) : S (tb l) = (beN l : Int) := by
  have e := tb_beN l
  rw [Nat.mod_eq_of_lt (by omega)] at e
  rw [S_small (by omega), e]
theorem tb_S {l : List UInt8} (h8 : l.length = 8) (h : 0 ≤ S (tb l)) : S (tb l) = (beN l : Int) := by
  have hl := beN_lt l
  rw [h8] at hl
  have e := tb_beN l
  rw [Nat.mod_eq_of_lt (by omega)] at e
  rw [S_pos h, e]
theorem raw_eq {name s a b c d : List UInt8} (hs : 19 ≤ s.length) (h1 : 0 ≤ S (tb ((s.drop 3).take 8))) (h2 : 0 ≤ S (tb ((s.drop 11).take 8))) : raw name s a b c d = raw2 name s a b c d := by
  unfold raw raw2
  rw [tb_S (by simp; omega) h1, tb_S (by simp; omega) h2]
theorem top_zero {n : Nat} (h : n < 2 ^ 48) : ((beB 8 n).getD 0 0).toNat = 0 ∧ ((beB 8 n).getD 1 0).toNat = 0 := by
  rw [beB_cons, beB_cons]
  have e1 : n / 256 ^ 7 = 0 := Nat.div_eq_of_lt (by omega)
  have e2 : n / 256 ^ 6 = 0 := Nat.div_eq_of_lt (by omega)
  rw [e1, e2]
  exact ⟨rfl, rfl⟩
theorem eight_of {l : List UInt8} (h : l.length = 8) : ∃ x0 x1 x2 x3 x4 x5 x6 x7, l = [x0, x1, x2, x3, x4, x5, x6, x7] :=
  match l, h with
  | [a, b, c, d, e, f, g, i], _ => ⟨a, b, c, d, e, f, g, i, rfl⟩
theorem enc_few {r : Rec} (h : Right r) : few2 (enc r) := by
  have h3 := h.made
  have h4 := h.used
  have h5 := h.last
  refine ⟨by rw [enc_length]; omega, ?_, ?_⟩
  · simp only [enc, hd, List.append_assoc, List.cons_append, List.getD_cons_zero, List.getD_cons_succ]
    cases r.fresh <;> decide
  · obtain ⟨a1, a2⟩ := top_zero (n := r.made.toNat) (by omega)
    obtain ⟨b1, b2⟩ := top_zero (n := r.used.toNat) (by omega)
    obtain ⟨x0, x1, x2, x3, x4, x5, x6, x7, hx⟩ : ∃ x0 x1 x2 x3 x4 x5 x6 x7, beB 8 r.made.toNat = [x0, x1, x2, x3, x4, x5, x6, x7] := eight_of (beB_length _ _)
    obtain ⟨y0, y1, y2, y3, y4, y5, y6, y7, hy⟩ : ∃ x0 x1 x2 x3 x4 x5 x6 x7, beB 8 r.used.toNat = [x0, x1, x2, x3, x4, x5, x6, x7] := eight_of (beB_length _ _)
    rw [hx] at a1 a2
    rw [hy] at b1 b2
    unfold enc hd
    rw [hx, hy]
    exact ⟨a1, a2, b1, b2⟩
/-- what the program decodes -/
theorem dec_iff (name s : List UInt8) (r : Rec) : dec name s = some r ↔ rightI r = true ∧ r.name = name ∧ enc r = s := by
  constructor
  · intro h
    unfold dec at h
    split at h
    · cases h
    · split at h
      · cases h
      · split at h
        · rename_i hc
          simp only [Option.some.injEq] at h
          subst h
          simp only [Bool.and_eq_true, beq_iff_eq] at hc
          exact ⟨hc.1, rfl, hc.2⟩
        · cases h
  · rintro ⟨h1, rfl, rfl⟩
    have h := (right_iff r).1 h1
    have hk := raw2_enc h
    have h3 := h.made
    have h4 := h.used
    have h5 := h.last
    have hh : (hd r).length = 3 := rfl
    have e3 : ((enc r).drop 3).take 8 = beB 8 r.made.toNat := by rw [enc_split, take3 hh (beB_length _ _)]
    have e11 : ((enc r).drop 11).take 8 = beB 8 r.used.toNat := by rw [enc_split, take11 hh (beB_length _ _) (beB_length _ _)]
    have n3 : S (tb (beB 8 r.made.toNat)) = r.made := by rw [S_tb (by rw [beN_beB _ _ (by omega)]; omega), beN_beB _ _ (by omega)]; omega
    have n11 : S (tb (beB 8 r.used.toNat)) = r.used := by rw [S_tb (by rw [beN_beB _ _ (by omega)]; omega), beN_beB _ _ (by omega)]; omega
    have hr : raw r.name (enc r) r.par r.user r.serv r.url = r := by
      rw [raw_eq (by rw [enc_length]; omega) (by rw [e3, n3]; exact h3) (by rw [e11, n11]; omega), hk]
    have hp : p4 ((enc r).drop 19) = some (r.par, r.user, r.serv, r.url, []) := by
      rw [enc_split, drop19 hh (beB_length _ _) (beB_length _ _)]
      have := h.parl
      have := h.user
      have := h.serv
      have := h.url
      exact p4_tx _ _ _ _ _ (by omega) (by omega) (by omega) (by omega)
    unfold dec
    rw [if_neg (by rw [enc_length]; omega), hp]
    simp only [hr, h1, Bool.true_and, beq_self_eq_true, if_true]
theorem list8 {l : List UInt8} (h : l.length = 8) (h0 : (l.getD 0 0).toNat = 0) (h1 : (l.getD 1 0).toNat = 0) : beN l < 2 ^ 48 := by
  match l, h with
  | [a, b, c, d, e, f, g, i], _ =>
    simp only [List.getD_cons_zero, List.getD_cons_succ] at h0 h1
    have := c.toNat_lt
    have := d.toNat_lt
    have := e.toNat_lt
    have := f.toNat_lt
    have := g.toNat_lt
    have := i.toNat_lt
    simp only [beN, List.foldl_cons, List.foldl_nil]
    omega
theorem cut19 (s : List UInt8) (h : 19 ≤ s.length) : ([s.getD 0 0, s.getD 1 0, s.getD 2 0] ++ ((s.drop 3).take 8 ++ (s.drop 11).take 8)) ++ s.drop 19 = s := by
  match s, h with
  | a :: b :: c :: t, h =>
    simp only [List.getD_cons_zero, List.getD_cons_succ, List.drop_succ_cons, List.drop_zero, List.cons_append, List.nil_append, List.append_assoc, List.cons.injEq, true_and]
    have e : (t.drop 8).take 8 ++ t.drop 16 = t.drop 8 := by
      have := List.take_append_drop 8 (t.drop 8)
      rwa [List.drop_drop] at this
    rw [e, List.take_append_drop]
theorem rdec_iff (name s : List UInt8) (r : Rec) : rdec name s = some r ↔ rightI r = true ∧ r.name = name ∧ enc r = s := by
  constructor
  · intro h
    unfold rdec at h
    split at h
    · rename_i hf
      split at h
      · cases h
      · rename_i a b c d e hp
        split at h
        · rename_i hc
          simp only [Option.some.injEq] at h
          subst h
          refine ⟨hc.2, rfl, ?_⟩
          have hs := p4_some hp
          rw [hc.1] at hs
          obtain ⟨g0, g1, g2, g3, g4, g5⟩ := hf
          have l3 : ((s.drop 3).take 8).length = 8 := by simp; omega
          have l11 : ((s.drop 11).take 8).length = 8 := by simp; omega
          have e2 : (if (s.getD 2 0 == 1) = true then (1 : UInt8) else 0) = s.getD 2 0 := by
            have : s.getD 2 0 = 0 ∨ s.getD 2 0 = 1 := by
              rcases (show (s.getD 2 0).toNat = 0 ∨ (s.getD 2 0).toNat = 1 by omega) with h | h
              · exact .inl (UInt8.toNat_inj.1 h)
              · exact .inr (UInt8.toNat_inj.1 h)
            rcases this with h | h <;> rw [h] <;> rfl
          have b3 := beB_beN ((s.drop 3).take 8)
          have b11 := beB_beN ((s.drop 11).take 8)
          rw [l3] at b3
          rw [l11] at b11
          rw [enc_split]
          unfold raw2 hd
          simp only [Int.toNat_natCast, UInt8.ofNat_toNat, e2, b3, b11]
          rw [← hs]
          exact cut19 s (by omega)
        · cases h
    · cases h
  · rintro ⟨h1, rfl, rfl⟩
    have h := (right_iff r).1 h1
    have hk := raw2_enc h
    have hh : (hd r).length = 3 := rfl
    have hp : p4 ((enc r).drop 19) = some (r.par, r.user, r.serv, r.url, []) := by
      rw [enc_split, drop19 hh (beB_length _ _) (beB_length _ _)]
      have := h.parl
      have := h.user
      have := h.serv
      have := h.url
      exact p4_tx _ _ _ _ _ (by omega) (by omega) (by omega) (by omega)
    unfold rdec
    rw [if_pos (enc_few h), hp]
    simp only [hk, h1, and_self, if_true]
theorem dec_eq (name s : List UInt8) : dec name s = rdec name s := by
  apply Option.ext
  intro r
  rw [dec_iff, rdec_iff]
end Rk
end Go.Proofs.YtmdepmohfnficaaDoor
