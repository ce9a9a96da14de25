/- The laws on names, walked: the chapter's examples, TicketTells, TicketBack. -/
import Derived.Test.YtmdepmohfnficaaDoorTicketG
namespace Go.Proofs.YtmdepmohfnficaaDoor
open Go.RowKit

def exA : List UInt8 := [83, 84, 45, 48, 48, 48, 48, 48, 48, 48, 48, 48, 48, 48, 48, 48, 48, 102, 102]
def exB : List UInt8 := [80, 71, 84, 45, 48, 48, 48, 48, 48, 48, 48, 48, 48, 48, 48, 48, 48, 48, 48, 49]
def exC : List UInt8 := [120, 61, 80, 71, 84, 73, 79, 85, 45, 48, 48, 48, 48, 48, 48, 48, 48, 48, 48, 48, 48, 48, 48, 48, 49, 38, 83, 84, 45, 49]
def exD : List UInt8 := [80, 71, 84, 73, 79, 85, 45, 48, 48, 48, 48, 48, 48, 48, 48, 48, 48, 48, 48, 48, 48, 48, 49]
theorem exA_eq : seq (Tk.nameI 2 (255#64).toNat) exA = true := by decide +kernel
theorem exA_e : Tk.errI 2 = 0 := by decide
theorem exB_k : Tk.pk exB = 4 := by decide +kernel
theorem exB_n : V (Tk.pn exB) = 1 := by decide +kernel
theorem exB_o : Tk.pok exB = true := by decide +kernel
theorem exC_f : Tk.teq (Tk.find exC) [exD] = true := by decide +kernel
theorem name_len (k : Int) (n : Nat) : (Tk.nameI k n).length ≤ 23 := by
  unfold Tk.nameI
  cases h : Tk.okK k
  · simp
  · have := Tk.pre_length (Tk.okK_kind h)
    simp [Tk.name_length]; omega
theorem parse_nameI {k : Int} (h : Tk.okK k = true) (x : BitVec 64) : Tk.pok (Tk.nameI k x.toNat) = true ∧ Tk.pk (Tk.nameI k x.toNat) = k ∧ Tk.pn (Tk.nameI k x.toNat) = x := by
  have hk := Tk.okK_kind h
  have e : Tk.nameI k x.toNat = Tk.name k.toNat x.toNat := by unfold Tk.nameI; rw [h]; rfl
  rw [e]
  obtain ⟨h1, h2, h3⟩ := pk_some (Tk.parse_name hk x.isLt)
  refine ⟨h3, ?_, ?_⟩
  · rw [h1]; unfold Tk.isKind at hk; omega
  · rw [h2]; simp
theorem back_name {s : List UInt8} (h : Tk.pok s = true) : Tk.nameI (Tk.pk s) (Tk.pn s).toNat = s ∧ Tk.errI (Tk.pk s) = 0 := by
  obtain ⟨k, n, hn⟩ := (Tk.pok_iff s).1 h
  obtain ⟨h1, h2, _⟩ := pk_some ((Tk.parse_iff _ _ _).2 hn)
  obtain ⟨hk, hlt, e⟩ := hn
  rw [h1, h2]
  unfold Tk.nameI Tk.errI
  rw [Tk.okK_of hk]
  refine ⟨?_, rfl⟩
  rw [if_pos rfl, BitVec.toNat_ofNat, Nat.mod_eq_of_lt hlt, e]; rfl
theorem pok_no {s : List UInt8} (h : Tk.pok s = false) : Tk.pk s = 0 ∧ V (Tk.pn s) = 0 := by
  unfold Tk.pok at h
  have h0 : Tk.parse s = none := by simpa using h
  exact ⟨(pk_none h0).1, by rw [(pk_none h0).2.1]; rfl⟩

attribute [local irreducible] Tk.nameI Tk.pk Tk.pn Tk.pok Tk.errI Tk.find isI
end Go.Proofs.YtmdepmohfnficaaDoor
