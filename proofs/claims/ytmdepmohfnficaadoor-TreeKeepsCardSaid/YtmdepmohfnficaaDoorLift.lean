/- From a walk to a row: what is alike for all laws: arguments read again, one bool back; how arguments are opened. -/
import Derived.Test.YtmdepmohfnficaaDoorBase
import Derived.ProofKit
import Derived.LaidMore
import Derived.OpenShut
import Derived.Stop.Joined
import Derived.Lib.LaidTab
namespace Go.Proofs.YtmdepmohfnficaaDoor
set_option linter.unusedVariables false
set_option linter.unusedSimpArgs false
open Go.ChangeShapes Go.WideShapes Go.ChangeAt Go.RowKit

theorem own : ownKnob Tryd.prog.godebug = none := by kernel_rfl
theorem laidOut : laidOutB Tryd.prog = true := by kernel_rfl

set_option maxRecDepth 20000
section
variable {H : Type} {enc : TypeId × Value → H} {P : Program}
/-- below the heap's old size nothing has turned: all arguments read as they did -/
theorem trodAll_below (hl : laidOutB P = true) {W W' : World} (hb : Below W.heap.size W W') : ∀ {ts : List TypeId} {vs : List Value} {ds : List (DataW H)} {ps : List MemPlace},
    (∀ t ∈ ts, P.readableRec t = true ∧ t < P.types.size) → DataW.TrodAll enc P W 0 (fun _ => true) true ts vs ds ps → (∀ x ∈ ps, x.block < W.heap.size) →
    DataW.TrodAll enc P W' 0 (fun b => decide (b < W.heap.size)) true ts vs ds ps
  | [], [], [], _, _, h, _ => h
  | t :: ts, v :: vs, d :: ds, ps, hr, h, hlt => by
    obtain ⟨p, q, h1, h2, rfl⟩ := h
    refine ⟨p, q, Below.trod hl (hr t (by simp)).1 (hr t (by simp)).2 h1 hb (fun x hx => hlt x (by simp [hx])), ?_, rfl⟩
    exact trodAll_below hl hb (fun t' ht' => hr t' (by simp [ht'])) h2 (fun x hx => hlt x (by simp [hx]))
  | [], [], _ :: _, _, _, h, _ => h.elim
  | [], _ :: _, _, _, _, h, _ => h.elim
  | _ :: _, [], _, _, _, h, _ => h.elim
  | _ :: _, _ :: _, [], _, _, h, _ => h.elim

/-- A LAW's END: true, every argument as it was, what was there as it was. -/
theorem law_post {f : Func} {s : ChangeSpec} {W W' : World} {args : Array Value} {ds gs : List (DataW H)} {before : List MemPlace} {t : TypeId}
    (hl : laidOutB P = true) (hts : ∀ t ∈ f.params.toList, P.readableRec t = true ∧ t < P.types.size) (hvars : s.vars = []) (hrt : f.resultTypes = #[t]) (ht : P.underlying t = some .bool)
    (hW : DataW.Whole enc P f.params.toList s.vars false W args.toList ds gs before) (hfn : s.fn H (ds ++ gs) = { results := [.lit (.bool true)], args := ds })
    (hb : Ext W W') : s.post enc P f false true false false W args (.bool true) W' := by
  obtain ⟨p, q, hA, hV, hpq, hfz, hnd⟩ := id hW
  rw [hvars] at hV
  have hgs : gs = [] ∧ q = [] := by
    cases gs with
    | nil => exact ⟨rfl, hV⟩
    | cons => exact hV.elim
  obtain ⟨rfl, rfl⟩ := hgs
  refine ⟨ds, [], before, [], p, [], hW, ?_, ?_, ?_, ?_, fun h => by cases h⟩
  · rw [hfn, hrt]
    exact trodAll_mk1 (shut_bool ht true)
  · rw [hfn]
    exact trodAll_below hl hb hts hA (fun x hx => hW.lt x (by rw [hpq]; simp [hx]))
  · rw [hfn, hvars]
    exact rfl
  · exact Below.frame hb _
end

/-! ### how arguments are opened -/
set_option maxRecDepth 20000
section
variable {H : Type} {enc : TypeId × Value → H} {W : World} {base : Nat} {v : Value} {d : DataW H} {p : List MemPlace}
theorem cells8 : Tryd.prog.cellsOf 5 = 1 := by kernel_rfl
/-- bytes of a reading, as numbers of 8 bits -/
def u8s (zs : List Int) : List UInt8 := zs.map fun z => UInt8.ofNat z.toNat
theorem u8_of {z : Int} (h : (Lit.int .u8 z).wf = true) : ((UInt8.ofNat z.toNat).toNat : Int) = z := by
  have hb : 0 ≤ z ∧ z < 256 := by
    simp [Lit.wf, IntKind.min, IntKind.max, IntKind.signed, IntKind.bits] at h
    omega
  rw [UInt8.toNat_ofNat']; omega
theorem open_bytes (hval : Value.okWide Tryd.prog W .any base 120 v) (h : DataW.Trod enc Tryd.prog W 0 (fun _ => true) true 120 v d p) : ∃ l, Bytes W v l := by
  obtain ⟨a0, len0, cap0, rfl⟩ := okWide_slice Tryd.underlying120 hval
  obtain ⟨fuel, hf⟩ := h
  rcases open_ints Tryd.underlying120 Tryd.underlying5 cells8 hf with ⟨hcs, hx⟩ | ⟨a, len, cap, zs, hcs, _, hl, hm, hz, hx, hcell, hwz⟩
  · simp [Value.cells] at hcs
    obtain ⟨rfl, rfl, rfl⟩ := hcs
    exact ⟨[], Bytes.nil W⟩
  · simp [Value.cells] at hcs
    obtain ⟨rfl, rfl, rfl⟩ := hcs
    simp only [if_true] at hz
    refine ⟨u8s (zs.take len0), some a, cap0, ?_, ?_, hm, fun h => by simp at h, fun j hj => ?_⟩
    · simp [u8s, hz, Nat.min_eq_left hl]
    · simp [u8s, hz, Nat.min_eq_left hl, hl]
    · have hj' : j < len0 := by simpa [u8s, hz, Nat.min_eq_left hl] using hj
      have h0 := hcell 0 (by omega)
      have hc := hcell j (by omega)
      obtain ⟨g, o, s⟩ := a
      have hs : s = none := by
        cases s with
        | none => rfl
        | some s =>
          simp only [Addr.add_zero'] at h0
          have : W.cell? ⟨g, o, some s⟩ = none := by
            unfold World.cell?
            cases W.heap[(⟨g, o, some s⟩ : Addr).block]? with
            | none => rfl
            | some ob => cases ob <;> simp
          rw [this] at h0; simp at h0
      subst hs
      refine ⟨g, o, rfl, ?_⟩
      rw [Addr.add_lit] at hc
      rw [hc]
      have hw := hwz (zs.getD j 0) (by
        have : j < zs.length := by omega
        simp [List.getD, this])
      have e : (u8s (zs.take len0))[j] = UInt8.ofNat (zs.getD j 0).toNat := by
        have : j < zs.length := by omega
        simp [u8s, List.getD, this]
      rw [e, u8_of hw]
theorem open_u32 (hval : Value.okWide Tryd.prog W .any base 139 v) (h : DataW.Trod enc Tryd.prog W 0 (fun _ => true) true 139 v d p) : ∃ x, v = .int .u32 (U x) := by
  obtain ⟨n, rfl, _, _, hw⟩ := open_int Tryd.underlying139 hval h
  have hb : 0 ≤ n ∧ n < 4294967296 := by
    simp [Lit.wf, IntKind.min, IntKind.max, IntKind.signed, IntKind.bits] at hw
    omega
  exact ⟨BitVec.ofInt 32 n, by rw [U_ofInt n hb.1 hb.2]⟩
theorem open_u16 (hval : Value.okWide Tryd.prog W .any base 59 v) (h : DataW.Trod enc Tryd.prog W 0 (fun _ => true) true 59 v d p) : ∃ n : Nat, n < 65536 ∧ v = .int .u16 n := by
  obtain ⟨n, rfl, _, _, hw⟩ := open_int Tryd.underlying59 hval h
  have hb : 0 ≤ n ∧ n < 65536 := by
    simp [Lit.wf, IntKind.min, IntKind.max, IntKind.signed, IntKind.bits] at hw
    omega
  obtain ⟨m, rfl⟩ := Int.eq_ofNat_of_zero_le hb.1
  exact ⟨m, by omega, rfl⟩
theorem open_i64 (hval : Value.okWide Tryd.prog W .any base 3 v) (h : DataW.Trod enc Tryd.prog W 0 (fun _ => true) true 3 v d p) : ∃ n : Int, -9223372036854775808 ≤ n ∧ n ≤ 9223372036854775807 ∧ v = .int .i64 n := by
  obtain ⟨n, rfl, _, _, hw⟩ := open_int Tryd.underlying3 hval h
  have hb : -9223372036854775808 ≤ n ∧ n ≤ 9223372036854775807 := by
    simp [Lit.wf, IntKind.min, IntKind.max, IntKind.signed, IntKind.bits] at hw
    omega
  exact ⟨n, hb.1, hb.2, rfl⟩
end
end Go.Proofs.YtmdepmohfnficaaDoor
