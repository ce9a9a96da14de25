/- A disk among blocks that are not its own: what it may have is F, what may come is its own. -/
import Derived.Test.YtehgdoceaeammaaDiskQ
namespace Go.Proofs.Ytehgdoceaeammaa
open Go.RowKit Dk

/-- a value reads as bytes, whatever is done to blocks of F -/
def Stay (F : Nat → Prop) (w : World) (v : Value) (l : List UInt8) : Prop := ∀ w', Chg F w w' → Bytes w' v l
theorem Stay.chg {F : Nat → Prop} {w w' : World} {v : Value} {l : List UInt8} (h : Stay F w v l) (c : Chg F w w') : Stay F w' v l := fun _ c' => h _ (c.trans c')
theorem Stay.now {F : Nat → Prop} {w : World} {v : Value} {l : List UInt8} (h : Stay F w v l) : Bytes w v l := h _ (Chg.refl _ _)
theorem stay_own {F : Nat → Prop} {w : World} {base : Nat} {v : Value} {l : List UInt8} (h : OwnB w base v l) (hF : ∀ k, base ≤ k → k < w.heap.size → ¬ F k) : Stay F w v l := by
  intro w' c
  by_cases hl : 0 < l.length
  · obtain ⟨g, cap, rfl, hb, hg, -⟩ := h.cells hl
    exact Bytes.chg h.bytes c (hF g hb hg)
  · obtain ⟨a, cap, rfl, hat, -⟩ := h.shape
    exact ⟨a, cap, rfl, hat.le, hat.capm, hat.none, fun j hj => by omega⟩
theorem stay_old {F : Nat → Prop} {w0 w : World} {v : Value} {l : List UInt8} (h : Bytes w0 v l) (e : Ext w0 w) (hF : ∀ k, F k → w0.heap.size ≤ k) : Stay F w v l :=
  fun _ c => h.ext (e.chg c hF)
structure DiskG (F : Nat → Prop) (w : World) (p : Nat) (d : D) : Prop where
  disk : Disk w F p d
  fut : ∀ k, w.heap.size ≤ k → F k
theorem DiskG.ext {F : Nat → Prop} {w w' : World} {p : Nat} {d : D} (h : DiskG F w p d) (e : Ext w w') : DiskG F w' p d := ⟨h.disk.ext e, fun k hk => h.fut k (Nat.le_trans e.size hk)⟩
theorem DiskG.aft {F : Nat → Prop} {w w' : World} {p : Nat} {d d' : D} (h : DiskG F w p d) (a : Aft F w w' p d') : DiskG F w' p d' :=
  ⟨a.2.mono fun k hk => hk.elim id (h.fut k), fun k hk => h.fut k (Nat.le_trans a.1.size hk)⟩
theorem DiskG.chg {F : Nat → Prop} {w w' : World} {p : Nat} {d d' : D} (h : DiskG F w p d) (c : Chg F w w') (a : Disk w' F p d') : DiskG F w' p d' := ⟨a, fun k hk => h.fut k (Nat.le_trans c.size hk)⟩
section
variable {F : Nat → Prop} {w : World} {p : Nat} {d : D}
theorem write_g (h : DiskG F w p d) (hst : d.st.length ≤ 1048576) (i : Int) (u : Value) (b : List UInt8) (hb : Stay F w u b) :
    Calls Try.prog 11 #[.pointer (some ⟨p, 0, none⟩), .int .i64 i, u] w fun e w' => e = .returned (.int .i64 (wrE i b d)) ∧ Chg F w w' ∧ DiskG F w' p (wrB i b d) :=
  (write_any h.disk hst i u b hb).mono fun _ _ ⟨h1, h2⟩ => ⟨h1, h2.1, h.aft h2⟩
theorem sync_g (h : DiskG F w p d) :
    Calls Try.prog 13 #[.pointer (some ⟨p, 0, none⟩)] w fun e w' => e = .returned (.int .i64 (syncE d)) ∧ Chg F w w' ∧ DiskG F w' p (sync d) :=
  (sync_any h.disk).mono fun _ _ ⟨h1, h2, h3⟩ => ⟨h1, h2, h.chg h2 h3⟩
theorem crash_g (h : DiskG F w p d) (u : Value) (b : List UInt8) (hb : Stay F w u b) :
    Calls Try.prog 28 #[.pointer (some ⟨p, 0, none⟩), u] w fun e w' => e = .returned (.tuple #[]) ∧ Chg F w w' ∧ DiskG F w' p (crash b d) :=
  (crash_any h.disk u b hb).mono fun _ _ ⟨h1, h2, h3⟩ => ⟨h1, h2, h.chg h2 h3⟩
theorem faults_g (h : DiskG F w p d) (v : Value) (l : List Bool) (hl : l.length ≤ 1048576) (hv : Sl bv w v l) :
    Calls Try.prog 21 #[.pointer (some ⟨p, 0, none⟩), v] w fun e w' => e = .returned (.tuple #[]) ∧ Chg F w w' ∧ DiskG F w' p (faults l d) :=
  (faults_any h.disk v l hl hv).mono fun _ _ ⟨h1, h2⟩ => ⟨h1, h2.1, h.aft h2⟩
end
/-- what lies from a on, but for what was made between b and c -/
def but (a b c : World) : Nat → Prop := fun k => (a.heap.size ≤ k ∧ k < b.heap.size) ∨ c.heap.size ≤ k
theorem DiskN.but {a b c : World} {p : Nat} {d : D} (h : DiskN a b p d) (e : Ext b c) : DiskG (but a b c) c p d :=
  ⟨(h.2.bound.ext e).mono fun _ hk => .inl hk, fun _ hk => .inr hk⟩
theorem but_le {a b c : World} (e : Ext a c) : ∀ k, but a b c k → a.heap.size ≤ k := fun k hk => hk.elim (fun h => h.1) (fun h => Nat.le_trans e.size h)
theorem but_not {a b c : World} : ∀ k, b.heap.size ≤ k → k < c.heap.size → ¬ but a b c k := fun k h1 h2 hk => hk.elim (fun h => by omega) (fun h => by omega)
end Go.Proofs.Ytehgdoceaeammaa
