/- Package tree: Path. -/
import Derived.Test.YtmdepmohfnficaaDoorTrC
namespace Go.Proofs.YtmdepmohfnficaaDoor
open Go.RowKit Rk Tr

namespace Tr
theorem path_len {l : List Rec} (h : Ok l) : ∀ (i : Nat) (n : List UInt8), ix l n = some i → (path l n).length ≤ i + 1
  | i, n, hi => by
    obtain ⟨r, hr, -⟩ := ix_some hi
    rw [path_step h hi hr, List.length_cons]
    rcases ix_par h hr with ⟨-, h1⟩ | ⟨j, t, h1, h2, h3, h4⟩
    · rw [path_none h1]; simp
    · have := path_len h j r.par h4
      omega
termination_by i => i
theorem path_le {l : List Rec} (h : Ok l) (n : List UInt8) : (path l n).length ≤ l.length := by
  cases hi : ix l n with
  | none => rw [path_none hi]; simp
  | some i =>
    have := path_len h i n hi
    have := ix_lt hi
    omega
end Tr
theorem prow_cells (r : Rec) : (prow r)[0]? = some (.int .i64 r.kind) ∧ (prow r)[1]? = some (.string (str r.name)) ∧ (prow r)[2]? = some (.string (str r.par)) := ⟨rfl, rfl, rfl⟩
attribute [local irreducible] rcells
set_option maxRecDepth 20000 in
set_option maxHeartbeats 1000000 in
theorem path_any {F : Nat → Prop} {p room : Nat} {l : List Rec} (n : List UInt8) {w : World} (h : TrM 96 w F p room l) (hok : Ok l) (hl : l.length ≤ 1000) :
    Calls Tryd.prog 35 #[.pointer (some ⟨p, 0, none⟩), .string (str n)] w (Ret fun u w' => Own sv 9 w' w.heap.size u (path l n) ∧ Ext w w') := by
  have hat := Lib.hid (fun m W (e : Ext w W) => at_any m (h.ext e))
  obtain ⟨a, cap, -, cc0, hr0⟩ := h.parts
  obtain ⟨a', cap', hq, -, hget0⟩ := Rw.shape hr0
  cases hq
  have hgh := Lib.hid hget0
  have e0 := Ext.refl w
  clear hget0 hr0
  have hokh := Lib.hid hok
  have hpl := Lib.hid (Nat.le_trans (path_le hok n) hl)
  clear h hok
  go_enter Tryd.func35, Tryd.ntmps35
  go_wp2_with (go_at_call 61; refine (hat.out n _ e0).mono ?_; rintro e w2 ⟨rfl, e2⟩)
  go_loopw [5, 6] (fun out i wr => ∃ (S : List (List UInt8)) (m : List UInt8) (a1 : Option Addr) (c1 : Nat), i = .int .i64 (atI l m) ∧ RowKit.Hid (path l n = S ++ path l m) ∧ out = .slice a1 S.length c1 ∧ RowKit.Hid (Own sv 9 wr w.heap.size out S) ∧ Ext w wr) (fun _ i _ => (intOf i + 1).toNat)
  case atStart => exact ⟨[], n, none, 0, rfl, Lib.hid rfl, rfl, Lib.hid (Own.nil _ _ _), e2⟩
  case round =>
    obtain ⟨S, m, a1, c1, rfl, hp, rfl, ho, ek⟩ := hrel
    rcases atI_cases l m with ⟨h1, h2⟩ | ⟨j, r, h1, h2, h3, h4⟩
    · have hp2 := hp.out
      rw [path_none h1, List.append_nil] at hp2
      have hph := Lib.hid hp2
      rw [h2]
      clear h1 h2 hp hp2
      go_wp2
      go_ret
      exact Ret.mk ⟨by rw [hph.out]; exact ho.out, ek⟩
    · have hps := path_step hokh.out h1 h3
      have hp2 := Lib.hid (hp.out.trans (by rw [hps, ← h4]; simp : _ = (S ++ [r.name]) ++ path l r.par))
      have hSl := Lib.hid (show S.length + 1 ≤ 1000 from by
        have := congrArg List.length hp2.out
        have := hpl.out
        simp only [List.length_append, List.length_singleton] at *
        omega)
      have hjl : (j : Int) < (l.length : Int) := by
        have := (List.getElem?_eq_some_iff.1 h3).1
        omega
      have hj0 : (0 : Int) ≤ (j : Int) := by omega
      have hpar := Lib.hid (ix_par hokh.out h3)
      obtain ⟨g, o, cs, rfl, hrr, rfl, -⟩ := hgh.out j r h3
      have k1 := ek.cell (hrr 1 _ (prow_cells r).2.1)
      have cc := ek.cell cc0
      have k2h := Lib.hid (hrr 2 _ (prow_cells r).2.2)
      have cch := Lib.hid cc0
      have hs1 := Lib.hid ek.size
      rw [h2]
      clear hrr hps hp h1 h2 h4 h3 cc0
      go_upto_region 4 with (refine wpList_appendS (enc := sv) Tryd.underlying39 info_strS rfl (fun _ => rfl) rfl _ _ rfl w.heap.size _ S rfl (ho.out.alloc _) _ [r.name] rfl (Sl.lit rfl rfl rfl (by decide) (by decide)) (by have := hSl.out; simp only [List.length_singleton]; omega) (by have := hSl.out; simp only [List.length_singleton]; omega) (Nat.le_trans hs1.out ((Ext.refl wr).alloc _).size) ?_; intro v3 w3 o3 g3; obtain ⟨a3, cap3, rfl⟩ := o3.shapeN)
      rw [List.length_append, List.length_singleton] at o3
      have e3 := (ek.alloc (.cells #[.string (str r.name)] 9)).grown g3 (fun k hk => ho.out.lt k hk)
      have k2 := e3.cell k2h.out
      have cc3 := e3.cell cch.out
      have hs3 := Lib.hid o3
      clear k1 cc ek g3 o3 ho
      go_wp2_with (go_at_call 61; refine (hat.out r.par _ e3).mono ?_; rintro e w4 ⟨rfl, e4⟩)
      go_roundw
      case rel => exact ⟨S ++ [r.name], r.par, a3, cap3, rfl, Lib.hid hp2.out, by rw [List.length_append]; rfl, Lib.hid (hs3.out.ext e4), e3.trans e4⟩
      case measure =>
        rcases hpar.out with ⟨-, h5⟩ | ⟨j', t, h5, -, -, h6⟩
        · rw [atI_none h5]; simp [intOf]
        · rw [atI_some h6]; simp [intOf]; omega
end Go.Proofs.YtmdepmohfnficaaDoor
