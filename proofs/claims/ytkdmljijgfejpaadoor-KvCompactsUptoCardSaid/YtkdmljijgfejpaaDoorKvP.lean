/- A store that is made; the chapter's example. -/
import Derived.Test.YtkdmljijgfejpaaDoorGKs
namespace Go.Proofs.YtkdmljijgfejpaaDoor
set_option linter.unusedVariables false
set_option linter.unusedSimpArgs false
open Go.RowKit Kv Dk Wl Fr

theorem rem57 (b : UInt8) : Int.tmod (b.toNat : Int) 57 = ((b.toNat % 57 : Nat) : Int) ∧ IntKind.u8.wrap ((b.toNat % 57 : Nat) : Int) = ((b.toNat % 57 : Nat) : Int) ∧ IntKind.i64.wrap ((b.toNat % 57 : Nat) : Int) = ((b.toNat % 57 : Nat) : Int) ∧ IntKind.i64.wrap (4 + ((b.toNat % 57 : Nat) : Int)) = 4 + ((b.toNat % 57 : Nat) : Int) := by
  have := b.toNat_lt
  refine ⟨by rw [Int.tmod_eq_emod_of_nonneg (by omega)]; omega, by rw [IntKind.wrap_u8]; omega, by rw [IntKind.wrap_i64]; omega, by rw [IntKind.wrap_i64]; omega⟩
def nB (b : UInt8) : Nat := 4 + b.toNat % 57
theorem nB_le (b : UInt8) : 4 ≤ nB b ∧ nB b ≤ 60 := by unfold nB; omega
/-- a log on a new disk -/
def g0 (n : Nat) : Lg := ⟨mk n, H.zero, []⟩
attribute [local irreducible] mk
set_option maxRecDepth 20000 in
set_option maxHeartbeats 4000000 in
theorem made_any (b : UInt8) (w : World) (hw : Halves w) :
    Calls Tryd.prog 30 #[.int .u8 (b.toNat : Int)] w (Ret fun u w' => ∃ p s, u = .tuple #[.pointer (some ⟨p, 0, none⟩), .pointer (some ⟨s, 0, none⟩)] ∧ Ext w w' ∧ StM w' (from_ w) s p (g0 (nB b)) []) := by
  have hwh := Lib.hid hw
  obtain ⟨t1, t2, t3, t4⟩ := rem57 b
  have hn := Lib.hid (show nB b = 4 + b.toNat % 57 from rfl)
  have hm := Lib.hid (show b.toNat % 57 < 57 from Nat.mod_lt _ (by decide))
  have hop := Lib.hid (new_open (n := nB b) (nB_le b).1 (Nat.le_trans (nB_le b).2 (by decide)))
  generalize nB b = N at *
  generalize b.toNat % 57 = m at *
  have hcl : clamp (4 + (m : Int)) = N := by rw [hn.out]; have := hm.out; unfold clamp; omega
  clear hw
  go_enter Tryd.func30, Tryd.ntmps30
  go_upto_region 2 with (go_at_call 17; refine (new_any _ w).mono ?_; rintro e w1 ⟨v, rfl, p, rfl, h1, e1⟩)
  rw [hcl] at h1
  have hO := kvOpen_any (F := from_ w) (L := []) h1 (fun k hk => hk.1) (hwh.out.ext e1) (by rw [hop.out.2.2]; rfl)
  rw [hop.out.1, hop.out.2.1, hop.out.2.2] at hO
  have e1h := Lib.hid e1
  clear h1 hcl e1 t1 t2 t3 t4
  go_wp2_with (go_at_call 16; refine hO.mono ?_; rintro e w2 ⟨r, rfl, e2, ⟨h0, -⟩ | ⟨-, s, rfl, hs, k2⟩⟩; exact absurd rfl h0)
  go_ret2
  exact Ret.mk ⟨p, s, rfl, e1h.out.trans e2, k2.mono (from_grow e1h.out)⟩
/-- a record that finds room -/
theorem app_fits {c : Nat} {g : Lg} {rs : List (List UInt8)} (l : Lw c g rs) {b : List UInt8} (hb : errOf b = 0) (hr : ¬ (32 * areaN g.d.n < g.h.used + (6 + b.length) ∨ 262144 ≤ g.h.gen + 1)) :
    ∃ g', opL (.app b) g = (0, g') ∧ Lw c g' (rs ++ [b]) ∧ g'.d.n = g.d.n ∧ g'.h.used = g.h.used + (6 + b.length) ∧ g'.h.gen = g.h.gen + 1 := by
  rcases planL_app b g.d.n g.h g.u with ⟨h1, _⟩ | ⟨_, h2, _⟩ | ⟨_, _, hq⟩
  · exact absurd hb h1
  · exact absurd h2 hr
  · rcases op_calm (.app b) l with ⟨e, h1, _⟩ | ⟨d', h', u', i0, h1, h2, h3, h4⟩
    · rw [hq] at h1; cases h1
    · rw [hq] at h1
      simp only [Sum.inr.injEq, Prod.mk.injEq] at h1
      obtain ⟨rfl, -, -⟩ := h1
      exact ⟨_, h2, h3, h4, rfl, rfl⟩
/-- a Commit that finds room -/
theorem com_fits {c : Nat} {g : Lg} {rs : List (List UInt8)} (l : Lw c g rs) {cs : List Ch} (L : List Pr) (he : encE cs = 0) (hn : cs ≠ []) (hr : ¬ (32 * areaN g.d.n < g.h.used + (6 + (encB cs).length) ∨ 262144 ≤ g.h.gen + 1)) (hb : errOf (encB cs) = 0) :
    ∃ g', comL cs g L = (0, g', after L cs) ∧ (opL (.app (encB cs)) g).1 = 0 ∧ Lw c g' (rs ++ [encB cs]) ∧ g'.d.n = g.d.n ∧ g'.h.used = g.h.used + (6 + (encB cs).length) ∧ g'.h.gen = g.h.gen + 1 := by
  obtain ⟨g', h1, h2, h3, h4, h5⟩ := app_fits l hb hr
  refine ⟨g', ?_, by rw [h1], h2, h3, h4, h5⟩
  unfold comL
  rw [if_pos ⟨he, hn⟩, h1]
  rfl
def aw1 : List Ch := [⟨[121], [98], false⟩]
def aw2 : List Ch := [⟨[120], [97], false⟩, ⟨[121], [], true⟩]
theorem awake_kv : ∃ g1 g2, comL aw1 (g0 24) [] = (0, g1, after [] aw1) ∧ comL aw2 g1 (after [] aw1) = (0, g2, after (after [] aw1) aw2) ∧ (opL (.app (encB aw1)) (g0 24)).1 = 0 ∧ (opL (.app (encB aw2)) g1).1 = 0 ∧ Sane g1 ∧ g1.d.st = [] ∧ Oks (after [] aw1) := by
  have hl : Lw 0 (g0 24) [] := new_log (n := 24) (by decide) (by decide) 0
  have hn : (g0 24).d.n = 24 := mk_n 24
  obtain ⟨g1, a1, a2, a3, a4, a5, a6⟩ := com_fits hl [] (cs := aw1) (by decide) (by decide) (by rw [hn]; decide) (by decide)
  have u1 : g1.h.used = 11 := by rw [a5]; rfl
  have n1 : g1.h.gen = 1 := by rw [a6]; rfl
  obtain ⟨g2, b1, b2, b3, b4, b5, b6⟩ := com_fits a3 (after [] aw1) (cs := aw2) (by decide) (by decide) (by rw [a4, hn, u1, n1]; decide) (by decide)
  exact ⟨g1, g2, a1, b1, a2, b2, a3.sane, a3.st, after_oks _ srt_nil oks_nil (by decide)⟩
end Go.Proofs.YtkdmljijgfejpaaDoor
