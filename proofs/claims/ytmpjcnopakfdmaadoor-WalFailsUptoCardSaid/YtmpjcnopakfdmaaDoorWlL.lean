/- What is done to a log: one thing; many. -/
import Derived.Test.YtmpjcnopakfdmaaDoorWlK
import Derived.Test.YtmpjcnopakfdmaaDoorWlI
namespace Go.Proofs.YtmpjcnopakfdmaaDoor
set_option linter.unusedVariables false
set_option linter.unusedSimpArgs false
open Go.RowKit Dk Wl Fr

def opOf (x : Wop) : Lo := if x.what = 1 then .app x.bs else .rep x.ls
attribute [local irreducible] opL
theorem grow_ext {F : Nat → Prop} {w w1 : World} (e : Ext w w1) : ∀ k, grow F w1 k → grow F w k := fun _ hk => hk.imp id fun h => Nat.le_trans e.size h
set_option maxRecDepth 20000 in
set_option maxHeartbeats 2000000 in
theorem ldo_any {w : World} {F : Nat → Prop} {q p : Nat} {g : Lg} (vd : Value) (x : Wop) (hx : x.what = 1 ∨ x.what = 2) (l : LogM w F q p g) (s : Sane g) (hst : g.d.st.length ≤ 100000) (hw : Halves w) (hh : ¬ F 0) {vb vl vp : Value} (hb : Bytes w vb x.bs) (hv : LL w vl x.ls) (hn : x.ls.length ≤ 30000000000) (hp : Sl bv w vp x.ps) :
    Calls Tryd.prog 35 #[vd, .pointer (some ⟨q, 0, none⟩), .agg #[.int .i64 x.what, .int .i64 x.n, vb, vl, vp]] w fun e w' => e = .returned (.int .i64 (opL (opOf x) g).1) ∧ Chg F w w' ∧ LogM w' (grow F w) q p (opL (opOf x) g).2 := by
  have hO : RowKit.Hid (opOf x = if x.what = 1 then .app x.bs else .rep x.ls) := Lib.hid rfl
  have eA := (Ext.refl w).alloc (.cells #[.int .i64 x.what, .int .i64 x.n, vb, vl, vp] 61)
  have hA := lappend_any (l.ext eA) s hst (hw.ext eA) hh (hb.ext eA)
  have hR := lreplace_any (l.ext eA) s hst (hw.ext eA) hh (hv.ext eA) hn
  have hg := Lib.hid (grow_ext (F := F) eA)
  have hC := Lib.hid (Chg.of_ext (p := F) eA)
  obtain ⟨ab, cb, rfl, -⟩ := hb
  obtain ⟨al, cl, rfl, -⟩ := hv.get
  obtain ⟨ap, cp, rfl, -⟩ := hp
  clear hv l s hst hw hh hn eA
  obtain ⟨X, N, B, L, P⟩ := x
  dsimp only at *
  rcases hx with rfl | rfl
  · rw [if_pos rfl] at hO
    rw [← hO.out] at hA
    clear hR hO
    go_enter Tryd.func35, Tryd.ntmps35
    go_wp2_with (go_at_call 37; refine hA.mono ?_; rintro e w1 ⟨rfl, c1, l1⟩)
    go_ret
    exact ⟨rfl, hC.out.trans c1, l1.mono hg.out⟩
  · rw [if_neg (by decide)] at hO
    rw [← hO.out] at hR
    clear hA hO
    go_enter Tryd.func35, Tryd.ntmps35
    go_wp2_with (go_at_call 61; refine hR.mono ?_; rintro e w1 ⟨rfl, c1, l1⟩)
    go_ret
    exact ⟨rfl, hC.out.trans c1, l1.mono hg.out⟩
/-! ### many things -/
def stepW (g : Lg) (x : Wop) : Lg := if x.what = 1 ∨ x.what = 2 then (opL (opOf x) g).2 else g
def wk (n : Nat) (l : List Wop) : Lg := l.foldl stepW ⟨mk n, H.zero, []⟩
theorem wk_take {n : Nat} {l : List Wop} {k : Nat} (hk : k < l.length) : wk n (l.take (k + 1)) = stepW (wk n (l.take k)) l[k] := by
  unfold wk
  rw [List.take_add_one, List.getElem?_eq_getElem hk, List.foldl_append]; rfl
theorem step_lw {c : Nat} {g : Lg} {rs : List (List UInt8)} (h : Lw c g rs) (x : Wop) : ∃ rs', Lw c (stepW g x) rs' ∧ (stepW g x).d.n = g.d.n := by
  unfold stepW
  split
  · rcases op_calm (opOf x) h with ⟨e, _, q, _⟩ | ⟨d', h', u', i0, _, q, r1, r2⟩
    · rw [q]; exact ⟨rs, h, rfl⟩
    · rw [q]; exact ⟨_, r1, r2⟩
  · exact ⟨rs, h, rfl⟩
theorem fold_lw (c : Nat) : ∀ (l : List Wop) (g : Lg) (rs : List (List UInt8)), Lw c g rs → ∃ rs', Lw c (l.foldl stepW g) rs' ∧ (l.foldl stepW g).d.n = g.d.n
  | [], g, rs, h => ⟨rs, h, rfl⟩
  | x :: l, g, rs, h => by
    obtain ⟨r1, h1, h2⟩ := step_lw h x
    obtain ⟨r2, h3, h4⟩ := fold_lw c l _ _ h1
    exact ⟨r2, h3, h4.trans h2⟩
theorem wk_lw {n : Nat} (h4 : 4 ≤ n) (h512 : n ≤ 512) (c : Nat) (l : List Wop) : ∃ rs, Lw c (wk n l) rs ∧ (wk n l).d.n = n := by
  obtain ⟨rs, h1, h2⟩ := fold_lw c l _ _ (new_log h4 h512 c)
  exact ⟨rs, h1, h2.trans (mk_n n)⟩
end Go.Proofs.YtmpjcnopakfdmaaDoor
