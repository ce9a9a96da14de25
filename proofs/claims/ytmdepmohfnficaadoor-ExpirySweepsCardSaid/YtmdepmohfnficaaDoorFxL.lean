/- ExpiryClean, plain: what is dropped is never ahead of what lives; what is told is dropped; rounds end. -/
import Derived.Test.YtmdepmohfnficaaDoorFxK
namespace Go.Proofs.YtmdepmohfnficaaDoor
set_option linter.unusedVariables false
set_option linter.unusedSimpArgs false
open Go.RowKit Rk Tr

namespace Tr
theorem path_mem_step {l : List Rec} (h : Ok l) {x : Rec} (hx : x ∈ l) : path l x.name = x.name :: path l x.par := by
  obtain ⟨k, hk⟩ := List.getElem?_of_mem hx
  exact path_step h (ix_at h.nodup hk) hk
theorem mem_drop {l : List Rec} {d : List UInt8} {x : Rec} : x ∈ drop l d ↔ x ∈ l ∧ x.name ∉ below l d := by
  unfold drop
  rw [List.mem_filter, Bool.not_eq_true', List.contains_eq_mem, decide_eq_false_iff_not]
theorem path_keep {l : List Rec} (h : Ok l) (d : List UInt8) : ∀ (b i : Nat) (n : List UInt8), ix l n = some i → i ≤ b → d ∉ path l n → path (drop l d) n = path l n ∧ ∀ m ∈ path l n, getR (drop l d) m = getR l m
  | b, i, n, hi, hb, hd => by
    obtain ⟨r, h1, rfl⟩ := ix_some hi
    have hr := List.mem_of_getElem? h1
    have hin : r ∈ drop l d := mem_drop.2 ⟨hr, fun hm => hd ((mem_below h).1 hm)⟩
    have h' := h.drop d
    have e1 := path_mem_step h hr
    have e2 := path_mem_step h' hin
    have hg : getR (drop l d) r.name = getR l r.name := by rw [getR_mem h' hin, getR_mem h hr]
    rcases ix_par h h1 with ⟨h5, h6⟩ | ⟨j, t, h5, h6, h7, h8⟩
    · rw [path_none h6] at e1
      have : ix (drop l d) r.par = none := by rw [h5]; exact ix_nil h'
      rw [path_none this] at e2
      rw [e1, e2]
      exact ⟨rfl, fun m hm => by rw [List.mem_singleton] at hm; rw [hm]; exact hg⟩
    · match b with
      | 0 => omega
      | b + 1 =>
        obtain ⟨p1, p2⟩ := path_keep h d b j r.par h8 (by omega) (fun hm => hd (by rw [e1]; exact List.mem_cons_of_mem _ hm))
        rw [e1, e2, p1]
        exact ⟨rfl, fun m hm => by
          rcases List.mem_cons.1 hm with rfl | hm
          · exact hg
          · exact p2 m hm⟩
theorem keep_drop {l : List Rec} (h : Ok l) {d n : List UInt8} (hd : d ∉ path l n) : path (drop l d) n = path l n ∧ ∀ m ∈ path l n, getR (drop l d) m = getR l m := by
  cases hi : ix l n with
  | none =>
    have h2 : ix (drop l d) n = none := ix_none.2 fun r hr => ix_none.1 hi r (mem_drop.1 hr).1
    rw [path_none hi, path_none h2]
    exact ⟨rfl, fun m hm => by simp at hm⟩
  | some i => exact path_keep h d i i n hi (Nat.le_refl _) hd
def dropsL : List Rec → List (List UInt8) → List Rec
  | l, [] => l
  | l, d :: t => dropsL (drop l d) t
theorem dropsL_append : ∀ (a b : List (List UInt8)) (l : List Rec), dropsL l (a ++ b) = dropsL (dropsL l a) b
  | [], _, _ => rfl
  | d :: a, b, l => by rw [List.cons_append, dropsL, dropsL, dropsL_append a b]
theorem dropsL_step {S : List (List UInt8)} {k : Nat} {d : List UInt8} (h : S[k]? = some d) (l : List Rec) : dropsL l (S.take (k + 1)) = drop (dropsL l (S.take k)) d := by
  rw [List.take_add_one, h, dropsL_append]; rfl
theorem Ok.drops : ∀ (ds : List (List UInt8)) {l : List Rec}, Ok l → Ok (dropsL l ds)
  | [], _, h => h
  | d :: t, _, h => Ok.drops t (h.drop d)
theorem dropsL_len : ∀ (ds : List (List UInt8)) (l : List Rec), (dropsL l ds).length ≤ l.length
  | [], _ => Nat.le_refl _
  | d :: t, l => Nat.le_trans (dropsL_len t _) (drop_len l d)
theorem keep_drops {n : List UInt8} : ∀ (ds : List (List UInt8)) {l : List Rec}, Ok l → (∀ d ∈ ds, d ∉ path l n) → path (dropsL l ds) n = path l n ∧ ∀ m ∈ path l n, getR (dropsL l ds) m = getR l m
  | [], _, _, _ => ⟨rfl, fun _ _ => rfl⟩
  | d :: t, l, h, hd => by
    obtain ⟨h1, h2⟩ := keep_drop h (hd d (List.mem_cons_self ..))
    obtain ⟨h3, h4⟩ := keep_drops t (h.drop d) (fun e he => by rw [h1]; exact hd e (List.mem_cons_of_mem _ he))
    exact ⟨h3.trans h1, fun m hm => (h4 m (by rw [h1]; exact hm)).trans (h2 m hm)⟩
theorem drop_less {l : List Rec} (h : Ok l) {x : Rec} (hx : x ∈ l) : (drop l x.name).length < l.length := by
  unfold drop
  refine List.length_filter_lt_length_iff_exists.2 ⟨x, hx, ?_⟩
  obtain ⟨k, hk⟩ := List.getElem?_of_mem hx
  rw [List.contains_eq_mem, decide_eq_true ((mem_below h).2 (path_head h (ix_at h.nodup hk)))]
  simp
/-- what has a kid, and does not wait, holds -/
theorem holds_kid {l : List Rec} (h : Ok l) {c t : Rec} (hc : c ∈ l) (ht : t ∈ l) (hp : c.par = t.name) (hw : waitsI t = false) : holdsI t.kind = true := by
  have R := (right_iff c).1 (h.right c hc)
  have T := (right_iff t).1 (h.right t ht)
  have hk := T.kind
  have h1 := T.is
  have h2 := R.par
  unfold parI at h2
  rw [hp, if_neg (name_ne (h.right t ht))] at h2
  unfold isI at h1
  simp only [Bool.and_eq_true, beq_iff_eq] at h1 h2
  have h3 := h2.2
  rw [show Tk.pk t.name = t.kind by omega] at h3
  unfold cm at h3
  unfold waitsI at hw
  unfold holdsI
  simp at h3 hw ⊢
  omega
theorem kid_above {l : List Rec} (h : Ok l) {n d : List UInt8} (hd : d ∈ path l n) (hne : d ≠ n) : ∃ c ∈ l, c.par = d ∧ c.name ≠ [] := by
  obtain ⟨k, hk⟩ := List.getElem?_of_mem hd
  match k with
  | 0 =>
    cases hi : ix l n with
    | none => rw [path_none hi] at hd; simp at hd
    | some i =>
      obtain ⟨r, h1, -⟩ := ix_some hi
      rw [path_step h hi h1] at hk
      simp at hk
      exact absurd hk.symm hne
  | k + 1 =>
    have hlt := (List.getElem?_eq_some_iff.1 hk).1
    obtain ⟨m, hm⟩ := some_at (l := path l n) (k := k) (by omega)
    obtain ⟨h1, h2, h3⟩ := path_at h hm
    obtain ⟨i, hi⟩ := Option.ne_none_iff_exists'.1 (isIn_ix.1 h1)
    obtain ⟨r, h4, rfl⟩ := ix_some hi
    rw [getR_at h h4] at h3
    have hr := List.mem_of_getElem? h4
    rcases h3 with ⟨-, -, h5⟩ | ⟨h5, -⟩
    · rw [hk] at h5
      exact ⟨r, hr, (Option.some.inj h5).symm, name_ne (h.right r hr)⟩
    · omega
/-- what is dead does not stand above what lives -/
theorem dead_apart {l : List Rec} (h : Ok l) {f : Nat → Int} {now : Int} {n : List UInt8} {t : Rec} (ht : t ∈ l) (ha : aliveI l f now n = true) (hd : deadI l f now t.name = true) : t.name ∉ path l n := by
  intro hm
  have hl := dead_not_live hd
  have hg := getR_mem h ht
  have ho : offI l f now n t.name = true → False := fun ho => by rw [alive_no hm ho] at ha; cases ha
  apply ho
  unfold offI
  rw [hl]
  by_cases hn : t.name = n
  · rw [seq_true.2 hn]; rfl
  · obtain ⟨c, hc, hp, hc0⟩ := kid_above h hm hn
    rw [hg]
    rw [holds_kid h hc ht hp, Bool.or_true]; · rfl
    cases hw : waitsI t
    · rfl
    · unfold deadI at hd
      rw [hg, hw] at hd
      have hk : kids l t.name = [] := by
        simp at hd
        exact hd.2.2
      have : c.name ∈ kids l t.name := mem_kids.2 ⟨name_ne (h.right t ht), c, hc, hp, rfl⟩
      rw [hk] at this
      simp at this
theorem mem_top {l : List Rec} {f : Nat → Int} {now : Int} {n : List UInt8} (h : n ∈ sweepI l f now) : ∃ r ∈ l, r.name = n ∧ topI l f now n = true := by
  unfold sweepI at h
  obtain ⟨r, hr, hn⟩ := List.mem_map.1 h
  obtain ⟨h1, h2⟩ := List.mem_filter.1 hr
  exact ⟨r, h1, hn, by rw [← hn]; exact h2⟩
theorem sweep_nodup {l : List Rec} (h : Ok l) (f : Nat → Int) (now : Int) : (sweepI l f now).Nodup := h.nodup.sublist ((List.filter_sublist (l := l)).map _)
/-- one that is told is not above another one that is told -/
theorem sweep_apart {l : List Rec} (h : Ok l) {f : Nat → Int} {now : Int} {n d : List UInt8} (hn : n ∈ sweepI l f now) (hd : d ∈ sweepI l f now) (hne : d ≠ n) : d ∉ path l n := by
  intro hm
  obtain ⟨r, hr, rfl, ht⟩ := mem_top hn
  obtain ⟨_, _, _, hdd⟩ := mem_sweep hd
  unfold topI at ht
  rw [Bool.and_eq_true, Bool.not_eq_true', path_mem_step h hr, List.tail_cons] at ht
  rw [path_mem_step h hr] at hm
  rcases List.mem_cons.1 hm with e | hm
  · exact hne e
  · rw [List.any_eq_true.2 ⟨d, hm, hdd⟩] at ht
    cases ht.2
/-- at a place of what is told: it still stands -/
theorem sweep_stands {l : List Rec} (h : Ok l) {f : Nat → Int} {now : Int} {k : Nat} {d : List UInt8} (hk : (sweepI l f now)[k]? = some d) : ∃ x ∈ dropsL l ((sweepI l f now).take k), x.name = d := by
  have hd := List.mem_of_getElem? hk
  obtain ⟨h1, -⟩ := keep_drops (n := d) ((sweepI l f now).take k) h (fun e he => sweep_apart h hd (List.mem_of_mem_take he) (fun e1 => by
    obtain ⟨j, hj⟩ := List.getElem?_of_mem he
    have hjl := (List.getElem?_eq_some_iff.1 hj).1
    rw [List.length_take] at hjl
    rw [List.getElem?_take_of_lt (by omega), e1] at hj
    have := (List.getElem?_inj (by omega) (sweep_nodup h f now)).1 (hj.trans hk.symm)
    omega))
  obtain ⟨r, hr, hrn, -⟩ := mem_top hd
  have h2 := path_mem_step h hr
  rw [hrn] at h2
  rw [h2] at h1
  cases hi : ix (dropsL l ((sweepI l f now).take k)) d with
  | none => rw [path_none hi] at h1; cases h1
  | some i =>
    obtain ⟨x, h3, h4⟩ := ix_some hi
    exact ⟨x, List.mem_of_getElem? h3, h4⟩
theorem alive_drops {l : List Rec} (h : Ok l) {f : Nat → Int} {now : Int} {n : List UInt8} (ha : aliveI l f now n = true) : aliveI (dropsL l (sweepI l f now)) f now n = true := by
  obtain ⟨h1, h2⟩ := keep_drops (n := n) (sweepI l f now) h (fun d hd => by
    obtain ⟨r, hr, rfl, hdd⟩ := mem_sweep hd
    exact dead_apart h hr ha hdd)
  unfold aliveI at ha ⊢
  rw [Bool.and_eq_true, List.all_eq_true] at ha ⊢
  rw [h1]
  refine ⟨fun m hm => ?_, ha.2⟩
  have := ha.1 m hm
  unfold offI at this ⊢
  rw [h2 m hm]; exact this
theorem drops_less {l : List Rec} (h : Ok l) {f : Nat → Int} {now : Int} (hne : sweepI l f now ≠ []) : (dropsL l (sweepI l f now)).length < l.length := by
  cases hs : sweepI l f now with
  | nil => exact absurd hs hne
  | cons d t =>
    obtain ⟨r, hr, rfl, -⟩ := mem_top (l := l) (f := f) (now := now) (n := d) (by rw [hs]; exact List.mem_cons_self ..)
    exact Nat.lt_of_le_of_lt (dropsL_len t _) (drop_less h hr)
end Tr
end Go.Proofs.YtmdepmohfnficaaDoor
