/- Trees of records, plain: what is done to a tree keeps it right; what is below one has it on its path. -/
import Derived.Test.YtmdepmohfnficaaDoorTrMath
import Derived.Test.YtmdepmohfnficaaDoorTrL
namespace Go.Proofs.YtmdepmohfnficaaDoor
open Rk
namespace Tr
/-- what is done to a tree -/
structure Top where
  what : Int
  r : Rec
def doE (room : Nat) (l : List Rec) (o : Top) : Int := if o.what = 1 then addE room l o.r else if o.what = 2 then putE l o.r else 0
def doL (room : Nat) (l : List Rec) (o : Top) : List Rec := if o.what = 1 then addL room l o.r else if o.what = 2 then putL l o.r else if o.what = 3 then drop l o.r.name else l
def doX (l : List Rec) (o : Top) : List (List UInt8) := if o.what = 3 then below l o.r.name else []
def runL (room : Nat) : List Rec → List Top → List Rec
  | l, [] => l
  | l, o :: t => runL room (doL room l o) t
/-- a tree that can be -/
structure St (room : Nat) (l : List Rec) : Prop where
  ok : Ok l
  len : l.length ≤ room
  few : room ≤ 64
theorem isIn_ix {l : List Rec} {n : List UInt8} : isIn l n = true ↔ ix l n ≠ none := by
  unfold isIn
  cases ix l n <;> simp
theorem okAdd {l : List Rec} (h : Ok l) (room : Nat) (r : Rec) : Ok (addL room l r) := by
  unfold addL
  split
  · rename_i e
    unfold addE at e
    split at e
    · cases e
    · split at e
      · cases e
      · split at e
        · cases e
        · rename_i h1 h2 h3
          refine h.add (by simpa using h1) ?_ ?_
          · cases hx : ix l r.name with
            | none => rfl
            | some i => exact absurd (isIn_ix.2 (by rw [hx]; simp)) h2
          · by_cases hp : r.par = []
            · exact .inl hp
            · exact .inr (isIn_ix.1 (by
                cases hi : isIn l r.par
                · exact absurd ⟨hp, hi⟩ h3
                · rfl))
  · exact h
theorem okPut {l : List Rec} (h : Ok l) (r : Rec) : Ok (putL l r) := by
  unfold putL
  split
  · rename_i e
    cases hx : ix l r.name with
    | none => exact h
    | some i =>
      obtain ⟨x, h1, h2⟩ := ix_some hx
      dsimp only
      unfold putE at e
      rw [hx] at e
      split at e
      · cases e
      · rename_i hr
        dsimp only at e
        rw [getD_at h1] at e
        split at e
        · cases e
        · rename_i hp
          exact h.put (by simpa using hr) h1 h2.symm (by
            have : seq x.par r.par = true := by simpa using hp
            exact (seq_true.1 this).symm)
  · exact h
theorem addL_len (room : Nat) (l : List Rec) (r : Rec) (h : l.length ≤ room) : (addL room l r).length ≤ room := by
  unfold addL
  split
  · rename_i e
    unfold addE at e
    repeat (split at e; · cases e)
    rw [List.length_append, List.length_singleton]
    rename_i h4
    omega
  · exact h
theorem putL_len (l : List Rec) (r : Rec) : (putL l r).length = l.length := by
  unfold putL
  split
  · split
    · rfl
    · rw [List.length_set]
  · rfl
theorem St.step {room : Nat} {l : List Rec} (h : St room l) (o : Top) : St room (doL room l o) := by
  unfold doL
  split
  · exact ⟨okAdd h.ok _ _, addL_len _ _ _ h.len, h.few⟩
  · split
    · exact ⟨okPut h.ok _, by rw [putL_len]; exact h.len, h.few⟩
    · split
      · exact ⟨h.ok.drop _, Nat.le_trans (drop_len _ _) h.len, h.few⟩
      · exact h
theorem St.nil {room : Nat} (h : room ≤ 64) : St room [] := ⟨Ok.nil, Nat.zero_le _, h⟩
theorem runL_append (room : Nat) : ∀ (a b : List Top) (l : List Rec), runL room l (a ++ b) = runL room (runL room l a) b
  | [], _, _ => rfl
  | o :: a, b, l => by rw [List.cons_append, runL, runL, runL_append room a b]
theorem St.run {room : Nat} : ∀ (t : List Top) {l : List Rec}, St room l → St room (runL room l t)
  | [], _, h => h
  | o :: t, _, h => St.run t (h.step o)
theorem runL_step (room : Nat) {t : List Top} {k : Nat} {o : Top} (h : t[k]? = some o) (l : List Rec) : runL room l (t.take (k + 1)) = doL room (runL room l (t.take k)) o := by
  rw [List.take_add_one, h, runL_append]; rfl

/-! ### what is below one -/
theorem path_mem {l : List Rec} (h : Ok l) : ∀ (d i : Nat) (x c : List UInt8), ix l x = some i → i ≤ d → c ∈ path l x → ∀ y ∈ path l c, y ∈ path l x
  | 0, i, x, c, hi, hd, hc, y, hy => by
    obtain ⟨r, h1, h2⟩ := ix_some hi
    rw [path_step h hi h1] at hc ⊢
    rcases List.mem_cons.1 hc with rfl | hc
    · rw [path_step h hi h1] at hy; exact hy
    · rcases ix_par h h1 with ⟨-, h5⟩ | ⟨j, t, h5, h6, h7, h8⟩
      · rw [path_none h5] at hc; simp at hc
      · omega
  | d + 1, i, x, c, hi, hd, hc, y, hy => by
    obtain ⟨r, h1, h2⟩ := ix_some hi
    rw [path_step h hi h1] at hc ⊢
    rcases List.mem_cons.1 hc with rfl | hc
    · rw [path_step h hi h1] at hy; exact hy
    · rcases ix_par h h1 with ⟨-, h5⟩ | ⟨j, t, h5, h6, h7, h8⟩
      · rw [path_none h5] at hc; simp at hc
      · exact List.mem_cons_of_mem _ (path_mem h d j r.par c h8 (by omega) hc y hy)
theorem path_ix {l : List Rec} (h : Ok l) : ∀ (d i : Nat) (x c : List UInt8), ix l x = some i → i ≤ d → c ∈ path l x → ∃ j, j ≤ i ∧ ix l c = some j
  | 0, i, x, c, hi, hd, hc => by
    obtain ⟨r, h1, h2⟩ := ix_some hi
    rw [path_step h hi h1] at hc
    rcases List.mem_cons.1 hc with rfl | hc
    · exact ⟨i, Nat.le_refl _, hi⟩
    · rcases ix_par h h1 with ⟨-, h5⟩ | ⟨j, t, h5, h6, h7, h8⟩
      · rw [path_none h5] at hc; simp at hc
      · omega
  | d + 1, i, x, c, hi, hd, hc => by
    obtain ⟨r, h1, h2⟩ := ix_some hi
    rw [path_step h hi h1] at hc
    rcases List.mem_cons.1 hc with rfl | hc
    · exact ⟨i, Nat.le_refl _, hi⟩
    · rcases ix_par h h1 with ⟨-, h5⟩ | ⟨j, t, h5, h6, h7, h8⟩
      · rw [path_none h5] at hc; simp at hc
      · obtain ⟨q, h9, h10⟩ := path_ix h d j r.par c h8 (by omega) hc
        exact ⟨q, by omega, h10⟩
theorem path_head {l : List Rec} (h : Ok l) {x : List UInt8} {i : Nat} (hi : ix l x = some i) : x ∈ path l x := by
  obtain ⟨r, h1, -⟩ := ix_some hi
  rw [path_step h hi h1]; exact List.mem_cons_self ..
theorem below_path {l : List Rec} (h : Ok l) : ∀ (d i : Nat) (n x : List UInt8), ix l n = some i → l.length - i ≤ d → x ∈ below l n → n ∈ path l x ∧ ∃ j, i ≤ j ∧ ix l x = some j
  | 0, i, n, x, hi, hd, _ => by have := ix_lt hi; omega
  | d + 1, i, n, x, hi, hd, hx => by
    rw [below_step h hi] at hx
    rcases List.mem_cons.1 hx with rfl | hx
    · exact ⟨path_head h hi, i, Nat.le_refl _, hi⟩
    · obtain ⟨c, hc, hxc⟩ := List.mem_flatMap.1 hx
      obtain ⟨j, r, h1, h2, h3, h4, h5⟩ := kid_at h hi hc
      obtain ⟨h6, q, h7, h8⟩ := below_path h d j c x h5 (by omega) hxc
      refine ⟨path_mem h q q x c h8 (Nat.le_refl _) h6 n ?_, q, by omega, h8⟩
      rw [path_step h h5 h2, h4]
      exact List.mem_cons_of_mem _ (path_head h hi)
theorem path_below {l : List Rec} (h : Ok l) : ∀ (d i : Nat) (n x : List UInt8), ix l x = some i → i ≤ d → n ∈ path l x → x ∈ below l n
  | d, i, n, x, hi, hd, hn => by
    obtain ⟨r, h1, h2⟩ := ix_some hi
    rw [path_step h hi h1] at hn
    rcases List.mem_cons.1 hn with rfl | hn
    · rw [below_step h hi]; exact List.mem_cons_self ..
    · rcases ix_par h h1 with ⟨-, h5⟩ | ⟨j, t, h5, h6, h7, h8⟩
      · rw [path_none h5] at hn; simp at hn
      · obtain ⟨e, rfl⟩ : ∃ e, d = e + 1 := ⟨d - 1, by omega⟩
        have hb := path_below h e j n r.par h8 (by omega) hn
        obtain ⟨q, -, hq⟩ := path_ix h j j r.par n h8 (Nat.le_refl _) hn
        refine below_kid h _ q n r.par x hq (Nat.le_refl _) hb (mem_kids.2 ⟨?_, r, List.mem_of_getElem? h1, rfl, h2⟩)
        intro h0
        rw [h0, ix_nil h] at h8; cases h8
/-- below one lie just those on whose path it lies -/
theorem mem_below {l : List Rec} (h : Ok l) {n x : List UInt8} : x ∈ below l n ↔ n ∈ path l x := by
  constructor
  · intro hx
    cases hn : ix l n with
    | none => rw [below_none hn] at hx; simp at hx
    | some i => exact (below_path h _ i n x hn (Nat.le_refl _) hx).1
  · intro hn
    cases hx : ix l x with
    | none => rw [path_none hx] at hn; simp at hn
    | some i => exact path_below h i i n x hx (Nat.le_refl _) hn
theorem below_names {l : List Rec} (h : Ok l) {n x : List UInt8} (hx : x ∈ below l n) : x ∈ names l := by
  cases hn : ix l n with
  | none => rw [below_none hn] at hx; simp at hx
  | some i =>
    obtain ⟨-, j, -, hj⟩ := below_path h _ i n x hn (Nat.le_refl _) hx
    obtain ⟨r, h1, h2⟩ := ix_some hj
    exact List.mem_map.2 ⟨r, List.mem_of_getElem? h1, h2⟩
theorem nodup_flat {α β : Type} {f : α → List β} : ∀ {l : List α}, l.Nodup → (∀ x ∈ l, (f x).Nodup) → (∀ x ∈ l, ∀ y ∈ l, x ≠ y → ∀ z, z ∈ f x → z ∈ f y → False) → (l.flatMap f).Nodup
  | [], _, _, _ => List.nodup_nil
  | x :: l, hn, h1, h2 => by
    rw [List.flatMap_cons]
    obtain ⟨hx, hl⟩ := List.nodup_cons.1 hn
    refine List.nodup_append.2 ⟨h1 x (List.mem_cons_self ..), nodup_flat hl (fun y hy => h1 y (List.mem_cons_of_mem _ hy)) (fun y hy z hz => h2 y (List.mem_cons_of_mem _ hy) z (List.mem_cons_of_mem _ hz)), fun a ha b hb e => ?_⟩
    subst e
    obtain ⟨y, hy, hay⟩ := List.mem_flatMap.1 hb
    exact h2 x (List.mem_cons_self ..) y (List.mem_cons_of_mem _ hy) (fun e => hx (e ▸ hy)) a ha hay
theorem kids_nodup {l : List Rec} (h : Ok l) (n : List UInt8) : (kids l n).Nodup := by
  unfold kids
  split
  · exact List.nodup_nil
  · exact h.nodup.sublist ((List.filter_sublist (l := l)).map _)
/-- two that came of one have nothing below them both -/
theorem kids_apart {l : List Rec} (h : Ok l) {n a b : List UInt8} {i : Nat} (hi : ix l n = some i) (ha : a ∈ kids l n) (hb : b ∈ kids l n) : ∀ (d q : Nat) (x : List UInt8), ix l x = some q → q ≤ d → a ∈ path l x → b ∈ path l x → a = b
  | d, q, x, hq, hd, h1, h2 => by
    obtain ⟨ja, ra, a1, a2, a3, a4, a5⟩ := kid_at h hi ha
    obtain ⟨jb, rb, b1, b2, b3, b4, b5⟩ := kid_at h hi hb
    obtain ⟨r, k1, k2⟩ := ix_some hq
    rw [path_step h hq k1] at h1 h2
    rcases List.mem_cons.1 h1 with rfl | h3
    · rcases List.mem_cons.1 h2 with h4 | h4
      · exact h4.symm
      · exfalso
        rw [hq] at a5; cases a5
        rw [k1] at a2; cases a2
        rw [a4] at h4
        obtain ⟨j, h5, h6⟩ := path_ix h i i n b hi (Nat.le_refl _) h4
        rw [b5] at h6; cases h6; omega
    · rcases List.mem_cons.1 h2 with rfl | h4
      · exfalso
        rw [hq] at b5; cases b5
        rw [k1] at b2; cases b2
        rw [b4] at h3
        obtain ⟨j, h5, h6⟩ := path_ix h i i n a hi (Nat.le_refl _) h3
        rw [a5] at h6; cases h6; omega
      · rcases ix_par h k1 with ⟨-, h5⟩ | ⟨j, t, h5, h6, h7, h8⟩
        · rw [path_none h5] at h3; simp at h3
        · obtain ⟨e, rfl⟩ : ∃ e, d = e + 1 := ⟨d - 1, by omega⟩
          exact kids_apart h hi ha hb e j r.par h8 (by omega) h3 h4
theorem below_nodupF {l : List Rec} (h : Ok l) : ∀ (d i : Nat) (n : List UInt8), ix l n = some i → l.length - i ≤ d → (below l n).Nodup
  | 0, i, n, hi, hd => by have := ix_lt hi; omega
  | d + 1, i, n, hi, hd => by
    rw [below_step h hi]
    refine List.nodup_cons.2 ⟨fun hm => ?_, nodup_flat (kids_nodup h n) (fun c hc => ?_) fun a ha b hb hab z hza hzb => ?_⟩
    · obtain ⟨c, hc, hm⟩ := List.mem_flatMap.1 hm
      obtain ⟨j, r, h1, h2, h3, h4, h5⟩ := kid_at h hi hc
      obtain ⟨-, q, h6, h7⟩ := below_path h _ j c n h5 (Nat.le_refl _) hm
      rw [hi] at h7; cases h7; omega
    · obtain ⟨j, r, h1, h2, h3, h4, h5⟩ := kid_at h hi hc
      exact below_nodupF h d j c h5 (by omega)
    · obtain ⟨j, r, h1, h2, h3, h4, h5⟩ := kid_at h hi ha
      obtain ⟨h6, q, -, h7⟩ := below_path h _ j a z h5 (Nat.le_refl _) hza
      exact hab (kids_apart h hi ha hb q q z h7 (Nat.le_refl _) h6 ((mem_below h).1 hzb))
theorem below_nodup {l : List Rec} (h : Ok l) (n : List UInt8) : (below l n).Nodup := by
  cases hn : ix l n with
  | none => rw [below_none hn]; exact List.nodup_nil
  | some i => exact below_nodupF h _ i n hn (Nat.le_refl _)
theorem nodup_le {α : Type} [BEq α] [LawfulBEq α] : ∀ {a b : List α}, a.Nodup → (∀ x ∈ a, x ∈ b) → a.length ≤ b.length
  | [], _, _, _ => Nat.zero_le _
  | x :: a, b, hn, hs => by
    obtain ⟨hx, ha⟩ := List.nodup_cons.1 hn
    have hxb := hs x (List.mem_cons_self ..)
    have := nodup_le (b := b.erase x) ha fun y hy => (List.mem_erase_of_ne (fun e : y = x => hx (by rw [← e]; exact hy))).2 (hs y (List.mem_cons_of_mem _ hy))
    rw [List.length_erase_of_mem hxb] at this
    have := List.length_pos_of_mem hxb
    rw [List.length_cons]; omega
theorem names_len (l : List Rec) : (names l).length = l.length := List.length_map ..
theorem below_le {l : List Rec} (h : Ok l) (n : List UInt8) : (below l n).length ≤ l.length := by
  rw [← names_len l]
  exact nodup_le (below_nodup h n) fun x hx => below_names h hx
theorem St.bel {room : Nat} {l : List Rec} (h : St room l) (n : List UInt8) : (below l n).length ≤ 64 := Nat.le_trans (below_le h.ok n) (Nat.le_trans h.len h.few)
theorem St.small {room : Nat} {l : List Rec} (h : St room l) : l.length ≤ 64 := Nat.le_trans h.len h.few
end Tr
end Go.Proofs.YtmdepmohfnficaaDoor
