/- Trees of records, plain: what is done to a tree keeps it right; what is below one has it on its path. -/
import Derived.Test.YtmdepmohfnficaaDoorTrMath
import Derived.Test.YtmdepmohfnficaaDoorTrL
import Derived.ChangeArms
import Derived.Test.YtmdepmohfnficaaDoorTrN
import Derived.Deep.QuietTactic
import Derived.BigQuiet
namespace Go.Proofs.YtmdepmohfnficaaDoor
set_option linter.unusedVariables false
set_option linter.unusedSimpArgs false
open Rk
namespace Tr
/-- what is done to a tree -/
structure Top where
  what : Int
  r : Rec
def doE (room : Nat) (l : List Rec) (o : Top) : Int := if o.what = 1 then addE room l o.r else if o.what = 2 then putE l o.r else 0
def doL (room : Nat) (l : List Rec) (o : Top) : List Rec := if o.what = 1 then addL room l o.r else if o.what = 2 then putL l o.r else if o.what = 3 then drop l o.r.name else l
def doX (l : List Rec) (o : Top) : List (List UInt8) := if o.what = 3 then below l o.r.name else []
def runL (room : Nat) : List Rec → List Top → List Rec
  | l, [] => l
  | l, o :: t => runL room (doL room l o) t
/-- a tree that can be -/
structure St (room : Nat) (l : List Rec) : Prop where
  ok : Ok l
  len : l.length ≤ room
  few : room ≤ 64
theorem isIn_ix {l : List Rec} {n : List UInt8} : isIn l n = true ↔ ix l n ≠ none := by
  unfold isIn
  cases ix l n <;> simp
theorem okAdd {l : List Rec} (h : Ok l) (room : Nat) (r : Rec) : Ok (addL room l r) := by
  unfold addL
  split
  · rename_i e
    unfold addE at e
    split at e
    · cases e
    · split at e
      · cases e
      · split at e
        · cases e
        · rename_i h1 h2 h3
          refine h.add (by simpa using h1) ?_ ?_
          · cases hx : ix l r.name with
            | none => rfl
            | some i => exact absurd (isIn_ix.2 (by rw [hx]; simp)) h2
          · by_cases hp : r.par = []
            · exact .inl hp
            · exact .inr (isIn_ix.1 (by
                cases hi : isIn l r.par
                · exact absurd ⟨hp, hi⟩ h3
                · rfl))
  · exact h
theorem okPut {l : List Rec} (h : Ok l) (r : Rec) : Ok (putL l r) := by
  unfold putL
  split
  · rename_i e
    cases hx : ix l r.name with
    | none => exact h
    | some i =>
      obtain ⟨x, h1, h2⟩ := ix_some hx
      dsimp only
      unfold putE at e
      rw [hx] at e
      split at e
      · cases e
      · rename_i hr
        dsimp only at e
        rw [getD_at h1] at e
        split at e
        · cases e
        · rename_i hp
          exact h.put (by simpa using hr) h1 h2.symm (by
            have : seq x.par r.par = true := by simpa using hp
            exact (seq_true.1 this).symm)
  · exact h
theorem addL_len (room : Nat) (l : List Rec) (r : Rec) (h : l.length ≤ room) : (addL room l r).length ≤ room := by
  unfold addL
  split
  · rename_i e
    unfold addE at e
    repeat (split at e; · cases e)
    rw [List.length_append, List.length_singleton]
    rename_i h4
    omega
  · exact h
theorem putL_len (l : List Rec) (r : Rec) : (putL l r).length = l.length := by
  unfold putL
  split
  · split
    · rfl
    · rw [List.length_set]
  · rfl
theorem St.step {room : Nat} {l : List Rec} (h : St room l) (o : Top) : St room (doL room l o) := by
  unfold doL
  split
  · exact ⟨okAdd h.ok _ _, addL_len _ _ _ h.len, h.few⟩
  · split
    · exact ⟨okPut h.ok _, by rw [putL_len]; exact h.len, h.few⟩
    · split
      · exact ⟨h.ok.drop _, Nat.le_trans (drop_len _ _) h.len, h.few⟩
      · exact h
theorem St.nil {room : Nat} (h : room ≤ 64) : St room [] := ⟨Ok.nil, Nat.zero_le _, h⟩
theorem runL_append (room : Nat) : ∀ (a b : List Top) (l : List Rec), runL room l (a ++ b) = runL room (runL room l a) b
  | [], _, _ => rfl
  | o :: a, b, l => by rw [List.cons_append, runL, runL, runL_append room a b]
theorem St.run {room : Nat} : ∀ (t : List Top) {l : List Rec}, St room l → St room (runL room l t)
  | [], _, h => h
  | o :: t, _, h => St.run t (h.step o)
theorem runL_step (room : Nat) {t : List Top} {k : Nat} {o : Top} (h : t[k]? = some o) (l : List Rec) : runL room l (t.take (k + 1)) = doL room (runL room l (t.take k)) o := by
  rw [List.take_add_one, h, runL_append]; rfl

/-! ### what is below one -/
theorem path_mem {l : List Rec} (h : Ok l) : ∀ (d i : Nat) (x c : List UInt8), ix l x = some i → i ≤ d → c ∈ path l x → ∀ y ∈ path l c, y ∈ path l x
  | 0, i, x, c, hi, hd, hc, y, hy => by
    obtain ⟨r, h1, h2⟩ := ix_some hi
    rw [path_step h hi h1] at hc ⊢
    rcases List.mem_cons.1 hc with rfl | hc
    · rw [path_step h hi h1] at hy; exact hy
    · rcases ix_par h h1 with ⟨-, h5⟩ | ⟨j, t, h5, h6, h7, h8⟩
      · rw [path_none h5] at hc; simp at hc
      · omega
  | d + 1, i, x, c, hi, hd, hc, y, hy => by
    obtain ⟨r, h1, h2⟩ := ix_some hi
    rw [path_step h hi h1] at hc ⊢
    rcases List.mem_cons.1 hc with rfl | hc
    · rw [path_step h hi h1] at hy; exact hy
    · rcases ix_par h h1 with ⟨-, h5⟩ | ⟨j, t, h5, h6, h7, h8⟩
      · rw [path_none h5] at hc; simp at hc
      · exact List.mem_cons_of_mem _ (path_mem h d j r.par c h8 (by omega) hc y hy)
theorem path_ix {l : List Rec} (h : Ok l) : ∀ (d i : Nat) (x c : List UInt8), ix l x = some i → i ≤ d → c ∈ path l x → ∃ j, j ≤ i ∧ ix l c = some j
  | 0, i, x, c, hi, hd, hc => by
    obtain ⟨r, h1, h2⟩ := ix_some hi
    rw [path_step h hi h1] at hc
    rcases List.mem_cons.1 hc with rfl | hc
    · exact ⟨i, Nat.le_refl _, hi⟩
    · rcases ix_par h h1 with ⟨-, h5⟩ | ⟨j, t, h5, h6, h7, h8⟩
      · rw [path_none h5] at hc; simp at hc
      · omega
  | d + 1, i, x, c, hi, hd, hc => by
    obtain ⟨r, h1, h2⟩ := ix_some hi
    rw [path_step h hi h1] at hc
    rcases List.mem_cons.1 hc with rfl | hc
    · exact ⟨i, Nat.le_refl _, hi⟩
    · rcases ix_par h h1 with ⟨-, h5⟩ | ⟨j, t, h5, h6, h7, h8⟩
      · rw [path_none h5] at hc; simp at hc
      · obtain ⟨q, h9, h10⟩ := path_ix h d j r.par c h8 (by omega) hc
        exact ⟨q, by omega, h10⟩
theorem path_head {l : List Rec} (h : Ok l) {x : List UInt8} {i : Nat} (hi : ix l x = some i) : x ∈ path l x := by
  obtain ⟨r, h1, -⟩ := ix_some hi
  rw [path_step h hi h1]; exact List.mem_cons_self ..
theorem below_path {l : List Rec} (h : Ok l) : ∀ (d i : Nat) (n x : List UInt8), ix l n = some i → l.length - i ≤ d → x ∈ below l n → n ∈ path l x ∧ ∃ j, i ≤ j ∧ ix l x = some j
  | 0, i, n, x, hi, hd, _ => by have := ix_lt hi; omega
  | d + 1, i, n, x, hi, hd, hx => by
    rw [below_step h hi] at hx
    rcases List.mem_cons.1 hx with rfl | hx
    · exact ⟨path_head h hi, i, Nat.le_refl _, hi⟩
    · obtain ⟨c, hc, hxc⟩ := List.mem_flatMap.1 hx
      obtain ⟨j, r, h1, h2, h3, h4, h5⟩ := kid_at h hi hc
      obtain ⟨h6, q, h7, h8⟩ := below_path h d j c x h5 (by omega) hxc
      refine ⟨path_mem h q q x c h8 (Nat.le_refl _) h6 n ?_, q, by omega, h8⟩
      rw [path_step h h5 h2, h4]
      exact List.mem_cons_of_mem _ (path_head h hi)
theorem path_below {l : List Rec} (h : Ok l) : ∀ (d i : Nat) (n x : List UInt8), ix l x = some i → i ≤ d → n ∈ path l x → x ∈ below l n
  | d, i, n, x, hi, hd, hn => by
    obtain ⟨r, h1, h2⟩ := ix_some hi
    rw [path_step h hi h1] at hn
    rcases List.mem_cons.1 hn with rfl | hn
    · rw [below_step h hi]; exact List.mem_cons_self ..
    · rcases ix_par h h1 with ⟨-, h5⟩ | ⟨j, t, h5, h6, h7, h8⟩
      · rw [path_none h5] at hn; simp at hn
      · obtain ⟨e, rfl⟩ : ∃ e, d = e + 1 := ⟨d - 1, by omega⟩
        have hb := path_below h e j n r.par h8 (by omega) hn
        obtain ⟨q, -, hq⟩ := path_ix h j j r.par n h8 (Nat.le_refl _) hn
        refine below_kid h _ q n r.par x hq (Nat.le_refl _) hb (mem_kids.2 ⟨?_, r, List.mem_of_getElem? h1, rfl, h2⟩)
        intro h0
        rw [h0, ix_nil h] at h8; cases h8
/-- below one lie just those on whose path it lies -/
theorem mem_below {l : List Rec} (h : Ok l) {n x : List UInt8} : x ∈ below l n ↔ n ∈ path l x := by
  constructor
  · intro hx
    cases hn : ix l n with
    | none => rw [below_none hn] at hx; simp at hx
    | some i => exact (below_path h _ i n x hn (Nat.le_refl _) hx).1
  · intro hn
    cases hx : ix l x with
    | none => rw [path_none hx] at hn; simp at hn
    | some i => exact path_below h i i n x hx (Nat.le_refl _) hn
theorem below_names {l : List Rec} (h : Ok l) {n x : List UInt8} (hx : x ∈ below l n) : x ∈ names l := by
  cases hn : ix l n with
  | none => rw [below_none hn] at hx; simp at hx
  | some i =>
    obtain ⟨-, j, -, hj⟩ := below_path h _ i n x hn (Nat.le_refl _) hx
    obtain ⟨r, h1, h2⟩ := ix_some hj
    exact List.mem_map.2 ⟨r, List.mem_of_getElem? h1, h2⟩
theorem nodup_flat {α β : Type} {f : α → List β} : ∀ {l : List α}, l.Nodup → (∀ x ∈ l, (f x).Nodup) → (∀ x ∈ l, ∀ y ∈ l, x ≠ y → ∀ z, z ∈ f x → z ∈ f y → False) → (l.flatMap f).Nodup
  | [], _, _, _ => List.nodup_nil
  | x :: l, hn, h1, h2 => by
    rw [List.flatMap_cons]
    obtain ⟨hx, hl⟩ := List.nodup_cons.1 hn
    refine List.nodup_append.2 ⟨h1 x (List.mem_cons_self ..), nodup_flat hl (fun y hy => h1 y (List.mem_cons_of_mem _ hy)) (fun y hy z hz => h2 y (List.mem_cons_of_mem _ hy) z (List.mem_cons_of_mem _ hz)), fun a ha b hb e => ?_⟩
    subst e
    obtain ⟨y, hy, hay⟩ := List.mem_flatMap.1 hb
    exact h2 x (List.mem_cons_self ..) y (List.mem_cons_of_mem _ hy) (fun e => hx (e ▸ hy)) a ha hay
theorem kids_nodup {l : List Rec} (h : Ok l) (n : List UInt8) : (kids l n).Nodup := by
  unfold kids
  split
  · exact List.nodup_nil
  · exact h.nodup.sublist ((List.filter_sublist (l := l)).map _)
/-- two that came of one have nothing below them both -/
theorem kids_apart {l : List Rec} (h : Ok l) {n a b : List UInt8} {i : Nat} (hi : ix l n = some i) (ha : a ∈ kids l n) (hb : b ∈ kids l n) : ∀ (d q : Nat) (x : List UInt8), ix l x = some q → q ≤ d → a ∈ path l x → b ∈ path l x → a = b
  | d, q, x, hq, hd, h1, h2 => by
    obtain ⟨ja, ra, a1, a2, a3, a4, a5⟩ := kid_at h hi ha
    obtain ⟨jb, rb, b1, b2, b3, b4, b5⟩ := kid_at h hi hb
    obtain ⟨r, k1, k2⟩ := ix_some hq
    rw [path_step h hq k1] at h1 h2
    rcases List.mem_cons.1 h1 with rfl | h3
    · rcases List.mem_cons.1 h2 with h4 | h4
      · exact h4.symm
      · exfalso
        rw [hq] at a5; cases a5
        rw [k1] at a2; cases a2
        rw [a4] at h4
        obtain ⟨j, h5, h6⟩ := path_ix h i i n b hi (Nat.le_refl _) h4
        rw [b5] at h6; cases h6; omega
    · rcases List.mem_cons.1 h2 with rfl | h4
      · exfalso
        rw [hq] at b5; cases b5
        rw [k1] at b2; cases b2
        rw [b4] at h3
        obtain ⟨j, h5, h6⟩ := path_ix h i i n a hi (Nat.le_refl _) h3
        rw [a5] at h6; cases h6; omega
      · rcases ix_par h k1 with ⟨-, h5⟩ | ⟨j, t, h5, h6, h7, h8⟩
        · rw [path_none h5] at h3; simp at h3
        · obtain ⟨e, rfl⟩ : ∃ e, d = e + 1 := ⟨d - 1, by omega⟩
          exact kids_apart h hi ha hb e j r.par h8 (by omega) h3 h4
theorem below_nodupF {l : List Rec} (h : Ok l) : ∀ (d i : Nat) (n : List UInt8), ix l n = some i → l.length - i ≤ d → (below l n).Nodup
  | 0, i, n, hi, hd => by have := ix_lt hi; omega
  | d + 1, i, n, hi, hd => by
    rw [below_step h hi]
    refine List.nodup_cons.2 ⟨fun hm => ?_, nodup_flat (kids_nodup h n) (fun c hc => ?_) fun a ha b hb hab z hza hzb => ?_⟩
    · obtain ⟨c, hc, hm⟩ := List.mem_flatMap.1 hm
      obtain ⟨j, r, h1, h2, h3, h4, h5⟩ := kid_at h hi hc
      obtain ⟨-, q, h6, h7⟩ := below_path h _ j c n h5 (Nat.le_refl _) hm
      rw [hi] at h7; cases h7; omega
    · obtain ⟨j, r, h1, h2, h3, h4, h5⟩ := kid_at h hi hc
      exact below_nodupF h d j c h5 (by omega)
    · obtain ⟨j, r, h1, h2, h3, h4, h5⟩ := kid_at h hi ha
      obtain ⟨h6, q, -, h7⟩ := below_path h _ j a z h5 (Nat.le_refl _) hza
      exact hab (kids_apart h hi ha hb q q z h7 (Nat.le_refl _) h6 ((mem_below h).1 hzb))
theorem below_nodup {l : List Rec} (h : Ok l) (n : List UInt8) : (below l n).Nodup := by
  cases hn : ix l n with
  | none => rw [below_none hn]; exact List.nodup_nil
  | some i => exact below_nodupF h _ i n hn (Nat.le_refl _)
theorem nodup_le {α : Type} [BEq α] [LawfulBEq α] : ∀ {a b : List α}, a.Nodup → (∀ x ∈ a, x ∈ b) → a.length ≤ b.length
  | [], _, _, _ => Nat.zero_le _
  | x :: a, b, hn, hs => by
    obtain ⟨hx, ha⟩ := List.nodup_cons.1 hn
    have hxb := hs x (List.mem_cons_self ..)
    have := nodup_le (b := b.erase x) ha fun y hy => (List.mem_erase_of_ne (fun e : y = x => hx (by rw [← e]; exact hy))).2 (hs y (List.mem_cons_of_mem _ hy))
    rw [List.length_erase_of_mem hxb] at this
    have := List.length_pos_of_mem hxb
    rw [List.length_cons]; omega
theorem names_len (l : List Rec) : (names l).length = l.length := List.length_map ..
theorem below_le {l : List Rec} (h : Ok l) (n : List UInt8) : (below l n).length ≤ l.length := by
  rw [← names_len l]
  exact nodup_le (below_nodup h n) fun x hx => below_names h hx
theorem St.bel {room : Nat} {l : List Rec} (h : St room l) (n : List UInt8) : (below l n).length ≤ 64 := Nat.le_trans (below_le h.ok n) (Nat.le_trans h.len h.few)
theorem St.small {room : Nat} {l : List Rec} (h : St room l) : l.length ≤ 64 := Nat.le_trans h.len h.few
end Tr
end Go.Proofs.YtmdepmohfnficaaDoor


namespace Go.Proofs.YtmdepmohfnficaaDoor
set_option linter.unusedVariables false
set_option linter.unusedSimpArgs false
open Go.ChangeShapes Go.WideShapes Go.ChangeAt Go.RowKit Rk Tr

set_option maxRecDepth 20000
def orow (x : Top) : List Value := .int .i64 x.what :: prow x.r
theorem orow_len (x : Top) : (orow x).length = 11 := rfl
/-- what is done, side by side, as it is read -/
def TOps (w : World) (v : Value) (l : List Top) : Prop := Rw 11 (fun x cs => cs = orow x ∧ Fits x.r) w v l
theorem TOps.ext {w w' : World} {v : Value} {l : List Top} (h : TOps w v l) (e : Ext w w') : TOps w' v l := Rw.ext h e fun _ _ _ h => h
theorem cellsTI : Tryd.prog.cellsOf 3 = 1 := by kernel_rfl
theorem cellsTB : Tryd.prog.cellsOf 4 = 1 := by kernel_rfl
theorem cellsTS : Tryd.prog.cellsOf 9 = 1 := by kernel_rfl
theorem cellsTR : Tryd.prog.cellsOf 36 = 10 := by kernel_rfl
theorem cellsTO : Tryd.prog.cellsOf 52 = 11 := by kernel_rfl
section
variable {H : Type} {enc : TypeId × Value → H} {W : World} {base : Nat} {v : Value} {d : DataW H} {p : List MemPlace} {x : DataW H × List MemPlace}
theorem strT_of {n : Nat} {u : Value} (h : DataW.trod enc Tryd.prog W 0 (fun _ => true) true n 9 [u] = some x) : ∃ l : List UInt8, l.length ≤ 9223372036854775807 ∧ u = .string (str l) := by
  obtain ⟨s, h1, -, h3⟩ := DataW.trod_string Tryd.underlying9 h
  refine ⟨s.data.toList, ?_, (List.cons.inj h1).1⟩
  have : s.data.toList.length = s.size := rfl
  unfold maxLen at h3; omega
theorem intT_of {n : Nat} {u : Value} (h : DataW.trod enc Tryd.prog W 0 (fun _ => true) true n 3 [u] = some x) : ∃ z : Int, u = .int .i64 z := by
  obtain ⟨z, h1, -⟩ := DataW.trod_int Tryd.underlying3 h
  exact ⟨z, by simpa using h1⟩
theorem boolT_of {n : Nat} {u : Value} (h : DataW.trod enc Tryd.prog W 0 (fun _ => true) true n 4 [u] = some x) : ∃ z : Bool, u = .bool z := by
  obtain ⟨z, h1, -⟩ := DataW.trod_bool Tryd.underlying4 h
  exact ⟨z, by simpa using h1⟩
set_option maxHeartbeats 1000000 in
theorem rec_of {n : Nat} {cs : List Value} (hl : cs.length = 10) (hf : DataW.trod enc Tryd.prog W 0 (fun _ => true) true n 36 cs = some x) : ∃ r : Rec, cs = prow r ∧ Fits r := by
  obtain ⟨xs, m, _, _, -, hn, h⟩ := DataW.trod_struct Tryd.underlying36 hf
  match cs, hl with
  | [c0, c1, c2, c3, c4, c5, c6, c7, c8, c9], _ =>
    have hn2 : xs.length = 10 := hn
    match xs, hn2 with
    | [y0, y1, y2, y3, y4, y5, y6, y7, y8, y9], _ =>
      have h0 : DataW.trod enc Tryd.prog W 0 (fun _ => true) true m 3 (([c0, c1, c2, c3, c4, c5, c6, c7, c8, c9].drop 0).take (Tryd.prog.cellsOf 3)) = [y0, y1, y2, y3, y4, y5, y6, y7, y8, y9][0]? := h 0 _ rfl
      have h1 : DataW.trod enc Tryd.prog W 0 (fun _ => true) true m 9 (([c0, c1, c2, c3, c4, c5, c6, c7, c8, c9].drop 1).take (Tryd.prog.cellsOf 9)) = [y0, y1, y2, y3, y4, y5, y6, y7, y8, y9][1]? := h 1 _ rfl
      have h2 : DataW.trod enc Tryd.prog W 0 (fun _ => true) true m 9 (([c0, c1, c2, c3, c4, c5, c6, c7, c8, c9].drop 2).take (Tryd.prog.cellsOf 9)) = [y0, y1, y2, y3, y4, y5, y6, y7, y8, y9][2]? := h 2 _ rfl
      have h3 : DataW.trod enc Tryd.prog W 0 (fun _ => true) true m 9 (([c0, c1, c2, c3, c4, c5, c6, c7, c8, c9].drop 3).take (Tryd.prog.cellsOf 9)) = [y0, y1, y2, y3, y4, y5, y6, y7, y8, y9][3]? := h 3 _ rfl
      have h4 : DataW.trod enc Tryd.prog W 0 (fun _ => true) true m 9 (([c0, c1, c2, c3, c4, c5, c6, c7, c8, c9].drop 4).take (Tryd.prog.cellsOf 9)) = [y0, y1, y2, y3, y4, y5, y6, y7, y8, y9][4]? := h 4 _ rfl
      have h5 : DataW.trod enc Tryd.prog W 0 (fun _ => true) true m 9 (([c0, c1, c2, c3, c4, c5, c6, c7, c8, c9].drop 5).take (Tryd.prog.cellsOf 9)) = [y0, y1, y2, y3, y4, y5, y6, y7, y8, y9][5]? := h 5 _ rfl
      have h6 : DataW.trod enc Tryd.prog W 0 (fun _ => true) true m 3 (([c0, c1, c2, c3, c4, c5, c6, c7, c8, c9].drop 6).take (Tryd.prog.cellsOf 3)) = [y0, y1, y2, y3, y4, y5, y6, y7, y8, y9][6]? := h 6 _ rfl
      have h7 : DataW.trod enc Tryd.prog W 0 (fun _ => true) true m 3 (([c0, c1, c2, c3, c4, c5, c6, c7, c8, c9].drop 7).take (Tryd.prog.cellsOf 3)) = [y0, y1, y2, y3, y4, y5, y6, y7, y8, y9][7]? := h 7 _ rfl
      have h8 : DataW.trod enc Tryd.prog W 0 (fun _ => true) true m 3 (([c0, c1, c2, c3, c4, c5, c6, c7, c8, c9].drop 8).take (Tryd.prog.cellsOf 3)) = [y0, y1, y2, y3, y4, y5, y6, y7, y8, y9][8]? := h 8 _ rfl
      have h9 : DataW.trod enc Tryd.prog W 0 (fun _ => true) true m 4 (([c0, c1, c2, c3, c4, c5, c6, c7, c8, c9].drop 9).take (Tryd.prog.cellsOf 4)) = [y0, y1, y2, y3, y4, y5, y6, y7, y8, y9][9]? := h 9 _ rfl
      simp only [cellsTI, cellsTB, cellsTS, List.drop_zero, List.drop_succ_cons, List.take_succ_cons, List.take_zero, List.getElem?_cons_zero, List.getElem?_cons_succ] at h0 h1 h2 h3 h4 h5 h6 h7 h8 h9
      obtain ⟨x0, rfl⟩ := intT_of h0
      obtain ⟨x1, l1, rfl⟩ := strT_of h1
      obtain ⟨x2, l2, rfl⟩ := strT_of h2
      obtain ⟨x3, l3, rfl⟩ := strT_of h3
      obtain ⟨x4, l4, rfl⟩ := strT_of h4
      obtain ⟨x5, l5, rfl⟩ := strT_of h5
      obtain ⟨x6, rfl⟩ := intT_of h6
      obtain ⟨x7, rfl⟩ := intT_of h7
      obtain ⟨x8, rfl⟩ := intT_of h8
      obtain ⟨x9, rfl⟩ := boolT_of h9
      exact ⟨⟨x0, x1, x2, x3, x4, x5, x6, x7, x8, x9⟩, rfl, ⟨l1, l2, l3, l4, l5⟩⟩
theorem top_of {n : Nat} {cs : List Value} (hl : cs.length = 11) (hf : DataW.trod enc Tryd.prog W 0 (fun _ => true) true n 52 cs = some x) : ∃ o : Top, cs = orow o ∧ Fits o.r := by
  obtain ⟨xs, m, _, _, -, hn, h⟩ := DataW.trod_struct Tryd.underlying52 hf
  match cs, hl with
  | c0 :: cs, hl =>
    have hl10 : cs.length = 10 := by simpa using hl
    have hn2 : xs.length = 2 := hn
    match xs, hn2 with
    | [y0, y1], _ =>
      have h0 : DataW.trod enc Tryd.prog W 0 (fun _ => true) true m 3 (((c0 :: cs).drop 0).take (Tryd.prog.cellsOf 3)) = [y0, y1][0]? := h 0 _ rfl
      have h1 : DataW.trod enc Tryd.prog W 0 (fun _ => true) true m 36 (((c0 :: cs).drop 1).take (Tryd.prog.cellsOf 36)) = [y0, y1][1]? := h 1 _ rfl
      simp only [cellsTI, cellsTR, List.drop_zero, List.drop_succ_cons, List.take_succ_cons, List.take_zero, List.getElem?_cons_zero, List.getElem?_cons_succ] at h0
      rw [cellsTR, List.drop_succ_cons, List.drop_zero, List.take_of_length_le (by omega)] at h1
      obtain ⟨x0, rfl⟩ := intT_of h0
      obtain ⟨r, rfl, hfr⟩ := rec_of hl10 h1
      exact ⟨⟨x0, r⟩, rfl, hfr⟩
theorem open_tops (hval : Value.okWide Tryd.prog W .any base 42 v) (h : DataW.Trod enc Tryd.prog W 0 (fun _ => true) true 42 v d p) : ∃ l, TOps W v l :=
  let ⟨_, _, hf⟩ := okw_slice Tryd.underlying42 hval h
  rows_of Tryd.underlying42 cellsTO (by decide) (fun _ _ _ hl h => top_of hl h) hf
theorem open_recs (hval : Value.okWide Tryd.prog W .any base 22 v) (h : DataW.Trod enc Tryd.prog W 0 (fun _ => true) true 22 v d p) : ∃ l, Recs W v l :=
  let ⟨_, _, hf⟩ := okw_slice Tryd.underlying22 hval h
  rows_of Tryd.underlying22 cellsTR (by decide) (fun _ _ _ hl h => rec_of hl h) hf
end
namespace Tr
def fewT (l : List Top) : Bool := l.all (fun x => fewI x.r) && decide (l.length ≤ 60)
theorem fewT_no {l : List Top} {j : Nat} {x : Top} (hj : l[j]? = some x) (h : fewI x.r = false) : fewT l = false := by
  unfold fewT
  have : (l.all fun x => fewI x.r) = false := by rw [List.all_eq_false]; exact ⟨x, List.mem_of_getElem? hj, by simp [h]⟩
  rw [this]; rfl
theorem fewT_all {l : List Top} (h : ∀ j x, j < l.length → l[j]? = some x → fewI x.r = true) : fewT l = decide ((l.length : Int) ≤ 60) := by
  unfold fewT
  have : (l.all fun x => fewI x.r) = true := List.all_eq_true.2 fun x hx => by
    obtain ⟨j, hj⟩ := List.getElem?_of_mem hx
    exact h j x (List.getElem?_eq_some_iff.1 hj).1 hj
  rw [this, Bool.true_and, Bool.eq_iff_iff, decide_eq_true_iff, decide_eq_true_iff]; omega
end Tr
theorem range_tail {w : World} {g o : Nat} {u : Value} {cs : List Value} (h : w.rangeAt g o (u :: cs)) : w.rangeAt g (o + 1) cs := fun i x hx => by
  have := h (i + 1) x (by simpa using hx)
  rwa [show o + (i + 1) = o + 1 + i by omega] at this
attribute [local irreducible] rcells fewI
set_option maxRecDepth 20000 in
set_option maxHeartbeats 1000000 in
theorem fewT_any (v : Value) (l : List Top) (w : World) (h : TOps w v l) :
    Calls Tryd.prog 21 #[v] w fun e w' => e = .returned (.bool (fewT l)) ∧ Ext w w' := by
  obtain ⟨a, cap, rfl, hlm, hget⟩ := Rw.shape h
  clear h
  have e0 := Ext.refl w
  have hgh := Lib.hid hget
  clear hget
  go_enter Tryd.func21, Tryd.ntmps21
  go_wp2
  go_loopw [3] (fun i wr => ∃ k : Nat, k ≤ l.length ∧ i = .int .i64 (k : Int) ∧ RowKit.Hid (∀ j x, j < k → l[j]? = some x → fewI x.r = true) ∧ Ext w wr) (fun i _ => l.length - (intOf i).toNat)
  case atStart => exact ⟨0, Nat.zero_le _, rfl, Lib.hid fun j x hj => by omega, e0⟩
  case round =>
    obtain ⟨k, hk, rfl, ho, ek⟩ := hrel
    clear e0
    by_cases hlt : k < l.length
    · obtain ⟨x, hx⟩ := some_at hlt
      obtain ⟨g, o, cs, rfl, hr, rfl, hf⟩ := hgh.out k x hx
      have hki : (k : Int) < (l.length : Int) := by omega
      have hw : IntKind.i64.wrap ((k : Int) + 1) = (k : Int) + 1 := by rw [IntKind.wrap_i64]; omega
      have hr2 : wr.rangeAt g (o + k * 11 + 1) (prow x.r) := range_tail fun i u hu => ek.cell (hr i u hu)
      have hfw := few_any x.r wr
      have hno := Lib.hid (fewT_no hx)
      have hnx := Lib.hid (fun h => (fun j y hj hy => if e : j = k then by subst e; rw [hx] at hy; cases hy; exact h else ho.out j y (by omega) hy) : fewI x.r = true → ∀ j y, j < k + 1 → l[j]? = some y → fewI y.r = true)
      clear hr hx hf ho
      cases hs : fewI x.r
      · rw [hs] at hfw
        have hno2 := Lib.hid (hno.out hs)
        clear hnx hno
        go_wp2_with (first
          | (refine wpList_load_rec (by rfl) _ rfl g (o + k * 11 + 1) rfl x.r hr2 ?_)
          | (go_at_call 56; refine hfw.mono ?_; rintro e w2 ⟨rfl, e2⟩))
        go_ret
        exact ⟨by rw [hno2.out]; rfl, ek.trans e2⟩
      · rw [hs] at hfw
        have hnx2 := Lib.hid (hnx.out hs)
        clear hnx hno
        go_wp2_with (first
          | (refine wpList_load_rec (by rfl) _ rfl g (o + k * 11 + 1) rfl x.r hr2 ?_)
          | (go_at_call 56; refine hfw.mono ?_; rintro e w2 ⟨rfl, e2⟩))
        go_roundw
        case rel => exact ⟨k + 1, by omega, by go_num, Lib.hid hnx2.out, ek.trans e2⟩
        case measure => simp [intOf]; omega
    · obtain rfl : k = l.length := by omega
      have hf := Lib.hid (fewT_all ho.out)
      clear ho
      go_wp2
      go_ret
      exact ⟨by rw [hf.out]; rfl, ek⟩
end Go.Proofs.YtmdepmohfnficaaDoor


namespace Go.Proofs.YtmdepmohfnficaaDoor
set_option linter.unusedVariables false
set_option linter.unusedSimpArgs false
open Go.RowKit Rk Tr

def ocells (x : Top) : Array Value := (orow x).toArray
theorem ocells_lit (x : Top) : ocells x = #[.int .i64 x.what, .int .i64 x.r.kind, .string (str x.r.name), .string (str x.r.par), .string (str x.r.user), .string (str x.r.serv), .string (str x.r.url), .int .i64 x.r.made, .int .i64 x.r.used, .int .i64 x.r.uses, .bool x.r.fresh] := rfl
theorem oc_cells (x : Top) : (ocells x)[0]? = some (.int .i64 x.what) ∧ (ocells x)[2]? = some (.string (str x.r.name)) := ⟨rfl, rfl⟩
theorem oc_rec {w : World} {g : Nat} {x : Top} {T : TypeId} {fr : Nat × Nat} (h : w.heap[g]? = some (.cells (ocells x) T fr)) : w.rangeAt g 1 (prow x.r) := fun i u hu => by
  rw [cell_of_row _ _ _ _ _ _ h]
  have : (ocells x)[1 + i]? = (orow x)[i + 1]? := by unfold ocells; rw [List.getElem?_toArray, Nat.add_comm]
  rw [this]
  exact hu
/-- an Op out of the middle of a row -/
theorem info_op : (Tryd.prog.info? 52).map (·.size) = some 11 := by kernel_rfl
theorem wpList_load_top {ops : Array Oper} {rest : List Oper} {o : Oper} {a : Act} {w : World} {Q : Exit → Act → World → Prop} (hw : Region.wanted o (yielded ops a.tmps) = true) (x : Operand) (ho : o.op = .load 52 x)
    (b i : Nat) (hx : a.eval x = .pointer (some ⟨b, i, none⟩)) (r : Top) (hc : w.rangeAt b i (orow r)) (h : wpList Tryd.prog ops Q rest (a.put o.dst (.agg (ocells r))) w) : wpList Tryd.prog ops Q (o :: rest) a w :=
  wpList_step fun _ hK => by
    rw [if_pos hw]
    exact wp_load_mid 52 x ho b i hx (orow r) _ hc Tryd.underlying52 rfl info_op (hK _ _ h)
/-- a tree in blocks made since w0 -/
def TrB (w0 w : World) (p room : Nat) (l : List Rec) : Prop := TrM 96 w (fun k => w0.heap.size ≤ k) p room l ∧ Ext w0 w
theorem TrB.ext {w0 w w' : World} {p room : Nat} {l : List Rec} (h : TrB w0 w p room l) (e : Ext w w') : TrB w0 w' p room l := ⟨h.1.ext e, h.2.trans e⟩
theorem TrB.chg {w0 w w' : World} {p room : Nat} {l l' : List Rec} (h : TrB w0 w p room l) (k : TrM 96 w' (fun k => w0.heap.size ≤ k ∨ w.heap.size ≤ k) p room l') (c : Chg (fun k => w0.heap.size ≤ k) w w') : TrB w0 w' p room l' :=
  ⟨k.mono fun j hj => hj.elim id fun h' => Nat.le_trans h.2.size h', h.2.chg c fun _ h => h⟩
attribute [local irreducible] rcells ocells fewI
set_option maxRecDepth 20000 in
set_option maxHeartbeats 1000000 in
theorem do_any {F : Nat → Prop} {p room : Nat} {l : List Rec} (o : Top) {w : World} (h : TrM 96 w F p room l) (hs : St room l) (hf : Fits o.r) (hw : Pres w) :
    Calls Tryd.prog 26 #[.pointer (some ⟨p, 0, none⟩), .agg (ocells o)] w fun e w' => ∃ u, e = .returned (.tuple #[.int .i64 (doE room l o), u]) ∧ OwnO sv 9 w' (fun k => w.heap.size ≤ k) u (doX l o) ∧ (∃ a c, u = .slice a (doX l o).length c) ∧ TrM 96 w' (fun k => F k ∨ w.heap.size ≤ k) p room (doL room l o) ∧ Chg F w w' := by
  have e1 := (Ext.refl w).alloc (.cells (ocells o) 52)
  have hb := heap_alloc_new w (.cells (ocells o) 52)
  have c0 := cell_at hb 0 (oc_cells o).1
  have hr := oc_rec hb
  have hs1 := alloc_size w (.cells (ocells o) 52)
  have ht := h.ext e1
  have hp1 := hw.ext e1
  have hsm := hs.small
  have hbl := hs.bel o.r.name
  have hE : RowKit.Hid (doE room l o = if o.what = 1 then addE room l o.r else if o.what = 2 then putE l o.r else 0) := Lib.hid rfl
  have hL : RowKit.Hid (doL room l o = if o.what = 1 then addL room l o.r else if o.what = 2 then putL l o.r else if o.what = 3 then Tr.drop l o.r.name else l) := Lib.hid rfl
  have hX : RowKit.Hid (doX l o = if o.what = 3 then below l o.r.name else []) := Lib.hid rfl
  have cn := cell_at hb 2 (oc_cells o).2
  obtain ⟨n, r⟩ := o
  simp only at hE hL hX c0 cn hr hf hbl ⊢
  have hA := add_any r ht hf hp1 (by omega)
  have hP := put_any r ht hf hp1
  have hD := drop_any r.name ht hs.ok (by omega) (by omega)
  generalize ocells ⟨n, r⟩ = oc at *
  generalize hEn : doE room l ⟨n, r⟩ = E1 at *
  generalize hLn : doL room l ⟨n, r⟩ = L1 at *
  generalize hXn : doX l ⟨n, r⟩ = X1 at *
  have hsz : w.heap.size ≤ (w.alloc (.cells oc 52)).heap.size := e1.size
  have e1h := Lib.hid e1
  have hth := Lib.hid ht
  clear hEn hLn hXn hb e1 ht h hs1 hs hsm hbl hf hw hp1
  go_enter Tryd.func26, Tryd.ntmps26
  by_cases q1 : n = 1
  · rw [if_pos q1] at hE hL
    rw [if_neg (by omega)] at hX
    subst q1
    go_wp2_with (first
      | (refine wpList_load_rec (by rfl) _ rfl w.heap.size 1 rfl r hr ?_)
      | (go_at_call 57; refine hA.mono ?_; rintro e w1 ⟨rfl, h1, g1⟩))
    go_ret2
    exact ⟨_, by rw [hE.out]; rfl, by rw [hX.out]; exact .inl ⟨rfl, rfl⟩, ⟨none, 0, by rw [hX.out]; rfl⟩, by rw [hL.out]; exact h1.mono fun k hk => hk.imp id (Nat.le_trans hsz), (Chg.of_ext e1h.out).trans g1⟩
  · rw [if_neg q1] at hE hL
    have p1 : (n == 1) = false := by rw [beq_eq_false_iff_ne]; exact q1
    by_cases q2 : n = 2
    · rw [if_pos q2] at hE hL
      rw [if_neg (by omega)] at hX
      subst q2
      go_wp2_with (first
        | (refine wpList_load_rec (by rfl) _ rfl w.heap.size 1 rfl r hr ?_)
        | (go_at_call 63; refine hP.mono ?_; rintro e w1 ⟨rfl, h1, g1⟩))
      go_ret2
      exact ⟨_, by rw [hE.out]; rfl, by rw [hX.out]; exact .inl ⟨rfl, rfl⟩, ⟨none, 0, by rw [hX.out]; rfl⟩, by rw [hL.out]; exact h1.mono fun k hk => hk.imp id (Nat.le_trans hsz), (Chg.of_ext e1h.out).trans g1⟩
    · rw [if_neg q2] at hE hL
      have p2 : (n == 2) = false := by rw [beq_eq_false_iff_ne]; exact q2
      by_cases q3 : n = 3
      · rw [if_pos q3] at hL hX
        subst q3
        go_wp2_with (go_at_call 32; refine hD.mono ?_; rintro e w1 ⟨u, rfl, h0, ⟨a, c, rfl⟩, h1, g1⟩)
        go_ret2
        exact ⟨_, by rw [hE.out]; rfl, by rw [hX.out]; exact h0.mono fun k hk => Nat.le_trans hsz hk, ⟨a, c, by rw [hX.out]; rfl⟩, by rw [hL.out]; exact h1.mono fun k hk => hk.imp id (Nat.le_trans hsz), (Chg.of_ext e1h.out).trans g1⟩
      · rw [if_neg q3] at hL hX
        have p3 : (n == 3) = false := by rw [beq_eq_false_iff_ne]; exact q3
        go_wp2
        go_ret2
        exact ⟨_, by rw [hE.out]; rfl, by rw [hX.out]; exact .inl ⟨rfl, rfl⟩, ⟨none, 0, by rw [hX.out]; rfl⟩, by rw [hL.out]; exact hth.out.mono fun k hk => .inl hk, Chg.of_ext e1h.out⟩
set_option maxRecDepth 20000 in
set_option maxHeartbeats 1000000 in
theorem walked_any (z : Int) (v : Value) (l : List Top) (w : World) (h : TOps w v l) (hw : Pres w) :
    Calls Tryd.prog 22 #[.int .i64 z, v] w fun e w' => ∃ p, e = .returned (.pointer (some ⟨p, 0, none⟩)) ∧ TrB w w' p (roomN z) (runL (roomN z) [] l) := by
  obtain ⟨a, cap, rfl, hlm, hget⟩ := Rw.shape h
  clear h
  have e0 := Ext.refl w
  have hgh := Lib.hid hget
  have hwh := Lib.hid hw
  have hn := new_any z w
  clear hget hw
  go_enter Tryd.func22, Tryd.ntmps22
  go_upto_region 2 with (go_at_call 36; refine hn.mono ?_; rintro e w1 ⟨_, rfl, rfl, h1, e1⟩)
  have hb : RowKit.Hid (TrB w w1 w.heap.size (roomN z) (runL (roomN z) [] (l.take 0))) := Lib.hid ⟨h1.mono fun k hk => by omega, e1⟩
  have hro := Lib.hid (roomN_le z)
  generalize hroom : roomN z = room at hb hro
  clear h1 e1 e0 hn
  go_wp2
  go_loopw [6] (fun i wr => ∃ k : Nat, k ≤ l.length ∧ i = .int .i64 (k : Int) ∧ RowKit.Hid (TrB w wr w.heap.size room (runL room [] (l.take k)))) (fun i _ => l.length - (intOf i).toNat)
  case atStart => exact ⟨0, Nat.zero_le _, rfl, hb⟩
  case round =>
    obtain ⟨k, hk, rfl, ht⟩ := hrel
    by_cases hlt : k < l.length
    · obtain ⟨x, hx⟩ := some_at hlt
      obtain ⟨g, o, cs, rfl, hr, rfl, hf⟩ := hgh.out k x hx
      have hki : (k : Int) < (l.length : Int) := by omega
      have hw : IntKind.i64.wrap ((k : Int) + 1) = (k : Int) + 1 := by rw [IntKind.wrap_i64]; omega
      have hr2 : wr.rangeAt g (o + k * 11) (orow x) := fun i u hu => ht.out.2.cell (hr i u hu)
      have hd := do_any x ht.out.1 (St.run (l.take k) (St.nil hro.out)) hf (hwh.out.ext ht.out.2)
      have hst := Lib.hid (runL_step room hx [])
      clear hr hx hf
      go_wp2_with (first
        | (refine wpList_load_top (by rfl) _ rfl g (o + k * 11) rfl x hr2 ?_)
        | (go_at_call 26; refine hd.mono ?_; rintro e w2 ⟨u, rfl, -, ⟨a2, c2, rfl⟩, h2, g2⟩))
      go_roundw
      case rel => exact ⟨k + 1, by omega, by go_num, Lib.hid (by rw [hst.out]; exact ht.out.chg h2 g2)⟩
      case measure => simp [intOf]; omega
    · obtain rfl : k = l.length := by omega
      have ht2 := ht.out
      rw [List.take_length] at ht2
      have hth := Lib.hid ht2
      clear ht ht2
      go_wp2
      go_ret
      exact ⟨_, rfl, by rw [hroom]; exact hth.out⟩
end Go.Proofs.YtmdepmohfnficaaDoor


namespace Go.Proofs.YtmdepmohfnficaaDoor
set_option linter.unusedVariables false
set_option linter.unusedSimpArgs false
open Go.RowKit Rk Tr

theorem name14_any (K : Int) (x : BitVec 64) (w : World) :
    Calls Tryd.prog 33 #[.int .i64 K, .int .u64 (V x)] w fun e w' => e = .returned (.string (str (Tk.nameI K x.toNat))) ∧ w = w' := by
  have hN := refName_any K x w
  go_enter Tryd.func33, Tryd.ntmps33
  go_wp2_with (go_at_call 53; refine hN.mono ?_; rintro e w' ⟨rfl, rfl⟩)
  go_ret
  exact ⟨rfl, rfl⟩
def nmA : List UInt8 := Tk.nameI 1 (1#64).toNat
def nmB : List UInt8 := Tk.nameI 2 (2#64).toNat
def nmC : List UInt8 := Tk.nameI 2 (3#64).toNat
def nmD : List UInt8 := Tk.nameI 4 (4#64).toNat
def rcA : Rec := ⟨1, nmA, [], [], [], [], 0, 0, 0, false⟩
def rcB : Rec := ⟨2, nmB, nmA, [], [], [], 0, 0, 0, false⟩
def rcC : Rec := ⟨2, nmC, nmA, [], [], [], 0, 0, 0, false⟩
def rcD : Rec := ⟨4, nmD, nmB, [], [], [], 0, 0, 0, false⟩
theorem nm_A (w : World) : Calls Tryd.prog 33 #[.int .i64 1, .int .u64 1] w fun e w' => e = .returned (.string (str nmA)) ∧ w = w' := name14_any 1 1#64 w
theorem nm_B (w : World) : Calls Tryd.prog 33 #[.int .i64 2, .int .u64 2] w fun e w' => e = .returned (.string (str nmB)) ∧ w = w' := name14_any 2 2#64 w
theorem nm_C (w : World) : Calls Tryd.prog 33 #[.int .i64 2, .int .u64 3] w fun e w' => e = .returned (.string (str nmC)) ∧ w = w' := name14_any 2 3#64 w
theorem nm_D (w : World) : Calls Tryd.prog 33 #[.int .i64 4, .int .u64 4] w fun e w' => e = .returned (.string (str nmD)) ∧ w = w' := name14_any 4 4#64 w
theorem ex_A : addE 9 [] rcA = 0 ∧ addL 9 [] rcA = [rcA] := by decide +kernel
theorem ex_B : addE 9 [rcA] rcB = 0 ∧ addL 9 [rcA] rcB = [rcA, rcB] := by decide +kernel
theorem ex_C : addE 9 [rcA, rcB] rcC = 0 ∧ addL 9 [rcA, rcB] rcC = [rcA, rcB, rcC] := by decide +kernel
theorem ex_D : addE 9 [rcA, rcB, rcC] rcD = 0 ∧ addL 9 [rcA, rcB, rcC] rcD = [rcA, rcB, rcC, rcD] := by decide +kernel
theorem ex_x : below [rcA, rcB, rcC, rcD] nmB = [nmB, nmD] := by decide +kernel
theorem ex_y : (below [rcA, rcB, rcC, rcD] nmA).length = 4 := by decide +kernel
theorem ex_l : (Tr.drop [rcA, rcB, rcC, rcD] nmB).length = 2 := by decide +kernel
theorem ex_t : Tk.teq [nmB, nmD] [nmB, nmD] = true := by decide +kernel
theorem fit_ex : Fits rcA ∧ Fits rcB ∧ Fits rcC ∧ Fits rcD := by unfold Fits; decide +kernel
theorem ok_ex : Ok [rcA, rcB, rcC, rcD] := by
  have a := okAdd Ok.nil 9 rcA
  rw [ex_A.2] at a
  have b := okAdd a 9 rcB
  rw [ex_B.2] at b
  have c := okAdd b 9 rcC
  rw [ex_C.2] at c
  have d := okAdd c 9 rcD
  rw [ex_D.2] at d
  exact d
/-- a record added to a tree in blocks made since w0 -/
theorem add_b {w0 w : World} {p room : Nat} {l : List Rec} (r : Rec) (h : TrB w0 w p room l) (hf : Fits r) (hw : Pres w) (hl : l.length ≤ 1000) {e : Int} {l' : List Rec} (he : addE room l r = e ∧ addL room l r = l') :
    Calls Tryd.prog 57 #[.pointer (some ⟨p, 0, none⟩), .agg #[.int .i64 r.kind, .string (str r.name), .string (str r.par), .string (str r.user), .string (str r.serv), .string (str r.url), .int .i64 r.made, .int .i64 r.used, .int .i64 r.uses, .bool r.fresh]] w fun q w' => q = .returned (.int .i64 e) ∧ TrB w0 w' p room l' := by
  have := add_any r h.1 hf hw hl
  rw [he.1, he.2, rc_lit] at this
  exact this.mono fun q w' ⟨h1, h2, h3⟩ => ⟨h1, h.chg h2 h3⟩
attribute [local irreducible] rcells nmA nmB nmC nmD Tr.drop below
set_option maxRecDepth 20000 in
set_option maxHeartbeats 4000000 in
theorem awake14_any (w : World) (hw : Pres w) :
    Calls Tryd.prog 20 #[] w fun e w' => e = .returned (.bool true) ∧ Ext w w' := by
  have hwh := Lib.hid hw
  have hn := new_any 9 w
  clear hw
  go_enter Tryd.func20, Tryd.ntmps20
  go_upto_region 2 with (go_at_call 36; refine hn.mono ?_; rintro e w1 ⟨_, rfl, rfl, h1, e1⟩)
  have h1 : TrB w w1 w.heap.size 9 [] := ⟨h1.mono fun k hk => by omega, e1⟩
  generalize hP : w.heap.size = P at h1 ⊢
  have A1 := add_b rcA h1 fit_ex.1 (hwh.out.ext h1.2) (by decide) ex_A
  clear hn e1 hP
  go_upto_region 5 with (first
    | (go_at_call 33; refine (nm_A _).mono ?_; rintro e w' ⟨rfl, rfl⟩)
    | (go_at_call 57; refine A1.mono ?_; rintro e w2 ⟨rfl, h2⟩))
  have A2 := add_b rcB h2 fit_ex.2.1 (hwh.out.ext h2.2) (by simp) ex_B
  clear A1 h1
  go_upto_region 6 with (first
    | (go_at_call 33; first | ((with_reducible refine (nm_A _).mono ?_); rintro e w' ⟨rfl, rfl⟩) | ((with_reducible refine (nm_B _).mono ?_); rintro e w' ⟨rfl, rfl⟩))
    | (go_at_call 57; refine A2.mono ?_; rintro e w3 ⟨rfl, h3⟩))
  have A3 := add_b rcC h3 fit_ex.2.2.1 (hwh.out.ext h3.2) (by simp) ex_C
  clear A2 h2
  go_upto_region 7 with (first
    | (go_at_call 33; first | ((with_reducible refine (nm_A _).mono ?_); rintro e w' ⟨rfl, rfl⟩) | ((with_reducible refine (nm_C _).mono ?_); rintro e w' ⟨rfl, rfl⟩))
    | (go_at_call 57; refine A3.mono ?_; rintro e w4 ⟨rfl, h4⟩))
  have A4 := add_b rcD h4 fit_ex.2.2.2 (hwh.out.ext h4.2) (by simp) ex_D
  clear A3 h3
  go_upto_region 8 with (first
    | (go_at_call 33; first | ((with_reducible refine (nm_D _).mono ?_); rintro e w' ⟨rfl, rfl⟩) | ((with_reducible refine (nm_B _).mono ?_); rintro e w' ⟨rfl, rfl⟩))
    | (go_at_call 57; refine A4.mono ?_; rintro e w5 ⟨rfl, h5⟩))
  have hc := copy_any h5.1 (by simp)
  clear A4 h4
  go_upto_region 9 with (go_at_call 23; refine hc.mono ?_; rintro e w6 ⟨_, rfl, q, rfl, hq, e6⟩)
  have h6 := h5.1.lt.ext e6
  have e06 := h5.2.trans e6
  have hd := drop_any nmB h6 ok_ex (by simp) (by rw [ex_x]; simp)
  have hs5 := e6.size
  have hs0 := h5.2.size
  rw [ex_x] at hd
  clear hc h5 e6
  go_upto_region 12 with (first
    | (go_at_call 33; (refine (nm_B _).mono ?_); rintro e w' ⟨rfl, rfl⟩)
    | (go_at_call 32; refine hd.mono ?_; rintro e w7 ⟨_, rfl, hx, ⟨ax, cx, rfl⟩, h7, g7⟩))
  have hq7 := hq.lt.chg g7 (fun k hk _ h => by have := hk.1; have := h.2; omega)
  have e07 := e06.chg g7 (fun k h => h.1)
  have hd2 := drop_any nmA hq7 ok_ex (by simp) (by rw [ex_y]; decide)
  have hs7 := g7.size
  rw [ex_y] at hd2
  clear hd hq g7 e06 h6
  go_upto_region 13 with (first
    | (go_at_call 33; (refine (nm_A _).mono ?_); rintro e w' ⟨rfl, rfl⟩)
    | (go_at_call 32; refine hd2.mono ?_; rintro e w8 ⟨_, rfl, -, ⟨ay, cy, rfl⟩, -, g8⟩))
  have h8 := h7.lt.chg g8 (fun k hk _ h => by have := hk.1; have := h.1; have := h.2; omega)
  have hx8 := (hx.lt.chgB g8 (fun k hk _ h => by have := hk.1; have := h.2; omega)).sl
  have e08 := Lib.hid (e07.chg g8 (fun k h => by have := h.1; omega))
  have hal := Lib.hid (fun W (e : Ext w8 W) => all_any (h8.ext e) (by rw [ex_l]; decide))
  rw [ex_l] at hal
  have ht := Lib.hid (fun W (e : Ext w8 W) v (hv : Sl sv W v [nmB, nmD]) => texts_any _ v _ _ W (hx8.ext e) hv)
  rw [ex_t] at ht
  clear hd2 h7 hx hq7 e07 g8 h8 hx8
  go_wp2_with (first
    | (go_at_call 33; first | ((with_reducible refine (nm_D _).mono ?_); rintro e w' ⟨rfl, rfl⟩) | ((with_reducible refine (nm_B _).mono ?_); rintro e w' ⟨rfl, rfl⟩))
    | (go_at_call 28; refine (ht.out _ ((Ext.refl w8).alloc _) _ (Sl.lit rfl rfl rfl (by decide) (by decide))).mono ?_; rintro e w9 ⟨rfl, e9⟩; have e9 := ((Ext.refl w8).alloc _).trans e9)
    | (go_at_call 25; refine (hal.out _ e9).mono ?_; rintro e w10 ⟨_, rfl, -, ⟨az, cz, rfl⟩, e10⟩))
  go_ret
  exact ⟨rfl, (e08.out.trans e9).trans e10⟩
end Go.Proofs.YtmdepmohfnficaaDoor


namespace Go.Proofs.YtmdepmohfnficaaDoor
set_option linter.unusedVariables false
set_option linter.unusedSimpArgs false
open Go.RowKit Rk Tr

theorem Ext.drewM (w : World) : ∀ n, Ext w (w.drewN n)
  | 0 => Ext.refl w
  | n + 1 => (Ext.drewM w n).drew
/-- in a region that draws and only reads: a record out of the middle of a row -/
theorem wpQuiet_load_rec {ops : Array Oper} {C : World → Prop} {Q : Act → Prop} {a : Act} {o : Oper} {rest : List Oper} (hw : Region.wanted o (yielded ops a.tmps) = true) (x : Operand) (ho : o.op = .load 36 x) (b i : Nat)
    (hx : a.eval x = .pointer (some ⟨b, i, none⟩)) (r : Rec) (hC : ∀ w, C w → w.rangeAt b i (prow r)) (h : wpQuiet Tryd.prog ops C Q rest (a.put o.dst (.agg (rcells r)))) : wpQuiet Tryd.prog ops C Q (o :: rest) a :=
  BigFrame.wpQuiet_want hw fun _ hK => ⟨_, fun w hw => by
    have e : (prow r).toArray = rcells r := by simp [prow]
    unfold Oper.quietAt execOp
    simp only [ho, hx, Instr.loadAt, Instr.sureAddr, Sem.run_bind, Sem.run_pure, Result.andThen_ok, run_loadVar_mid w b i 36 (prow r) _ (hC w hw) Tryd.underlying36 rfl info_rec]
    exact ⟨rfl, congrArg Value.agg e⟩, hK _ h⟩
theorem range_drew {w : World} {b i : Nat} {cs : List Value} (h : w.rangeAt b i cs) : ∀ W, (∃ n, W = w.drewN n) → W.rangeAt b i cs := fun W ⟨n, e⟩ => by
  subst e
  exact fun j u hu => (Ext.drewM w n).cell (h j u hu)
def recsB (l m : List Rec) : Bool := decide (l = m)
theorem recsB_len {l m : List Rec} (h : l.length ≠ m.length) : recsB l m = false := decide_eq_false fun e => h (by rw [e])
theorem recsB_no {l m : List Rec} {k : Nat} {x y : Rec} (hx : l[k]? = some x) (hy : m[k]? = some y) (h : req x y = false) : recsB l m = false := decide_eq_false fun e => by
  rw [e, hy] at hx
  cases hx
  rw [req_self] at h; cases h
theorem recsB_all {l m : List Rec} (hl : l.length = m.length) (h : ∀ j x y, j < l.length → l[j]? = some x → m[j]? = some y → req x y = true) : recsB l m = true := decide_eq_true (by
  apply List.ext_getElem?
  intro j
  by_cases hj : j < l.length
  · obtain ⟨x, hx⟩ := some_at hj
    obtain ⟨y, hy⟩ := some_at (l := m) (by omega : j < m.length)
    have := h j x y hj hx hy
    unfold req at this
    rw [hx, hy, of_decide_eq_true this]
  · rw [List.getElem?_eq_none (by omega), List.getElem?_eq_none (by omega)])
attribute [local irreducible] rcells req
set_option maxRecDepth 20000 in
set_option maxHeartbeats 1000000 in
theorem records_any (v u : Value) (l m : List Rec) (w : World) (hb : Recs w v l) (hc : Recs w u m) :
    Calls Tryd.prog 24 #[v, u] w fun e w' => e = .returned (.bool (recsB l m)) ∧ Ext w w' := by
  have e0 := Ext.refl w
  obtain ⟨a, cap, rfl, hlen, hb⟩ := Rw.shape hb
  obtain ⟨b, cap', rfl, hlen2, hc⟩ := Rw.shape hc
  by_cases hne : l.length = m.length
  · have hfl : ((l.length : Int) != (m.length : Int)) = false := by simp [hne]
    obtain ⟨L, hL⟩ : ∃ L, L = l.length := ⟨_, rfl⟩
    have hL2 : L = m.length := by omega
    rw [← hL] at hlen ⊢
    rw [← hL2] at hlen2 ⊢
    have hbh := Lib.hid hb
    have hch := Lib.hid hc
    clear hb hc hne hfl
    have hLh := Lib.hid hL
    have hL2h := Lib.hid hL2
    clear hL hL2
    go_enter Tryd.func24, Tryd.ntmps24
    go_wp2
    go_loopw [5] (fun i wr => ∃ k : Nat, k ≤ L ∧ i = .int .i64 k ∧ RowKit.Hid (∀ j x y, j < k → l[j]? = some x → m[j]? = some y → req x y = true) ∧ Ext w wr) (fun i _ => L - (intOf i).toNat)
    case atStart => exact ⟨0, Nat.zero_le _, rfl, Lib.hid (fun j x y hj => by omega), e0⟩
    case round =>
      obtain ⟨k, hk, rfl, hn, ek⟩ := hrel
      by_cases hlt : k < L
      · obtain ⟨x, hx⟩ := some_at (l := l) (by have := hLh.out; omega : k < l.length)
        obtain ⟨y, hy⟩ := some_at (l := m) (by have := hL2h.out; omega : k < m.length)
        obtain ⟨g, o, cs, rfl, hr, rfl, -⟩ := hbh.out k x hx
        obtain ⟨g2, o2, cs2, rfl, hr2, rfl, -⟩ := hch.out k y hy
        have hki : (k : Int) < (L : Int) := by omega
        have hw : IntKind.i64.wrap ((k : Int) + 1) = (k : Int) + 1 := by rw [IntKind.wrap_i64]; omega
        have l1 := range_drew (fun i u hu => ek.cell (hr i u hu) : wr.rangeAt g (o + k * 10) (prow x))
        have l2 := range_drew (fun i u hu => ek.cell (hr2 i u hu) : wr.rangeAt g2 (o2 + k * 10) (prow y))
        have hq := fun W => rec_neq x y W
        have hno := Lib.hid (recsB_no hx hy)
        have hnx := Lib.hid (fun h => (fun j x' y' hj hx' hy' => if e : j = k then by subst e; rw [hx] at hx'; rw [hy] at hy'; cases hx'; cases hy'; exact h else hn.out j x' y' (by omega) hx' hy') : req x y = true → ∀ j x y, j < k + 1 → l[j]? = some x → m[j]? = some y → req x y = true)
        clear hr hr2 hn hx hy e0
        go_upto_region 6 with fail
        refine wp_region_quiet_lit (by kernel_rfl) (by kernel_rfl) ?_
        repeat (first | (quiet_step (fail)) | (refine wpQuiet_load_rec (by rfl) _ rfl _ _ rfl x l1 ?_) | (refine wpQuiet_load_rec (by rfl) _ rfl _ _ rfl y l2 ?_))
        refine wpQuiet_nil ?_
        rintro _ ⟨nq, rfl⟩
        have e1 := ek.trans (Ext.drewM wr nq)
        generalize wr.drewN nq = W1 at *
        clear l1 l2
        cases hs : req x y
        · have hno2 := Lib.hid (hno.out hs)
          clear hno hnx
          go_wp2
          go_ret
          exact ⟨by rw [hno2.out]; rfl, e1⟩
        · have hnx2 := Lib.hid (hnx.out hs)
          clear hno hnx
          go_wp2
          go_roundw
          case rel => exact ⟨k + 1, by omega, by go_num, Lib.hid hnx2.out, e1⟩
          case measure => simp [intOf]; omega
      · obtain rfl : k = L := by omega
        have hf := Lib.hid (recsB_all (l := l) (m := m) (by rw [← hLh.out, ← hL2h.out]) (fun j x y hj => hn.out j x y (by rw [hLh.out]; exact hj)))
        clear hn
        go_wp2
        go_ret
        exact ⟨by rw [hf.out]; rfl, ek⟩
  · have hfl : ((l.length : Int) != (m.length : Int)) = true := by simp; omega
    have hf := Lib.hid (recsB_len hne)
    clear hb hc
    go_enter Tryd.func24, Tryd.ntmps24
    go_wp2
    go_ret
    exact ⟨by rw [hf.out]; rfl, e0⟩
theorem in_any (v : Value) (l : List (List UInt8)) (n : List UInt8) (w : World) (h : Sl sv w v l) :
    Calls Tryd.prog 34 #[v, .string (str n)] w fun e w' => e = .returned (.bool (inL l n)) ∧ w = w' := by
  obtain ⟨a, cap, rfl, hb⟩ := h
  have hlen := hb.len
  obtain ⟨-, -, -, hget⟩ := hb
  have hgh := Lib.hid hget
  clear hget
  go_enter Tryd.func34, Tryd.ntmps34
  go_wp2
  go_loop [5] (fun i => ∃ k : Nat, k ≤ l.length ∧ i = .int .i64 k ∧ RowKit.Hid (∀ j x, j < k → l[j]? = some x → seq x n = false)) (fun i => l.length - (intOf i).toNat)
  case atStart => exact ⟨0, Nat.zero_le _, rfl, Lib.hid fun j x hj => by omega⟩
  case round =>
    obtain ⟨k, hk, rfl, hn⟩ := hrel
    by_cases hlt : k < l.length
    · obtain ⟨x, hx⟩ := some_at hlt
      obtain ⟨g, o, rfl, hc⟩ := hgh.out k x hx
      have hki : (k : Int) < (l.length : Int) := by omega
      have hw : IntKind.i64.wrap ((k : Int) + 1) = (k : Int) + 1 := by rw [IntKind.wrap_i64]; omega
      unfold sv at hc
      have hyes := Lib.hid (fun h => inL_iff.2 (by have := seq_true.1 h; subst this; exact List.mem_of_getElem? hx) : seq x n = true → inL l n = true)
      have hnx := Lib.hid (fun h => (fun j y hj hy => if e : j = k then by subst e; rw [hx] at hy; cases hy; exact h else hn.out j y (by omega) hy) : seq x n = false → ∀ j y, j < k + 1 → l[j]? = some y → seq y n = false)
      clear hx hn
      cases hs : seq x n
      · have hnx2 := Lib.hid (hnx.out hs)
        clear hnx hyes
        go_wp2
        go_round
        case rel => exact ⟨k + 1, by omega, by go_num, Lib.hid hnx2.out⟩
        case measure => simp [intOf]; omega
      · have hy2 := Lib.hid (hyes.out hs)
        clear hnx hyes
        go_wp2
        go_ret
        exact ⟨by rw [hy2.out]; rfl, rfl⟩
    · obtain rfl : k = l.length := by omega
      have hf := Lib.hid (show inL l n = false from by
        cases e : inL l n
        · rfl
        · obtain ⟨j, hj⟩ := List.getElem?_of_mem (inL_iff.1 e)
          exact absurd rfl (seq_false.1 (hn.out j n (List.getElem?_eq_some_iff.1 hj).1 hj)))
      clear hn
      go_wp2
      go_ret
      exact ⟨by rw [hf.out]; rfl, rfl⟩
end Go.Proofs.YtmdepmohfnficaaDoor


