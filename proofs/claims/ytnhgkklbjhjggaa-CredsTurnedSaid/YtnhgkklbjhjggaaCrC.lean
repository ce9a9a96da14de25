/- Users, pairs, tables, as they lie in memory. -/
import Derived.Test.YtnhgkklbjhjggaaCrB
import Derived.Test.YtnhgkklbjhjggaaRws
import Derived.MapKept
import Derived.Carry
namespace Go.Proofs.Ytnhgkklbjhjggaa
open Go.ChangeShapes Go.WideShapes Go.ChangeAt Go.RowKit

structure Pr where
  n : List UInt8
  v : List UInt8
structure Us where
  n : List UInt8
  p : List UInt8
  a : List Pr
def prc (x : Pr) : List Value := [.string (str x.n), .string (str x.v)]
def prF (x : Pr) : Prop := fit x.n ∧ fit x.v
/-- a slice of pairs that is read -/
def Prs (w : World) (v : Value) (l : List Pr) : Prop := Rw 2 (fun x cs => cs = prc x ∧ prF x) w v l
theorem Prs.ext {w w' : World} {v : Value} {l : List Pr} (h : Prs w v l) (e : Ext w w') : Prs w' v l := Rw.ext h e fun _ _ _ h => h
theorem Prs.nil (w : World) : Prs w (.slice none 0 0) [] := Rw.nil _ _ w
def usc (x : Us) (sl : Value) : List Value := [.string (str x.n), .string (str x.p), sl]
def usF (x : Us) : Prop := fit x.n ∧ fit x.p
/-- a user's cells -/
def UsC (w : World) (x : Us) (cs : List Value) : Prop := ∃ sl, cs = usc x sl ∧ Prs w sl x.a ∧ usF x
theorem UsC.ext {w w' : World} {x : Us} {cs : List Value} (h : UsC w x cs) (e : Ext w w') : UsC w' x cs :=
  let ⟨sl, h1, h2, h3⟩ := h; ⟨sl, h1, h2.ext e, h3⟩
/-- a slice of users that is read -/
def Uss (w : World) (v : Value) (l : List Us) : Prop := Rw 3 (UsC w) w v l
theorem Uss.ext {w w' : World} {v : Value} {l : List Us} (h : Uss w v l) (e : Ext w w') : Uss w' v l := Rw.ext h e fun _ _ _ h => h.ext e
theorem Uss.nil (w : World) : Uss w (.slice none 0 0) [] := Rw.nil _ _ w
theorem Rw.shape {α : Type} {k : Nat} {C : α → List Value → Prop} {w : World} {v : Value} {l : List α} (h : Rw k C w v l) : ∃ a cap, v = .slice a l.length cap ∧ (l.length : Int) ≤ 9223372036854775807 ∧
    ∀ j x, l[j]? = some x → ∃ g o cs, a = some ⟨g, o, none⟩ ∧ w.rangeAt g (o + j * k) cs ∧ C x cs := by
  obtain ⟨a, cap, h1, h2, h3, h4, h5⟩ := h
  refine ⟨a, cap, h1, by unfold maxLen at h3; omega, fun j x hj => ?_⟩
  obtain ⟨g, o, cs, k1, -, k3, k4⟩ := h5 j x hj
  exact ⟨g, o, cs, k1, k3, k4⟩
theorem cellsPr : Try.prog.cellsOf 42 = 2 := by kernel_rfl
theorem cellsUs : Try.prog.cellsOf 40 = 3 := by kernel_rfl
theorem cellsPs : Try.prog.cellsOf 35 = 1 := by kernel_rfl
theorem info_pair : (Try.prog.info? 42).map (·.size) = some 2 := by kernel_rfl
theorem info_user : (Try.prog.info? 40).map (·.size) = some 3 := by kernel_rfl
section
variable {H : Type} {enc : TypeId × Value → H} {W : World} {base : Nat} {v : Value} {d : DataW H} {p : List MemPlace} {x : DataW H × List MemPlace}
theorem pair_of {n : Nat} {cs : List Value} (hl : cs.length = 2) (hf : DataW.trod enc Try.prog W 0 (fun _ => true) true n 42 cs = some x) : ∃ y, cs = prc y ∧ prF y := by
  obtain ⟨xs, m, _, _, -, hn, h⟩ := DataW.trod_struct Try.underlying42 hf
  match cs, hl with
  | [c0, c1], _ =>
    have hn2 : xs.length = 2 := hn
    match xs, hn2 with
    | [y0, y1], _ =>
      have h0 : DataW.trod enc Try.prog W 0 (fun _ => true) true m 9 (([c0, c1].drop 0).take (Try.prog.cellsOf 9)) = [y0, y1][0]? := h 0 _ rfl
      have h1 : DataW.trod enc Try.prog W 0 (fun _ => true) true m 9 (([c0, c1].drop 1).take (Try.prog.cellsOf 9)) = [y0, y1][1]? := h 1 _ rfl
      simp only [cellsS, List.drop_zero, List.drop_succ_cons, List.take_succ_cons, List.take_zero, List.getElem?_cons_zero, List.getElem?_cons_succ] at h0 h1
      obtain ⟨a, ha, e0⟩ := str_of h0
      obtain ⟨b, hb, e1⟩ := str_of h1
      cases e0
      cases e1
      exact ⟨⟨a, b⟩, rfl, ha, hb⟩
theorem prs_of {n : Nat} (hf : DataW.trod enc Try.prog W 0 (fun _ => true) true n 35 [v] = some x) : ∃ l, Prs W v l :=
  rows_of Try.underlying35 cellsPr (by decide) (fun _ _ _ hl h => pair_of hl h) hf
theorem user_of {n : Nat} {cs : List Value} (hl : cs.length = 3) (hf : DataW.trod enc Try.prog W 0 (fun _ => true) true n 40 cs = some x) : ∃ y, UsC W y cs := by
  obtain ⟨xs, m, _, _, -, hn, h⟩ := DataW.trod_struct Try.underlying40 hf
  match cs, hl with
  | [c0, c1, c2], _ =>
    have hn2 : xs.length = 3 := hn
    match xs, hn2 with
    | [y0, y1, y2], _ =>
      have h0 : DataW.trod enc Try.prog W 0 (fun _ => true) true m 9 (([c0, c1, c2].drop 0).take (Try.prog.cellsOf 9)) = [y0, y1, y2][0]? := h 0 _ rfl
      have h1 : DataW.trod enc Try.prog W 0 (fun _ => true) true m 9 (([c0, c1, c2].drop 1).take (Try.prog.cellsOf 9)) = [y0, y1, y2][1]? := h 1 _ rfl
      have h2 : DataW.trod enc Try.prog W 0 (fun _ => true) true m 35 (([c0, c1, c2].drop 2).take (Try.prog.cellsOf 35)) = [y0, y1, y2][2]? := h 2 _ rfl
      simp only [cellsS, cellsPs, List.drop_zero, List.drop_succ_cons, List.take_succ_cons, List.take_zero, List.getElem?_cons_zero, List.getElem?_cons_succ] at h0 h1 h2
      obtain ⟨a, ha, e0⟩ := str_of h0
      obtain ⟨b, hb, e1⟩ := str_of h1
      obtain ⟨l, hp⟩ := prs_of h2
      cases e0
      cases e1
      exact ⟨⟨a, b, l⟩, c2, rfl, hp, ha, hb⟩
theorem open_users (hval : Value.okWide Try.prog W .any base 22 v) (h : DataW.Trod enc Try.prog W 0 (fun _ => true) true 22 v d p) : ∃ l, Uss W v l :=
  let ⟨_, _, hf⟩ := okw_slice Try.underlying22 hval h
  rows_of Try.underlying22 cellsUs (by decide) (fun _ _ _ hl h => user_of hl h) hf
end

/-! ### maps from texts -/
def ent (p : (List UInt8 × Value) × Nat) : MapEntry := { key := .string (str p.1.1), val := p.1.2, born := p.2 }
def ents (l : List (List UInt8 × Value)) : Array MapEntry := (l.zipIdx.map ent).toArray
/-- block b is the map of these pairs, in the order of their births -/
def MapS (w : World) (b : Nat) (l : List (List UInt8 × Value)) : Prop := w.heap[b]? = some (.map (ents l) l.length)
theorem MapS.ext {w w' : World} {b : Nat} {l : List (List UInt8 × Value)} (h : MapS w b l) (e : Ext w w') : MapS w' b l := e.heap h
theorem MapS.made (w : World) : MapS (w.alloc (.map #[] 0)) w.heap.size [] := by
  show (w.heap.push _)[w.heap.size]? = _
  simp; rfl
def look (l : List (List UInt8 × Value)) (k : List UInt8) : Option Value := (l.find? fun p => seq k p.1).map (·.2)
theorem str_beq (a b : List UInt8) : (str a == str b) = seq a b := by
  cases h : seq a b
  · have h' := seq_false.1 h
    cases e : (str a == str b)
    · rfl
    · exact absurd (str_inj (MapKept.bytes_beq _ _ |>.1 e)) h'
  · rw [seq_true.1 h]; exact (MapKept.bytes_beq _ _).2 rfl
theorem find_ents (k : List UInt8) : ∀ (l : List (List UInt8 × Value)) (n i : Nat), ∃ r, Instr.findNow .string (.string (str k)) ((l.zipIdx n).map ent) i = some r ∧ r.map (·.2) = look l k
  | [], n, i => ⟨none, rfl, rfl⟩
  | p :: l, n, i => by
    have hs : Instr.sameNow .string (.string (str k)) (.string (str p.1)) = some (seq k p.1) := congrArg some (str_beq k p.1)
    cases h : seq k p.1
    · obtain ⟨r, h1, h2⟩ := find_ents k l (n + 1) (i + 1)
      refine ⟨r, ?_, by rw [h2]; simp [look, h]⟩
      simp only [List.zipIdx_cons, List.map_cons, Instr.findNow, ent, hs, h]
      exact h1
    · refine ⟨some (i, p.2), ?_, by simp [look, h]⟩
      simp only [List.zipIdx_cons, List.map_cons, Instr.findNow, ent, hs, h]
section
variable {P : Program} {w : World} {b : Nat} {l : List (List UInt8 × Value)} {T kt et : TypeId}
theorem run_findS (hk : P.underlying kt = some .string) (k : List UInt8) : ∃ r, (Instr.findKey kt (.string (str k)) (ents l).toList).run P w = .ok r w ∧ r.map (·.2) = look l k := by
  obtain ⟨r, h1, h2⟩ := find_ents k l 0 0
  exact ⟨r, MapKept.run_findKey hk h1, h2⟩
theorem run_lookupS (hT : P.underlying T = some (.map kt et)) (hk : P.underlying kt = some .string) (h : MapS w b l) (k : List UInt8) (z : Value) (hz : ∀ w, (zeroValue et).run P w = .ok z w) (c : Bool) :
    (Instr.lookup T (.map (some b)) (.string (str k)) c).run P w = .ok (if c then .tuple #[(look l k).getD z, .bool (look l k).isSome] else (look l k).getD z) w := by
  obtain ⟨r, h1, h2⟩ := run_findS (P := P) (w := w) (l := l) hk k
  have hc : ∀ e, (Instr.checkKey e 10000 kt (.string (str k))).run P w = .ok () w := fun e => MapKept.run_checkKey (k := .string (str k)) hk (by simp [MapKept.IsKey]) e 9999
  unfold Instr.lookup
  simp only [Sem.run_bind, run_underlying hT, Result.andThen_ok, MapKept.run_getObj_map h, Sem.run_pure, hc, h1]
  cases r with
  | none =>
    rw [← h2]
    simp [hz, Result.andThen]
  | some q =>
    rw [← h2]
    simp [Result.andThen]
theorem run_updateS (hT : P.underlying T = some (.map kt et)) (hk : P.underlying kt = some .string) (h : MapS w b l) (k : List UInt8) (hn : look l k = none) (v : Value) :
    (Instr.mapUpdate T (.map (some b)) (.string (str k)) v).run P w = .ok () { w with heap := w.heap.setIfInBounds b (.map (ents (l ++ [(k, v)])) (l.length + 1)) } := by
  obtain ⟨r, h1, h2⟩ := run_findS (P := P) (w := w) (l := l) hk k
  rw [hn] at h2
  obtain rfl : r = none := by cases r with
    | none => rfl
    | some q => cases h2
  have hc : ∀ e, (Instr.checkKey e 10000 kt (.string (str k))).run P w = .ok () w := fun e => MapKept.run_checkKey (k := .string (str k)) hk (by simp [MapKept.IsKey]) e 9999
  have he : ents (l ++ [(k, v)]) = (ents l).push { key := .string (str k), val := v, born := l.length } := by
    unfold ents
    rw [List.zipIdx_append]
    simp [ent]
  unfold Instr.mapUpdate
  simp only [Sem.run_bind, run_underlying hT, Result.andThen_ok, MapKept.run_getObj_map h, hc, h1, MapKept.run_setObj_map _ h, he]
end
theorem MapS.put {w : World} {b : Nat} {l : List (List UInt8 × Value)} (h : MapS w b l) (k : List UInt8) (v : Value) :
    MapS { w with heap := w.heap.setIfInBounds b (.map (ents (l ++ [(k, v)])) (l.length + 1)) } b (l ++ [(k, v)]) ∧ Chg (fun j => j = b) w { w with heap := w.heap.setIfInBounds b (.map (ents (l ++ [(k, v)])) (l.length + 1)) } := by
  obtain ⟨h1, h2⟩ := MapKept.heap_set (o' := .map (ents (l ++ [(k, v)])) (l.length + 1)) h
  refine ⟨by unfold MapS; rw [List.length_append]; exact h1, rfl, rfl, rfl, by simp, fun j _ hj => h2 j hj⟩
theorem look_none {l : List (List UInt8 × Value)} {k : List UInt8} (h : ∀ p ∈ l, p.1 ≠ k) : look l k = none := by
  unfold look
  rw [List.find?_eq_none.2 fun p hp => by
    rw [Bool.not_eq_true, seq_false]; exact fun e => h p hp e.symm]
  rfl
theorem look_some {l : List (List UInt8 × Value)} {k : List UInt8} {v : Value} (h : look l k = some v) : (k, v) ∈ l := by
  unfold look at h
  cases hf : l.find? fun p => seq k p.1 with
  | none => rw [hf] at h; cases h
  | some p =>
    rw [hf] at h
    have h1 := List.mem_of_find?_eq_some hf
    have h2 := seq_true.1 (List.find?_some (p := fun p : List UInt8 × Value => seq k p.1) hf)
    simp only [Option.map_some, Option.some.injEq] at h
    rw [h2, ← h]; exact h1
end Go.Proofs.Ytnhgkklbjhjggaa
