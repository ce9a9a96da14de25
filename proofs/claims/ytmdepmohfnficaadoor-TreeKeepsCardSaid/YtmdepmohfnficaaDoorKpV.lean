/- The document's Diff, walked. -/
import Derived.Test.YtmdepmohfnficaaDoorKpU
import Derived.Test.YtmdepmohfnficaaDoorTrDa
import Derived.Test.YtmdepmohfnficaaDoorRecH
import Derived.StillTailTactics
namespace Go.Proofs.YtmdepmohfnficaaDoor
set_option linter.unusedVariables false
set_option linter.unusedSimpArgs false
open Go.RowKit Rk Tr Kp

namespace Kp
theorem slt_iff {a b : List UInt8} : slt a b = true ↔ a < b := by unfold slt; exact decide_eq_true_iff
theorem slt_no {a b : List UInt8} : slt a b = false ↔ ¬ a < b := by unfold slt; exact decide_eq_false_iff_not
def nxtS (last nx : List UInt8) (r : Rec) : List UInt8 := if slt last r.name = true ∧ (seq nx [] = true ∨ slt r.name nx = true) then r.name else nx
def nxt (last : List UInt8) (l : List Rec) : List UInt8 := l.foldl (nxtS last) []
theorem nxt_step {last : List UInt8} {l : List Rec} {k : Nat} {x : Rec} (h : l[k]? = some x) : nxt last (l.take (k + 1)) = nxtS last (nxt last (l.take k)) x := by
  unfold nxt
  rw [List.take_add_one, h, List.foldl_append]; rfl
def NSpec (last : List UInt8) (p : List Rec) (nx : List UInt8) : Prop := (nx = [] ∧ ∀ r ∈ p, ¬ last < r.name) ∨ (nx ≠ [] ∧ nx ∈ names p ∧ last < nx ∧ ∀ r ∈ p, last < r.name → ¬ r.name < nx)
theorem NSpec.step {last : List UInt8} {p : List Rec} {nx : List UInt8} (h : NSpec last p nx) {r : Rec} (hr : r.name ≠ []) : NSpec last (p ++ [r]) (nxtS last nx r) := by
  have hn : ∀ {n}, n ∈ names p → n ∈ names (p ++ [r]) := fun hn => by unfold names at *; rw [List.map_append]; exact List.mem_append_left _ hn
  unfold nxtS
  split
  · rename_i hc
    obtain ⟨h1, h2⟩ := hc
    rw [slt_iff] at h1
    refine .inr ⟨hr, name_mem (List.mem_append_right _ (List.mem_singleton.2 rfl)), h1, fun s hs h3 => ?_⟩
    rcases List.mem_append.1 hs with hs | hs
    · rcases h with ⟨ha, hb⟩ | ⟨ha, hb, hc, hd⟩
      · exact absurd h3 (hb s hs)
      · rcases h2 with h2 | h2
        · exact absurd (seq_true.1 h2) ha
        · rw [slt_iff] at h2
          exact fun h4 => hd s hs h3 (List.lt_trans h4 h2)
    · rw [List.mem_singleton.1 hs]; exact List.lt_irrefl _
  · rename_i hc
    rcases h with ⟨ha, hb⟩ | ⟨ha, hb, hcc, hd⟩
    · refine .inl ⟨ha, fun s hs => ?_⟩
      rcases List.mem_append.1 hs with hs | hs
      · exact hb s hs
      · rw [List.mem_singleton.1 hs]
        exact fun h4 => hc ⟨slt_iff.2 h4, .inl (seq_true.2 ha)⟩
    · refine .inr ⟨ha, hn hb, hcc, fun s hs h3 => ?_⟩
      rcases List.mem_append.1 hs with hs | hs
      · exact hd s hs h3
      · rw [List.mem_singleton.1 hs] at h3 ⊢
        exact fun h4 => hc ⟨slt_iff.2 h3, .inr (slt_iff.2 h4)⟩
theorem NSpec.all {last : List UInt8} : ∀ (l : List Rec) {p : List Rec} {nx : List UInt8}, NSpec last p nx → (∀ r ∈ l, r.name ≠ []) → NSpec last (p ++ l) (l.foldl (nxtS last) nx)
  | [], p, nx, h, _ => by rw [List.append_nil]; exact h
  | r :: l, p, nx, h, hn => by
    have := NSpec.all l (h.step (hn r (List.mem_cons_self ..))) fun s hs => hn s (List.mem_cons_of_mem _ hs)
    rw [List.append_assoc] at this
    exact this
theorem nxt_spec (last : List UInt8) {l : List Rec} (hn : ∀ r ∈ l, r.name ≠ []) : NSpec last l (nxt last l) :=
  NSpec.all l (p := []) (.inl ⟨rfl, fun r hr => by cases hr⟩) hn
theorem nxt_fit (last : List UInt8) : ∀ (l : List Rec) (nx : List UInt8), (∀ r ∈ l, fit r.name) → fit nx → fit (l.foldl (nxtS last) nx)
  | [], _, _, h => h
  | r :: l, nx, hl, h => nxt_fit last l _ (fun s hs => hl s (List.mem_cons_of_mem _ hs)) (by unfold nxtS; split; exact hl r (List.mem_cons_self ..); exact h)
/-- how many names are behind one -/
def cnt (l : List Rec) (last : List UInt8) : Nat := (l.filter fun r => slt last r.name).length
theorem filter_lt {p q : Rec → Bool} (hpq : ∀ r, p r = true → q r = true) : ∀ {l : List Rec} {x : Rec}, x ∈ l → q x = true → p x = false → (l.filter p).length < (l.filter q).length
  | y :: l, x, hx, hq, hp => by
    have hle : ∀ l : List Rec, (l.filter p).length ≤ (l.filter q).length := fun l => by
      induction l with
      | nil => exact Nat.le_refl _
      | cons z l ih =>
        rw [List.filter_cons, List.filter_cons]
        by_cases h : p z = true
        · rw [if_pos h, if_pos (hpq z h), List.length_cons, List.length_cons]; omega
        · rw [if_neg h]; split
          · rw [List.length_cons]; omega
          · exact ih
    rw [List.filter_cons, List.filter_cons]
    rcases List.mem_cons.1 hx with rfl | hx
    · rw [if_neg (by rw [hp]; simp), if_pos hq, List.length_cons]
      have := hle l; omega
    · have ih := filter_lt hpq hx hq hp
      by_cases h : p y = true
      · rw [if_pos h, if_pos (hpq y h), List.length_cons, List.length_cons]; omega
      · rw [if_neg h]; split
        · rw [List.length_cons]; omega
        · exact ih
theorem cnt_lt {l : List Rec} {last nx : List UInt8} (hm : nx ∈ names l) (h : last < nx) : cnt l nx < cnt l last := by
  obtain ⟨r, hr, e⟩ := List.mem_map.1 hm
  have e : r.name = nx := e
  exact filter_lt (fun s hs => slt_iff.2 (List.lt_trans h (slt_iff.1 hs))) hr (slt_iff.2 (by rw [e]; exact h)) (slt_no.2 (by rw [e]; exact List.lt_irrefl _))
/-- what changes at one name -/
def stp (a b : List Rec) (n : List UInt8) : List Kv.Ch := if isIn b n = false then [⟨n, [], true⟩] else if diffC a (getR b n) = true then [⟨n, encS (getR b n), false⟩] else []
theorem getR_of {l : List Rec} {n : List UInt8} (h : isIn l n = true) : getR l n ∈ l ∧ (getR l n).name = n := by
  unfold isIn at h
  unfold getR
  rcases atI_cases l n with ⟨h1, -⟩ | ⟨i, r, h1, -, h3, h4⟩
  · rw [h1] at h; cases h
  · rw [h1]
    have hr : l.getD i zero = r := by rw [List.getD_eq_getElem?_getD, h3]; rfl
    simp only [hr]
    exact ⟨List.mem_of_getElem? h3, h4⟩
theorem mem_stp {a b : List Rec} {n : List UInt8} (ha : (names a).Nodup) (hb : (names b).Nodup) (hn : n ∈ names (a ++ b)) {c : Kv.Ch} : c ∈ stp a b n ↔ c ∈ raw a b ∧ c.k = n := by
  unfold stp
  rw [mem_raw]
  cases hq : isIn b n
  · have h1 : n ∉ names b := fun h => by rw [names_in.2 h] at hq; cases hq
    have h2 : n ∈ names a := by
      unfold names at hn
      rw [List.map_append] at hn
      exact (List.mem_append.1 hn).resolve_right h1
    rw [if_pos rfl, List.mem_singleton]
    constructor
    · rintro rfl
      obtain ⟨r, hr, e⟩ := List.mem_map.1 h2
      have e : r.name = n := e
      exact ⟨.inl ⟨r, hr, by rw [e]; exact h1, by rw [← e]; rfl⟩, rfl⟩
    · rintro ⟨⟨r, hr, -, rfl⟩ | ⟨r, hr, -, rfl⟩, e⟩
      · rw [← e]; rfl
      · have e : r.name = n := e
        exact absurd (by rw [← e]; exact name_mem hr) h1
  · obtain ⟨hm, he⟩ := getR_of hq
    rw [if_neg (by simp)]
    split
    · rename_i hd
      rw [diffC_iff ha, decide_eq_true_eq] at hd
      rw [List.mem_singleton]
      constructor
      · rintro rfl
        refine ⟨.inr ⟨_, hm, hd, ?_⟩, rfl⟩
        show (⟨n, encS (getR b n), false⟩ : Kv.Ch) = ⟨(getR b n).name, encS (getR b n), false⟩
        rw [he]
      · rintro ⟨⟨r, hr, h3, rfl⟩ | ⟨r, hr, h3, rfl⟩, e⟩
        · have e : r.name = n := e
          exact absurd (names_in.1 hq) (by rw [← e]; exact h3)
        · have e : r.name = n := e
          have := same_name hb hr hm (by rw [he]; exact e)
          rw [← this, ← e]; rfl
    · rename_i hd
      rw [diffC_iff ha, decide_eq_true_eq] at hd
      constructor
      · intro h; cases h
      · rintro ⟨⟨r, hr, h3, rfl⟩ | ⟨r, hr, h3, rfl⟩, e⟩
        · have e : r.name = n := e
          exact absurd (names_in.1 hq) (by rw [← e]; exact h3)
        · have e : r.name = n := e
          have := same_name hb hr hm (by rw [he]; exact e)
          rw [← this] at hd
          exact absurd h3 hd
theorem raw_key {a b : List Rec} {c : Kv.Ch} (h : c ∈ raw a b) : c.k ∈ names (a ++ b) := by
  unfold names
  rw [List.map_append]
  rcases mem_raw.1 h with ⟨r, hr, -, rfl⟩ | ⟨r, hr, -, rfl⟩
  · exact List.mem_append_left _ (name_mem hr)
  · exact List.mem_append_right _ (name_mem hr)
/-- the changes up to a name -/
structure Upto (a b : List Rec) (last : List UInt8) (out : List Kv.Ch) : Prop where
  srt : SrtC out
  mem : ∀ c, c ∈ out ↔ c ∈ raw a b ∧ ¬ last < c.k
theorem Upto.start {a b : List Rec} (hn : ∀ r ∈ a ++ b, r.name ≠ []) : Upto a b [] [] := ⟨List.Pairwise.nil, fun c => by
  refine ⟨fun h => (by cases h), fun ⟨h1, h2⟩ => ?_⟩
  obtain ⟨r, hr, e⟩ := List.mem_map.1 (raw_key h1)
  have e : r.name = c.k := e
  have := hn r hr
  rw [e] at this
  cases hk : c.k with
  | nil => exact absurd hk this
  | cons x t => rw [hk] at h2; exact absurd (List.nil_lt_cons x t) h2⟩
theorem Upto.step {a b : List Rec} {last nx : List UInt8} {out : List Kv.Ch} (h : Upto a b last out) (ha : (names a).Nodup) (hb : (names b).Nodup) (hm : nx ∈ names (a ++ b)) (hl : last < nx) (hlt : ∀ r ∈ a ++ b, last < r.name → ¬ r.name < nx) : Upto a b nx (out ++ stp a b nx) := by
  have hk : ∀ c ∈ stp a b nx, c.k = nx := fun c hc => ((mem_stp ha hb hm).1 hc).2
  refine ⟨List.pairwise_append.2 ⟨h.srt, ?_, fun x hx y hy => ?_⟩, fun c => ?_⟩
  · unfold stp
    split
    · exact List.pairwise_singleton ..
    · split
      · exact List.pairwise_singleton ..
      · exact List.Pairwise.nil
  · rw [hk y hy]
    exact List.lt_of_le_of_lt (List.not_lt.1 ((h.mem x).1 hx).2) hl
  · rw [List.mem_append, h.mem, mem_stp ha hb hm]
    constructor
    · rintro (⟨h1, h2⟩ | ⟨h1, h2⟩)
      · exact ⟨h1, fun h3 => h2 (List.lt_trans hl h3)⟩
      · exact ⟨h1, by rw [h2]; exact List.lt_irrefl _⟩
    · rintro ⟨h1, h2⟩
      by_cases h3 : last < c.k
      · refine .inr ⟨h1, ?_⟩
        obtain ⟨r, hr, e⟩ := List.mem_map.1 (raw_key h1)
        have e : r.name = c.k := e
        have h4 := hlt r hr (by rw [e]; exact h3)
        rw [e] at h4
        exact List.le_antisymm (List.not_lt.1 h2) (List.not_lt.1 h4)
      · exact .inl ⟨h1, h3⟩
theorem Upto.done {a b : List Rec} {last : List UInt8} {out : List Kv.Ch} (h : Upto a b last out) (hn : ∀ r ∈ a ++ b, ¬ last < r.name) : IsDiff out a b := ⟨h.srt, fun c => by
  rw [h.mem]
  refine ⟨fun h => h.1, fun h1 => ⟨h1, ?_⟩⟩
  obtain ⟨r, hr, e⟩ := List.mem_map.1 (raw_key h1)
  have e : r.name = c.k := e
  rw [← e]; exact hn r hr⟩
end Kp
theorem ok_small {r : Rec} (h : rightI r = true) : r.name.length ≤ 1099511627776 ∧ r.par.length ≤ 1099511627776 := by
  have R := (right_iff _).1 h
  have hi := R.is
  unfold isI at hi
  simp only [Bool.and_eq_true] at hi
  have := pok_len hi.1
  have := R.parl
  omega
theorem getR_fits {l : List Rec} (h : ∀ r ∈ l, Fits r) {n : List UInt8} (hi : isIn l n = true) : Fits (getR l n) := h _ (getR_of hi).1
def strV : Value → List UInt8
  | .string s => s.data.toList
  | _ => []
theorem strV_str (l : List UInt8) : strV (.string (str l)) = l := rfl
theorem refEncode_rc (r : Rec) (hf : Fits r) (hr : rightI r = true) (w : World) :
    Calls Tryd.prog 79 #[.agg (rcells r)] w fun e w' => e = .returned (.tuple #[.string (str (encS r)), .int .i64 (encE r)]) ∧ Ext w w' := refEncode_any r hf (ok_small hr).1 (ok_small hr).2 w
theorem nxtS_cases (L N : List UInt8) (x : Rec) : nxtS L N x = if (slt L x.name && (seq N [] || slt x.name N)) = true then x.name else N := by
  unfold nxtS
  simp only [Bool.and_eq_true, Bool.or_eq_true]
theorem gt_slt (a b : List UInt8) : (!(Op.bytesLess a b || (a == b))) = slt b a := by
  rw [bytes_less, Bool.eq_iff_iff, slt_iff]
  simp only [Bool.not_eq_true', Bool.or_eq_false_iff, decide_eq_false_iff_not, beq_eq_false_iff_ne]
  constructor
  · rintro ⟨h1, h2⟩
    rcases List.le_iff_lt_or_eq.1 (List.not_lt.1 h1) with h | h
    · exact h
    · exact absurd h.symm h2
  · exact fun h => ⟨fun h1 => List.lt_irrefl _ (List.lt_trans h h1), fun h1 => Kv.lt_ne h h1.symm⟩
theorem nxtS_cases2 (L N : List UInt8) (x : Rec) : nxtS L N x = if ((!(slt x.name L || seq x.name L)) && (seq N [] || slt x.name N)) = true then x.name else N := by
  rw [nxtS_cases, ← gt_slt x.name L, bytes_less]; rfl
attribute [local irreducible] rcells req encS slt
set_option maxRecDepth 20000 in
set_option maxHeartbeats 4000000 in
theorem refDiff_any {F G : Nat → Prop} {p q room room2 : Nat} {a b : List Rec} {d : List Kv.Ch} {w : World} (ta : TrM 34 w F p room a) (tb : TrM 34 w G q room2 b) (ha : Ok a) (hb : Ok b) (hd : IsDiff d a b) (hla : a.length ≤ 1000) (hlb : b.length ≤ 1000) :
    Calls Tryd.prog 50 #[.pointer (some ⟨p, 0, none⟩), .pointer (some ⟨q, 0, none⟩)] w (Ret fun u w' => Chs w' u d ∧ Ext w w') := by
  have hGa := Lib.hid (fun n W (e : Ext w W) => refGet_any n (ta.ext e))
  have hGb := Lib.hid (fun n W (e : Ext w W) => refGet_any n (tb.ext e))
  have hok := Lib.hid (And.intro ha hb)
  have hne : RowKit.Hid (∀ r ∈ a ++ b, r.name ≠ []) := Lib.hid fun r hr => (List.mem_append.1 hr).elim (fun h => name_ne (ha.right r h)) fun h => name_ne (hb.right r h)
  have hdh := Lib.hid hd
  obtain ⟨aa, ca, -, cA, rA⟩ := ta.parts
  obtain ⟨ab, cb, -, cB, rB⟩ := tb.parts
  obtain ⟨_, _, hq, hlma, hgA⟩ := Rw.shape rA
  cases hq
  obtain ⟨_, _, hq, hlmb, hgB⟩ := Rw.shape rB
  cases hq
  have hfb : RowKit.Hid (∀ r ∈ b, Fits r) := Lib.hid fun r hr => by
    obtain ⟨i, hi⟩ := List.getElem?_of_mem hr
    obtain ⟨g, o, cs, -, -, -, hf⟩ := hgB i r hi
    exact hf
  have hff : RowKit.Hid (∀ r ∈ a ++ b, fit r.name) := Lib.hid fun r hr => by
    rcases List.mem_append.1 hr with h | h
    · obtain ⟨i, hi⟩ := List.getElem?_of_mem h
      obtain ⟨g, o, cs, -, -, -, hf⟩ := hgA i r hi
      exact name_fit hf
    · obtain ⟨i, hi⟩ := List.getElem?_of_mem h
      obtain ⟨g, o, cs, -, -, -, hf⟩ := hgB i r hi
      exact name_fit hf
  have hgA := Lib.hid hgA
  have hgB := Lib.hid hgB
  have cAh := Lib.hid (fun W (e : Ext w W) => e.cell cA)
  have cBh := Lib.hid (fun W (e : Ext w W) => e.cell cB)
  have e0 := Ext.refl w
  have hwl : IntKind.i64.wrap ((a.length : Int) + (b.length : Int)) = (a.length : Int) + (b.length : Int) := by rw [IntKind.wrap_i64]; omega
  obtain ⟨R, hR⟩ : ∃ R, R = w.heap.size := ⟨_, rfl⟩
  have hRh := Lib.hid hR
  have hst0 := Lib.hid (Upto.start hne.out)
  have hct0 : RowKit.Hid (([] : List Kv.Ch).length + cnt (a ++ b) [] ≤ (a ++ b).length) := Lib.hid (by unfold cnt; rw [List.length_nil, Nat.zero_add]; exact List.length_filter_le _ _)
  clear rA rB ta tb cA cB hd ha hb hR
  go_enter Tryd.func50, Tryd.ntmps50
  go_wp2
  go_loopw [5, 6] (fun out last wr => ∃ (L : List UInt8) (acc : List Kv.Ch), last = .string (str L) ∧ RowKit.Hid (OwnC wr (fun j => R ≤ j) out acc) ∧ RowKit.Hid (Upto a b L acc) ∧ RowKit.Hid (acc.length + cnt (a ++ b) L ≤ (a ++ b).length) ∧ Ext w wr) (fun _ last _ => cnt (a ++ b) (strV last))
  case atStart => exact ⟨[], [], rfl, Lib.hid (OwnRs.nil _ _), hst0, hct0, e0⟩
  case round =>
    obtain ⟨L, acc, rfl, ho, hup, hct, ek⟩ := hrel
    obtain ⟨ao, co, rfl⟩ := ho.out.shapeN
    clear e0 hst0 hct0
    obtain ⟨WO, rfl⟩ : ∃ W, W = wr := ⟨_, rfl⟩
    have eO := Ext.refl WO
    go_wp2
    go_loopw [7, 8] (fun nx i wq => ∃ k : Nat, k ≤ a.length + b.length ∧ i = .int .i64 (k : Int) ∧ (∃ N : List UInt8, nx = .string (str N) ∧ RowKit.Hid (N = nxt L ((a ++ b).take k))) ∧ Ext WO wq) (fun _ i _ => a.length + b.length - (intOf i).toNat)
    case atStart => exact ⟨0, Nat.zero_le _, rfl, ⟨[], rfl, Lib.hid rfl⟩, eO⟩
    case round =>
      obtain ⟨k, hk, rfl, ⟨N, rfl, hN⟩, eq⟩ := hrel
      clear eO
      have c1 := cAh.out wr (ek.trans eq)
      have c2 := cBh.out wr (ek.trans eq)
      go_upto_region 5 with fail
      go_quiet (fail)
      have eq1 := eq.trans (Ext.drewM wr nq)
      clear c1 c2 eq
      generalize wr.drewN nq = W1 at *
      by_cases hlt : k < a.length + b.length
      · obtain ⟨x, hx⟩ := some_at (l := a ++ b) (by rw [List.length_append]; exact hlt)
        have hki : (k : Int) < (a.length : Int) + (b.length : Int) := by omega
        have hst := Lib.hid (nxt_step (last := L) hx)
        have hwr : IntKind.i64.wrap ((k : Int) + 1) = (k : Int) + 1 := by rw [IntKind.wrap_i64]; omega
        go_upto_region 8 with fail
        have eA : Ext W1 (W1.alloc (.cells #[.int .i64 0, .string (str []), .string (str []), .string (str []), .string (str []), .string (str []), .int .i64 0, .int .i64 0, .int .i64 0, .bool false] 36)) := (Ext.refl W1).alloc _
        have hB : (W1.alloc (.cells #[.int .i64 0, .string (str []), .string (str []), .string (str []), .string (str []), .string (str []), .int .i64 0, .int .i64 0, .int .i64 0, .bool false] 36)).heap[W1.heap.size]? = some (.cells zcells 36 (0, 0)) := heap_alloc_new W1 _
        have hBR := Lib.hid (eq1.size)
        have e1 := (ek.trans eq1).trans eA
        have e2 := eq1.trans eA
        generalize W1.alloc (.cells #[.int .i64 0, .string (str []), .string (str []), .string (str []), .string (str []), .string (str []), .int .i64 0, .int .i64 0, .int .i64 0, .bool false] 36) = WA at *
        generalize W1.heap.size = B at *
        have c1 := cAh.out WA e1
        have c2 := cBh.out WA e1
        go_upto_if 38 with fail
        go_cut [] (fun wd => wd.heap[B]? = some (.cells (rcells x) 36 (0, 0)) ∧ Ext WO wd)
        case first =>
          by_cases hka : k < a.length
          · have hkai : (k : Int) < (a.length : Int) := by omega
            obtain ⟨g, o, cs, rfl, hr, rfl, hf⟩ := hgA.out k x (by rw [← hx, List.getElem?_append_left hka])
            have hr2 : WA.rangeAt g (o + k * 10) (prow x) := fun i u hu => e1.cell (hr i u hu)
            clear hr
            go_wp2_with (first
              | (refine wpList_load_rec (by rfl) _ rfl g (o + k * 10) rfl x hr2 ?_)
              | (refine wpList_store_row rfl 36 _ _ rfl B (rcells x) rfl rfl 36 zcells hB (rc_sz x) (zc_size x) (rc_one x) ?_))
            go_meet
            exact ⟨setRow_heap _ B zcells (rcells x) _ _ hB, e2.setRow hBR.out _⟩
          · have hkai : ¬ (k : Int) < (a.length : Int) := by omega
            obtain ⟨j, rfl⟩ : ∃ j, k = a.length + j := ⟨k - a.length, by omega⟩
            obtain ⟨g, o, cs, rfl, hr, rfl, hf⟩ := hgB.out j x (by rw [← hx, List.getElem?_append_right (by omega)]; congr 1; omega)
            have hr2 : WA.rangeAt g (o + j * 10) (prow x) := fun i u hu => e1.cell (hr i u hu)
            have hwj : IntKind.i64.wrap ((a.length : Int) + (j : Int) - (a.length : Int)) = (j : Int) := by rw [IntKind.wrap_i64]; omega
            have hwj2 : IntKind.i64.wrap (j : Int) = (j : Int) := by rw [IntKind.wrap_i64]; omega
            have hj0 : (j : Int) < (b.length : Int) := by omega
            clear hr
            have hl := rc_lit x
            have r0 : WA.cell? ⟨g, o + j * 10, none⟩ = some (.int .i64 x.kind) := hr2 0 _ (by unfold prow; rw [hl]; rfl)
            have r1 : WA.cell? ⟨g, o + j * 10 + 1, none⟩ = some (.string (str x.name)) := hr2 1 _ (by unfold prow; rw [hl]; rfl)
            have r2 : WA.cell? ⟨g, o + j * 10 + 2, none⟩ = some (.string (str x.par)) := hr2 2 _ (by unfold prow; rw [hl]; rfl)
            have r3 : WA.cell? ⟨g, o + j * 10 + 3, none⟩ = some (.string (str x.user)) := hr2 3 _ (by unfold prow; rw [hl]; rfl)
            have r4 : WA.cell? ⟨g, o + j * 10 + 4, none⟩ = some (.string (str x.serv)) := hr2 4 _ (by unfold prow; rw [hl]; rfl)
            have r5 : WA.cell? ⟨g, o + j * 10 + 5, none⟩ = some (.string (str x.url)) := hr2 5 _ (by unfold prow; rw [hl]; rfl)
            have r6 : WA.cell? ⟨g, o + j * 10 + 6, none⟩ = some (.int .i64 x.made) := hr2 6 _ (by unfold prow; rw [hl]; rfl)
            have r7 : WA.cell? ⟨g, o + j * 10 + 7, none⟩ = some (.int .i64 x.used) := hr2 7 _ (by unfold prow; rw [hl]; rfl)
            have r8 : WA.cell? ⟨g, o + j * 10 + 8, none⟩ = some (.int .i64 x.uses) := hr2 8 _ (by unfold prow; rw [hl]; rfl)
            have r9 : WA.cell? ⟨g, o + j * 10 + 9, none⟩ = some (.bool x.fresh) := hr2 9 _ (by unfold prow; rw [hl]; rfl)
            go_upto_region 10 with fail
            go_still_tail 13, (by kernel_rfl)
            refine wpList_store_row rfl 36 _ _ rfl B _ rfl rfl 36 zcells hB (by rw [← hl]; exact rc_sz x) (by rw [← hl]; exact zc_size x) (by rw [← hl]; exact rc_one x) ?_
            generalize hW6 : World.setRow _ B _ = W6
            have hB6 : W6.heap[B]? = some (.cells (rcells x) 36 (0, 0)) := by rw [← hW6, hl]; exact setRow_heap _ B zcells _ _ _ hB
            have e6 : Ext WO W6 := by rw [← hW6]; exact (Ext.drew e2).setRow hBR.out _
            clear hW6 r0 r1 r2 r3 r4 r5 r6 r7 r8 r9
            refine wpList_nil ?_
            go_frame
            go_wp2
            go_meet
            exact ⟨hB6, e6⟩
        case rest =>
          obtain ⟨hB2, e3⟩ := hcut
          have n1 := cell_at hB2 1 (rc_cells x).2.1
          have hst2 := Lib.hid (hst.out.trans (show _ = nxtS L N x by rw [← hN.out]))
          have hcs := Lib.hid (nxtS_cases2 L N x)
          clear hst hN c1 c2 hB
          cases q1 : slt x.name L
          · cases q4 : seq x.name L
            · cases q2 : seq N []
              · cases q3 : slt x.name N
                · have hn2 := Lib.hid (hst2.out.trans (hcs.out.trans (show _ = N by rw [q1, q4, q2, q3]; rfl)))
                  clear hst2 hcs
                  go_wp2
                  go_roundw
                  case rel => exact ⟨k + 1, by omega, by go_num, ⟨N, rfl, Lib.hid hn2.out.symm⟩, e3⟩
                  case measure => simp [intOf]; omega
                · have hn2 := Lib.hid (hst2.out.trans (hcs.out.trans (show _ = x.name by rw [q1, q4, q2, q3]; rfl)))
                  clear hst2 hcs
                  go_wp2
                  go_roundw
                  case rel => exact ⟨k + 1, by omega, by go_num, ⟨x.name, rfl, Lib.hid hn2.out.symm⟩, e3⟩
                  case measure => simp [intOf]; omega
              · have hn2 := Lib.hid (hst2.out.trans (hcs.out.trans (show _ = x.name by rw [q1, q4, q2]; rfl)))
                clear hst2 hcs
                go_wp2
                go_roundw
                case rel => exact ⟨k + 1, by omega, by go_num, ⟨x.name, rfl, Lib.hid hn2.out.symm⟩, e3⟩
                case measure => simp [intOf]; omega
            · have hn2 := Lib.hid (hst2.out.trans (hcs.out.trans (show _ = N by rw [q1, q4]; rfl)))
              clear hst2 hcs
              go_wp2
              go_roundw
              case rel => exact ⟨k + 1, by omega, by go_num, ⟨N, rfl, Lib.hid hn2.out.symm⟩, e3⟩
              case measure => simp [intOf]; omega
          · have hn2 := Lib.hid (hst2.out.trans (hcs.out.trans (show _ = N by rw [q1]; rfl)))
            clear hst2 hcs
            go_wp2
            go_roundw
            case rel => exact ⟨k + 1, by omega, by go_num, ⟨N, rfl, Lib.hid hn2.out.symm⟩, e3⟩
            case measure => simp [intOf]; omega
      · obtain rfl : k = a.length + b.length := by omega
        have hNs := Lib.hid (show NSpec L (a ++ b) N by
          have h1 := nxt_spec L hne.out
          have h2 := hN.out
          rw [List.take_of_length_le (by rw [List.length_append]; omega)] at h2
          rw [h2]; exact h1)
        have hNf := Lib.hid (show fit N by
          rw [hN.out]
          exact nxt_fit L _ _ (fun r hr => hff.out r (List.mem_of_mem_take hr)) (by unfold fit; simp))
        have e1 := ek.trans eq1
        have ho1 := Lib.hid (ho.out.ext eq1)
        have hal := Lib.hid (show acc.length ≤ 2000 by have := hct.out; rw [List.length_append] at this; omega)
        clear hN hgA hgB cAh cBh hff ho ek eq1
        cases q2 : seq N []
        · have hsp := Lib.hid (show N ∈ names (a ++ b) ∧ L < N ∧ ∀ r ∈ a ++ b, L < r.name → ¬ r.name < N from by
            rcases hNs.out with ⟨h, -⟩ | ⟨-, h1, h2, h3⟩
            · exact absurd h (seq_false.1 q2)
            · exact ⟨h1, h2, h3⟩)
          have hup2 := Lib.hid (hup.out.step hok.out.1.nodup hok.out.2.nodup hsp.out.1 hsp.out.2.1 hsp.out.2.2)
          have hcl := Lib.hid (cnt_lt hsp.out.1 hsp.out.2.1)
          have hG1 := hGa.out N W1 e1
          obtain ⟨x, hx⟩ : ∃ x, x = getR a N := ⟨_, rfl⟩
          obtain ⟨was, hwas⟩ : ∃ z, z = isIn a N := ⟨_, rfl⟩
          obtain ⟨y, hy⟩ : ∃ y, y = getR b N := ⟨_, rfl⟩
          obtain ⟨is, his⟩ : ∃ z, z = isIn b N := ⟨_, rfl⟩
          have hyf := Lib.hid (show is = true → Fits y ∧ rightI y = true ∧ y.name = N from fun h => by
            rw [his] at h
            rw [hy]
            exact ⟨getR_fits hfb.out h, hok.out.2.right _ (getR_of h).1, (getR_of h).2⟩)
          have hdc := Lib.hid (show is = true → diffC a y = (!was || !req x y) from fun h => by
            unfold diffC
            rw [(hyf.out h).2.2, hwas, hx])
          have hstp := Lib.hid (show stp a b N = if is = false then [⟨N, [], true⟩] else if diffC a y = true then [⟨N, encS y, false⟩] else [] by rw [his, hy]; rfl)
          rw [← hx, ← hwas] at hG1
          have hG2 := Lib.hid (show ∀ W, Ext w W → Calls Tryd.prog 31 #[.pointer (some ⟨q, 0, none⟩), .string (str N)] W fun e w' => e = .returned (.tuple #[.agg (rcells y), .bool is]) ∧ Ext W w' from by rw [hy, his]; exact fun W e => hGb.out N W e)
          clear hup hNs hGa hGb hx hwas hy his hfb hok hdh hne hsp
          go_upto_region 16 with (first
            | (go_at_call 31; refine hG1.mono ?_; rintro e W2 ⟨rfl, e2⟩)
            | (refine wpList_store_new W2 rfl 36 _ _ rfl (rcells x) _ rfl rfl rfl 10 info_rec (rc_ten _) rfl (rc_one _) ?_))
          have hB := heap_alloc_new W2 (.cells (rcells x) 36)
          have e3 := (e1.trans e2).alloc (.cells (rcells x) 36)
          have ho3 := Lib.hid ((ho1.out.ext e2).ext ((Ext.refl W2).alloc (.cells (rcells x) 36)))
          generalize W2.alloc (.cells (rcells x) 36) = W3 at *
          generalize W2.heap.size = B1 at *
          have hG2 := hG2.out W3 e3
          clear hG1 e1 e2 ho1
          go_upto_region 17 with (first
            | (go_at_call 31; refine hG2.mono ?_; rintro e W4 ⟨rfl, e4⟩)
            | (refine wpList_store_new W4 rfl 36 _ _ rfl (rcells y) _ rfl rfl rfl 10 info_rec (rc_ten _) rfl (rc_one _) ?_))
          have hB5 := (e4.alloc (.cells (rcells y) 36)).heap hB
          have hC := heap_alloc_new W4 (.cells (rcells y) 36)
          have e5 := (e3.trans e4).alloc (.cells (rcells y) 36)
          have ho5 := Lib.hid ((ho3.out.ext e4).ext ((Ext.refl W4).alloc (.cells (rcells y) 36)))
          generalize W4.alloc (.cells (rcells y) 36) = W5 at *
          generalize W4.heap.size = B2 at *
          clear hG2 hB e3 e4 ho3
          cases is
          · have hs2 := Lib.hid (hstp.out.trans (if_pos rfl))
            clear hB5 hC hstp hdc hyf
            go_upto_region 19 with (at_builtin; refine wpList_appendRK Tryd.underlying82 info_chz rfl (by decide) (by decide) chc_len chc_one (by decide) rfl (.tmp 92) (.tmp 95) rfl (fun j => R ≤ j) (.slice ao acc.length co) acc rfl (ho5.out.ext ((Ext.refl W5).alloc _)) (.slice (some ⟨W5.heap.size, 0, none⟩) 1 1) [⟨N, [], true⟩] rfl (Rs.one rfl rfl rfl ⟨hNf.out, by unfold fit; simp⟩) (by have := hal.out; simp; omega) ?_; intro v7 w7 o7 g7)
            have e7 := e5.alloc (.cells #[.string (str N), .string (str []), .bool true] 104)
            go_wp2
            go_roundw
            case rel => exact ⟨N, _, rfl, Lib.hid (by rw [hs2.out]; exact o7.mono fun j h => h.elim id fun h => by have := e7.size; have := hRh.out; omega), hup2, Lib.hid (by rw [hs2.out, List.length_append, List.length_singleton]; have := hct.out; have := hcl.out; omega), e7.chg g7 fun j h => by have := hRh.out; omega⟩
            case measure => rw [strV_str, strV_str]; exact hcl.out
          · have hdc := Lib.hid (hdc.out rfl)
            have hyf := Lib.hid (hyf.out rfl)
            have hs2 := Lib.hid (hstp.out.trans (if_neg (by simp)))
            have hqr := fun W => rec_neq x y W
            have hE := Lib.hid (refEncode_rc y hyf.out.1 hyf.out.2.1 W5)
            clear hstp
            go_upto_region 19 with fail
            go_cut [106] (fun t wd => t = .bool (!was || !req x y) ∧ wd = W5)
            case first =>
              cases was
              · go_wp2
                go_meet
                exact ⟨rfl, rfl⟩
              · go_wp2_with (first
                  | (refine wpList_load_rowG (by rfl) 36 _ rfl B1 rfl 36 (rcells x) (0, 0) _ hB5 Tryd.underlying36 rfl (rc_sz x) ?_)
                  | (refine wpList_load_rowG (by rfl) 36 _ rfl B2 rfl 36 (rcells y) (0, 0) _ hC Tryd.underlying36 rfl (rc_sz y) ?_))
                go_meet
                exact ⟨rfl, rfl⟩
            case rest =>
              obtain ⟨rfl, rfl⟩ := hcut
              rw [← hdc.out]
              cases hq : diffC a y
              · have hs3 := Lib.hid (hs2.out.trans (if_neg (by rw [hq]; simp)))
                clear hB5 hC hqr hdc hs2 hq
                go_wp2
                go_roundw
                case rel => exact ⟨N, _, rfl, Lib.hid (by rw [hs3.out, List.append_nil]; exact ho5.out), hup2, Lib.hid (by rw [hs3.out, List.append_nil]; have := hct.out; have := hcl.out; omega), e5⟩
                case measure => rw [strV_str, strV_str]; exact hcl.out
              · have hs3 := Lib.hid (hs2.out.trans (if_pos hq))
                clear hqr hdc hs2 hq hB5
                go_upto_region 21 with (first
                  | (refine wpList_load_row rfl 36 _ rfl B2 rfl 36 (rcells y) (0, 0) _ hC Tryd.underlying36 rfl (rc_sz y) ?_)
                  | (go_at_call 79; refine hE.out.mono ?_; rintro e W6 ⟨rfl, e6⟩))
                have ho6 := Lib.hid (ho5.out.ext e6)
                have e56 := e5.trans e6
                clear hE hC ho5 e5 e6
                go_wp2_with (at_builtin; refine wpList_appendRK Tryd.underlying82 info_chz rfl (by decide) (by decide) chc_len chc_one (by decide) rfl (.tmp 112) (.tmp 116) rfl (fun j => R ≤ j) (.slice ao acc.length co) acc rfl (ho6.out.ext ((Ext.refl W6).alloc _)) (.slice (some ⟨W6.heap.size, 0, none⟩) 1 1) [⟨N, encS y, false⟩] rfl (Rs.one rfl rfl rfl ⟨hNf.out, encS_fit y⟩) (by have := hal.out; simp; omega) ?_; intro v7 w7 o7 g7)
                have e7 := e56.alloc (.cells #[.string (str N), .string (str (encS y)), .bool false] 104)
                go_roundw
                case rel => exact ⟨N, _, rfl, Lib.hid (by rw [hs3.out]; exact o7.mono fun j h => h.elim id fun h => by have := e7.size; have := hRh.out; omega), hup2, Lib.hid (by rw [hs3.out, List.length_append, List.length_singleton]; have := hct.out; have := hcl.out; omega), e7.chg g7 fun j h => by have := hRh.out; omega⟩
                case measure => rw [strV_str, strV_str]; exact hcl.out
        · have hda := Lib.hid (show acc = d from by
            refine (hup.out.done ?_).one hdh.out
            rcases hNs.out with ⟨-, h⟩ | ⟨h, -⟩
            · exact h
            · exact absurd (seq_true.1 q2) h)
          clear hup hNs
          go_wp2
          go_ret
          exact Ret.mk ⟨by rw [← hda.out]; exact ho1.out.rs (by decide) chc_len, e1⟩
end Go.Proofs.YtmdepmohfnficaaDoor
