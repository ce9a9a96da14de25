/- The library's sort of changes at this program, laid (the shelf's plain text); what it leaves. (turned from XKvS) -/
import Derived.Shelf.Small.Strs
import Derived.Shelf.SlSortCmp.NoneTotal
import Derived.Test.YtmdepmohfnficaaDoorKpH
namespace Go.Proofs.YtmdepmohfnficaaDoor
set_option linter.unusedVariables false
set_option linter.unusedSimpArgs false
open Go.RowKit Kv
open Go.Shelf

def lays106_ren : Go.Shelf.Ren := ⟨fun | 106 => 78 | 213 => 95 | 265 => 111 | n => n, fun | 9 => 9 | 3 => 3 | n => n, fun | n => n⟩
theorem lays106 : Go.Proofs.Lays.n106 Tryd.prog lays106_ren := {
  mixed := by kernel_rfl
  f106 := Tryd.func78.trans (congrArg some (by kernel_rfl))
  f213 := Tryd.func95.trans (congrArg some (by kernel_rfl))
  f265 := Tryd.func111.trans (congrArg some (by kernel_rfl))
  t3 := Tryd.underlying3
  a3 := Tryd.isAgg3
  z3 := Tryd.sizeOf3
  v3 := Tryd.zeroValue3
  t9 := Tryd.underlying9
  a9 := Tryd.isAgg9
  z9 := Tryd.sizeOf9
  v9 := Tryd.zeroValue9 }
/-- strings.Compare -/
theorem strings_Compare (a b : ByteArray) (w : World) :
    Calls Tryd.prog 78 #[.string a, .string b] w fun e w' => e = .returned (.int .i64 (Lib.compareBytes a.data.toList b.data.toList)) ∧ w' = w := Any.strings_Compare lays106 a b w
def sortCh_ren : Go.Shelf.Ren := ⟨fun | 6 => 76 | 15 => 94 | 14 => 93 | 28 => 109 | 29 => 110 | 20 => 101 | 21 => 102 | 22 => 103 | 23 => 104 | 24 => 105 | 25 => 106 | 26 => 107 | 27 => 108 | 46 => 114 | 47 => 115 | 48 => 116 | 49 => 117 | 50 => 118 | 57 => 121 | n => n, fun | 22 => 82 | 24 => 104 | 25 => 108 | 3 => 3 | 39 => 124 | 0 => 0 | 53 => 139 | 55 => 65 | 4 => 4 | 46 => 132 | 45 => 131 | 50 => 136 | 5 => 5 | 9 => 9 | 66 => 141 | 70 => 145 | 76 => 152 | 77 => 153 | n => n, fun | n => n⟩
theorem sortCh : Go.Proofs.SlLaysF0.n6 Tryd.prog sortCh_ren := {
  mixed := by kernel_rfl
  f6 := ⟨Tryd.f76.name, by decide, Tryd.func76.trans (congrArg some (by kernel_rfl))⟩
  f14 := ⟨Tryd.f93.name, by decide, Tryd.func93.trans (congrArg some (by kernel_rfl))⟩
  f15 := Tryd.func94.trans (congrArg some (by kernel_rfl))
  f20 := ⟨Tryd.f101.name, by decide, Tryd.func101.trans (congrArg some (by kernel_rfl))⟩
  f21 := ⟨Tryd.f102.name, by decide, Tryd.func102.trans (congrArg some (by kernel_rfl))⟩
  f22 := ⟨Tryd.f103.name, by decide, Tryd.func103.trans (congrArg some (by kernel_rfl))⟩
  f23 := ⟨Tryd.f104.name, by decide, Tryd.func104.trans (congrArg some (by kernel_rfl))⟩
  f24 := ⟨Tryd.f105.name, by decide, Tryd.func105.trans (congrArg some (by kernel_rfl))⟩
  f25 := ⟨Tryd.f106.name, by decide, Tryd.func106.trans (congrArg some (by kernel_rfl))⟩
  f26 := ⟨Tryd.f107.name, by decide, Tryd.func107.trans (congrArg some (by kernel_rfl))⟩
  f27 := ⟨Tryd.f108.name, by decide, Tryd.func108.trans (congrArg some (by kernel_rfl))⟩
  f28 := Tryd.func109.trans (congrArg some (by kernel_rfl))
  f29 := Tryd.func110.trans (congrArg some (by kernel_rfl))
  f46 := ⟨Tryd.f114.name, by decide, Tryd.func114.trans (congrArg some (by kernel_rfl))⟩
  f47 := Tryd.func115.trans (congrArg some (by kernel_rfl))
  f48 := Tryd.func116.trans (congrArg some (by kernel_rfl))
  f49 := ⟨Tryd.f117.name, by decide, Tryd.func117.trans (congrArg some (by kernel_rfl))⟩
  f50 := ⟨Tryd.f118.name, by decide, Tryd.func118.trans (congrArg some (by kernel_rfl))⟩
  f57 := ⟨Tryd.f121.name, by decide, Tryd.func121.trans (congrArg some (by kernel_rfl))⟩
  t0 := Tryd.underlying0
  a0 := Tryd.isAgg0
  z0 := Tryd.sizeOf0
  v0 := Tryd.zeroValue0
  t3 := Tryd.underlying3
  a3 := Tryd.isAgg3
  z3 := Tryd.sizeOf3
  v3 := Tryd.zeroValue3
  t4 := Tryd.underlying4
  a4 := Tryd.isAgg4
  z4 := Tryd.sizeOf4
  v4 := Tryd.zeroValue4
  t5 := Tryd.underlying5
  a5 := Tryd.isAgg5
  z5 := Tryd.sizeOf5
  v5 := Tryd.zeroValue5
  t9 := Tryd.underlying9
  a9 := Tryd.isAgg9
  z9 := Tryd.sizeOf9
  v9 := Tryd.zeroValue9
  t22 := Tryd.underlying82
  a22 := Tryd.isAgg82
  z22 := Tryd.sizeOf82
  v22 := Tryd.zeroValue82
  t25 := Tryd.underlying108
  a25 := Tryd.isAgg108
  z25 := Tryd.sizeOf108
  v25 := Tryd.zeroValue108
  t39 := Tryd.underlying124
  a39 := Tryd.isAgg124
  z39 := Tryd.sizeOf124
  v39 := Tryd.zeroValue124
  t45 := Tryd.underlying131
  a45 := Tryd.isAgg131
  z45 := Tryd.sizeOf131
  v45 := Tryd.zeroValue131
  t46 := Tryd.underlying132
  a46 := Tryd.isAgg132
  z46 := Tryd.sizeOf132
  v46 := Tryd.zeroValue132
  t50 := Tryd.underlying136
  a50 := Tryd.isAgg136
  z50 := Tryd.sizeOf136
  v50 := Tryd.zeroValue136
  t53 := Tryd.underlying139
  a53 := Tryd.isAgg139
  z53 := Tryd.sizeOf139
  v53 := Tryd.zeroValue139
  t55 := Tryd.underlying65
  a55 := Tryd.isAgg65
  z55 := Tryd.sizeOf65
  v55 := Tryd.zeroValue65
  t66 := Tryd.underlying141
  a66 := Tryd.isAgg141
  z66 := Tryd.sizeOf141
  v66 := Tryd.zeroValue141
  t70 := Tryd.underlying145
  a70 := Tryd.isAgg145
  z70 := Tryd.sizeOf145
  v70 := Tryd.zeroValue145
  t76 := Tryd.underlying152
  a76 := Tryd.isAgg152
  z76 := Tryd.sizeOf152
  v76 := Tryd.zeroValue152
  t77 := Tryd.underlying153
  a77 := Tryd.isAgg153
  z77 := Tryd.sizeOf153
  v77 := Tryd.zeroValue153 }

instance : Inhabited Kv.Ch := ⟨⟨[], [], false⟩⟩
theorem cmp_lt : ∀ (a b : List UInt8), Lib.compareBytes a b < 0 ↔ a < b
  | [], [] => by simp [Lib.compareBytes]
  | [], _ :: _ => by simp [Lib.compareBytes]
  | _ :: _, [] => by simp [Lib.compareBytes]
  | a :: x, b :: y => by
    unfold Lib.compareBytes
    by_cases h1 : a < b
    · simp [h1, List.cons_lt_cons_iff]
    · by_cases h2 : b < a
      · have hne : a ≠ b := fun e => h1 (e ▸ h2)
        simp [h1, h2, List.cons_lt_cons_iff, hne]
      · have : a = b := UInt8.le_antisymm (UInt8.not_lt.1 h2) (UInt8.not_lt.1 h1)
        subst this
        simp only [h1, if_false]
        rw [cmp_lt x y, List.cons_lt_cons_iff]
        simp [h1]
def cfP (x y : Kv.Ch) : Int := Lib.compareBytes x.k y.k
theorem ltP (x y : Kv.Ch) : ltOf cfP x y = decide (x.k < y.k) := by
  unfold ltOf cfP
  rw [decide_eq_decide]; exact cmp_lt _ _
theorem swoP : Sort.SWO (ltOf cfP) where
  irrefl x := by rw [ltP]; simp
  trans x y z h1 h2 := by rw [ltP] at *; simp only [decide_eq_true_eq] at *; exact List.lt_trans h1 h2
  ntrans x y z h1 h2 := by
    rw [ltP] at *
    simp only [decide_eq_false_iff_not] at *
    exact fun h => h2 (List.lt_of_le_of_lt (List.not_lt.1 h1) h)
theorem flat_list (d : List Kv.Ch) : (Sort.flatK chc 3 d.toArray).toList = d.flatMap chc := by
  apply List.ext_getElem?
  intro t
  by_cases ht : t < d.length * 3
  · have hq : t / 3 < d.length := by omega
    have h1 : (d.flatMap chc)[t]? = (chc d[t / 3])[t % 3]? := by
      have hr : t % 3 < (chc d[t / 3]).length := by rw [chc_len]; omega
      have := rflat_get chc_len d (t / 3) (t % 3) _ _ (List.getElem?_eq_getElem hq) (List.getElem?_eq_getElem hr)
      rw [show t / 3 * 3 + t % 3 = t by omega] at this
      rw [this, List.getElem?_eq_getElem hr]
    have h2 : (Sort.flatK chc 3 d.toArray)[t]? = some (chc d[t / 3])[t % 3]! := by
      have hs : t < (Sort.flatK chc 3 d.toArray).size := by rw [Sort.size_flatK]; exact ht
      rw [Array.getElem?_eq_getElem hs]
      have := Sort.get_flatK chc 3 d.toArray t (by simpa using ht)
      rw [getElem!_pos _ t hs] at this
      rw [this]
      congr 2
      rw [getElem!_pos _ (t / 3) (by simpa using hq)]
      simp
    rw [Array.getElem?_toList, h2, h1, List.getElem?_eq_getElem (by rw [chc_len]; omega)]
    congr 1
    rw [getElem!_pos _ (t % 3) (by rw [chc_len]; omega)]
  · rw [List.getElem?_eq_none (by rw [Array.length_toList, Sort.size_flatK]; simpa using ht), List.getElem?_eq_none (by rw [rflat_len chc_len]; omega)]
theorem heap_sortedP {w : World} {g n : Nat} {os : Array Obj} {cur : Array Value} {e : TypeId} {fr : Nat × Nat} (d : Array Kv.Ch) (hb : w.heap[g]? = some (.cells cur e fr)) :
    (sortWorldK chc 3 w g 0 n d os).heap[g]? = some (.cells (Sort.putCells id 0 (Sort.flatK chc 3 d) cur) e fr) := by
  have hg : g < w.heap.size := (Array.getElem?_eq_some_iff.1 hb).1
  unfold sortWorldK Sort.putRowK
  rw [Sort.heap_grow_old _ _ (by simpa using hg)]
  simp [Sort.putRow, Sort.mapBlock, Sort.ahead, Array.getElem?_modify, hb, Sort.onCells]
theorem chg_sortedP {w : World} {g n : Nat} {os : Array Obj} (d : Array Kv.Ch) : Chg (fun k => k = g) w (sortWorldK chc 3 w g 0 n d os) := by
  unfold sortWorldK Sort.putRowK
  refine ⟨rfl, rfl, rfl, by simp, fun k hk hne => ?_⟩
  rw [Sort.heap_grow_old _ _ (by simpa using hk)]
  have : g ≠ k := fun e => hne e.symm
  simp [Sort.putRow, Sort.mapBlock, Sort.ahead, Array.getElem?_modify, this]
theorem take_putCellsP (cur : Array Value) (F : Array Value) (h : F.size ≤ cur.size) : (Sort.putCells id 0 F cur).toList.take F.size = F.toList := by
  apply List.ext_getElem?
  intro j
  by_cases hj : j < F.size
  · rw [List.getElem?_take_of_lt hj, Array.getElem?_toList, Array.getElem?_toList]
    simp [Sort.putCells, hj, show j < cur.size by omega]
  · rw [List.getElem?_take_eq_none (by omega), List.getElem?_eq_none (by simp; omega)]
/-- behind the sort the same slice owns the sorted pairs -/
theorem own_sortedP {w : World} {F : Nat → Prop} {g cap n : Nat} {os : Array Obj} {l ts : List Kv.Ch} (h : OwnC w F (.slice (some ⟨g, 0, none⟩) l.length cap) l) (hl : ts.length = l.length) (hf : ∀ x ∈ ts, chF x) :
    OwnC (sortWorldK chc 3 w g 0 n ts.toArray os) F (.slice (some ⟨g, 0, none⟩) ts.length cap) ts := by
  obtain ⟨⟨⟨h1, h2⟩, h3⟩, -⟩ := h
  rcases h2 with ⟨h, -⟩ | ⟨g', cap', cur, hv, hb, hh, h4, h5, h6, h7⟩
  · cases h
  · cases hv
    refine ⟨⟨⟨by rw [rflat_len chc_len], .inr ⟨g, cap, _, rfl, hb, heap_sortedP _ hh, by omega, h5, by simp [Sort.putCells, h6], ?_⟩⟩, h3⟩, hf⟩
    have hs : (Sort.flatK chc 3 ts.toArray).size = ts.length * 3 := by rw [Sort.size_flatK]; simp
    have := take_putCellsP cur (Sort.flatK chc 3 ts.toArray) (by rw [hs, h6]; omega)
    rw [hs, flat_list] at this
    exact this
theorem holds_ownP {w : World} {F : Nat → Prop} {g cap : Nat} {l : List Kv.Ch} (h : OwnC w F (.slice (some ⟨g, 0, none⟩) l.length cap) l) : Sort.HoldsK chc 3 w g 0 l.toArray ∧ g < w.heap.size ∧ l.length ≤ maxLen := by
  obtain ⟨⟨⟨h1, h2⟩, -⟩, -⟩ := h
  rcases h2 with ⟨h, -⟩ | ⟨g', cap', cur, hv, hb, hh, h4, h5, h6, h7⟩
  · cases h
  · cases hv
    refine ⟨fun j hj => ?_, (Array.getElem?_eq_some_iff.1 hh).1, Nat.le_trans h4 h5⟩
    have hs : (Sort.flatK chc 3 l.toArray).size = l.length * 3 := by rw [Sort.size_flatK]; simp
    refine ⟨?_, by simp [World.frozen?, hh]⟩
    rw [hs] at hj
    have e1 : cur.toList[j]? = (l.flatMap chc)[j]? := by rw [← h7, List.getElem?_take_of_lt hj]
    rw [cell_of_row _ _ _ _ _ _ hh, Nat.zero_add, ← Array.getElem?_toList, e1, ← flat_list, Array.getElem?_toList, Array.getElem?_eq_getElem (by rw [hs]; exact hj)]
    rw [getElem!_pos _ j (by rw [hs]; exact hj)]
    rfl
/-- a row that is sorted, no name twice, is the one list -/
theorem sorted_eq {l : List Kv.Ch} {L : List Kv.Ch} {d' : Array Kv.Ch} (hL : Kp.SrtC L) (hm : ∀ p, p ∈ l ↔ p ∈ L) (hn : l.Nodup) (hp : Sort.PermIn 0 l.toArray.size l.toArray d') (hs : Sort.SortedIn (ltOf cfP) 0 l.toArray.size d') : d' = L.toArray := by
  obtain ⟨h1, -, h2⟩ := hp
  have hsz : d'.size = l.length := by rw [h1]; simp
  have hperm : d'.toList.Perm l := by
    have e1 : d'.extract 0 l.toArray.size = d' := by rw [← h1]; simp
    have e2 : l.toArray.extract 0 l.toArray.size = l.toArray := by simp
    rw [e1, e2] at h2
    exact h2
  have hmem : ∀ p, p ∈ d'.toList ↔ p ∈ L := fun p => (hperm.mem_iff).trans (hm p)
  have hnd : d'.toList.Nodup := hperm.nodup_iff.2 hn
  have hsr : Kp.SrtC d'.toList := by
    refine List.pairwise_iff_getElem.2 fun i j hi hj hij => ?_
    have hi' : i < d'.size := by simpa using hi
    have hj' : j < d'.size := by simpa using hj
    have h3 := hs i j (Nat.zero_le _) hij (by rw [← h1]; exact hj')
    rw [ltP, getElem!_pos _ i hi', getElem!_pos _ j hj'] at h3
    simp only [decide_eq_false_iff_not] at h3
    have hle := List.not_lt.1 h3
    rcases List.le_iff_lt_or_eq.1 hle with h | h
    · simpa using h
    · exfalso
      have := hL.key ((hmem _).1 (Array.getElem_mem_toList hi')) ((hmem _).1 (Array.getElem_mem_toList hj')) h
      have h5 := List.getElem_inj hnd |>.1 (show d'.toList[i] = d'.toList[j] from by simpa using this)
      omega
  have := Kp.srtC_ext hsr hL hmem
  rw [← this]
end Go.Proofs.YtmdepmohfnficaaDoor
