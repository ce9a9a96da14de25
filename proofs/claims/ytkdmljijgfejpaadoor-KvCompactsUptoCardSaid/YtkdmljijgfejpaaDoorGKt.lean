/- The library's sort of pairs at this program, laid (the shelf's plain text); what it leaves. -/
import Derived.Shelf.Small.Strs
import Derived.Shelf.SlSortCmp.NoneTotal
import Derived.Test.YtkdmljijgfejpaaDoorKvQ
namespace Go.Proofs.YtkdmljijgfejpaaDoor
set_option linter.unusedVariables false
set_option linter.unusedSimpArgs false
open Go.RowKit Kv
open Go.Shelf

def lays106_ren : Go.Shelf.Ren := ⟨fun | 106 => 63 | 213 => 77 | 265 => 94 | n => n, fun | 9 => 9 | 3 => 3 | n => n, fun | n => n⟩
theorem lays106 : Go.Proofs.Lays.n106 Tryd.prog lays106_ren := {
  mixed := by kernel_rfl
  f106 := Tryd.func63.trans (congrArg some (by kernel_rfl))
  f213 := Tryd.func77.trans (congrArg some (by kernel_rfl))
  f265 := Tryd.func94.trans (congrArg some (by kernel_rfl))
  t3 := Tryd.underlying3
  a3 := Tryd.isAgg3
  z3 := Tryd.sizeOf3
  v3 := Tryd.zeroValue3
  t9 := Tryd.underlying9
  a9 := Tryd.isAgg9
  z9 := Tryd.sizeOf9
  v9 := Tryd.zeroValue9 }
/-- strings.Compare -/
theorem strings_Compare (a b : ByteArray) (w : World) :
    Calls Tryd.prog 63 #[.string a, .string b] w fun e w' => e = .returned (.int .i64 (Lib.compareBytes a.data.toList b.data.toList)) ∧ w' = w := Any.strings_Compare lays106 a b w
def sortPr_ren : Go.Shelf.Ren := ⟨fun | 6 => 61 | 15 => 76 | 14 => 75 | 28 => 92 | 29 => 93 | 20 => 84 | 21 => 85 | 22 => 86 | 23 => 87 | 24 => 88 | 25 => 89 | 26 => 90 | 27 => 91 | 46 => 96 | 47 => 97 | 48 => 98 | 49 => 99 | 50 => 100 | 57 => 101 | n => n, fun | 22 => 42 | 24 => 86 | 25 => 113 | 3 => 3 | 39 => 93 | 0 => 0 | 53 => 120 | 55 => 138 | 4 => 4 | 46 => 130 | 45 => 129 | 50 => 134 | 5 => 5 | 9 => 9 | 66 => 140 | 70 => 144 | 76 => 147 | 77 => 148 | n => n, fun | n => n⟩
theorem sortPr : Go.Proofs.SlLaysF0.n6 Tryd.prog sortPr_ren := {
  mixed := by kernel_rfl
  f6 := ⟨Tryd.f61.name, by decide, Tryd.func61.trans (congrArg some (by kernel_rfl))⟩
  f14 := ⟨Tryd.f75.name, by decide, Tryd.func75.trans (congrArg some (by kernel_rfl))⟩
  f15 := Tryd.func76.trans (congrArg some (by kernel_rfl))
  f20 := ⟨Tryd.f84.name, by decide, Tryd.func84.trans (congrArg some (by kernel_rfl))⟩
  f21 := ⟨Tryd.f85.name, by decide, Tryd.func85.trans (congrArg some (by kernel_rfl))⟩
  f22 := ⟨Tryd.f86.name, by decide, Tryd.func86.trans (congrArg some (by kernel_rfl))⟩
  f23 := ⟨Tryd.f87.name, by decide, Tryd.func87.trans (congrArg some (by kernel_rfl))⟩
  f24 := ⟨Tryd.f88.name, by decide, Tryd.func88.trans (congrArg some (by kernel_rfl))⟩
  f25 := ⟨Tryd.f89.name, by decide, Tryd.func89.trans (congrArg some (by kernel_rfl))⟩
  f26 := ⟨Tryd.f90.name, by decide, Tryd.func90.trans (congrArg some (by kernel_rfl))⟩
  f27 := ⟨Tryd.f91.name, by decide, Tryd.func91.trans (congrArg some (by kernel_rfl))⟩
  f28 := Tryd.func92.trans (congrArg some (by kernel_rfl))
  f29 := Tryd.func93.trans (congrArg some (by kernel_rfl))
  f46 := ⟨Tryd.f96.name, by decide, Tryd.func96.trans (congrArg some (by kernel_rfl))⟩
  f47 := Tryd.func97.trans (congrArg some (by kernel_rfl))
  f48 := Tryd.func98.trans (congrArg some (by kernel_rfl))
  f49 := ⟨Tryd.f99.name, by decide, Tryd.func99.trans (congrArg some (by kernel_rfl))⟩
  f50 := ⟨Tryd.f100.name, by decide, Tryd.func100.trans (congrArg some (by kernel_rfl))⟩
  f57 := ⟨Tryd.f101.name, by decide, Tryd.func101.trans (congrArg some (by kernel_rfl))⟩
  t0 := Tryd.underlying0
  a0 := Tryd.isAgg0
  z0 := Tryd.sizeOf0
  v0 := Tryd.zeroValue0
  t3 := Tryd.underlying3
  a3 := Tryd.isAgg3
  z3 := Tryd.sizeOf3
  v3 := Tryd.zeroValue3
  t4 := Tryd.underlying4
  a4 := Tryd.isAgg4
  z4 := Tryd.sizeOf4
  v4 := Tryd.zeroValue4
  t5 := Tryd.underlying5
  a5 := Tryd.isAgg5
  z5 := Tryd.sizeOf5
  v5 := Tryd.zeroValue5
  t9 := Tryd.underlying9
  a9 := Tryd.isAgg9
  z9 := Tryd.sizeOf9
  v9 := Tryd.zeroValue9
  t22 := Tryd.underlying42
  a22 := Tryd.isAgg42
  z22 := Tryd.sizeOf42
  v22 := Tryd.zeroValue42
  t25 := Tryd.underlying113
  a25 := Tryd.isAgg113
  z25 := Tryd.sizeOf113
  v25 := Tryd.zeroValue113
  t39 := Tryd.underlying93
  a39 := Tryd.isAgg93
  z39 := Tryd.sizeOf93
  v39 := Tryd.zeroValue93
  t45 := Tryd.underlying129
  a45 := Tryd.isAgg129
  z45 := Tryd.sizeOf129
  v45 := Tryd.zeroValue129
  t46 := Tryd.underlying130
  a46 := Tryd.isAgg130
  z46 := Tryd.sizeOf130
  v46 := Tryd.zeroValue130
  t50 := Tryd.underlying134
  a50 := Tryd.isAgg134
  z50 := Tryd.sizeOf134
  v50 := Tryd.zeroValue134
  t53 := Tryd.underlying120
  a53 := Tryd.isAgg120
  z53 := Tryd.sizeOf120
  v53 := Tryd.zeroValue120
  t55 := Tryd.underlying138
  a55 := Tryd.isAgg138
  z55 := Tryd.sizeOf138
  v55 := Tryd.zeroValue138
  t66 := Tryd.underlying140
  a66 := Tryd.isAgg140
  z66 := Tryd.sizeOf140
  v66 := Tryd.zeroValue140
  t70 := Tryd.underlying144
  a70 := Tryd.isAgg144
  z70 := Tryd.sizeOf144
  v70 := Tryd.zeroValue144
  t76 := Tryd.underlying147
  a76 := Tryd.isAgg147
  z76 := Tryd.sizeOf147
  v76 := Tryd.zeroValue147
  t77 := Tryd.underlying148
  a77 := Tryd.isAgg148
  z77 := Tryd.sizeOf148
  v77 := Tryd.zeroValue148 }

instance : Inhabited Kv.Pr := ⟨⟨[], []⟩⟩
theorem cmp_lt : ∀ (a b : List UInt8), Lib.compareBytes a b < 0 ↔ a < b
  | [], [] => by simp [Lib.compareBytes]
  | [], _ :: _ => by simp [Lib.compareBytes]
  | _ :: _, [] => by simp [Lib.compareBytes]
  | a :: x, b :: y => by
    unfold Lib.compareBytes
    by_cases h1 : a < b
    · simp [h1, List.cons_lt_cons_iff]
    · by_cases h2 : b < a
      · have hne : a ≠ b := fun e => h1 (e ▸ h2)
        simp [h1, h2, List.cons_lt_cons_iff, hne]
      · have : a = b := UInt8.le_antisymm (UInt8.not_lt.1 h2) (UInt8.not_lt.1 h1)
        subst this
        simp only [h1, if_false]
        rw [cmp_lt x y, List.cons_lt_cons_iff]
        simp [h1]
def cfP (x y : Kv.Pr) : Int := Lib.compareBytes x.n y.n
theorem ltP (x y : Kv.Pr) : ltOf cfP x y = decide (x.n < y.n) := by
  unfold ltOf cfP
  rw [decide_eq_decide]; exact cmp_lt _ _
theorem swoP : Sort.SWO (ltOf cfP) where
  irrefl x := by rw [ltP]; simp
  trans x y z h1 h2 := by rw [ltP] at *; simp only [decide_eq_true_eq] at *; exact List.lt_trans h1 h2
  ntrans x y z h1 h2 := by
    rw [ltP] at *
    simp only [decide_eq_false_iff_not] at *
    exact fun h => h2 (List.lt_of_le_of_lt (List.not_lt.1 h1) h)
theorem flat_list (d : List Kv.Pr) : (Sort.flatK prc 2 d.toArray).toList = d.flatMap prc := by
  apply List.ext_getElem?
  intro t
  by_cases ht : t < d.length * 2
  · have hq : t / 2 < d.length := by omega
    have h1 : (d.flatMap prc)[t]? = (prc d[t / 2])[t % 2]? := by
      have hr : t % 2 < (prc d[t / 2]).length := by rw [prc_len]; omega
      have := rflat_get prc_len d (t / 2) (t % 2) _ _ (List.getElem?_eq_getElem hq) (List.getElem?_eq_getElem hr)
      rw [show t / 2 * 2 + t % 2 = t by omega] at this
      rw [this, List.getElem?_eq_getElem hr]
    have h2 : (Sort.flatK prc 2 d.toArray)[t]? = some (prc d[t / 2])[t % 2]! := by
      have hs : t < (Sort.flatK prc 2 d.toArray).size := by rw [Sort.size_flatK]; exact ht
      rw [Array.getElem?_eq_getElem hs]
      have := Sort.get_flatK prc 2 d.toArray t (by simpa using ht)
      rw [getElem!_pos _ t hs] at this
      rw [this]
      congr 2
      rw [getElem!_pos _ (t / 2) (by simpa using hq)]
      simp
    rw [Array.getElem?_toList, h2, h1, List.getElem?_eq_getElem (by rw [prc_len]; omega)]
    congr 1
    rw [getElem!_pos _ (t % 2) (by rw [prc_len]; omega)]
  · rw [List.getElem?_eq_none (by rw [Array.length_toList, Sort.size_flatK]; simpa using ht), List.getElem?_eq_none (by rw [rflat_len prc_len]; omega)]
theorem heap_sortedP {w : World} {g n : Nat} {os : Array Obj} {cur : Array Value} {e : TypeId} {fr : Nat × Nat} (d : Array Kv.Pr) (hb : w.heap[g]? = some (.cells cur e fr)) :
    (sortWorldK prc 2 w g 0 n d os).heap[g]? = some (.cells (Sort.putCells id 0 (Sort.flatK prc 2 d) cur) e fr) := by
  have hg : g < w.heap.size := (Array.getElem?_eq_some_iff.1 hb).1
  unfold sortWorldK Sort.putRowK
  rw [Sort.heap_grow_old _ _ (by simpa using hg)]
  simp [Sort.putRow, Sort.mapBlock, Sort.ahead, Array.getElem?_modify, hb, Sort.onCells]
theorem chg_sortedP {w : World} {g n : Nat} {os : Array Obj} (d : Array Kv.Pr) : Chg (fun k => k = g) w (sortWorldK prc 2 w g 0 n d os) := by
  unfold sortWorldK Sort.putRowK
  refine ⟨rfl, rfl, rfl, by simp, fun k hk hne => ?_⟩
  rw [Sort.heap_grow_old _ _ (by simpa using hk)]
  have : g ≠ k := fun e => hne e.symm
  simp [Sort.putRow, Sort.mapBlock, Sort.ahead, Array.getElem?_modify, this]
theorem take_putCellsP (cur : Array Value) (F : Array Value) (h : F.size ≤ cur.size) : (Sort.putCells id 0 F cur).toList.take F.size = F.toList := by
  apply List.ext_getElem?
  intro j
  by_cases hj : j < F.size
  · rw [List.getElem?_take_of_lt hj, Array.getElem?_toList, Array.getElem?_toList]
    simp [Sort.putCells, hj, show j < cur.size by omega]
  · rw [List.getElem?_take_eq_none (by omega), List.getElem?_eq_none (by simp; omega)]
/-- behind the sort the same slice owns the sorted pairs -/
theorem own_sortedP {w : World} {F : Nat → Prop} {g cap n : Nat} {os : Array Obj} {l ts : List Kv.Pr} (h : OwnP w F (.slice (some ⟨g, 0, none⟩) l.length cap) l) (hl : ts.length = l.length) (hf : ∀ x ∈ ts, prF x) :
    OwnP (sortWorldK prc 2 w g 0 n ts.toArray os) F (.slice (some ⟨g, 0, none⟩) ts.length cap) ts := by
  obtain ⟨⟨⟨h1, h2⟩, h3⟩, -⟩ := h
  rcases h2 with ⟨h, -⟩ | ⟨g', cap', cur, hv, hb, hh, h4, h5, h6, h7⟩
  · cases h
  · cases hv
    refine ⟨⟨⟨by rw [rflat_len prc_len], .inr ⟨g, cap, _, rfl, hb, heap_sortedP _ hh, by omega, h5, by simp [Sort.putCells, h6], ?_⟩⟩, h3⟩, hf⟩
    have hs : (Sort.flatK prc 2 ts.toArray).size = ts.length * 2 := by rw [Sort.size_flatK]; simp
    have := take_putCellsP cur (Sort.flatK prc 2 ts.toArray) (by rw [hs, h6]; omega)
    rw [hs, flat_list] at this
    exact this
theorem holds_ownP {w : World} {F : Nat → Prop} {g cap : Nat} {l : List Kv.Pr} (h : OwnP w F (.slice (some ⟨g, 0, none⟩) l.length cap) l) : Sort.HoldsK prc 2 w g 0 l.toArray ∧ g < w.heap.size ∧ l.length ≤ maxLen := by
  obtain ⟨⟨⟨h1, h2⟩, -⟩, -⟩ := h
  rcases h2 with ⟨h, -⟩ | ⟨g', cap', cur, hv, hb, hh, h4, h5, h6, h7⟩
  · cases h
  · cases hv
    refine ⟨fun j hj => ?_, (Array.getElem?_eq_some_iff.1 hh).1, Nat.le_trans h4 h5⟩
    have hs : (Sort.flatK prc 2 l.toArray).size = l.length * 2 := by rw [Sort.size_flatK]; simp
    refine ⟨?_, by simp [World.frozen?, hh]⟩
    rw [hs] at hj
    have e1 : cur.toList[j]? = (l.flatMap prc)[j]? := by rw [← h7, List.getElem?_take_of_lt hj]
    rw [cell_of_row _ _ _ _ _ _ hh, Nat.zero_add, ← Array.getElem?_toList, e1, ← flat_list, Array.getElem?_toList, Array.getElem?_eq_getElem (by rw [hs]; exact hj)]
    rw [getElem!_pos _ j (by rw [hs]; exact hj)]
    rfl
/-- a row that is sorted, no name twice, is the one list -/
theorem sorted_eq {l : List Kv.Pr} {L : List Kv.Pr} {d' : Array Kv.Pr} (hL : Srt L) (hm : ∀ p, p ∈ l ↔ p ∈ L) (hn : l.Nodup) (hp : Sort.PermIn 0 l.toArray.size l.toArray d') (hs : Sort.SortedIn (ltOf cfP) 0 l.toArray.size d') : d' = L.toArray := by
  obtain ⟨h1, -, h2⟩ := hp
  have hsz : d'.size = l.length := by rw [h1]; simp
  have hperm : d'.toList.Perm l := by
    have e1 : d'.extract 0 l.toArray.size = d' := by rw [← h1]; simp
    have e2 : l.toArray.extract 0 l.toArray.size = l.toArray := by simp
    rw [e1, e2] at h2
    exact h2
  have hmem : ∀ p, p ∈ d'.toList ↔ p ∈ L := fun p => (hperm.mem_iff).trans (hm p)
  have hnd : d'.toList.Nodup := hperm.nodup_iff.2 hn
  have hsr : Srt d'.toList := by
    refine List.pairwise_iff_getElem.2 fun i j hi hj hij => ?_
    have hi' : i < d'.size := by simpa using hi
    have hj' : j < d'.size := by simpa using hj
    have h3 := hs i j (Nat.zero_le _) hij (by rw [← h1]; exact hj')
    rw [ltP, getElem!_pos _ i hi', getElem!_pos _ j hj'] at h3
    simp only [decide_eq_false_iff_not] at h3
    have hle := List.not_lt.1 h3
    rcases List.le_iff_lt_or_eq.1 hle with h | h
    · simpa using h
    · exfalso
      have := hL.key ((hmem _).1 (Array.getElem_mem_toList hi')) ((hmem _).1 (Array.getElem_mem_toList hj')) h
      have h5 := List.getElem_inj hnd |>.1 (show d'.toList[i] = d'.toList[j] from by simpa using this)
      omega
  have := srt_ext hsr hL hmem
  rw [← this]
end Go.Proofs.YtkdmljijgfejpaaDoor


namespace Go.Proofs.YtkdmljijgfejpaaDoor
set_option linter.unusedVariables false
set_option linter.unusedSimpArgs false
open Go.RowKit Kv

set_option maxRecDepth 20000 in
theorem hasPrefix_none (s : List UInt8) (w : World) : Calls Tryd.prog 60 #[.string (str s), .string (str [])] w fun e w' => e = .returned (.bool true) ∧ w = w' := by
  have i1 : ¬ ((s.length : Int) < 0) := by omega
  go_enter Tryd.func60, Tryd.ntmps60
  go_wp2_with (go_at_call 74; go_enter Tryd.func74, Tryd.ntmps74)
  go_ret
  exact ⟨rfl, rfl⟩
set_option maxHeartbeats 1000000 in
theorem closure_any (x y : Kv.Pr) (W : World) : Calls Tryd.prog 62 #[.agg #[.string (str x.n), .string (str x.v)], .agg #[.string (str y.n), .string (str y.v)]] W fun e w' => e = .returned (.int .i64 (cfP x y)) ∧ ∃ q os', w' = Sort.grow (W.drewN q) os' := by
  have hcon := fun W' => strings_Compare (str x.n) (str y.n) W'
  have hxy := Lib.hid (show cfP x y = Lib.compareBytes x.n y.n from rfl)
  simp only [show (str x.n).data.toList = x.n from rfl, show (str y.n).data.toList = y.n from rfl] at hcon
  generalize Lib.compareBytes x.n y.n = r at hcon hxy
  go_enter Tryd.func62, Tryd.ntmps62
  go_wp2_with (go_at_call 63; refine (hcon _).mono ?_; rintro e w' ⟨rfl, rfl⟩)
  go_ret
  exact ⟨by rw [hxy.out]; rfl, 0, _, by rw [Sort.alloc_eq_grow, Sort.alloc_eq_grow, Sort.grow_grow]; rfl⟩
theorem cmpLays_any (blk off size : Nat) (w : World) : CmpLays Tryd.prog 62 #[] prc 2 cfP blk off size w :=
  fun _ _ _ _ x y => closure_any x y _
theorem sort_any {w : World} {F : Nat → Prop} {g cap : Nat} {l L : List Kv.Pr} (h : OwnP w F (.slice (some ⟨g, 0, none⟩) l.length cap) l) (hL : Srt L) (hm : ∀ p, p ∈ l ↔ p ∈ L) (hn : l.Nodup) (hl : l.length ≤ 1000000) :
    Calls Tryd.prog 61 #[.slice (some ⟨g, 0, none⟩) l.length cap, .func (.func 62) #[] #[]] w fun e w' => e = .returned (.tuple #[]) ∧ Chg (fun k => k = g) w w' ∧ OwnP w' F (.slice (some ⟨g, 0, none⟩) l.length cap) L := by
  have eg : ∀ args w, (callFunc 62 args).run Tryd.prog w = .ok (.enter 62 args) w := enters_of Tryd.func62 (by kernel_rfl) rfl
  obtain ⟨h1, h2, h3⟩ := holds_ownP h
  have hcon := AnyQ.slices_SortFunc sortPr 2 Tryd.isAgg86 Tryd.sizeOf86 prc prc_len prc_one cfP swoP 62 #[] g 0 cap l.toArray w eg (cmpLays_any g 0 l.toArray.size w) h1 h2 (by rw [List.size_toArray]; omega)
  change Calls Tryd.prog 61 #[.slice (some ⟨g, 0, none⟩) l.length cap, .func (.func 62) #[] #[]] _ _ at hcon
  refine hcon.mono fun e w' ⟨he, d', n, os, hp, hs, hw⟩ => ?_
  obtain rfl := sorted_eq hL hm hn hp hs
  have hlen : L.length = l.length := (perm_of_mem hL.nodup hn fun p => (hm p).symm).length_eq
  subst hw
  refine ⟨he, chg_sortedP _, ?_⟩
  have := own_sortedP (n := n) (os := os) h hlen fun x hx => h.2 x ((hm x).2 hx)
  rw [hlen] at this
  exact this
end Go.Proofs.YtkdmljijgfejpaaDoor


namespace Go.Proofs.YtkdmljijgfejpaaDoor
set_option linter.unusedVariables false
set_option linter.unusedSimpArgs false
open Go.RowKit Kv

theorem okF_of {L : List Kv.Pr} (h : Oks L) : ∀ p ∈ L, prF p := fun p hp => by
  obtain ⟨h1, h2, h3, -⟩ := right_parts (h p hp)
  have h2' : p.n.length ≤ 64 := h2
  have h3' : p.v.length ≤ 300 := h3
  unfold prF fit; omega
def blkV : Value → Option Nat := Value.ownBlock
set_option maxRecDepth 20000 in
set_option maxHeartbeats 4000000 in
theorem kvPairs_any (m : Option Nat) (L : List Kv.Pr) (w : World) (hm : MapV w m L) (hf : ∀ p ∈ L, prF p) (hl : L.length ≤ 100000) :
    Calls Tryd.prog 43 #[.map m, .string (str [])] w (Ret fun u w' => OwnP w' (fun j => w.heap.size ≤ j) u L ∧ Ext w w') := by
  have hsrt := Lib.hid hm.srt
  have hfh := Lib.hid hf
  have hpf := Lib.hid (fun s W => hasPrefix_none s W)
  go_enter Tryd.func43, Tryd.ntmps43
  go_wp2_with (at_range; refine wpList_rangeK rfl _ _ rfl Tryd.underlying71 m rfl hm ?_; intro w2 it2 e2 s2)
  go_frame
  obtain ⟨R, hR⟩ : ∃ R, R = w.heap.size := ⟨_, rfl⟩
  rw [← hR] at it2 ⊢
  have hmR := Lib.hid (show ∀ b, m = some b → b < R from fun b e => by rw [hR]; exact hm.lt b e)
  have hRh := Lib.hid hR
  have e2h := Lib.hid e2
  clear hR s2 e2 hm hf
  go_loopw [5] (fun out wr => ∃ got, ItK wr m R L got ∧ RowKit.Hid (OwnP wr (fun j => R < j) out got) ∧ RowKit.Hid (∀ p ∈ got, p ∈ L) ∧ RowKit.Hid (got.Pairwise fun a b => a.n ≠ b.n) ∧ RowKit.Hid (Ext w wr)) (fun _ wr => remK wr m R)
  case atStart => exact ⟨[], it2, Lib.hid (OwnRs.nil _ _), Lib.hid (fun p h => by cases h), Lib.hid List.Pairwise.nil, e2h⟩
  case round =>
    obtain ⟨got, hit, ho, hgL, hgn, ek⟩ := hrel
    have hrem := Lib.hid hit.rem
    obtain ⟨ao, co, rfl, hob⟩ := ho.out.shape
    clear it2 e2h
    go_wp2_with (at_next; refine wpList_nextK rfl _ rfl m R got rfl hit ?_ ?_)
    · intro hdone
      have hmem := Lib.hid (show ∀ p, p ∈ got ↔ p ∈ L from hdone)
      have hnd := Lib.hid (show got.Nodup from hgn.out.imp fun h e => h (congrArg Kv.Pr.n e))
      have hgl := Lib.hid (show got.length ≤ 1000000 from by have := hrem.out; omega)
      clear hit hrem hgL hgn hdone
      rcases ho.out.1.1.2 with ⟨hv, h0⟩ | ⟨g, cap, cur, hv, -⟩
      · obtain rfl : got = [] := List.eq_nil_of_length_eq_zero h0
        obtain rfl : L = [] := List.eq_nil_iff_forall_not_mem.2 fun p hp => by have := (hmem.out p).2 hp; cases this
        cases hv
        have hS := AnyF.slices_SortFunc_none sortPr none 0 (.func (.func 62) #[] #[]) wr
        change Calls Tryd.prog 61 _ _ _ at hS
        clear h0
        go_wp2_with (go_at_call 61; refine hS.mono ?_; rintro e w' ⟨rfl, rfl⟩)
        go_ret
        exact Ret.mk ⟨OwnRs.nil _ _, ek.out⟩
      · cases hv
        have hS := sort_any ho.out hsrt.out hmem.out hnd.out hgl.out
        have hgR := Lib.hid (hob g rfl)
        go_wp2_with (go_at_call 61; refine hS.mono ?_; rintro e w3 ⟨rfl, c3, o3⟩)
        go_ret
        exact Ret.mk ⟨o3.mono fun j hj => by have := hRh.out; omega, ek.out.chg c3 fun i hi => by have := hRh.out; have := hgR.out; omega⟩
    · intro x w3 it3 c3 hen
      have hx := it3.fresh
      have ho3 := Lib.hid (ho.out.chg c3 fun j h1 h2 => by omega)
      have e3 := Lib.hid (ek.out.chg c3 fun i hi => by have := hRh.out; omega)
      have hgl := Lib.hid (show got.length ≤ 100000 from by have := hrem.out; omega)
      go_wp2_with (first
        | (go_at_call 60; refine (hpf.out _ _).mono ?_; rintro e w' ⟨rfl, rfl⟩)
        | (at_builtin; refine wpList_appendR Tryd.underlying42 info_prz rfl (by decide) (by decide) prc_len prc_one (by decide) rfl (.tmp 18) (.tmp 22) rfl (fun k => R < k) (.slice ao got.length co) got rfl (ho3.out.ext ((Ext.refl w3).alloc _)) (.slice (some ⟨w3.heap.size, 0, none⟩) 1 1) [x] rfl (Rs.one rfl rfl rfl (hfh.out x hx.1)) (by have := hgl.out; simp; omega) ?_; intro v4 w4 o4 g4))
      have hR3 := it3.lt
      have e3' := e3.out.alloc (.cells #[.string (str x.n), .string (str x.v)] 86)
      have it4 := (it3.ext ((Ext.refl w3).alloc (.cells #[.string (str x.n), .string (str x.v)] 86))).chg g4 (by omega) fun b hb => by have := hmR.out b hb; omega
      have hrem4 := it4.rem
      rw [List.length_append, List.length_singleton] at hrem4
      refine ⟨⟨got ++ [x], it4, Lib.hid (o4.mono fun j h => h.elim id fun h => by rw [World.size_alloc] at h; have := hR3.1; omega), Lib.hid fun p hp => ?_, Lib.hid ?_, Lib.hid (e3'.chg g4 fun i hi => by have := hRh.out; omega)⟩, by have := hrem.out; omega⟩
      · rcases List.mem_append.1 hp with h | h
        · exact hgL.out p h
        · rw [List.mem_singleton.1 h]; exact hx.1
      · exact List.pairwise_append.2 ⟨hgn.out, List.pairwise_singleton .., fun a ha b hb => by rw [List.mem_singleton.1 hb]; exact hx.2 a ha⟩
end Go.Proofs.YtkdmljijgfejpaaDoor


