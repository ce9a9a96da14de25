/- The chapter's example; are bytes one. -/
import Derived.Test.YtmpjcnopakfdmaaDoorGDk
import Derived.Test.YtmpjcnopakfdmaaDoorStr
import Derived.Lib.SlBytesConst
import Derived.Lib.AppendZerosOnto
namespace Go.Proofs.YtmpjcnopakfdmaaDoor
set_option linter.unusedVariables false
set_option linter.unusedSimpArgs false
open Go.RowKit Dk

theorem same_any (u v : Value) (a b : List UInt8) (w : World) (ha : Bytes w u a) (hb : Bytes w v b) :
    Calls Tryd.prog 20 #[u, v] w fun e w' => e = .returned (.bool (seq a b)) ∧ w = w' := by
  have k1 := conv_bytes ha
  have k2 := conv_bytes hb
  obtain ⟨a1, c1, rfl, -⟩ := ha
  obtain ⟨a2, c2, rfl, -⟩ := hb
  go_enter Tryd.func20, Tryd.ntmps20
  go_wp2
  go_ret
  exact ⟨rfl, rfl⟩
def rng (a b : World) : Nat → Prop := fun k => a.heap.size ≤ k ∧ k < b.heap.size
/-- a disk that lies in what was made since w0 -/
def DiskN (w0 w : World) (p : Nat) (d : D) : Prop := Ext w0 w ∧ Disk w (fun k => w0.heap.size ≤ k) p d
theorem DiskN.aft {w0 w w' : World} {p : Nat} {d d' : D} (h : DiskN w0 w p d) (a : Aft (fun k => w0.heap.size ≤ k) w w' p d') : DiskN w0 w' p d' :=
  ⟨h.1.chg a.1 fun _ h => h, a.2.mono fun k hk => hk.elim id fun h2 => Nat.le_trans h.1.size h2⟩
theorem DiskN.chg {w0 w w' : World} {p : Nat} {d d' : D} (h : DiskN w0 w p d) (c : Chg (fun k => w0.heap.size ≤ k) w w') (a : Disk w' (fun k => w0.heap.size ≤ k) p d') : DiskN w0 w' p d' := ⟨h.1.chg c fun _ h => h, a⟩
theorem DiskN.ext {w0 w w' : World} {p : Nat} {d : D} (h : DiskN w0 w p d) (e : Ext w w') : DiskN w0 w' p d := ⟨h.1.trans e, h.2.ext e⟩
/-- bytes that were there stay, whatever is done to what was made since -/
theorem DiskN.bytes {w0 w : World} {p : Nat} {d : D} (h : DiskN w0 w p d) {u : Value} {l : List UInt8} (hb : Bytes w0 u l) : ∀ w', Chg (fun k => w0.heap.size ≤ k) w w' → Bytes w' u l := fun _ c => hb.ext (h.1.chg c fun _ h => h)
theorem write_n {w0 w : World} {p : Nat} {d : D} (h : DiskN w0 w p d) (hst : d.st.length ≤ 1048576) (i : Int) (u : Value) (b : List UInt8) (hb : Bytes w0 u b) :
    Calls Tryd.prog 78 #[.pointer (some ⟨p, 0, none⟩), .int .i64 i, u] w fun e w' => e = .returned (.int .i64 (wrE i b d)) ∧ DiskN w0 w' p (wrB i b d) :=
  (write_any h.2 hst i u b (h.bytes hb)).mono fun _ _ ⟨h1, h2⟩ => ⟨h1, h.aft h2⟩
theorem sync_n {w0 w : World} {p : Nat} {d : D} (h : DiskN w0 w p d) :
    Calls Tryd.prog 79 #[.pointer (some ⟨p, 0, none⟩)] w fun e w' => e = .returned (.int .i64 (syncE d)) ∧ DiskN w0 w' p (sync d) :=
  (sync_any h.2).mono fun _ _ ⟨h1, h2, h3⟩ => ⟨h1, h.chg h2 h3⟩
theorem crash_n {w0 w : World} {p : Nat} {d : D} (h : DiskN w0 w p d) (u : Value) (b : List UInt8) (hb : Bytes w0 u b) :
    Calls Tryd.prog 36 #[.pointer (some ⟨p, 0, none⟩), u] w fun e w' => e = .returned (.tuple #[]) ∧ DiskN w0 w' p (crash b d) :=
  (crash_any h.2 u b (h.bytes hb)).mono fun _ _ ⟨h1, h2, h3⟩ => ⟨h1, h.chg h2 h3⟩
theorem drop_n {w0 w : World} {p : Nat} {d : D} (h : DiskN w0 w p d) :
    Calls Tryd.prog 62 #[.pointer (some ⟨p, 0, none⟩)] w fun e w' => e = .returned (.tuple #[]) ∧ DiskN w0 w' p (drop d) :=
  (drop_any h.2).mono fun _ _ ⟨h1, h2, h3⟩ => ⟨h1, h.chg (h2.mono fun k hk => by rw [hk]; exact h.2.hd) h3⟩
theorem stop_n {w0 w : World} {p : Nat} {d : D} (h : DiskN w0 w p d) (n : Int) (hn1 : -9223372036854775808 ≤ n) (hn2 : n ≤ 9223372036854775807) :
    Calls Tryd.prog 34 #[.pointer (some ⟨p, 0, none⟩), .int .i64 n] w fun e w' => e = .returned (.tuple #[]) ∧ DiskN w0 w' p (stop n d) :=
  (stop_any h.2 n hn1 hn2).mono fun _ _ ⟨h1, h2, h3⟩ => ⟨h1, h.chg (h2.mono fun k hk => by rw [hk]; exact h.2.hd) h3⟩
theorem faults_n {w0 w : World} {p : Nat} {d : D} (h : DiskN w0 w p d) (v : Value) (l : List Bool) (hl : l.length ≤ 1048576) (hv : Sl bv w v l) :
    Calls Tryd.prog 38 #[.pointer (some ⟨p, 0, none⟩), v] w fun e w' => e = .returned (.tuple #[]) ∧ DiskN w0 w' p (faults l d) :=
  (faults_any h.2 v l hl hv).mono fun _ _ ⟨h1, h2⟩ => ⟨h1, h.aft h2⟩
theorem new_n (n : Int) {w0 w : World} (e0 : Ext w0 w) :
    Calls Tryd.prog 40 #[.int .i64 n] w (Ret fun v w' => ∃ p, v = .pointer (some ⟨p, 0, none⟩) ∧ DiskN w0 w' p (mk (clamp n))) :=
  (new_any n w).mono fun _ _ ⟨v, h1, p, h2, h3, h4⟩ => ⟨v, h1, p, h2, e0.trans h4, h3.mono fun _ h => Nat.le_trans e0.size h.1⟩

theorem Bytes.chg {w w' : World} {F : Nat → Prop} {g o n cap : Nat} {l : List UInt8} (h : Bytes w (.slice (some ⟨g, o, none⟩) n cap) l) (c : Chg F w w') (hg : ¬ F g) : Bytes w' (.slice (some ⟨g, o, none⟩) n cap) l := by
  obtain ⟨a, cap', e, h⟩ := h
  simp only [Value.slice.injEq] at e
  obtain ⟨rfl, rfl, rfl⟩ := e
  exact ⟨_, _, rfl, h.le, h.capm, h.none, fun j hj => by
    obtain ⟨g', o', e, hc⟩ := h.cells j hj
    cases e
    exact ⟨g, o, rfl, c.cell hc hg⟩⟩
theorem awake_plain : wrE 0 [97, 98] (mk 2) = 0 ∧ (crash [1] (wrB 0 [97, 98] (mk 2))).n = 2 ∧ (crash [1] (wrB 0 [97, 98] (mk 2))).kept.length = 64 ∧ (crash [1] (wrB 0 [97, 98] (mk 2))).kept.getD 0 0 = 97 ∧ (crash [1] (wrB 0 [97, 98] (mk 2))).kept.getD 1 0 = 0 ∧ (mk 2).st.length = 0 ∧ (mk 2).off = false := by decide +kernel
attribute [local irreducible] crash wrB wrE mk
end Go.Proofs.YtmpjcnopakfdmaaDoor


namespace Go.Proofs.YtmpjcnopakfdmaaDoor
set_option linter.unusedVariables false
set_option linter.unusedSimpArgs false
open Go.RowKit Dk

theorem zeros_u8 (k : Nat) : Builtin.zeroCells (Value.cells (.int .u8 0)) k = ((List.replicate k (0 : UInt8)).map u8v).toArray := by
  apply Array.ext'
  unfold Builtin.zeroCells
  rw [Array.toList_map, Array.toList_range, List.map_replicate]
  apply List.ext_getElem?
  intro j
  have e : (Value.cells (.int .u8 0)).size = 1 := rfl
  rw [e, Nat.mul_one, List.getElem?_map]
  show _ = (List.replicate k (u8v 0))[j]?
  rw [List.getElem?_replicate]
  by_cases hj : j < k
  · rw [List.getElem?_range hj, if_pos hj]
    show some ((Value.cells (.int .u8 0))[j % 1]!) = _
    rw [Nat.mod_one]; rfl
  · rw [List.getElem?_eq_none (by simp; omega), if_neg hj]; rfl
theorem info_u8Z : (Tryd.prog.info? 5).map (fun i => (i.zero, i.size, i.bytes)) = some (some (.int .u8 0), 1, 1) := by kernel_rfl
theorem run_appendZ (w : World) (ty : TypeId) (base : Nat) (v : Value) (l : List UInt8) (hown : OwnB w base v l) (k : Nat) (hsz : l.length + k ≤ 1048576) (hbase : base ≤ w.heap.size) :
    ∃ v' w', (Builtin.append_ #[22, 3] ty #[v, .int .i64 (k : Int)]).run Tryd.prog w = .ok v' w' ∧ OwnB w' base v' (l ++ List.replicate k 0) ∧ w.grownBy w' v.ownBlock := by
  obtain ⟨i, hi, hz0, hz1, hz2⟩ := info_parts info_u8Z
  have hw : IntKind.i64.wrap (k : Int) = k := by rw [IntKind.wrap_i64]; omega
  have hneg : ¬ ((k : Int) < 0) := by omega
  have h48 : ¬ (281474976710656 < (k : Int) * (i.bytes : Int)) := by rw [hz2]; omega
  have grown : ∀ (old : Nat), old < l.length + k → ∀ (row : Option Nat),
      OwnB (w.drew.alloc (.cells ((l.map u8v).toArray ++ ((List.replicate k (0 : UInt8)).map u8v).toArray ++ Builtin.zeroCells (Value.cells (.int .u8 0)) (grownCap w (l.length + k) old 5 - (l.length + k))) 5)) base
        (.slice (some ⟨w.heap.size, 0, none⟩) (l.length + k) (grownCap w (l.length + k) old 5)) (l ++ List.replicate k 0) ∧
      w.grownBy (w.drew.alloc (.cells ((l.map u8v).toArray ++ ((List.replicate k (0 : UInt8)).map u8v).toArray ++ Builtin.zeroCells (Value.cells (.int .u8 0)) (grownCap w (l.length + k) old 5 - (l.length + k))) 5)) row := by
    intro old ho row
    have hge := grownCap_ge w (l.length + k) old 5
    have hcm : grownCap w (l.length + k) old 5 ≤ maxLen := grownCap_le_maxLen w (l.length + k) old 5 (by unfold maxLen; omega)
    have hzz : (Value.cells (.int .u8 0)).size = 1 := rfl
    refine ⟨⟨by simp, .inr ⟨w.heap.size, _, _, by simp, hbase, heap_alloc_new w.drew _, by simpa using hge, hcm, ?_, ?_⟩⟩, ⟨rfl, rfl, rfl, by simp, fun k hk _ => Go.heap_alloc_old w.drew _ hk⟩⟩
    · simp only [Array.size_append, List.size_toArray, size_zeroCells, hzz, List.length_map, List.length_replicate]
      omega
    · simp only [Array.toList_append, List.length_append, List.length_replicate, Nat.mul_one]
      rw [List.map_append]
      exact List.take_left' (by simp)
  have hown0 := hown
  obtain ⟨h1, h⟩ := hown
  rcases h with ⟨rfl, h0⟩ | ⟨g, cap, cur, rfl, hb, hh, hn, hm, hs, ht⟩
  · obtain rfl : l = [] := List.eq_nil_of_length_eq_zero h0
    by_cases hk : k = 0
    · subst hk
      refine ⟨.slice none 0 0, w, ?_, hown0, ⟨rfl, rfl, rfl, Nat.le_refl _, fun _ _ _ => rfl⟩⟩
      simp [Builtin.append_, run_underlying Tryd.underlying22, run_underlying Tryd.underlying3, sizeOf, typeInfo, hi, asInt, asIntOf, show IntKind.i64.wrap 0 = 0 by decide]
    · have hr := Lib.run_append_grow_zeros (P := Tryd.prog) w 22 3 ty 5 i (.int .u8 0) .i64 .i64 Tryd.underlying22 Tryd.underlying3 hi hz0 none 0 0 [] (by simp [Builtin.firstCells]) k (by omega) (by omega) (by omega) (by omega) (by rw [hz2]; omega) (by rw [hz2]; have := nextslicecap_le (need := 0 + k) (old := 0) (by omega); omega)
      have hgr := grown 0 (by simp; omega) (Value.ownBlock (.slice none 0 0))
      rw [zeros_u8] at hr
      simp only [List.length_nil, List.map_nil] at hgr
      exact ⟨_, _, hr, hgr.1, hgr.2⟩
  · by_cases hroom : l.length + k ≤ cap
    · by_cases hk : k = 0
      · subst hk
        refine ⟨.slice (some ⟨g, 0, none⟩) l.length cap, w, ?_, by simpa using hown0, ⟨rfl, rfl, rfl, Nat.le_refl _, fun _ _ _ => rfl⟩⟩
        simp [Builtin.append_, run_underlying Tryd.underlying22, run_underlying Tryd.underlying3, sizeOf, typeInfo, hi, asInt, asIntOf, show IntKind.i64.wrap 0 = 0 by decide, hn, storeCells]
      · have hfit : l.length + ((List.replicate k (0 : UInt8)).map u8v).length ≤ cur.size := by simp; omega
        have hst := run_storeCells_at Tryd.prog g l.length 5 ((List.replicate k (0 : UInt8)).map u8v) 0 cur w hh (by simpa using hfit) (fun v hv => by
          obtain ⟨c, _, rfl⟩ := List.mem_map.1 hv
          rfl)
        rw [Nat.add_zero] at hst
        have hadd : (⟨g, 0, none⟩ : Addr).add l.length = ⟨g, l.length, none⟩ := by rw [Addr.add_lit, Nat.zero_add]
        have hns : ¬ (k * i.size = 0) := by rw [hz1]; omega
        refine ⟨.slice (some ⟨g, 0, none⟩) (l.length + k) cap, w.setRow g (cur.toList.take l.length ++ (List.replicate k (0 : UInt8)).map u8v ++ cur.toList.drop (l.length + ((List.replicate k (0 : UInt8)).map u8v).length)).toArray, ?_, ⟨by simp, .inr ⟨g, cap, _, by simp, hb, setRow_heap w g cur _ _ _ hh, by simpa using hroom, hm, ?_, ?_⟩⟩, ⟨rfl, rfl, rfl, by simp [World.setRow], fun j _ hj => setRow_other w g j _ (fun e => hj (by simp [Value.ownBlock, e]))⟩⟩
        rotate_left
        · simp only [List.size_toArray, List.length_append, List.length_take, List.length_drop, Array.length_toList]
          omega
        · rw [List.length_append, List.length_replicate, Nat.mul_one, List.toList_toArray, List.map_append]
          rw [Nat.mul_one] at ht
          rw [ht]
          exact List.take_left' (by simp)
        simp [Builtin.append_, run_underlying Tryd.underlying22, run_underlying Tryd.underlying3, sizeOf, typeInfo, zeroValue, hi, hz0, asInt, asIntOf, hw, hneg, h48, hroom, hz1, hadd, zeros_u8, hk]
        simp only [List.map_replicate, List.length_replicate, List.append_assoc] at hst
        rw [hst]; rfl
    · have holds : ∀ j u, (l.map u8v)[j]? = some u → w.cell? ((⟨g, 0, none⟩ : Addr).add j) = some u := World.ownsRow.cells hown0 (g := g) rfl
      have hfc : (Builtin.firstCells i.size l.length (.slice (some ⟨g, 0, none⟩) l.length cap)).run Tryd.prog w.drew = .ok (l.map u8v).toArray w.drew := by
        rw [hz1]
        have := run_loadCells_list (P := Tryd.prog) w.drew ⟨g, 0, none⟩ (l.map u8v) (fun j v hv => holds j v hv)
        simpa [Builtin.firstCells] using this
      have hr := Lib.run_append_grow_zeros (P := Tryd.prog) w 22 3 ty 5 i (.int .u8 0) .i64 .i64 Tryd.underlying22 Tryd.underlying3 hi hz0 (some ⟨g, 0, none⟩) l.length cap (l.map u8v) hfc k (by omega) (by omega) (by omega) (by omega) (by rw [hz2]; omega) (by rw [hz2]; have := nextslicecap_le (need := l.length + k) (old := cap) (by omega); omega)
      have hgr := grown cap (by omega) (Value.ownBlock (.slice (some ⟨g, 0, none⟩) l.length cap))
      rw [zeros_u8] at hr
      exact ⟨_, _, hr, hgr.1, hgr.2⟩
theorem wpList_appendZ {ops : Array Oper} {rest : List Oper} {o : Oper} {a : Act} {w : World} {Q : Exit → Act → World → Prop} (hgd : o.guard = none) (s x : Operand)
    (ho : o.op = .call { callee := .builtin .append, args := #[s, x], argTypes := #[22, 3] })
    (base : Nat) (v : Value) (l : List UInt8) (hs : a.eval s = v) (hown : OwnB w base v l) (k : Nat) (hx : a.eval x = .int .i64 (k : Int)) (hsz : l.length + k ≤ 1048576) (hbase : base ≤ w.heap.size)
    (h : ∀ v' w', OwnB w' base v' (l ++ List.replicate k 0) → w.grownBy w' v.ownBlock → wpList Tryd.prog ops Q rest (a.put o.dst v') w') : wpList Tryd.prog ops Q (o :: rest) a w := by
  obtain ⟨v', w', hrun, h1, h2⟩ := run_appendZ w o.type base v l hown k hsz hbase
  refine wpList_plain hgd fun K hK => ?_
  unfold Oper.wp
  simp only [execOp, ho, resolve, invoke, builtin, Sem.run_bind, Sem.run_pure, Result.andThen_ok, List.map_toArray, List.map_cons, List.map_nil, hs, hx, hrun]
  exact hK _ _ (h v' w' h1 h2)
end Go.Proofs.YtmpjcnopakfdmaaDoor


namespace Go.Proofs.YtmpjcnopakfdmaaDoor
set_option linter.unusedVariables false
set_option linter.unusedSimpArgs false
open Go.RowKit Dk

def nb (b : List UInt8) : Nat := min (b.length / 32) 512
def opk (b : List UInt8) (k : Nat) : List UInt8 := b.take (32 * k) ++ List.replicate (32 * (nb b - k)) 0
def opn (b : List UInt8) : D := ⟨b.take (32 * nb b), [], [], false, 0⟩
theorem nb_le (b : List UInt8) : nb b ≤ 512 ∧ 32 * nb b ≤ b.length := by unfold nb; omega
theorem clamp_nb (b : List UInt8) : clamp ((b.length : Int) / 32) = nb b := by unfold clamp nb; omega
theorem opk_zero (b : List UInt8) : opk b 0 = (mk (nb b)).kept := by unfold opk mk; simp
theorem opk_len (b : List UInt8) (k : Nat) (hk : k ≤ nb b) : (opk b k).length = 32 * nb b := by
  have := nb_le b
  unfold opk; rw [List.length_append, List.length_take, List.length_replicate]; omega
theorem opk_step (b : List UInt8) (k : Nat) (hk : k < nb b) : opk b (k + 1) = over (opk b k) (k * 32) ((b.drop (k * 32)).take 32) := by
  have hn := nb_le b
  have hl : ((b.drop (k * 32)).take 32).length = 32 := by rw [List.length_take, List.length_drop]; omega
  apply List.ext_getElem?
  intro j
  rw [over_get (by rw [hl, opk_len b k (by omega)]; omega), hl]
  unfold opk
  have l1 : (b.take (32 * (k + 1))).length = 32 * (k + 1) := by rw [List.length_take]; omega
  have l2 : (b.take (32 * k)).length = 32 * k := by rw [List.length_take]; omega
  by_cases h1 : j < 32 * (k + 1)
  · rw [List.getElem?_append_left (by omega), List.getElem?_take, if_pos h1]
    by_cases h2 : k * 32 ≤ j
    · rw [if_pos (by omega), List.getElem?_take, if_pos (by omega), List.getElem?_drop]
      congr 1; omega
    · rw [if_neg (by omega), List.getElem?_append_left (by omega), List.getElem?_take, if_pos (by omega)]
  · rw [List.getElem?_append_right (by omega), l1, if_neg (by omega), List.getElem?_append_right (by omega), l2, List.getElem?_replicate, List.getElem?_replicate]
    by_cases h3 : j < 32 * nb b
    · rw [if_pos (by omega), if_pos (by omega)]
    · rw [if_neg (by omega), if_neg (by omega)]
theorem opk_full (b : List UInt8) : opk b (nb b) = b.take (32 * nb b) := by unfold opk; simp
theorem opn_n (b : List UInt8) : (opn b).n = nb b := by
  have := nb_le b
  unfold D.n opn; simp only [List.length_take]; omega
theorem opn_ok (b : List UInt8) : (opn b).Ok := by
  have := nb_le b
  exact ⟨by rw [opn_n]; unfold opn; simp only [List.length_take]; omega, by rw [opn_n]; omega, fun w hw => by simp [opn] at hw⟩
theorem bytes_from {w : World} {g o n cap : Nat} {l : List UInt8} (h : Bytes w (.slice (some ⟨g, o, none⟩) n cap) l) (k : Nat) (hk : k < l.length) : Bytes w (.slice (some ⟨g, o + k, none⟩) (n - k) (cap - k)) (l.drop k) := by
  obtain ⟨a, cap', e, h⟩ := h
  simp only [Value.slice.injEq] at e
  obtain ⟨rfl, rfl, rfl⟩ := e
  have h1 := h.le
  have h2 := h.capm
  refine Bytes.row (by simp) (by simp; omega) (by omega) fun j hj => ?_
  have hj' : k + j < l.length := by simp at hj; omega
  obtain ⟨g', o', e, hc⟩ := h.cells (k + j) hj'
  cases e
  rw [Nat.add_assoc, hc]
  simp
theorem mk_off (n : Nat) : (mk n).off = false ∧ (mk n).left = 0 ∧ (mk n).st = [] ∧ (mk n).plan = [] := ⟨rfl, rfl, rfl, rfl⟩
theorem opn_to (b : List UInt8) : (opn b).kept = opk b (nb b) ∧ (opn b).st = [] ∧ (opn b).plan = [] ∧ (opn b).off = false ∧ (opn b).left = 0 := ⟨(opk_full b).symm, rfl, rfl, rfl, rfl⟩
attribute [local irreducible] mk over opk opn nb clamp
set_option maxRecDepth 20000 in
set_option maxHeartbeats 1000000 in
theorem open_any (v : Value) (b : List UInt8) (w : World) (hb : Bytes w v b) :
    Calls Tryd.prog 25 #[v] w (Ret fun u w' => ∃ p, u = .pointer (some ⟨p, 0, none⟩) ∧ Disk w' (fun k => w.heap.size ≤ k ∧ k < w'.heap.size) p (opn b) ∧ Ext w w') := by
  have e0 := Ext.refl w
  have hb0 := hb
  obtain ⟨a, cap, rfl, hb⟩ := hb
  have hbl := hb.len
  have hcl := hb.le
  have hbh := Lib.hid hb
  clear hb
  have hq : IntKind.i64.wrap ((b.length : Int) / 32) = (b.length : Int) / 32 := by rw [IntKind.wrap_i64]; omega
  have hN := new_any ((b.length : Int) / 32) w
  rw [clamp_nb] at hN
  go_enter Tryd.func25, Tryd.ntmps25
  go_upto_region 2 with (go_at_call 40; refine hN.mono ?_; rintro e w1 ⟨v1, rfl, p, rfl, h1, e1⟩)
  obtain ⟨gk, s, u, z, h1, h2, h3, r1, r2, r3, rok⟩ := h1
  obtain ⟨m1, m2, m3, m4⟩ := mk_off (nb b)
  rw [mk_n, m1] at h1
  have hz := opk_zero b
  have hnb := nb_le b
  generalize hM : nb b = M at *
  have hL0 : Lay w1 (fun k => w.heap.size ≤ k ∧ k < w1.heap.size) p gk M s u false z (mk M) (opk b 0) := ⟨h1, by rw [hz]; exact h3⟩
  obtain ⟨c0, -⟩ := hdr_cells h1
  have hL0h := Lib.hid hL0
  have hrest := Lib.hid (And.intro r1 (And.intro r2 r3))
  have hMh := Lib.hid hM
  have e11 := Chg.refl (fun k => w.heap.size ≤ k ∧ k < w1.heap.size) w1
  have m1h := Lib.hid (And.intro m1 (And.intro m2 (And.intro m3 m4)))
  have h2' := h3.fk
  clear hL0 r1 r2 r3 rok hN h1 h3 hz hM m1 m2 m3 m4
  go_wp2
  go_loopw [14] (fun i wr => ∃ k : Nat, k ≤ M ∧ i = .int .i64 (k : Int) ∧ Lay wr (fun k => w.heap.size ≤ k ∧ k < w1.heap.size) p gk M s u false z (mk M) (opk b k) ∧ Chg (fun k => w.heap.size ≤ k ∧ k < w1.heap.size) w1 wr) (fun i _ => M - (intOf i).toNat)
  case atStart => exact ⟨0, Nat.zero_le _, rfl, hL0h.out, e11⟩
  case round =>
    clear e11 c0
    obtain ⟨k, hk, rfl, hL, ek⟩ := hrel
    by_cases hlt : k < M
    · have hki : (k : Int) < (M : Int) := by omega
      obtain ⟨c0, -⟩ := hdr_cells hL.head
      obtain ⟨cur, hkk, hcur⟩ := hL.parts.kept
      have hbw : Bytes wr (.slice a b.length cap) b := hb0.ext (e1.chg ek fun k h => h.1)
      obtain ⟨a', cap', e, hat⟩ := hbw
      simp only [Value.slice.injEq] at e
      obtain ⟨rfl, -, rfl⟩ := e
      obtain ⟨gb, ob, rfl, -⟩ := hat.get (k * 32) (by omega)
      have hB := bytes_from ⟨_, _, rfl, hat⟩ (k * 32) (by omega)
      have hst := Lib.hid (opk_step b k (by rw [hMh.out]; exact hlt))
      have hcs := Lib.hid (show cur.size = 32 * M by rw [← Array.length_toList, hcur, List.length_map]; exact (opk_len b k (by rw [hMh.out]; omega)).trans (by rw [hMh.out]))
      have hcurh := Lib.hid hcur
      have hkkh := Lib.hid hkk
      have hLh := Lib.hid hL
      have hFk := Lib.hid hL.parts.fk
      have hBh := Lib.hid (hB.ext (Ext.refl _).drew)
      have hne0 : ¬ p = gk := apart hL.head hkk (by decide)
      have t1 : IntKind.i64.wrap ((k : Int) * 32) = (k : Int) * 32 := by rw [IntKind.wrap_i64]; omega
      have t2 : (0 : Int) ≤ (k : Int) * 32 := by omega
      have t3 : (k : Int) * 32 ≤ (b.length : Int) := by omega
      have t4 : ((k : Int) * 32).toNat = k * 32 := by omega
      have t5 : ¬ cap = k * 32 := by omega
      clear hL hkk hcur hat hB
      go_upto_region 5 with fail
      go_region_held3 (fun W => W.cell? ⟨p, 0, none⟩ = some (.slice (some ⟨gk, 0, none⟩) M M))
        ((first | exact c0 | exact f0))
        (first
          | (refine step_copyB rfl (.tmp 23) (.tmp 27) rfl gk (k * 32) 32 32 rfl cur 90 hkkh.out (.slice (some ⟨gb, ob + k * 32, none⟩) (b.length - k * 32) (cap - k * 32)) (b.drop (k * 32)) rfl hBh.out (by have := hcs.out; omega) ?_; intro w3 g1 g2; have f0 := g2.cell c0 hne0))
      go_wp2
      go_roundw
      case rel =>
        have hcc : (cur.toList.take (k * 32) ++ ((b.drop (k * 32)).take 32).map u8v ++ cur.toList.drop (k * 32 + ((b.drop (k * 32)).take 32).length)).toArray.toList = (opk b (k + 1)).map u8v := by
          rw [List.toList_toArray, hst.out]; exact splice_cells hcurh.out _
        exact ⟨k + 1, by omega, by go_num, hLh.out.put (Chg.trans ((Chg.refl _ _).drew) g2) g1 hcc, ek.trans ((Chg.trans ((Chg.refl _ _).drew) g2).mono fun j hj => by rw [hj]; exact hFk.out)⟩
      case measure => simp [intOf]; omega
    · obtain rfl : k = M := by omega
      go_wp2
      go_ret
      obtain ⟨q1, q2, q3, q4, q5⟩ := opn_to b
      obtain ⟨m1, m2, m3, m4⟩ := m1h.out
      rw [hMh.out] at q1
      have hn := opn_n b
      rw [hMh.out] at hn
      refine Ret.mk ⟨p, rfl, ⟨gk, s, u, z, by rw [hn, q4]; exact hL.head, ⟨h2.1, by have := h2.2; have := ek.size; omega⟩, ⟨?_, ⟨h2'.1, by have := h2'.2; have := ek.size; omega⟩, ?_, ?_⟩, by rw [q5, ← m2]; exact hrest.out.1, hrest.out.2.1, hrest.out.2.2, opn_ok b⟩, e1.chg ek fun k h => h.1⟩
      · rw [q1]; exact hL.parts.kept
      · have := hL.parts.st
        rw [q2]
        rw [show ({ mk k with kept := opk b k } : D).st = [] from m3] at this
        exact this.mono fun j hj => ⟨hj.1, by have := hj.2; have := ek.size; omega⟩
      · have := hL.parts.plan
        rw [q3]
        rw [show ({ mk k with kept := opk b k } : D).plan = [] from m4] at this
        exact this.mono fun j hj => ⟨hj.1, by have := hj.2; have := ek.size; omega⟩
end Go.Proofs.YtmpjcnopakfdmaaDoor


namespace Go.Proofs.YtmpjcnopakfdmaaDoor
set_option linter.unusedVariables false
set_option linter.unusedSimpArgs false
open Go.RowKit Dk

attribute [local irreducible] mk over opk opn nb clamp
theorem nb_opn (b : List UInt8) : (opn b).kept.length = 32 * nb b := by rw [(opn_to b).1]; exact opk_len b _ (Nat.le_refl _)
/-- the document's disk, just opened -/
def Opened (w0 w : World) (q : Nat) (l : List UInt8) : Prop := ∃ vk, w.cell? ⟨q, 0, none⟩ = some vk ∧ OwnB w w0.heap.size vk l ∧ w0.heap.size ≤ q ∧ w.cell? ⟨q, 1, none⟩ = some (.slice none 0 0)
theorem opn_take (b : List UInt8) : b.take (32 * nb b) = (opn b).kept := by unfold opn; rfl
theorem Bytes.init {w : World} {a : Option Addr} {n cap : Nat} {l : List UInt8} (h : Bytes w (.slice a n cap) l) (m : Nat) (hm : m ≤ l.length) : Bytes w (.slice a m cap) (l.take m) := by
  obtain ⟨a', cap', e, hat⟩ := h
  simp only [Value.slice.injEq] at e
  obtain ⟨rfl, rfl, rfl⟩ := e
  have hl : (l.take m).length = m := by rw [List.length_take]; omega
  refine ⟨_, _, by rw [hl], by have := hat.le; omega, hat.capm, hat.none, fun j hj => ?_⟩
  obtain ⟨g, o, h1, h2⟩ := hat.cells j (by omega)
  exact ⟨g, o, h1, by rw [h2]; simp⟩
theorem new_at (w : World) (C : Array Value) (t : TypeId) (v : Value) (h : C[0]? = some v) : (w.alloc (.cells C t)).cell? ⟨w.heap.size, 0, none⟩ = some v := (cell_of_row _ _ _ _ _ _ (heap_alloc_new w _)).trans h
theorem new_at1 (w : World) (C : Array Value) (t : TypeId) (v : Value) (h : C[1]? = some v) : (w.alloc (.cells C t)).cell? ⟨w.heap.size, 1, none⟩ = some v := (cell_of_row _ _ _ _ _ _ (heap_alloc_new w _)).trans h
set_option maxRecDepth 20000 in
set_option maxHeartbeats 1000000 in
theorem refOpen_any (v : Value) (b : List UInt8) (w : World) (hb : Bytes w v b) :
    Calls Tryd.prog 26 #[v] w (Ret fun u w' => ∃ q, u = .pointer (some ⟨q, 0, none⟩) ∧ Opened w w' q (opn b).kept ∧ Ext w w') := by
  have e0 := Ext.refl w
  have hb0 := hb
  obtain ⟨a, cap, rfl, hb⟩ := hb
  have hbl := hb.len
  have hcl := hb.le
  clear hb
  have hnb := nb_le b
  have hq : IntKind.i64.wrap ((b.length : Int) / 32) = (b.length : Int) / 32 := by rw [IntKind.wrap_i64]; omega
  have hB := hb0.init (32 * nb b) hnb.2
  have hcase : (b.length : Int) / 32 ≤ 512 ∧ nb b = b.length / 32 ∨ 512 < (b.length : Int) / 32 ∧ nb b = 512 := by unfold nb; omega
  rw [opn_take] at hB
  have ho : OwnB (w.alloc (.cells #[] 5)) w.heap.size (.slice (some ⟨w.heap.size, 0, none⟩) 0 0) [] := OwnB.empty rfl (Nat.le_refl _)
  have ea := e0.alloc (.cells #[] 5)
  have hkl := nb_opn b
  have hBa := hB.ext ea
  rcases hcase with ⟨h1, h2⟩ | ⟨h1, h2⟩
  · rw [h2] at hB hBa hnb hkl
    have t1 : IntKind.i64.wrap (32 * ((b.length : Int) / 32)) = 32 * ((b.length : Int) / 32) := by rw [IntKind.wrap_i64]; omega
    have t2 : (0 : Int) ≤ 32 * ((b.length : Int) / 32) := by omega
    have t3 : 32 * ((b.length : Int) / 32) ≤ (cap : Int) := by omega
    have t4 : (32 * ((b.length : Int) / 32)).toNat = 32 * (b.length / 32) := by omega
    have hklh := Lib.hid hkl
    clear h2 hkl hnb
    go_enter Tryd.func26, Tryd.ntmps26
    go_wp2_with (at_builtin; refine wpList_appendB rfl _ _ rfl w.heap.size _ [] rfl ho _ (opn b).kept rfl hBa (by rw [hklh.out]; simp; omega) ea.size ?_; intro v8 w8 g1 g2; have g1b := g1.bytes; obtain ⟨a8, c8, rfl, -⟩ := g1b)
    go_ret
    exact Ret.mk ⟨_, rfl, ⟨_, new_at _ _ _ _ rfl, OwnB.alloc g1 _, by have := ea.size; have := g2.size; omega, new_at1 _ _ _ _ rfl⟩, (Ext.own ea ho g2).alloc _⟩
  · rw [h2] at hB hBa hnb hkl
    have h1' : ¬ (b.length : Int) / 32 ≤ 512 := by omega
    have t3 : (16384 : Int) ≤ (cap : Int) := by omega
    have hklh := Lib.hid hkl
    clear h2 hkl hnb
    go_enter Tryd.func26, Tryd.ntmps26
    go_wp2_with (at_builtin; refine wpList_appendB rfl _ _ rfl w.heap.size _ [] rfl ho _ (opn b).kept rfl hBa (by rw [hklh.out]; simp) ea.size ?_; intro v8 w8 g1 g2; have g1b := g1.bytes; obtain ⟨a8, c8, rfl, -⟩ := g1b)
    go_ret
    exact Ret.mk ⟨_, rfl, ⟨_, new_at _ _ _ _ rfl, OwnB.alloc g1 _, by have := ea.size; have := g2.size; omega, new_at1 _ _ _ _ rfl⟩, (Ext.own ea ho g2).alloc _⟩
end Go.Proofs.YtmpjcnopakfdmaaDoor


