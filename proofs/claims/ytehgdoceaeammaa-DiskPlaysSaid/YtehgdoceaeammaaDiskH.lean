/- 'append(s, make([]byte, k)...)', s the call's own. -/
import Derived.Test.YtehgdoceaeammaaDiskG
import Derived.Lib.AppendZerosOnto
namespace Go.Proofs.Ytehgdoceaeammaa
open Go.RowKit Dk

theorem zeros_u8 (k : Nat) : Builtin.zeroCells (Value.cells (.int .u8 0)) k = ((List.replicate k (0 : UInt8)).map u8v).toArray := by
  apply Array.ext'
  unfold Builtin.zeroCells
  rw [Array.toList_map, Array.toList_range, List.map_replicate]
  apply List.ext_getElem?
  intro j
  have e : (Value.cells (.int .u8 0)).size = 1 := rfl
  rw [e, Nat.mul_one, List.getElem?_map]
  show _ = (List.replicate k (u8v 0))[j]?
  rw [List.getElem?_replicate]
  by_cases hj : j < k
  · rw [List.getElem?_range hj, if_pos hj]
    show some ((Value.cells (.int .u8 0))[j % 1]!) = _
    rw [Nat.mod_one]; rfl
  · rw [List.getElem?_eq_none (by simp; omega), if_neg hj]; rfl
theorem info_u8Z : (Try.prog.info? 5).map (fun i => (i.zero, i.size, i.bytes)) = some (some (.int .u8 0), 1, 1) := by kernel_rfl
theorem run_appendZ (w : World) (ty : TypeId) (base : Nat) (v : Value) (l : List UInt8) (hown : OwnB w base v l) (k : Nat) (hsz : l.length + k ≤ 1048576) (hbase : base ≤ w.heap.size) :
    ∃ v' w', (Builtin.append_ #[22, 3] ty #[v, .int .i64 (k : Int)]).run Try.prog w = .ok v' w' ∧ OwnB w' base v' (l ++ List.replicate k 0) ∧ w.grownBy w' v.ownBlock := by
  obtain ⟨i, hi, hz0, hz1, hz2⟩ := info_parts info_u8Z
  have hw : IntKind.i64.wrap (k : Int) = k := by rw [IntKind.wrap_i64]; omega
  have hneg : ¬ ((k : Int) < 0) := by omega
  have h48 : ¬ (281474976710656 < (k : Int) * (i.bytes : Int)) := by rw [hz2]; omega
  have grown : ∀ (old : Nat), old < l.length + k → ∀ (row : Option Nat),
      OwnB (w.drew.alloc (.cells ((l.map u8v).toArray ++ ((List.replicate k (0 : UInt8)).map u8v).toArray ++ Builtin.zeroCells (Value.cells (.int .u8 0)) (grownCap w (l.length + k) old 5 - (l.length + k))) 5)) base
        (.slice (some ⟨w.heap.size, 0, none⟩) (l.length + k) (grownCap w (l.length + k) old 5)) (l ++ List.replicate k 0) ∧
      w.grownBy (w.drew.alloc (.cells ((l.map u8v).toArray ++ ((List.replicate k (0 : UInt8)).map u8v).toArray ++ Builtin.zeroCells (Value.cells (.int .u8 0)) (grownCap w (l.length + k) old 5 - (l.length + k))) 5)) row := by
    intro old ho row
    have hge := grownCap_ge w (l.length + k) old 5
    have hcm : grownCap w (l.length + k) old 5 ≤ maxLen := grownCap_le_maxLen w (l.length + k) old 5 (by unfold maxLen; omega)
    have hzz : (Value.cells (.int .u8 0)).size = 1 := rfl
    refine ⟨⟨by simp, .inr ⟨w.heap.size, _, _, by simp, hbase, heap_alloc_new w.drew _, by simpa using hge, hcm, ?_, ?_⟩⟩, ⟨rfl, rfl, rfl, by simp, fun k hk _ => Go.heap_alloc_old w.drew _ hk⟩⟩
    · simp only [Array.size_append, List.size_toArray, size_zeroCells, hzz, List.length_map, List.length_replicate]
      omega
    · simp only [Array.toList_append, List.length_append, List.length_replicate, Nat.mul_one]
      rw [List.map_append]
      exact List.take_left' (by simp)
  have hown0 := hown
  obtain ⟨h1, h⟩ := hown
  rcases h with ⟨rfl, h0⟩ | ⟨g, cap, cur, rfl, hb, hh, hn, hm, hs, ht⟩
  · obtain rfl : l = [] := List.eq_nil_of_length_eq_zero h0
    by_cases hk : k = 0
    · subst hk
      refine ⟨.slice none 0 0, w, ?_, hown0, ⟨rfl, rfl, rfl, Nat.le_refl _, fun _ _ _ => rfl⟩⟩
      simp [Builtin.append_, run_underlying Try.underlying22, run_underlying Try.underlying3, sizeOf, typeInfo, hi, asInt, asIntOf, show IntKind.i64.wrap 0 = 0 by decide]
    · have hr := Lib.run_append_grow_zeros (P := Try.prog) w 22 3 ty 5 i (.int .u8 0) .i64 .i64 Try.underlying22 Try.underlying3 hi hz0 none 0 0 [] (by simp [Builtin.firstCells]) k (by omega) (by omega) (by omega) (by omega) (by rw [hz2]; omega) (by rw [hz2]; have := nextslicecap_le (need := 0 + k) (old := 0) (by omega); omega)
      have hgr := grown 0 (by simp; omega) (Value.ownBlock (.slice none 0 0))
      rw [zeros_u8] at hr
      simp only [List.length_nil, List.map_nil] at hgr
      exact ⟨_, _, hr, hgr.1, hgr.2⟩
  · by_cases hroom : l.length + k ≤ cap
    · by_cases hk : k = 0
      · subst hk
        refine ⟨.slice (some ⟨g, 0, none⟩) l.length cap, w, ?_, by simpa using hown0, ⟨rfl, rfl, rfl, Nat.le_refl _, fun _ _ _ => rfl⟩⟩
        simp [Builtin.append_, run_underlying Try.underlying22, run_underlying Try.underlying3, sizeOf, typeInfo, hi, asInt, asIntOf, show IntKind.i64.wrap 0 = 0 by decide, hn, storeCells]
      · have hfit : l.length + ((List.replicate k (0 : UInt8)).map u8v).length ≤ cur.size := by simp; omega
        have hst := run_storeCells_at Try.prog g l.length 5 ((List.replicate k (0 : UInt8)).map u8v) 0 cur w hh (by simpa using hfit) (fun v hv => by
          obtain ⟨c, _, rfl⟩ := List.mem_map.1 hv
          rfl)
        rw [Nat.add_zero] at hst
        have hadd : (⟨g, 0, none⟩ : Addr).add l.length = ⟨g, l.length, none⟩ := by rw [Addr.add_lit, Nat.zero_add]
        have hns : ¬ (k * i.size = 0) := by rw [hz1]; omega
        refine ⟨.slice (some ⟨g, 0, none⟩) (l.length + k) cap, w.setRow g (cur.toList.take l.length ++ (List.replicate k (0 : UInt8)).map u8v ++ cur.toList.drop (l.length + ((List.replicate k (0 : UInt8)).map u8v).length)).toArray, ?_, ⟨by simp, .inr ⟨g, cap, _, by simp, hb, setRow_heap w g cur _ _ _ hh, by simpa using hroom, hm, ?_, ?_⟩⟩, ⟨rfl, rfl, rfl, by simp [World.setRow], fun j _ hj => setRow_other w g j _ (fun e => hj (by simp [Value.ownBlock, e]))⟩⟩
        rotate_left
        · simp only [List.size_toArray, List.length_append, List.length_take, List.length_drop, Array.length_toList]
          omega
        · rw [List.length_append, List.length_replicate, Nat.mul_one, List.toList_toArray, List.map_append]
          rw [Nat.mul_one] at ht
          rw [ht]
          exact List.take_left' (by simp)
        simp [Builtin.append_, run_underlying Try.underlying22, run_underlying Try.underlying3, sizeOf, typeInfo, zeroValue, hi, hz0, asInt, asIntOf, hw, hneg, h48, hroom, hz1, hadd, zeros_u8, hk]
        simp only [List.map_replicate, List.length_replicate, List.append_assoc] at hst
        rw [hst]; rfl
    · have holds : ∀ j u, (l.map u8v)[j]? = some u → w.cell? ((⟨g, 0, none⟩ : Addr).add j) = some u := World.ownsRow.cells hown0 (g := g) rfl
      have hfc : (Builtin.firstCells i.size l.length (.slice (some ⟨g, 0, none⟩) l.length cap)).run Try.prog w.drew = .ok (l.map u8v).toArray w.drew := by
        rw [hz1]
        have := run_loadCells_list (P := Try.prog) w.drew ⟨g, 0, none⟩ (l.map u8v) (fun j v hv => holds j v hv)
        simpa [Builtin.firstCells] using this
      have hr := Lib.run_append_grow_zeros (P := Try.prog) w 22 3 ty 5 i (.int .u8 0) .i64 .i64 Try.underlying22 Try.underlying3 hi hz0 (some ⟨g, 0, none⟩) l.length cap (l.map u8v) hfc k (by omega) (by omega) (by omega) (by omega) (by rw [hz2]; omega) (by rw [hz2]; have := nextslicecap_le (need := l.length + k) (old := cap) (by omega); omega)
      have hgr := grown cap (by omega) (Value.ownBlock (.slice (some ⟨g, 0, none⟩) l.length cap))
      rw [zeros_u8] at hr
      exact ⟨_, _, hr, hgr.1, hgr.2⟩
theorem wpList_appendZ {ops : Array Oper} {rest : List Oper} {o : Oper} {a : Act} {w : World} {Q : Exit → Act → World → Prop} (hgd : o.guard = none) (s x : Operand)
    (ho : o.op = .call { callee := .builtin .append, args := #[s, x], argTypes := #[22, 3] })
    (base : Nat) (v : Value) (l : List UInt8) (hs : a.eval s = v) (hown : OwnB w base v l) (k : Nat) (hx : a.eval x = .int .i64 (k : Int)) (hsz : l.length + k ≤ 1048576) (hbase : base ≤ w.heap.size)
    (h : ∀ v' w', OwnB w' base v' (l ++ List.replicate k 0) → w.grownBy w' v.ownBlock → wpList Try.prog ops Q rest (a.put o.dst v') w') : wpList Try.prog ops Q (o :: rest) a w := by
  obtain ⟨v', w', hrun, h1, h2⟩ := run_appendZ w o.type base v l hown k hsz hbase
  refine wpList_plain hgd fun K hK => ?_
  unfold Oper.wp
  simp only [execOp, ho, resolve, invoke, builtin, Sem.run_bind, Sem.run_pure, Result.andThen_ok, List.map_toArray, List.map_cons, List.map_nil, hs, hx, hrun]
  exact hK _ _ (h v' w' h1 h2)
end Go.Proofs.Ytehgdoceaeammaa
