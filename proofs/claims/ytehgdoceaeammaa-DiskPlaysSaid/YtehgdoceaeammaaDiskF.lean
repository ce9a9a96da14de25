/- The program's disk: Write. -/
import Derived.Test.YtehgdoceaeammaaDiskE
namespace Go.Proofs.Ytehgdoceaeammaa
open Go.RowKit Dk

theorem info_writeZ : (Try.prog.info? 65).map (fun i => (i.zero, i.size, i.bytes)) = some (some (.agg (wcA (0, List.replicate 32 0))), 33, 40) := by kernel_rfl
theorem step_appendW {ops : Array Oper} {o : Oper} {a : Act} {w : World} {K : Act → World → Prop} {Q : Exit → Act → World → Prop} {E : Prop} (hgd : o.guard = none) (s x : Operand)
    (ho : o.op = .call { callee := .builtin .append, args := #[s, x], argTypes := #[58, 58] })
    (F : Nat → Prop) (v : Value) (n : Nat) (xs : List Value) (hs : a.eval s = v) (hown : OwnF 65 33 w F v n xs) (g : Nat) (y : Nat × List UInt8) (hy2 : y.2.length = 32) (hx : a.eval x = .slice (some ⟨g, 0, none⟩) 1 1) (hg : w.heap[g]? = some (.cells (wcA y) 65 (0, 0)))
    (hlen : n + 1 ≤ 140737488355)
    (h : ∀ v' w', OwnF 65 33 w' (grow F w) v' (n + 1) (xs ++ wcells y) → Chg (fun k => v.ownBlock = some k) w w' → K (a.put o.dst v') w') :
    if Region.wanted o (yielded ops a.tmps) = true then Oper.wp Try.prog o a w K Q else E := by
  have hw : Region.wanted o (yielded ops a.tmps) = true := by simp [Region.wanted, hgd]
  obtain ⟨v', w', hrun, h1, h2⟩ := run_appendF (P := Try.prog) (E := 65) (T := 58) Try.underlying58 info_writeZ (by rfl) (by decide) o.type w (fun k => v.ownBlock = some k) v n xs ⟨hown.1, fun k hk => hk⟩ ⟨g, 0, none⟩ 1 1 (wcells y) (by simp [wcells, hy2]) (fun j u hu => by
    rw [Addr.add_lit, cell_of_row w g _ _ _ _ hg, Nat.zero_add, ← Array.getElem?_toList]; exact hu) (fun u hu => by
    have := wcA_one y
    exact (Array.all_eq_true_iff_forall_mem.1 this) u (by simpa [wcA] using hu)) (by unfold maxLen; omega) (by omega)
  rw [if_pos hw]
  unfold Oper.wp
  simp only [execOp, ho, resolve, invoke, builtin, Sem.run_bind, Sem.run_pure, Result.andThen_ok, List.map_toArray, List.map_cons, List.map_nil, hs, hx, hrun]
  exact h v' w' (h1.mono fun k hk => hk.imp (hown.2 k) id) h2
theorem OwnF.ne {E E' : TypeId} {size : Nat} {w : World} {F : Nat → Prop} {v : Value} {n p : Nat} {xs : List Value} (h : OwnF E size w F v n xs) {C : Array Value} {fr : Nat × Nat} (hp : w.heap[p]? = some (.cells C E' fr)) (hE : E ≠ E') : ∀ k, v.ownBlock = some k → k ≠ p := fun k hk => by
  obtain ⟨⟨_, h⟩, _⟩ := h
  rcases h with ⟨rfl, _⟩ | ⟨g, cap, cur, rfl, _, hh, _⟩
  · simp [Value.ownBlock] at hk
  · simp only [Value.ownBlock, Option.some.injEq] at hk
    subst hk
    exact Go.Proofs.Ytehgdoceaeammaa.apart hh hp hE
theorem fold_at : ∀ (vs : List Value) (k : Nat) (C : Array Value), k + vs.length = C.size → (vs.zipIdx k).foldl (fun cs x => cs.setIfInBounds x.2 x.1) C = (C.toList.take k ++ vs).toArray
  | [], k, C, h => by
    simp only [List.zipIdx_nil, List.foldl_nil, List.append_nil]
    rw [List.take_of_length_le (by simp at h ⊢; omega)]
  | v :: r, k, C, h => by
    simp only [List.length_cons] at h
    rw [List.zipIdx_cons, List.foldl_cons, fold_at r (k + 1) _ (by simp; omega)]
    congr 1
    rw [Array.toList_setIfInBounds, List.take_set, List.take_succ_eq_append_getElem (by simp; omega), List.set_append_right _ _ (by simp; omega)]
    simp [Nat.min_eq_left (show k ≤ C.size by omega)]
theorem fold_set (vs : List Value) (C : Array Value) (h : vs.length = C.size) : List.foldl (fun cs x => cs.setIfInBounds x.2 x.1) C vs.zipIdx = vs.toArray := by
  have := fold_at vs 0 C (by omega)
  simpa using this
theorem wr_cells (i : Nat) (b : List UInt8) (hb : b.length ≤ 32) (C : Array Value) (hC : C.toList = .int .i64 (i : Int) :: (List.replicate 32 (0 : UInt8)).map u8v) :
    (C.toList.take 1 ++ (b.take 32).map u8v ++ C.toList.drop (1 + (b.take 32).length)).toArray = wcA (i, pad b) := by
  rw [hC, List.take_of_length_le hb]
  unfold wcA wcells pad
  congr 1
  rw [List.take_succ_cons, List.take_zero, Nat.add_comm 1, List.drop_succ_cons, ← List.map_drop, List.drop_replicate]
  simp
theorem Disk.hd {w : World} {F : Nat → Prop} {p : Nat} {d : D} (h : Disk w F p d) : F p := by obtain ⟨gk, s, v, z, h1, h2, r⟩ := h; exact h2
theorem wr_ok (i : Nat) (b : List UInt8) {d : D} (h : (after d).Ok) (hi : i < d.n) (hb : b.length ≤ 32) : ({ after d with st := d.st ++ [(i, pad b)] } : D).Ok := by
  have hn : (after d).n = d.n := D.n_of (after_kept d)
  have e : ({ after d with st := d.st ++ [(i, pad b)] } : D).n = (after d).n := rfl
  refine ⟨h.len, h.most, fun w hw => ?_⟩
  rw [e, hn]
  rcases List.mem_append.1 hw with hw | hw
  · rw [← after_st d] at hw
    have := h.at_ w hw
    rwa [hn] at this
  · rw [List.mem_singleton] at hw
    subst hw
    exact ⟨hi, pad_length hb⟩
theorem write_end {w w1 A w5 : World} {F : Nat → Prop} {p gk i : Nat} {d : D} {b : List UInt8} {s v v' : Value} {z : Int} (hFp : F p) (hcF : Chg F w w1)
    (h1 : w1.heap[p]? = some (.cells (hdr gk (after d).n s v (after d).off z) 60 (0, 0))) (h3 : Parts w1 F gk s v (after d)) (r1 : z.toNat = (after d).left) (r2 : -1 ≤ z) (r3 : z ≤ 9223372036854775807) (rok : (after d).Ok)
    (eA : Ext w1 A) (g1 : OwnF 65 33 w5 (grow F A) v' (d.st.length + 1) (d.st.flatMap wcells ++ wcells (i, pad b))) (g2 : Chg (fun k => s.ownBlock = some k) A w5) (hi : i < d.n) (hb : b.length ≤ 32) :
    Aft F w (w5.setCell ⟨p, 1, none⟩ v') p { after d with st := d.st ++ [(i, pad b)] } := by
  obtain ⟨cur, hk, hcur⟩ := h3.kept
  have stA := h3.st.ext eA
  have h1A := eA.heap h1
  have hkA := eA.heap hk
  have hp5 := (g2.block p (Array.getElem?_eq_some_iff.1 h1A).1 fun e => stA.ne h1A (by decide) p e rfl).trans h1A
  have hk5 := (g2.block gk (Array.getElem?_eq_some_iff.1 hkA).1 fun e => stA.ne hkA (by decide) gk e rfl).trans hkA
  have cP := (Chg.refl (fun k => k = p) w5).set 1 v'
  have hs1 : w.heap.size ≤ A.heap.size := Nat.le_trans hcF.size eA.size
  have hn : ({ after d with st := d.st ++ [(i, pad b)] } : D).n = (after d).n := rfl
  refine ⟨((hcF.ext eA).trans (g2.mono h3.st.2)).trans (cP.mono fun k hk => by rw [hk]; exact hFp), gk, v', v, z, by rw [hn]; exact hdr_set1 hp5, .inl hFp, ⟨⟨cur, ?_, hcur⟩, .inl h3.fk, ?_, ?_⟩, r1, r2, r3, wr_ok i b rok hi hb⟩
  · rw [cP.block gk (Array.getElem?_eq_some_iff.1 hk5).1 (Go.Proofs.Ytehgdoceaeammaa.apart hk5 hp5 (by decide))]; exact hk5
  · have := (g1.chg cP fun g c hg _ => Go.Proofs.Ytehgdoceaeammaa.apart hg hp5 (by decide)).mono (G := grow F w) fun k hk => hk.imp id fun h => Nat.le_trans hs1 h
    show OwnF _ _ _ _ _ (d.st ++ [(i, pad b)]).length ((d.st ++ [(i, pad b)]).flatMap wcells)
    rw [List.length_append, List.flatMap_append]
    simpa using this
  · have := ((h3.plan.ext eA).chgT g2 fun g c hg _ e => stA.ne hg (by decide) g e rfl).chgT cP fun g c hg _ => Go.Proofs.Ytehgdoceaeammaa.apart hg hp5 (by decide)
    exact this.mono fun k hk => .inl hk
set_option maxRecDepth 20000 in
set_option maxHeartbeats 1000000 in
theorem write_any {w : World} {F : Nat → Prop} {p : Nat} {d : D} (h : Disk w F p d) (hst : d.st.length ≤ 1048576) (i : Int) (u : Value) (b : List UInt8) (hb : ∀ w', Chg F w w' → Bytes w' u b) :
    Calls Try.prog 11 #[.pointer (some ⟨p, 0, none⟩), .int .i64 i, u] w fun e w' => e = .returned (.int .i64 (wrE i b d)) ∧ Aft F w w' p (wrB i b d) := by
  have his := is_any h i
  have hfl := fails_any h
  have hFp := h.hd
  have hD := h
  have hbh := Lib.hid hb
  obtain ⟨au, capu, rfl, hbu⟩ := hb w (Chg.refl _ _)
  have hul := hbu.len
  clear hb hbu
  cases hh : has d i
  · have hr : RowKit.Hid (wrE i b d = 4 ∧ wrB i b d = d) := Lib.hid (by unfold wrE wrB; rw [hh]; exact ⟨rfl, rfl⟩)
    rw [hh] at his
    go_enter Try.func11, Try.ntmps11
    go_wp2_with (go_at_call 36; refine his.mono ?_; rintro e w' ⟨rfl, rfl⟩)
    go_ret
    exact ⟨by rw [hr.out.1]; rfl, Chg.refl _ _, by rw [hr.out.2]; exact hD.mono fun _ => Or.inl⟩
  · rw [hh] at his
    by_cases h32 : 32 < b.length
    · have hr : RowKit.Hid (wrE i b d = 2 ∧ wrB i b d = d) := Lib.hid (by unfold wrE wrB; rw [hh, if_pos h32, if_pos h32]; exact ⟨rfl, rfl⟩)
      have h32i : (32 : Int) < (b.length : Int) := by omega
      go_enter Try.func11, Try.ntmps11
      go_wp2_with (go_at_call 36; refine his.mono ?_; rintro e w' ⟨rfl, rfl⟩)
      go_ret
      exact ⟨by rw [hr.out.1]; rfl, Chg.refl _ _, by rw [hr.out.2]; exact hD.mono fun _ => Or.inl⟩
    · have h32i : (b.length : Int) ≤ 32 := by omega
      cases hf : fl d
      · obtain ⟨i, rfl⟩ : ∃ k : Nat, i = k := ⟨i.toNat, by simp [has] at hh; omega⟩
        have hi : i < d.n := by simp [has] at hh; omega
        have hr : RowKit.Hid (wrE (i : Int) b d = 0 ∧ wrB (i : Int) b d = { after d with st := d.st ++ [(i, pad b)] }) := Lib.hid (by
          unfold wrE wrB; rw [hh, if_neg h32, if_neg h32, hf]; exact ⟨rfl, by simp⟩)
        rw [hf] at hfl
        clear hh
        have hpl : (pad b).length = 32 := pad_length (by omega)
        have hwl : (wcells (i, pad b)).length = 33 := by simp [wcells, hpl]
        go_enter Try.func11, Try.ntmps11
        go_upto_region 7 with (first
          | (go_at_call 36; refine his.mono ?_; rintro e w' ⟨rfl, rfl⟩)
          | (go_at_call 37; refine hfl.mono ?_; rintro e w1 ⟨rfl, hc1, hD1⟩))
        obtain ⟨gk, s, v, z, h1, h2, h3, r1, r2, r3, rok⟩ := hD1
        have hcF : Chg F w w1 := hc1.mono fun k hk => by rw [hk]; exact hFp
        have hB1 := hbh.out _ (hcF.alloc (.cells (wcA (i, List.replicate 32 0)) 65))
        obtain ⟨c0, c1, c2, c3, c4, ff⟩ := hdr_cells h1
        have eW := (Ext.refl w1).alloc (.cells (wcA (i, List.replicate 32 0)) 65)
        have hnew := heap_alloc_new w1 (.cells (wcA (i, List.replicate 32 0)) 65)
        have hws := wcA_size (x := (i, List.replicate 32 0)) (by simp)
        have hZ : RowKit.Hid ((#[.int .i64 (i : Int), .int .u8 0, .int .u8 0, .int .u8 0, .int .u8 0, .int .u8 0, .int .u8 0, .int .u8 0, .int .u8 0, .int .u8 0, .int .u8 0, .int .u8 0, .int .u8 0, .int .u8 0, .int .u8 0, .int .u8 0, .int .u8 0, .int .u8 0, .int .u8 0, .int .u8 0, .int .u8 0, .int .u8 0, .int .u8 0, .int .u8 0, .int .u8 0, .int .u8 0, .int .u8 0, .int .u8 0, .int .u8 0, .int .u8 0, .int .u8 0, .int .u8 0, .int .u8 0] : Array Value) = wcA (i, List.replicate 32 0)) := Lib.hid rfl
        have hwc := Lib.hid (wr_cells i b (by omega) (wcA (i, List.replicate 32 0)) rfl)
        go_upto_region 8 with (refine wpList_store_new w1 rfl 65 _ _ rfl (wcA (i, List.replicate 32 0)) _ rfl rfl (by first | rfl | exact congrArg Value.agg hZ.out) 33 info_write hws rfl (wcA_one _) ?_)
        go_frame
        go_cut [7] (fun t wd => t = .pointer (some ⟨w1.heap.size, 0, none⟩) ∧ wd.heap[w1.heap.size]? = some (.cells (wcA (i, pad b)) 65 (0, 0)) ∧ Ext w1 wd)
        case first =>
          go_wp2_with (refine wpList_copyB rfl (.tmp 23) (.tmp 24) rfl w1.heap.size 1 32 32 rfl (wcA (i, List.replicate 32 0)) 65 hnew _ b rfl hB1 (by rw [hws]; exact Nat.le_refl _) ?_; intro w3 g1 g2)
          go_meet
          case rel => exact ⟨rfl, by rw [hwc.out] at g1; exact g1, eW.chg g2 fun j hj => by rw [hj]; exact Nat.le_refl _⟩
        case rest =>
          obtain ⟨rfl, hgn, e3⟩ := hcut
          have hSt := after_st d
          have hown : OwnF 65 33 wc F s d.st.length (d.st.flatMap wcells) := by
            have := h3.st
            rw [hSt] at this
            exact this.ext e3
          obtain ⟨sa, caps, rfl, hsm, -⟩ := hown.shape (by decide)
          have hr0 : wc.rangeAt w1.heap.size 0 (wcells (i, pad b)) := fun j v hv => by
            rw [cell_of_row wc _ _ _ _ _ hgn, Nat.zero_add, ← Array.getElem?_toList]; exact hv
          have d1 := e3.cell c1
          have hu := Try.underlying65
          have hin : (Try.prog.info? 65).map (·.size) = some (wcells (i, pad b)).length := by rw [hwl]; exact info_write
          have eA : Ext wc (wc.alloc (.cells (wcA (i, pad b)) 65)).drew := ((Ext.refl wc).alloc _).drew
          have hgA : (wc.alloc (.cells (wcA (i, pad b)) 65)).drew.heap[wc.heap.size]? = some (.cells (wcA (i, pad b)) 65 (0, 0)) := heap_alloc_new wc _
          have hfold : ∀ C : Array Value, C.size = 33 → List.foldl (fun cs x => cs.setIfInBounds x.2 x.1) C (wcells (i, pad b)).zipIdx = wcA (i, pad b) := fun C hC => fold_set _ _ (by rw [hwl, hC])
          have hownA : OwnF 65 33 (wc.alloc (.cells (wcA (i, pad b)) 65)).drew F (.slice sa d.st.length caps) d.st.length (d.st.flatMap wcells) := hown.ext eA
          have dA := eA.cell d1
          have hrA : (wc.alloc (.cells (wcA (i, pad b)) 65)).drew.rangeAt w1.heap.size 0 (wcells (i, pad b)) := fun j v hv => eA.cell (hr0 j v hv)
          have h1A := eA.heap (e3.heap h1)
          have hpA := (Array.getElem?_eq_some_iff.1 h1A).1
          have hneA : ¬ (Value.slice sa d.st.length caps).ownBlock = some p := fun h => (hown.ne (e3.heap h1) (by decide)) p h rfl
          have hneB : ¬ (Value.slice sa d.st.length caps).ownBlock = some w1.heap.size := fun h => by
            have h3' := h3.st
            rw [hSt] at h3'
            have := (World.ownsRow.lt h3'.1 _ h).2
            omega
          have hneP : ¬ w1.heap.size = p := by have := (Array.getElem?_eq_some_iff.1 h1).1; omega
          clear c0 c2 c3 c4 ff hnew hws hZ hwc hB1
          go_upto_region 9 with fail
          refine wp_region_held_drew (S := fun W => W.rangeAt w1.heap.size 0 (wcells (i, pad b))) (by kernel_rfl) ?_ (fun hHeld => ?_)
          · exact hr0
          refine wpAnyH_take (i := 0) (v := ?_) rfl (by kernel_rfl) (by kernel_rfl) (by kernel_rfl) (fun _ _ _ h => h) (Or.inl ⟨by rfl, ?_⟩) (by assumption) ?_
          rotate_left
          · (intro w hSw; (try dsimp only at hSw); go_simp; try with_reducible rfl)
          try simp only [Act.put, List.setIfInBounds_toArray, List.set_cons_zero, List.set_cons_succ]
          refine wpAnyH_take (i := 1) (v := ?_) rfl (by kernel_rfl) (by kernel_rfl) (by kernel_rfl) (fun _ _ _ h => h) (Or.inl ⟨by rfl, ?_⟩) (by assumption) ?_
          rotate_left
          · (intro w hSw; (try dsimp only at hSw); go_simp; try with_reducible rfl)
          try simp only [Act.put, List.setIfInBounds_toArray, List.set_cons_zero, List.set_cons_succ]
          refine wpAnyH_take (i := 2) (v := ?_) rfl (by kernel_rfl) (by kernel_rfl) (by kernel_rfl) (fun _ _ _ h => h) (Or.inl ⟨by rfl, ?_⟩) (by assumption) ?_
          rotate_left
          · (intro w hSw; (try dsimp only at hSw); go_simp; try with_reducible rfl)
          try simp only [Act.put, List.setIfInBounds_toArray, List.set_cons_zero, List.set_cons_succ]
          refine wpAnyH_take (i := 3) (v := ?_) rfl (by kernel_rfl) (by kernel_rfl) (by kernel_rfl) (fun _ _ _ h => h) (Or.inl ⟨by rfl, ?_⟩) (by assumption) ?_
          rotate_left
          · (intro w hSw; (try dsimp only at hSw); go_simp; try with_reducible rfl)
          try simp only [Act.put, List.setIfInBounds_toArray, List.set_cons_zero, List.set_cons_succ]
          refine' wpAnyH_take (i := 5) (v := _) rfl (by kernel_rfl) (by kernel_rfl) (by kernel_rfl) (fun _ _ _ h => h) (yieldsIf_load_mid (by rfl) _ _ rfl _ _ rfl (wcells (i, pad b)) _ ?hS ?hu ?hd ?hi) (by assumption) ?rest
          case hS => exact fun w h => h
          case hu => exact hu
          case hd => rfl
          case hi => exact hin
          try simp only [Act.put, List.setIfInBounds_toArray, List.set_cons_zero, List.set_cons_succ]
          refine wpAnyH_ready (rs := [4, 6]) (by kernel_rfl) (by simp) ?_
          refine AllReadyH.cons rfl (fun K hK => ?_) ?_
          · go_simp
            clear hHeld
            refine hK.out _ _ ?_ (fun hHeld => ?_)
            · exact hr0
            clear hK K
            try simp only [Act.put, List.setIfInBounds_toArray, List.set_cons_zero, List.set_cons_succ]
            refine wpAnyH_ready (rs := [6]) (by kernel_rfl) (by simp) ?_
            refine AllReadyH.cons rfl (fun K hK => ?_) ?_
            · go_simp
              clear hHeld
              refine hK.out _ _ ?_ (fun hHeld => ?_)
              · exact hrA
              clear hK K
              try simp only [Act.put, List.setIfInBounds_toArray, List.set_cons_zero, List.set_cons_succ]
              refine wpAnyH_ready (rs := [7]) (by kernel_rfl) (by simp) ?_
              refine AllReadyH.cons rfl (fun K hK => ?_) ?_
              · refine step_appendW rfl (.tmp 30) (.tmp 32) rfl F (.slice sa d.st.length caps) d.st.length (d.st.flatMap wcells) (by rfl) hownA wc.heap.size (i, pad b) hpl (by rfl) hgA (by omega) ?_
                intro v' w5 g1 g2
                obtain ⟨sb, capb, rfl, -⟩ := g1.shape (by decide)
                have hp5 := (g2.block p hpA hneA).trans h1A
                obtain ⟨k0, k1, k2, k3, k4, kf⟩ := hdr_cells hp5
                have hr5 : w5.rangeAt w1.heap.size 0 (wcells (i, pad b)) := fun j v hv => g2.cell (hrA j v hv) hneB
                have hrS : (w5.setCell ⟨p, 1, none⟩ (.slice sb (d.st.length + 1) capb)).rangeAt w1.heap.size 0 (wcells (i, pad b)) := fun j v hv => ((Chg.refl (fun k => k = p) w5).set 1 _).cell (hr5 j v hv) hneP
                clear hHeld
                refine hK.out _ _ ?_ (fun hHeld => ?_)
                · exact hr5
                clear hK K
                try simp only [Act.put, List.setIfInBounds_toArray, List.set_cons_zero, List.set_cons_succ]
                refine wpAnyH_take (i := 8) (v := ?_) rfl (by kernel_rfl) (by kernel_rfl) (by kernel_rfl) (fun _ _ _ h => h) (Or.inl ⟨by rfl, ?_⟩) (by assumption) ?_
                rotate_left
                · (intro w hSw; (try dsimp only at hSw); go_simp; try with_reducible rfl)
                try simp only [Act.put, List.setIfInBounds_toArray, List.set_cons_zero, List.set_cons_succ]
                refine wpAnyH_take (i := 9) (v := ?_) rfl (by kernel_rfl) (by kernel_rfl) (by kernel_rfl) (fun _ _ _ h => h) (Or.inl ⟨by rfl, ?_⟩) (by assumption) ?_
                rotate_left
                · (intro w hSw; (try dsimp only at hSw); go_simp; try with_reducible rfl)
                try simp only [Act.put, List.setIfInBounds_toArray, List.set_cons_zero, List.set_cons_succ]
                refine wpAnyH_ready (rs := [10]) (by kernel_rfl) (by simp) ?_
                refine AllReadyH.cons rfl (fun K hK => ?_) ?_
                · go_simp
                  clear hHeld
                  refine hK.out _ _ ?_ (fun hHeld => ?_)
                  · exact hrS
                  clear hK K
                  try simp only [Act.put, List.setIfInBounds_toArray, List.set_cons_zero, List.set_cons_succ]
                  refine wpAnyH_done (by kernel_rfl) ?_ _
                  go_wp2
                  go_ret
                  exact ⟨by rw [hr.out.1]; rfl, by rw [hr.out.2]; exact write_end hFp hcF h1 h3 r1 r2 r3 rok (e3.trans eA) g1 g2 hi (by omega)⟩
                exact AllReadyH.nil
              exact AllReadyH.nil
            exact AllReadyH.nil
          refine AllReadyH.cons rfl (fun K hK => ?_) ?_
          · go_simp
            clear hHeld
            refine hK.out _ _ ?_ (fun hHeld => ?_)
            · exact hrA
            clear hK K
            try simp only [Act.put, List.setIfInBounds_toArray, List.set_cons_zero, List.set_cons_succ]
            refine wpAnyH_ready (rs := [4]) (by kernel_rfl) (by simp) ?_
            refine AllReadyH.cons rfl (fun K hK => ?_) ?_
            · go_simp
              clear hHeld
              refine hK.out _ _ ?_ (fun hHeld => ?_)
              · exact hrA
              clear hK K
              try simp only [Act.put, List.setIfInBounds_toArray, List.set_cons_zero, List.set_cons_succ]
              refine wpAnyH_ready (rs := [7]) (by kernel_rfl) (by simp) ?_
              refine AllReadyH.cons rfl (fun K hK => ?_) ?_
              · refine step_appendW rfl (.tmp 30) (.tmp 32) rfl F (.slice sa d.st.length caps) d.st.length (d.st.flatMap wcells) (by rfl) hownA wc.heap.size (i, pad b) hpl (by rfl) hgA (by omega) ?_
                intro v' w5 g1 g2
                obtain ⟨sb, capb, rfl, -⟩ := g1.shape (by decide)
                have hp5 := (g2.block p hpA hneA).trans h1A
                obtain ⟨k0, k1, k2, k3, k4, kf⟩ := hdr_cells hp5
                have hr5 : w5.rangeAt w1.heap.size 0 (wcells (i, pad b)) := fun j v hv => g2.cell (hrA j v hv) hneB
                have hrS : (w5.setCell ⟨p, 1, none⟩ (.slice sb (d.st.length + 1) capb)).rangeAt w1.heap.size 0 (wcells (i, pad b)) := fun j v hv => ((Chg.refl (fun k => k = p) w5).set 1 _).cell (hr5 j v hv) hneP
                clear hHeld
                refine hK.out _ _ ?_ (fun hHeld => ?_)
                · exact hr5
                clear hK K
                try simp only [Act.put, List.setIfInBounds_toArray, List.set_cons_zero, List.set_cons_succ]
                refine wpAnyH_take (i := 8) (v := ?_) rfl (by kernel_rfl) (by kernel_rfl) (by kernel_rfl) (fun _ _ _ h => h) (Or.inl ⟨by rfl, ?_⟩) (by assumption) ?_
                rotate_left
                · (intro w hSw; (try dsimp only at hSw); go_simp; try with_reducible rfl)
                try simp only [Act.put, List.setIfInBounds_toArray, List.set_cons_zero, List.set_cons_succ]
                refine wpAnyH_take (i := 9) (v := ?_) rfl (by kernel_rfl) (by kernel_rfl) (by kernel_rfl) (fun _ _ _ h => h) (Or.inl ⟨by rfl, ?_⟩) (by assumption) ?_
                rotate_left
                · (intro w hSw; (try dsimp only at hSw); go_simp; try with_reducible rfl)
                try simp only [Act.put, List.setIfInBounds_toArray, List.set_cons_zero, List.set_cons_succ]
                refine wpAnyH_ready (rs := [10]) (by kernel_rfl) (by simp) ?_
                refine AllReadyH.cons rfl (fun K hK => ?_) ?_
                · go_simp
                  clear hHeld
                  refine hK.out _ _ ?_ (fun hHeld => ?_)
                  · exact hrS
                  clear hK K
                  try simp only [Act.put, List.setIfInBounds_toArray, List.set_cons_zero, List.set_cons_succ]
                  refine wpAnyH_done (by kernel_rfl) ?_ _
                  go_wp2
                  go_ret
                  exact ⟨by rw [hr.out.1]; rfl, by rw [hr.out.2]; exact write_end hFp hcF h1 h3 r1 r2 r3 rok (e3.trans eA) g1 g2 hi (by omega)⟩
                exact AllReadyH.nil
              exact AllReadyH.nil
            exact AllReadyH.nil
          exact AllReadyH.nil
      · have hr : RowKit.Hid (wrE i b d = 21 ∧ wrB i b d = after d) := Lib.hid (by unfold wrE wrB; rw [hh, if_neg h32, if_neg h32, hf]; exact ⟨rfl, rfl⟩)
        rw [hf] at hfl
        go_enter Try.func11, Try.ntmps11
        go_wp2_with (first
          | (go_at_call 36; refine his.mono ?_; rintro e w' ⟨rfl, rfl⟩)
          | (go_at_call 37; refine hfl.mono ?_; rintro e w1 ⟨rfl, hc1, hD1⟩))
        go_ret
        exact ⟨by rw [hr.out.1]; rfl, hc1.mono fun k hk => by rw [hk]; exact hFp, by rw [hr.out.2]; exact hD1.mono fun _ => Or.inl⟩
end Go.Proofs.Ytehgdoceaeammaa
