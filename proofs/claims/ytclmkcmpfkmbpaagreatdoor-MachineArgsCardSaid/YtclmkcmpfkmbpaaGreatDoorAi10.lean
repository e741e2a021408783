/-
  The abstract interpreter: each of its instructions does what the model's operation does: aggregates, append, copy, maps.
-/
import Derived.Test.YtclmkcmpfkmbpaaGreatDoorAi9
import Derived.Great.BuildSlice
set_option linter.unusedSectionVars false
namespace Go.Ai
open Go

variable [Sig] [Know] [KOk]

variable {P : Program} {γ : Gm} {M M' : Mem} {W : World} {T : PM Value} {a : Act} {v : Value}

/- Aggregates -/
theorem places_run (W : World) : ∀ (fs : List Field), fs.all (fun f => (P.info? f.type).isSome) = true →
    (fs.mapM (fun f => do pure (f.offset, ← sizeOf f.type) : Field → Sem (Nat × Nat))).run P W = .ok (fs.map fun f => (f.offset, (sizeT P f.type).getD 0)) W
  | [], _ => rfl
  | f :: fs, h => by
    simp only [List.all_cons, Bool.and_eq_true] at h
    have hs : sizeT P f.type = some ((sizeT P f.type).getD 0) := by
      unfold sizeT
      cases hi : P.info? f.type with
      | none => rw [hi] at h; simp at h
      | some i => rfl
    rw [List.mapM_cons]
    simp only [Sem.run_bind, sizeT_run hs, Result.andThen_ok, Sem.run_pure, places_run W fs h.2, List.map_cons]

theorem partsF_R {fs : Array Field} : ∀ {ps : List (Nat × Operand)} {qs : List (Nat × Nat × Opd)}, partsF P fs ps = some qs →
    PartsR (((fs.toList.map fun f => (f.offset, (sizeT P f.type).getD 0)).toArray)[·]?) ps qs
  | [], qs, h => by cases h; trivial
  | (i, x) :: ps, qs, h => by
    unfold partsF at h
    split at h
    · rename_i f y m h1 h2 h3
      split at h
      · rename_i s hs
        cases h
        refine ⟨?_, h2, partsF_R h3⟩
        have : fs.toList[i]? = some f := by simpa using h1
        simp [h1, hs]
      · cases h
    · cases h
theorem partsA_R {size : Nat} : ∀ {ps : List (Nat × Operand)} {qs : List (Nat × Nat × Opd)}, partsA size ps = some qs → PartsR (fun i => some (i * size, size)) ps qs
  | [], qs, h => by cases h; trivial
  | (i, x) :: ps, qs, h => by
    unfold partsA at h
    split at h
    · rename_i y m h1 h2
      cases h
      exact ⟨rfl, h1, partsA_R h2⟩
    · cases h

theorem buildS_runs {t : TypeId} {z : Array Value} {fs : Array Field} {ps : Array (Nat × Operand)} {qs : List (Nat × Nat × Opd)} (hz : zeroT P t = some (.agg z)) (hu : P.underlying t = some (.struct fs))
    (hall : fs.toList.all (fun f => (P.info? f.type).isSome) = true) (hp : partsF P fs ps.toList = some qs) (hT : TR γ T a.tmps) (hR : Rel γ M W) (h : step T M (.build z.toList qs) = some (v, M')) :
    Runs P (do pure (.value (← Instr.build t (ps.map fun p => (p.1, a.eval p.2))))) W γ M v M' := by
  simp only [step] at h
  split at h
  · rename_i l hl
    cases h
    obtain ⟨_, _, _, hpl⟩ := zeroT_spec hz
    obtain ⟨cl, h1, h2⟩ := fill_run hT (partsF_R hp) (VR.agg_inv (plainV_VR γ _ hpl)).choose_spec.2 hl
    have hb := (VR.agg_inv (plainV_VR γ _ hpl)).choose_spec.1
    have hbe : z = (VR.agg_inv (plainV_VR γ _ hpl)).choose := by injection hb
    rw [← hbe] at h1
    refine Runs.v (cv := .agg cl) ?_ (VR.agg_list h2) hR
    have hm : (fs.mapM (fun f => do pure (f.offset, ← sizeOf f.type) : Field → Sem (Nat × Nat))).run P W = .ok (fs.toList.map fun f => (f.offset, (sizeT P f.type).getD 0)).toArray W := by
      rw [Array.mapM_eq_mapM_toList, Sem.run_map, places_run W _ hall]; rfl
    simp only [Instr.build, Sem.run_bind, zeroT_run hz, Result.andThen_ok, run_underlying hu, hm, Array.toList_map, Value.cells]
    rw [h1]
    rfl
  · cases h

theorem buildA_runs {t e : TypeId} {n s : Nat} {z : Array Value} {ps : Array (Nat × Operand)} {qs : List (Nat × Nat × Opd)} (hz : zeroT P t = some (.agg z)) (hu : P.underlying t = some (.array n e))
    (hs : sizeT P e = some s) (hp : partsA s ps.toList = some qs) (hT : TR γ T a.tmps) (hR : Rel γ M W) (h : step T M (.build z.toList qs) = some (v, M')) :
    Runs P (do pure (.value (← Instr.build t (ps.map fun p => (p.1, a.eval p.2))))) W γ M v M' := by
  simp only [step] at h
  split at h
  · rename_i l hl
    cases h
    obtain ⟨_, _, _, hpl⟩ := zeroT_spec hz
    obtain ⟨cl, h1, h2⟩ := fill_run hT (partsA_R hp) (VR.agg_inv (plainV_VR γ _ hpl)).choose_spec.2 hl
    have hb := (VR.agg_inv (plainV_VR γ _ hpl)).choose_spec.1
    have hbe : z = (VR.agg_inv (plainV_VR γ _ hpl)).choose := by injection hb
    rw [← hbe] at h1
    refine Runs.v (cv := .agg cl) ?_ (VR.agg_list h2) hR
    simp only [Instr.build, Sem.run_bind, zeroT_run hz, Result.andThen_ok, run_underlying hu, sizeT_run hs, Array.toList_map, Value.cells]
    rw [h1]
    rfl
  · cases h

theorem cycle_succ (z : List Value) (n : Nat) : cycle z (n + 1) = z ++ cycle z n := by
  unfold cycle
  rw [List.replicate_succ, List.flatten_cons]
theorem cycle_length (z : List Value) : ∀ n, (cycle z n).length = n * z.length
  | 0 => by simp [cycle]
  | n + 1 => by rw [cycle_succ, List.length_append, cycle_length z n, Nat.succ_mul, Nat.add_comm]
theorem cycle_get (z : List Value) : ∀ (n i : Nat), i < n * z.length → (cycle z n)[i]? = z[i % z.length]?
  | 0, i, h => by omega
  | n + 1, i, h => by
    rw [cycle_succ, List.getElem?_append]
    by_cases hi : i < z.length
    · rw [if_pos hi, Nat.mod_eq_of_lt hi]
    · rw [if_neg hi]
      rw [Nat.succ_mul] at h
      rw [cycle_get z n (i - z.length) (by omega), ← Nat.mod_eq_sub_mod (by omega)]
theorem range_cycle (z : Array Value) (n : Nat) : ((Array.range (n * z.size)).map (z[· % z.size]!)).toList = cycle z.toList n := by
  apply List.ext_getElem?
  intro i
  rw [Array.toList_map, List.getElem?_map, Array.toList_range]
  by_cases hi : i < n * z.size
  · have hpos : 0 < z.size := by
      rcases Nat.eq_zero_or_pos z.size with h0 | h0
      · rw [h0, Nat.mul_zero] at hi; omega
      · exact h0
    rw [List.getElem?_range hi, cycle_get z.toList n i (by simpa using hi)]
    have hm : i % z.size < z.size := Nat.mod_lt _ hpos
    simp [hm]
  · rw [List.getElem?_eq_none (by simpa using hi), List.getElem?_eq_none (by rw [cycle_length]; simpa using hi)]
    rfl
theorem LR.cycle {l m : List Value} (h : LR γ l m) : ∀ n, LR γ (cycle l n) (cycle m n)
  | 0 => trivial
  | n + 1 => by rw [cycle_succ, cycle_succ]; exact h.append (LR.cycle h n)

theorem bslice_runs {t e : TypeId} {n s : Nat} {z : Value} {ps : Array (Nat × Operand)} {qs : List (Nat × Nat × Opd)} (hu : P.underlying t = some (.slice e)) (hs : sizeT P e = some s) (hz : zeroT P e = some z)
    (hsz : (cellsL z).length = s) (hn : n * s ≤ 65536) (hp : partsA s ps.toList = some qs) (hT : TR γ T a.tmps) (hR : Rel γ M W) (h : step T M (.bslice s n (cycle (cellsL z) n) qs) = some (v, M')) :
    Runs P (do pure (.value (← Instr.buildSlice t n (ps.map fun p => (p.1, a.eval p.2))))) W γ M v M' := by
  simp only [step] at h
  split at h
  · rename_i l hl
    split at h
    · rename_i r M2 hM2
      cases h
      obtain ⟨_, _, _, hpl⟩ := zeroT_spec hz
      have hcs : z.cells.size = s := by rw [← Array.length_toList, cells_toList]; exact hsz
      have hzc : ((Array.range (n * s)).map (z.cells[· % z.cells.size]!)).toList = cycle (cellsL z) n := by
        have := range_cycle z.cells n
        rw [hcs, cells_toList] at this
        rw [hcs]; exact this
      have hLR : LR γ (cycle (cellsL z) n) ((Array.range (n * s)).map (z.cells[· % z.cells.size]!)).toList := by
        rw [hzc]; exact LR.cycle (plainV_VR γ z hpl).cells n
      obtain ⟨cl, h1, h2⟩ := fill_run hT (partsA_R hp) hLR hl
      obtain ⟨rfl, k1, k2⟩ := newArr_rel hR hM2 h2 e
      have hlen : l.length = n * s := by
        have : ∀ {z l : List Value} {qs : List (Nat × Nat × Opd)}, fillL T z qs = some l → l.length = z.length := by
          intro z l qs
          induction qs generalizing z with
          | nil => intro h; cases h; rfl
          | cons q qs ih =>
            intro h
            obtain ⟨off, size, y⟩ := q
            unfold fillL at h
            obtain ⟨_, h⟩ := cond_opt h
            rw [ih h]
            have ov : ∀ (l z : List Value) (o : Nat), (overlay z o l).length = z.length := by
              intro l
              induction l with
              | nil => intro z o; rfl
              | cons b l ihl => intro z o; rw [overlay, ihl]; simp
            exact ov _ _ _
        rw [this hl, cycle_length, hsz]
      rw [Array.toArray_toList] at k1 k2
      refine ⟨.slice (some ⟨W.heap.size, 0, none⟩) n n, W.alloc (.cells cl e), upd γ M.nx ⟨W.heap.size, 0, cl.toList.length, s⟩, .inl (run_v ?_), ?_, k1, k2⟩
      · have hsmall : ¬ (n * s > 2 ^ 24) := by omega
        by_cases h0 : n * s = 0
        · have e0 : cl = #[] := by
            have := h2.length
            rw [hlen, h0] at this
            exact Array.eq_empty_of_size_eq_zero (by simpa using this.symm)
          have hf : Instr.fill (fun i => some (i * s, s)) #[] (ps.toList.map fun p => (p.1, a.eval p.2)) = some cl := by
            rw [← h1, h0, Array.range_zero', Array.map_empty]
          simp [Instr.buildSlice, run_underlying hu, sizeT_run hs, h0, Array.range_zero', hf, newRow]
        · simp only [Instr.buildSlice, Sem.run_bind, run_underlying hu, Result.andThen_ok, sizeT_run hs, hsmall, if_false, h0, Sem.run_pure, zeroT_run hz, Array.toList_map]
          rw [h1]
          simp only [Sem.run_bind, newRow_run, Result.andThen_ok, Sem.run_pure]
      · refine .slice (g := ⟨W.heap.size, 0, cl.toList.length, s⟩) (upd_same _ _ _) (Nat.le_refl _) ?_
        show 0 + n * s ≤ cl.toList.length
        rw [← h2.length, hlen]; omega
    · cases h
  · cases h

theorem msliceA_runs {t e : TypeId} {s b : Nat} {z : Value} {l c : Operand} {l' c' : Opd} (hu : P.underlying t = some (.slice e)) (hs : sizeT P e = some s) (hb : bytesT P e = some b) (hz : zeroT P e = some z)
    (hsz : (cellsL z).length = s) (hl : opd l = some l') (hc : opd c = some c') (hT : TR γ T a.tmps) (hR : Rel γ M W) (h : msliceA M s b (cellsL z) (l'.ev T) (c'.ev T) = some (v, M')) :
    Runs P (do pure (.value (← Instr.makeSlice t (a.eval l) (a.eval c)))) W γ M v M' := by
  unfold msliceA at h
  split at h
  · rename_i n m e1 e2
    obtain ⟨h1, h⟩ := cond_opt h
    simp only [Bool.and_eq_true, Nat.ble_eq] at h1
    obtain ⟨⟨h1, h2⟩, h3⟩ := h1
    have := Nat.eq_of_beq_eq_true h1
    subst this
    split at h
    · rename_i r M2 hM2
      cases h
      obtain ⟨i, hi, hzi, hpl⟩ := zeroT_spec hz
      have hbi : i.bytes = b := by unfold bytesT at hb; rw [hi] at hb; simpa using hb
      have hsi : i.size = s := by unfold sizeT at hs; rw [hi] at hs; simpa using hs
      obtain ⟨kl, hkl⟩ := natArg_VR e1 (opd_ev hl hT)
      obtain ⟨kc, hkc⟩ := natArg_VR e2 (opd_ev hc hT)
      have hrun := run_make (P := P) W t e i z hu hi hzi kl kc n n (by omega) (by omega) (by rw [hbi, ← Int.natCast_mul, Nat.mul_comm]; omega) (by omega)
      have hcyc : (madeCells z.cells (n * s)).toList = cycle (cellsL z) n := by
        have := range_cycle z.cells n
        have hcs : z.cells.size = s := by rw [← Array.length_toList, cells_toList]; exact hsz
        rw [hcs, cells_toList] at this
        unfold madeCells
        rw [hcs]; exact this
      have hLR : LR γ (cycle (cellsL z) n) (madeCells z.cells (n * s)).toList := by rw [hcyc]; exact LR.cycle (plainV_VR γ z hpl).cells n
      obtain ⟨rfl, k1, k2⟩ := newArr_rel hR hM2 hLR e
      rw [hkl, hkc]
      simp only [Int.toNat_natCast, hsi] at hrun
      rw [Array.toArray_toList] at k1 k2
      refine ⟨_, _, upd γ M.nx ⟨W.heap.size, 0, (madeCells z.cells (n * s)).toList.length, s⟩, .inl (run_v hrun), ?_, k1, k2⟩
      refine .slice (g := ⟨W.heap.size, 0, (madeCells z.cells (n * s)).toList.length, s⟩) (upd_same _ _ _) (Nat.le_refl _) ?_
      show 0 + n * s ≤ (madeCells z.cells (n * s)).toList.length
      rw [hcyc, cycle_length, hsz, Nat.zero_add]
      exact Nat.le_refl _
    · cases h
  · cases h

theorem msliceS_spec {s b i j : Nat} {z : List Value} {M M' : Mem} {v : Value} (h : msliceS M s b i j z = some (v, M')) :
    ∃ z0, z = [z0] ∧ i = j ∧ s = 1 ∧ isNum z0 = true ∧ Know.hi i * b ≤ 1099511627776 ∧ Know.hi i ≤ 1099511627776 ∧ 0 < Know.lo i ∧ v = .complex .f32 M.nx i ∧ M' = ⟨M.h.set M.nx (.zer i z0), M.nx + 1, M.lw⟩ := by
  unfold msliceS at h
  split at h
  · rename_i z0
    obtain ⟨h1, h2⟩ := cond_some h
    cases h2
    simp only [Bool.and_eq_true, Nat.ble_eq, blt_spec, decide_eq_true_iff] at h1
    obtain ⟨⟨⟨⟨⟨h1, h2⟩, h3⟩, h4⟩, h5⟩, h6⟩ := h1
    exact ⟨z0, rfl, Nat.eq_of_beq_eq_true h1, Nat.eq_of_beq_eq_true h2, h3, h4, h5, h6, rfl, rfl⟩
  · cases h

theorem sym_make {t e : TypeId} {b i : Nat} {z z0 : Value} (hu : P.underlying t = some (.slice e)) (hs : sizeT P e = some 1) (hb : bytesT P e = some b) (hz : zeroT P e = some z) (hz0 : cellsL z = [z0]) (hn : isNum z0 = true)
    (h1 : Know.hi i * b ≤ 1099511627776) (h2 : Know.hi i ≤ 1099511627776) (hp : 0 < Know.lo i) (nx : Nat) (γ : Gm) (W : World) (_hf : γ nx = none) :
    ∃ n cob, (Instr.makeSlice t (.int .i64 (Sig.val i)) (.int .i64 (Sig.val i))).run P W = .ok (.slice (some ⟨W.heap.size, 0, none⟩) n n) (W.alloc cob) ∧
      (∀ N, ObjR (upd γ nx ⟨W.heap.size, 0, n, 1⟩) N (W.alloc cob) ⟨W.heap.size, 0, n, 1⟩ (.zer i z0)) ∧ VR (upd γ nx ⟨W.heap.size, 0, n, 1⟩) (.complex .f32 nx i) (.slice (some ⟨W.heap.size, 0, none⟩) n n) := by
  obtain ⟨inf, hi, hzi, hpl⟩ := zeroT_spec hz
  have hbi : inf.bytes = b := by unfold bytesT at hb; rw [hi] at hb; simpa using hb
  have hsi : inf.size = 1 := by unfold sizeT at hs; rw [hi] at hs; simpa using hs
  have hlo := KOk.lo i hp
  have hhi := KOk.hi i
  obtain ⟨n, hval⟩ : ∃ n : Nat, Sig.val i = (n : Int) := ⟨(Sig.val i).toNat, by omega⟩
  have hnhi : n ≤ Know.hi i := by omega
  have hnb : n * b ≤ 1099511627776 := Nat.le_trans (Nat.mul_le_mul_right b hnhi) h1
  have hrun := run_make (P := P) W t e inf z hu hi hzi .i64 .i64 n n (by omega) (by omega) (by rw [hbi, ← Int.natCast_mul, Nat.mul_comm]; omega) (by omega)
  have hcs : z.cells.size = 1 := by rw [← Array.length_toList, cells_toList, hz0]; rfl
  have hcyc : (madeCells z.cells (n * 1)).toList = cycle [z0] n := by
    have := range_cycle z.cells n
    rw [hcs, cells_toList, hz0] at this
    unfold madeCells
    rw [hcs]; exact this
  have hlen : (madeCells z.cells (n * 1)).size = n := by
    rw [← Array.length_toList, hcyc, cycle_length]; simp
  refine ⟨n, .cells (madeCells z.cells (n * 1)) e, ?_, fun N => ⟨rfl, rfl, hn, _, e, heap_alloc_new W _, by rw [hlen, hval], by show n = _; rw [hlen], fun k hk => ?_⟩, ?_⟩
  · rw [hval]
    simp only [Int.toNat_natCast, hsi] at hrun
    exact hrun
  · rw [← Array.getElem?_toList, hcyc]
    have hk' : k < n := by rw [hlen] at hk; exact hk
    have : cycle [z0] n = List.replicate n z0 := by
      unfold cycle
      induction n with
      | zero => rfl
      | succ m ih => rw [List.replicate_succ, List.flatten_cons, List.replicate_succ]; simp
    rw [this, List.getElem?_replicate, if_pos hk']
  · exact .symS (g := ⟨W.heap.size, 0, n, 1⟩) (upd_same _ _ _) hval (Nat.le_refl _)

theorem mslice_runs {t e : TypeId} {s b : Nat} {z : Value} {l c : Operand} {l' c' : Opd} (hu : P.underlying t = some (.slice e)) (hs : sizeT P e = some s) (hb : bytesT P e = some b) (hz : zeroT P e = some z)
    (hsz : (cellsL z).length = s) (hl : opd l = some l') (hc : opd c = some c') (hT : TR γ T a.tmps) (hR : Rel γ M W) (h : step T M (.mslice s b (cellsL z) l' c') = some (v, M')) :
    Runs P (do pure (.value (← Instr.makeSlice t (a.eval l) (a.eval c)))) W γ M v M' := by
  simp only [step] at h
  split at h
  · rename_i i e1
    split at h
    · rename_i j e2
      obtain ⟨z0, q1, q2, q3, q4, q5, q6, q7, rfl, rfl⟩ := msliceS_spec h
      subst q2 q3
      have hvl := opd_ev hl hT
      have hvc := opd_ev hc hT
      rw [e1] at hvl
      rw [e2] at hvc
      rw [hvl.sym_inv, hvc.sym_inv]
      obtain ⟨n, cob, k1, k2, k3⟩ := sym_make hu hs hb hz q1 q4 q5 q6 q7 M.nx γ W (hR.fresh (Nat.le_refl _))
      obtain ⟨k4, k5⟩ := rel_new hR (.zer i z0) cob ⟨W.heap.size, 0, n, 1⟩ rfl (k2 _) (by intro a e; cases e)
      exact ⟨_, _, _, .inl (run_v k1), k3, k4, k5⟩
    · cases h
  · exact msliceA_runs hu hs hb hz hsz hl hc hT hR h
end Go.Ai
