/-
  The abstract interpreter: what makes memory may do so later.
-/
import Derived.Test.YtclmkcmpfkmbpaaGreatDoorAi15
set_option linter.unusedSectionVars false
namespace Go.Ai
open Go

variable [Sig] [Know] [KOk]

variable {P : Program} {T : PM Value} {M M' : Mem} {v : Value}

theorem newArr_make {L : List Value} {es r : Nat} (hn : newArr M L es = some (r, M')) : r = M.nx ∧ ∃ A : Arr, M' = ⟨M.h.set M.nx (.arr A), M.nx + 1, M.lw⟩ ∧ A.own = true ∧
    ∀ (γ : Gm) (W : World) (cL : List Value) (e : TypeId), LR γ L cL → γ M.nx = none → ∀ N, ObjR (upd γ M.nx ⟨W.heap.size, 0, cL.length, es⟩) N (W.alloc (.cells cL.toArray e)) ⟨W.heap.size, 0, cL.length, es⟩ (.arr A) := by
  unfold newArr at hn
  obtain ⟨ha, hn⟩ := cond_some hn
  cases hn
  refine ⟨rfl, _, rfl, rfl, fun γ W cL e hL hf N => ⟨rfl, fun _ => ?_⟩⟩
  refine ⟨cL.toArray, e, heap_alloc_new W _, by simp, by show L.length ≤ cL.length; rw [hL.length]; exact Nat.le_refl _, fun i w hi => ?_⟩
  obtain ⟨h1, h2, u, h3, h4⟩ := cells_ofList hL (allOne_mem ha) (c := cL.toArray) (fun i _ => by simp) i w hi
  exact ⟨h1, h2, u, by simpa using h3, h4.mono (le_upd _ hf)⟩

/-- What is made: an object, at the memory's next number; whenever the operation comes up, it lays that. -/
def Makes (P : Program) (o : Oper) (T : PM Value) (nx : Nat) (ob : AO) (v : Value) : Prop :=
  (∀ a, ob = .arr a → a.own = true) ∧ ∀ (γ : Gm) (a : Act) (W : World), TR γ T a.tmps → γ nx = none →
    ∃ cv cob g, g.blk = W.heap.size ∧ (execOp a.eval o).run P W = .ok (.value cv) (W.alloc cob) ∧ (∀ N, ObjR (upd γ nx g) N (W.alloc cob) g ob) ∧ VR (upd γ nx g) v cv

theorem fill_length {z l : List Value} {qs : List (Nat × Nat × Opd)} (h : fillL T z qs = some l) : l.length = z.length := by
  induction qs generalizing z with
  | nil => cases h; rfl
  | cons q qs ih =>
    obtain ⟨off, size, y⟩ := q
    unfold fillL at h
    obtain ⟨_, h⟩ := cond_opt h
    rw [ih h]
    have ov : ∀ (l z : List Value) (o : Nat), (overlay z o l).length = z.length := by
      intro l
      induction l with
      | nil => intro z o; rfl
      | cons b l ihl => intro z o; rw [overlay, ihl]; simp
    exact ov _ _ _

theorem make_step {o : Oper} {i : I} (hc : clsI i = 2) (hi : compI P o = some i) (h : step T M i = some (v, M')) : ∃ ob, M' = ⟨M.h.set M.nx ob, M.nx + 1, M.lw⟩ ∧ Makes P o T M.nx ob v := by
  obtain ⟨dst, op, type, pos, after, guard⟩ := o
  cases op <;> simp only [compI] at hi <;> try (cases hi; done)
  case alloc e =>
    split at hi
    · rename_i z hz
      cases hi
      simp only [step] at h
      split at h
      · rename_i r M2 hn
        cases h
        obtain ⟨_, _, _, hp⟩ := zeroT_spec hz
        obtain ⟨rfl, A, rfl, hown, hA⟩ := newArr_make hn
        refine ⟨_, rfl, fun a e => by cases e; exact hown, fun γ a W _ hf => ?_⟩
        refine ⟨.pointer (some ⟨W.heap.size, 0, none⟩), .cells (cellsL z).toArray e, ⟨W.heap.size, 0, (cellsL z).length, (cellsL z).length⟩, rfl, run_v ?_, hA γ W _ e (plainV_VR γ z hp).cells hf, .ptr (g := ⟨W.heap.size, 0, (cellsL z).length, (cellsL z).length⟩) (upd_same _ _ _)⟩
        simp only [Instr.alloc, newVar, Sem.run_bind, zeroT_run hz, Result.andThen_ok, newRow_run, Sem.run_pure]
        rw [← cells_toList]
      · cases h
    · cases hi
  case box e x =>
    obtain ⟨y, hy, rfl⟩ := map_some hi
    simp only [step] at h
    split at h
    · rename_i r M2 hn
      cases h
      obtain ⟨rfl, A, rfl, hown, hA⟩ := newArr_make hn
      refine ⟨_, rfl, fun a e => by cases e; exact hown, fun γ a W hT hf => ?_⟩
      have hv := opd_ev hy hT
      refine ⟨.pointer (some ⟨W.heap.size, 0, none⟩), .cells (cellsL (a.eval x)).toArray e, ⟨W.heap.size, 0, (cellsL (a.eval x)).length, (cellsL (y.ev T)).length⟩, rfl, run_v ?_, hA γ W _ e hv.cells hf, .ptr (g := ⟨W.heap.size, 0, (cellsL (a.eval x)).length, (cellsL (y.ev T)).length⟩) (upd_same _ _ _)⟩
      simp only [Instr.box, newVar, Sem.run_bind, Result.andThen_ok, newRow_run, Sem.run_pure]
      rw [← cells_toList]
    · cases h
  case buildSlice t n ps =>
    split at hi
    · rename_i e hu
      split at hi
      · rename_i s z hs hz
        obtain ⟨h1, h2⟩ := cond_opt hi
        rw [Bool.and_eq_true, Nat.ble_eq] at h1
        obtain ⟨qs, hq, rfl⟩ := map_some h2
        have hsz := Nat.eq_of_beq_eq_true h1.2
        simp only [step] at h
        split at h
        · rename_i l hl
          split at h
          · rename_i r M2 hn
            cases h
            obtain ⟨rfl, A, rfl, hown, hA⟩ := newArr_make hn
            refine ⟨_, rfl, fun a e => by cases e; exact hown, fun γ a W hT hf => ?_⟩
            obtain ⟨_, _, _, hpl⟩ := zeroT_spec hz
            have hcs : z.cells.size = s := by rw [← Array.length_toList, cells_toList]; exact hsz
            have hzc : ((Array.range (n * s)).map (z.cells[· % z.cells.size]!)).toList = cycle (cellsL z) n := by
              have := range_cycle z.cells n
              rw [hcs, cells_toList] at this
              rw [hcs]; exact this
            have hLR : LR γ (cycle (cellsL z) n) ((Array.range (n * s)).map (z.cells[· % z.cells.size]!)).toList := by
              rw [hzc]; exact LR.cycle (plainV_VR γ z hpl).cells n
            obtain ⟨cl, k1, k2⟩ := fill_run hT (partsA_R hq) hLR hl
            have hlen : l.length = n * s := by rw [fill_length hl, cycle_length, hsz]
            refine ⟨.slice (some ⟨W.heap.size, 0, none⟩) n n, .cells cl.toList.toArray e, ⟨W.heap.size, 0, cl.toList.length, s⟩, rfl, run_v ?_, hA γ W _ e k2 hf, .slice (g := ⟨W.heap.size, 0, cl.toList.length, s⟩) (upd_same _ _ _) (Nat.le_refl _) ?_⟩
            · rw [Array.toArray_toList]
              have hsmall : ¬ (n * s > 2 ^ 24) := by omega
              by_cases h0 : n * s = 0
              · have hf : Instr.fill (fun i => some (i * s, s)) #[] (ps.toList.map fun p => (p.1, a.eval p.2)) = some cl := by
                  rw [← k1, h0, Array.range_zero', Array.map_empty]
                simp [Instr.buildSlice, run_underlying hu, sizeT_run hs, h0, Array.range_zero', hf, newRow]
              · simp only [Instr.buildSlice, Sem.run_bind, run_underlying hu, Result.andThen_ok, sizeT_run hs, hsmall, if_false, h0, Sem.run_pure, zeroT_run hz, Array.toList_map]
                rw [k1]
                simp only [Sem.run_bind, newRow_run, Result.andThen_ok, Sem.run_pure]
            · show 0 + n * s ≤ cl.toList.length
              rw [← k2.length, hlen]; omega
          · cases h
        · cases h
      · cases hi
    · cases hi
  case makeSlice t lx cx =>
    split at hi
    · rename_i e hu
      split at hi
      · rename_i s b z l' c' hs hb hz hl hc'
        obtain ⟨h1, h2⟩ := cond_some hi
        cases h2
        rw [Bool.and_eq_true] at h1
        have hsz := Nat.eq_of_beq_eq_true h1.1
        simp only [step] at h
        split at h
        · rename_i i e1
          split at h
          · rename_i j e2
            obtain ⟨z0, q1, q2, q3, q4, q5, q6, q7, rfl, rfl⟩ := msliceS_spec h
            subst q2 q3
            refine ⟨_, rfl, (fun a e => by cases e), fun γ a W hT hf => ?_⟩
            have hvl := opd_ev hl hT
            have hvc := opd_ev hc' hT
            rw [e1] at hvl
            rw [e2] at hvc
            obtain ⟨n, cob, k1, k2, k3⟩ := sym_make hu hs hb hz q1 q4 q5 q6 q7 M.nx γ W hf
            refine ⟨_, cob, _, rfl, run_v ?_, k2, k3⟩
            rw [hvl.sym_inv, hvc.sym_inv]
            exact k1
          · cases h
        · unfold msliceA at h
          split at h
          · rename_i n m e1 e2
            obtain ⟨q1, h⟩ := cond_opt h
            simp only [Bool.and_eq_true, Nat.ble_eq] at q1
            obtain ⟨⟨q1, q2⟩, q3⟩ := q1
            have := Nat.eq_of_beq_eq_true q1
            subst this
            split at h
            · rename_i r M2 hn
              cases h
              obtain ⟨rfl, A, rfl, hown, hA⟩ := newArr_make hn
              refine ⟨_, rfl, fun a e => by cases e; exact hown, fun γ a W hT hf => ?_⟩
              obtain ⟨i, hi, hzi, hpl⟩ := zeroT_spec hz
              have hbi : i.bytes = b := by unfold bytesT at hb; rw [hi] at hb; simpa using hb
              have hsi : i.size = s := by unfold sizeT at hs; rw [hi] at hs; simpa using hs
              obtain ⟨kl, hkl⟩ := natArg_VR e1 (opd_ev hl hT)
              obtain ⟨kc, hkc⟩ := natArg_VR e2 (opd_ev hc' hT)
              have hrun := run_make (P := P) W t e i z hu hi hzi kl kc n n (by omega) (by omega) (by rw [hbi, ← Int.natCast_mul, Nat.mul_comm]; omega) (by omega)
              have hcyc : (madeCells z.cells (n * s)).toList = cycle (cellsL z) n := by
                have := range_cycle z.cells n
                have hcs : z.cells.size = s := by rw [← Array.length_toList, cells_toList]; exact hsz
                rw [hcs, cells_toList] at this
                unfold madeCells
                rw [hcs]; exact this
              have hLR : LR γ (cycle (cellsL z) n) (madeCells z.cells (n * s)).toList := by rw [hcyc]; exact LR.cycle (plainV_VR γ z hpl).cells n
              simp only [Int.toNat_natCast, hsi] at hrun
              refine ⟨.slice (some ⟨W.heap.size, 0, none⟩) n n, .cells (madeCells z.cells (n * s)).toList.toArray e, ⟨W.heap.size, 0, (madeCells z.cells (n * s)).toList.length, s⟩, rfl, run_v ?_, hA γ W _ e hLR hf,
                .slice (g := ⟨W.heap.size, 0, (madeCells z.cells (n * s)).toList.length, s⟩) (upd_same _ _ _) (Nat.le_refl _) ?_⟩
              · rw [hkl, hkc, Array.toArray_toList]; exact hrun
              · show 0 + n * s ≤ (madeCells z.cells (n * s)).toList.length
                rw [hcyc, cycle_length, hsz, Nat.zero_add]
                exact Nat.le_refl _
            · cases h
          · cases h
      · cases hi
    · cases hi
  case makeMap t r =>
    cases r with
    | some r => cases hi
    | none =>
      cases hi
      simp only [step] at h
      cases h
      refine ⟨.map [] 0, rfl, (fun a e => by cases e), fun γ a W _ hf => ?_⟩
      refine ⟨.map (some W.heap.size), .map #[] 0, ⟨W.heap.size, 0, 0, 0⟩, rfl, run_v (by simp [Instr.makeMap]), fun N => ⟨rfl, #[], heap_alloc_new W _, trivial⟩, .map (g := ⟨W.heap.size, 0, 0, 0⟩) (upd_same _ _ _)⟩
  case call c =>
    unfold compCall at hi
    (repeat' split at hi) <;> first | (cases hi; cases hc; done) | (cases hi; done) | (obtain ⟨_, hi⟩ := cond_some hi; cases hi; cases hc; done)
  case unOp op t x => cases op <;> simp only at hi <;> first | (cases hi; done) | (obtain ⟨_, _, hi⟩ := map_some hi; cases hi; cases hc; done)
  case typeAssert x xt t ok => cases ok <;> simp only at hi <;> first | (cases hi; done) | ((repeat' split at hi) <;> first | (cases hi; done) | (obtain ⟨_, _, hi⟩ := map_some hi; cases hi; cases hc; done))
  case next it s => cases s <;> simp only at hi <;> first | (cases hi; done) | (obtain ⟨_, _, hi⟩ := map_some hi; cases hi; cases hc; done)
  all_goals first
    | (cases hi; done)
    | (obtain ⟨_, _, hi⟩ := map_some hi; cases hi; cases hc; done)
    | ((repeat' split at hi) <;> first
        | (cases hi; done)
        | (cases hi; cases hc; done)
        | (obtain ⟨_, _, hi⟩ := map_some hi; cases hi; cases hc; done)
        | (obtain ⟨_, hi⟩ := cond_opt hi; obtain ⟨_, _, hi⟩ := map_some hi; cases hi; cases hc; done)
        | (obtain ⟨_, hi⟩ := cond_opt hi; (repeat' split at hi) <;> first | (cases hi; done) | (cases hi; cases hc; done)))
end Go.Ai
