/-
  The abstract interpreter: each of its instructions does what the model's operation does: reads, stores, new memory.
-/
import Derived.Test.YtclmkcmpfkmbpaaGreatDoorAi7
import Derived.Laws.MakeOwn
set_option linter.unusedSectionVars false
namespace Go.Ai
open Go

variable [Sig] [Know] [KOk]

variable {P : Program} {γ : Gm} {M M' : Mem} {W : World} {T : PM Value}

def TR (γ : Gm) (T : PM Value) (tmps : Array Value) : Prop := ∀ i, VR γ (tval T i) (tmps.getD i undef)

/-- An operation comes to a value, in a world that stands to the memory behind. -/
def Runs (P : Program) (s : Sem Next) (W : World) (γ : Gm) (M : Mem) (v : Value) (M' : Mem) : Prop :=
  ∃ cv W' γ', (s.run P W = .ok (.value cv) W' ∨ s.run P W = .ok .skip W' ∧ cv = undef) ∧ VR γ' v cv ∧ Rel γ' M' W' ∧ Ext γ M W γ' M' W'

theorem run_v {s : Sem Value} {cv : Value} {W W' : World} (h : s.run P W = .ok cv W') : (do pure (Next.value (← s)) : Sem Next).run P W = .ok (.value cv) W' := by
  rw [Sem.run_bind, h]; rfl
theorem run_u {s : Sem Unit} {W W' : World} (h : s.run P W = .ok () W') : (do s; pure Next.skip : Sem Next).run P W = .ok .skip W' := by
  rw [Sem.run_bind, h]; rfl

theorem Runs.pure {s : Sem Next} {v cv : Value} (h : s.run P W = .ok (.value cv) W) (hv : VR γ v cv) (hR : Rel γ M W) : Runs P s W γ M v M :=
  ⟨cv, W, γ, .inl h, hv, hR, Ext.refl γ M W⟩
theorem Runs.v {s : Sem Value} {v cv : Value} (h : s.run P W = .ok cv W) (hv : VR γ v cv) (hR : Rel γ M W) : Runs P (do Pure.pure (Next.value (← s))) W γ M v M :=
  Runs.pure (run_v h) hv hR

theorem opd_ev {x : Operand} {y : Opd} (h : opd x = some y) {a : Act} (hT : TR γ T a.tmps) : VR γ (y.ev T) (a.eval x) := by
  cases x with
  | tmp t => cases h; exact hT t
  | const v =>
    obtain ⟨h1, rfl⟩ := cond_some h
    exact plainV_VR γ v h1
  | func f => cases h; exact .func rfl (by intro i x y hx; simp at hx) rfl (by intro i x y hx; simp at hx)
  | global g => cases h

theorem opds_ev : ∀ {l : List Operand} {m : List Opd}, opds l = some m → ∀ {a : Act}, TR γ T a.tmps → LR γ (m.map (·.ev T)) (l.map a.eval)
  | [], m, h, a, hT => by cases h; trivial
  | x :: l, m, h, a, hT => by
    unfold opds at h
    split at h
    · rename_i y m' h1 h2
      cases h
      exact ⟨opd_ev h1 hT, opds_ev h2 hT⟩
    · cases h

theorem cells_toList (v : Value) : v.cells.toList = cellsL v := by cases v <;> rfl

/- Reading -/
theorem isNum_atom {z : Value} (h : isNum z = true) : atomV z = true := by cases z <;> first | rfl | cases h
theorem isNum_one {z : Value} (h : isNum z = true) : z.oneCell' = true := by cases z <;> first | rfl | cases h
theorem zarr_held {r s : Nat} {z : Value} {g : G} (h : ObjR γ M W g (.zer s z)) : Held γ W g (zarr s z r) ∧ (zarr s z r).es = g.es := by
  obtain ⟨h0, h1, hz, c, e, h2, h3, h4, h5⟩ := h
  have hlo : (Know.lo s : Int) ≤ c.size := by
    by_cases hp : 0 < Know.lo s
    · have := KOk.lo s hp; omega
    · omega
  refine ⟨⟨c, e, h2, by rw [h0, h4]; omega, by show Know.lo s ≤ g.room; omega, fun i v hi => ?_⟩, h1.symm⟩
  have hi' : (PM.ofList .lf (List.replicate (Know.lo s) z) 0).get i = some v := hi
  rw [PM.get_ofList, List.length_replicate] at hi'
  split at hi'
  · rename_i hc
    rw [Nat.sub_zero, List.getElem?_replicate, if_pos (by omega)] at hi'
    cases hi'
    refine ⟨by show i < Know.lo s; omega, isNum_one hz, z, ?_, .atom (isNum_atom hz)⟩
    rw [h0, Nat.zero_add]
    exact h5 i (by omega)
  · rw [PM.get_lf] at hi'; cases hi'
/-- A row of symbolic length is a row of which the first cells are known. -/
theorem rel_mat {r s : Nat} {z : Value} {g : G} (hR : Rel γ M W) (hr : γ r = some g) (hz : M.h.get r = some (.zer s z)) : Rel γ ⟨M.h.set r (.arr (zarr s z r)), M.nx, M.lw⟩ W := by
  refine ⟨hR.dom, ?_, ?_, ?_⟩
  · intro x gx hx
    obtain ⟨o, h1, h2⟩ := hR.obj x gx hx
    by_cases e : x = r
    · subst e
      rw [hr] at hx
      cases hx
      rw [hz] at h1
      cases h1
      obtain ⟨k1, k2⟩ := zarr_held (r := x) h2
      exact ⟨_, PM.set_same _ _ _, k2, fun _ => k1⟩
    · exact ⟨o, (PM.set_other _ _ e).trans h1, h2.keep (Le.refl γ) (fun _ _ hv => hv) rfl⟩
  · intro x y gx gy hx hy hne hb
    obtain ⟨a, a', k1, k2, k3⟩ := hR.alone x y gx gy hx hy hne hb
    have ex : x ≠ r := by rintro rfl; rw [hz] at k1; cases k1
    have ey : y ≠ r := by rintro rfl; rw [hz] at k2; cases k2
    exact ⟨a, a', (PM.set_other _ _ ex).trans k1, (PM.set_other _ _ ey).trans k2, k3⟩
  · intro x a hx ho
    by_cases e : x = r
    · subst e
      have : (M.h.set x (.arr (zarr s z x))).get x = some (.arr (zarr s z x)) := PM.set_same _ _ _
      rw [show (⟨M.h.set x (.arr (zarr s z x)), M.nx, M.lw⟩ : Mem).h = M.h.set x (.arr (zarr s z x)) from rfl, this] at hx
      cases hx
      cases ho
    · exact hR.svle x a ((PM.set_other _ _ e).symm.trans hx) ho
theorem ext_mat {r s : Nat} {z : Value} {g : G} (hr : γ r = some g) : Ext γ M W γ ⟨M.h.set r (.arr (zarr s z r)), M.nx, M.lw⟩ W :=
  ⟨Le.refl γ, fun _ _ h h' => some_none h h', Nat.le_refl _, fun x _ hn => PM.set_other _ _ (by rintro rfl; rw [hr] at hn; cases hn), Nat.le_refl _, fun _ _ _ => rfl, rfl, rfl, rfl, fun _ => rfl⟩
/-- A memory is what its objects are. -/
theorem rel_same {M1 : Mem} (hR : Rel γ M W) (hh : ∀ x, M1.h.get x = M.h.get x) (hn : M1.nx = M.nx) (hl : M1.lw = M.lw) : Rel γ M1 W := by
  have hlw : ∀ k, lwOf M1 k = lwOf M k := fun k => by unfold lwOf; rw [hl]
  refine ⟨fun x g hx => by rw [hn]; exact hR.dom x g hx, fun x g hx => ?_, fun x y gx gy hx hy hne hb => ?_, fun x a hx ho => by rw [hlw]; exact hR.svle x a ((hh x).symm.trans hx) ho⟩
  · obtain ⟨o, h1, h2⟩ := hR.obj x g hx
    refine ⟨o, (hh x).trans h1, h2.keep (Le.refl γ) (fun a _ hv => ?_) rfl⟩
    rw [valid_iff] at hv ⊢
    rw [hlw] at hv; exact hv
  · obtain ⟨a, a', k1, k2, k3⟩ := hR.alone x y gx gy hx hy hne hb
    refine ⟨a, a', (hh x).trans k1, (hh y).trans k2, k3.1, fun h => ?_⟩
    obtain ⟨m1, m2, m3⟩ := k3.2 h
    refine ⟨m1, m2, fun hv => m3 ?_⟩
    rw [valid_iff] at hv ⊢
    rw [hlw] at hv; exact hv
theorem arrOf_held {r : Nat} {g : G} {a : Arr} (hR : Rel γ M W) (hr : γ r = some g) (ha : arrOf M r = some a) : True ∧ Held γ W g a ∧ a.es = g.es := by
  obtain ⟨o, h1, h2⟩ := hR.obj r g hr
  unfold arrOf at ha
  rw [h1] at ha
  cases o with
  | arr a' =>
    obtain ⟨h3, rfl⟩ := cond_some ha
    exact ⟨trivial, h2.2 h3, h2.1⟩
  | map es c => cases ha
  | miter m s l k => cases ha
  | zer s z =>
    cases ha
    exact ⟨trivial, zarr_held h2⟩
theorem Held.cell {g : G} {a : Arr} (h : Held γ W g a) {i : Nat} {v : Value} (hi : a.cells.get i = some v) :
    ∃ u, W.cell? ⟨g.blk, g.base + i, none⟩ = some u ∧ VR γ v u ∧ v.oneCell' = true ∧ i < a.n := by
  obtain ⟨c, e, h1, h2, h3, h4⟩ := h
  obtain ⟨a1, a2, u, a3, a4⟩ := h4 i v hi
  exact ⟨u, (cell_of_row W g.blk (g.base + i) c e (0, 0) h1).trans a3, a4, a2, a1⟩
theorem readL_cells {g : G} {a : Arr} (h : Held γ W g a) : ∀ {n o : Nat} {l : List Value}, readL a.cells n o = some l →
    ∃ cl, LR γ l cl ∧ l.length = n ∧ (∀ (j : Nat) v, cl[j]? = some v → W.cell? ⟨g.blk, g.base + o + j, none⟩ = some v) ∧ (∀ v ∈ l, v.oneCell' = true) ∧ (n = 0 ∨ o + n ≤ a.n)
  | 0, o, l, hl => by cases hl; exact ⟨[], trivial, rfl, by simp, by simp, .inl rfl⟩
  | n + 1, o, l, hl => by
    unfold readL at hl
    split at hl
    · rename_i v hv
      split at hl
      · rename_i l' hl'
        cases hl
        obtain ⟨u, h1, h2, h3, h4⟩ := h.cell hv
        obtain ⟨cl, k1, k2, k3, k4, k5⟩ := readL_cells h hl'
        refine ⟨u :: cl, ⟨h2, k1⟩, by simp [k2], ?_, ?_, .inr (by omega)⟩
        · intro j w hj
          cases j with
          | zero => simp at hj; subst hj; exact h1
          | succ j =>
            have := k3 j w (by simpa using hj)
            rw [show g.base + o + (j + 1) = g.base + (o + 1) + j from by omega]
            exact this
        · intro w hw
          rcases List.mem_cons.1 hw with rfl | hw
          · exact h3
          · exact k4 w hw
      · cases hl
    · cases hl

theorem aggT_true {t : TypeId} (h : aggT P t = some true) : ∃ d, P.underlying t = some d ∧ d.isRow = true := by
  unfold aggT at h
  split at h
  · rename_i d hd; exact ⟨_, hd, rfl⟩
  · rename_i d hd; exact ⟨_, hd, rfl⟩
  · cases h
  · cases h
theorem aggT_false {t : TypeId} (h : aggT P t = some false) (W : World) : (isAgg t).run P W = .ok false W := by
  unfold aggT at h
  split at h
  · cases h
  · cases h
  · rename_i d hn1 hn2 hd
    unfold isAgg
    rw [Sem.run_bind, run_underlying hd W]
    cases d <;> first | rfl | exact (hn1 _ rfl).elim | exact (hn2 _ _ rfl).elim
  · cases h

theorem run_load_one {t : TypeId} (h : aggT P t = some false) {b o : Nat} {u : Value} (hc : W.cell? ⟨b, o, none⟩ = some u) :
    (Instr.loadAt t (.pointer (some ⟨b, o, none⟩))).run P W = .ok u W := by
  simp [Instr.loadAt, Instr.sureAddr, loadVar, aggT_false h, hc]

theorem load_runs {t : TypeId} {a : Act} {x : Operand} {y : Opd} {v : Value} (ht : aggT P t = some false) (hx : opd x = some y) (hT : TR γ T a.tmps) (hR : Rel γ M W) (h : step T M (.load y) = some (v, M')) :
    Runs P (do pure (Next.value (← Instr.loadAt t (a.eval x)))) W γ M v M' := by
  simp only [step] at h
  have hv := opd_ev hx hT
  split at h
  · rename_i r o he
    rw [he] at hv
    obtain ⟨g, hg, hc⟩ := hv.ptr_inv
    split at h
    · rename_i arr ha
      split at h
      · rename_i u hu
        cases h
        obtain ⟨_, hh, _⟩ := arrOf_held hR hg ha
        obtain ⟨cu, h1, h2, _⟩ := hh.cell hu
        rw [hc]
        exact Runs.v (run_load_one ht h1) h2 hR
      · cases h
    · cases h
  · cases h

theorem loadn_runs {t : TypeId} {n : Nat} {a : Act} {x : Operand} {y : Opd} {v : Value} (ht : aggT P t = some true) (hs : sizeT P t = some n) (hx : opd x = some y) (hT : TR γ T a.tmps) (hR : Rel γ M W)
    (h : step T M (.loadn n y) = some (v, M')) : Runs P (do pure (Next.value (← Instr.loadAt t (a.eval x)))) W γ M v M' := by
  simp only [step] at h
  have hv := opd_ev hx hT
  split at h
  · rename_i r o he
    rw [he] at hv
    obtain ⟨g, hg, hc⟩ := hv.ptr_inv
    split at h
    · rename_i arr ha
      split at h
      · rename_i l hl
        cases h
        obtain ⟨_, hh, _⟩ := arrOf_held hR hg ha
        obtain ⟨cl, h1, h2, h3, _⟩ := readL_cells hh hl
        obtain ⟨d, hd, hrow⟩ := aggT_true ht
        rw [hc]
        refine Runs.v (run_loadAt_mid W g.blk (g.base + o) t cl d h3 hd hrow (hs.trans ?_)) (VR.agg_list (by simpa using h1)) hR
        rw [← h1.length, h2]
      · cases h
    · cases h
  · cases h

/- Storing -/
theorem writeL_spec : ∀ {l : List Value} {c c' : PM Value} {i : Nat}, writeL c l i = some c' →
    (∀ v ∈ l, v.oneCell' = true) ∧ (∀ j, j < l.length → ∃ v, c.get (i + j) = some v) ∧ ∀ k, c'.get k = if i ≤ k ∧ k < i + l.length then l[k - i]? else c.get k
  | [], c, c', i, h => by cases h; exact ⟨by simp, by simp, fun k => by rw [if_neg (by rw [List.length_nil]; omega)]⟩
  | v :: l, c, c', i, h => by
    unfold writeL at h
    cases ho : v.oneCell' with
    | false => rw [ho] at h; cases h
    | true =>
      rw [ho] at h
      have h' : (match c.get i with | some _ => writeL (c.set i v) l (i + 1) | none => none) = some c' := h
      split at h'
      · rename_i w hw
        obtain ⟨h1, h2, h3⟩ := writeL_spec h'
        refine ⟨?_, ?_, ?_⟩
        · intro x hx
          rcases List.mem_cons.1 hx with rfl | hx
          · exact ho
          · exact h1 x hx
        · intro j hj
          cases j with
          | zero => exact ⟨w, hw⟩
          | succ j =>
            obtain ⟨u, hu⟩ := h2 j (by simpa using hj)
            rw [PM.set_other _ _ (by omega)] at hu
            exact ⟨u, by rw [show i + (j + 1) = i + 1 + j from by omega]; exact hu⟩
        · intro k
          rw [h3, PM.get_set, List.length_cons]
          by_cases hk : i + 1 ≤ k ∧ k < i + 1 + l.length
          · rw [if_pos hk, if_pos (by omega)]
            obtain ⟨m, rfl⟩ : ∃ m, k = i + 1 + m := ⟨k - (i + 1), by omega⟩
            rw [show i + 1 + m - (i + 1) = m from by omega, show i + 1 + m - i = m + 1 from by omega]; rfl
          · rw [if_neg hk]
            by_cases e : k = i
            · subst e
              rw [if_pos rfl, if_pos (by omega), Nat.sub_self]; rfl
            · rw [if_neg e, if_neg (by omega)]
      · cases h'

/-- The cells behind a store. -/
theorem seg_get {α : Type} (cur vs : List α) (o i : Nat) (h : o + vs.length ≤ cur.length) :
    (cur.take o ++ vs ++ cur.drop (o + vs.length))[i]? = if o ≤ i ∧ i < o + vs.length then vs[i - o]? else cur[i]? := by
  rw [List.append_assoc, List.getElem?_append, List.length_take, List.getElem?_append, List.getElem?_take, List.getElem?_drop]
  have hm : min o cur.length = o := by omega
  rw [hm]
  by_cases h1 : i < o
  · rw [if_pos h1, if_pos h1, if_neg (by omega)]
  · rw [if_neg h1]
    by_cases h2 : i - o < vs.length
    · rw [if_pos h2, if_pos (by omega)]
    · rw [if_neg h2, if_neg (by omega)]
      congr 1
      omega

theorem store_rel1 {r o : Nat} {g : G} {l cl : List Value} (hR : Rel γ M W) (hr : γ r = some g) (hl : LR γ l cl) (hpos : 0 < l.length) (hnz : ∀ s z, M.h.get r ≠ some (.zer s z)) (h : storeC M r o l = some M') :
    ∃ W', (storeCells ⟨g.blk, g.base + o, none⟩ cl).run P W = .ok () W' ∧ Rel γ M' W' ∧ Ext γ M W γ M' W' := by
  unfold storeC at h
  split at h
  · rename_i a ha
    obtain ⟨ho, h'⟩ := cond_opt h
    split at h'
    · rename_i c' hc'
      cases h'
      obtain ⟨h1, h2, h3⟩ := writeL_spec hc'
      obtain ⟨x, k1, k2⟩ := hR.obj r g hr
      rw [ha] at k1
      cases k1
      have hheld := k2.2 (by rw [valid_iff]; exact .inl ho)
      obtain ⟨cur, e, q1, q2, q3, q4⟩ := hheld
      obtain ⟨lv, hlv⟩ := h2 (l.length - 1) (by omega)
      obtain ⟨p1, _, _, _⟩ := q4 _ lv hlv
      have hlen := hl.length
      have hfit : g.base + o + cl.length ≤ cur.size := by omega
      have hrun := run_storeCells_at P g.blk (g.base + o) e cl 0 cur W q1 (by omega) (hl.one h1)
      simp only [Nat.add_zero] at hrun
      refine ⟨_, hrun, ?_⟩
      refine rel_store hR hr ha ho c' _ ?_
      refine ⟨_, e, setRow_heap W g.blk cur _ e (0, 0) q1, ?_, q3, ?_⟩
      · simp only [List.size_toArray, List.length_append, List.length_take, List.length_drop, Array.length_toList]
        omega
      · intro i v hi
        have hi' : (if o ≤ i ∧ i < o + l.length then l[i - o]? else a.cells.get i) = some v := (h3 i).symm.trans hi
        have hget : ((cur.toList.take (g.base + o) ++ cl ++ cur.toList.drop (g.base + o + cl.length)).toArray)[g.base + i]? =
            if g.base + o ≤ g.base + i ∧ g.base + i < g.base + o + cl.length then cl[g.base + i - (g.base + o)]? else cur.toList[g.base + i]? := by
          rw [List.getElem?_toArray]
          exact seg_get cur.toList cl (g.base + o) (g.base + i) (by simpa using hfit)
        split at hi'
        · rename_i hc
          obtain ⟨u, hu, hv⟩ := hl.get _ v hi'
          refine ⟨?_, h1 v (List.mem_of_getElem? hi'), u, ?_, hv⟩
          · show i < a.n
            omega
          · rw [hget, if_pos (by omega), show g.base + i - (g.base + o) = i - o from by omega]
            exact hu
        · rename_i hc
          obtain ⟨d1, d2, u, d3, d4⟩ := q4 i v hi'
          refine ⟨d1, d2, u, ?_, d4⟩
          rw [hget, if_neg (by omega)]
          simpa using d3
    · cases h'
  · rename_i s z hz; exact absurd hz (hnz s z)
  · cases h
theorem store_rel {r o : Nat} {g : G} {l cl : List Value} (hR : Rel γ M W) (hr : γ r = some g) (hl : LR γ l cl) (hpos : 0 < l.length) (h : storeC M r o l = some M') :
    ∃ W', (storeCells ⟨g.blk, g.base + o, none⟩ cl).run P W = .ok () W' ∧ Rel γ M' W' ∧ Ext γ M W γ M' W' := by
  by_cases hnz : ∀ s z, M.h.get r ≠ some (.zer s z)
  · exact store_rel1 hR hr hl hpos hnz h
  · have : ∃ s z, M.h.get r = some (.zer s z) := by
      cases hg : M.h.get r with
      | none => exact absurd (fun s z e => by rw [hg] at e; cases e) hnz
      | some ob =>
        cases ob with
        | zer s z => exact ⟨s, z, rfl⟩
        | arr a => exact absurd (fun s z e => by rw [hg] at e; cases e) hnz
        | map a b => exact absurd (fun s z e => by rw [hg] at e; cases e) hnz
        | miter a b c d => exact absurd (fun s z e => by rw [hg] at e; cases e) hnz
    obtain ⟨s, z, hz⟩ := this
    unfold storeC at h
    rw [hz] at h
    simp only at h
    split at h
    · rename_i c hc
      cases h
      have hset : (M.h.set r (.arr (zarr s z r))).get r = some (.arr (zarr s z r)) := PM.set_same _ _ _
      have hst : storeC ⟨M.h.set r (.arr (zarr s z r)), M.nx, M.lw⟩ r o l = some (putArr ⟨M.h.set r (.arr (zarr s z r)), M.nx, M.lw⟩ r { zarr s z r with cells := c }) := by
        unfold storeC
        simp only [hset]
        rw [hc]
        rfl
      obtain ⟨W', k1, k2, k3⟩ := store_rel1 (P := P) (rel_mat hR hr hz) hr hl hpos (fun s' z' e => by rw [hset] at e; cases e) hst
      refine ⟨W', k1, rel_same k2 (fun x => ?_) rfl rfl, ?_⟩
      · show (M.h.set r _).get x = ((M.h.set r _).set r _).get x
        rw [PM.get_set, PM.get_set]
        split
        · rfl
        · rename_i e; rw [PM.set_other _ _ e]
      · have hE := (ext_mat (M := M) (W := W) (s := s) (z := z) hr).trans k3
        exact ⟨hE.le, hE.new, hE.nx, fun x hx hn => PM.set_other _ _ (by rintro rfl; rw [hr] at hn; cases hn), hE.size, hE.frame, hE.tape, hE.os, hE.output, hE.froz⟩
    · cases h

theorem sizeT_run {t : TypeId} {n : Nat} (h : sizeT P t = some n) (W : World) : (sizeOf t).run P W = .ok n W := by
  unfold sizeT at h
  cases hi : P.info? t with
  | none => rw [hi] at h; cases h
  | some i => rw [hi] at h; cases h; simp [sizeOf, typeInfo, hi]

theorem store_runs {t : TypeId} {n : Nat} {a : Act} {x y : Operand} {x' y' : Opd} {v : Value} (hs : sizeT P t = some (n + 1)) (hx : opd x = some x') (hy : opd y = some y') (hT : TR γ T a.tmps) (hR : Rel γ M W)
    (h : step T M (.store (n + 1) x' y') = some (v, M')) : Runs P (do Instr.storeAt t (a.eval x) (a.eval y); pure .skip) W γ M v M' := by
  simp only [step] at h
  have hvx := opd_ev hx hT
  have hvy := opd_ev hy hT
  split at h
  · rename_i r o he
    rw [he] at hvx
    obtain ⟨g, hg, hc⟩ := hvx.ptr_inv
    obtain ⟨hb, h'⟩ := cond_opt h
    have hlen := Nat.eq_of_beq_eq_true hb
    split at h'
    · rename_i M2 hM2
      cases h'
      obtain ⟨W', h1, h2, h3⟩ := store_rel (P := P) hR hg hvy.cells (by omega) hM2
      refine ⟨undef, W', γ, .inr ⟨run_u ?_, rfl⟩, VR.undef γ, h2, h3⟩
      have hl2 : (a.eval y).cells.size = n + 1 := by
        rw [← Array.length_toList, cells_toList, ← hvy.cells.length, hlen]
      simp only [hc, Instr.storeAt, Instr.sureAddr, storeVar, Sem.run_bind, Sem.run_pure, Result.andThen_ok, sizeT_run hs]
      rw [hl2, cells_toList]
      simpa using h1
    · cases h'
  · cases h

/- New memory -/
theorem zeroT_spec {t : TypeId} {z : Value} (h : zeroT P t = some z) : ∃ i, P.info? t = some i ∧ i.zero = some z ∧ plainV z = true := by
  unfold zeroT at h
  split at h
  · rename_i i hi
    split at h
    · rename_i z' hz
      obtain ⟨h1, rfl⟩ := cond_some h
      exact ⟨i, hi, hz, h1⟩
    · cases h
  · cases h
theorem zeroT_run {t : TypeId} {z : Value} (h : zeroT P t = some z) (W : World) : (zeroValue t).run P W = .ok z W := by
  obtain ⟨i, hi, hz, _⟩ := zeroT_spec h
  simp [zeroValue, typeInfo, hi, hz]

theorem newRow_run (e : TypeId) (c : Array Value) (W : World) : (newRow e c).run P W = .ok ⟨W.heap.size, 0, none⟩ (W.alloc (.cells c e)) := by
  simp [newRow]

theorem new_runs {e : TypeId} {z : Value} {es : Nat} {v : Value} (hz : zeroT P e = some z) (hR : Rel γ M W) (h : step T M (.new es (cellsL z)) = some (v, M')) :
    Runs P (do pure (Next.value (← Instr.alloc e true (.tuple #[])))) W γ M v M' := by
  simp only [step] at h
  split at h
  · rename_i r M2 hn
    cases h
    obtain ⟨_, _, _, hp⟩ := zeroT_spec hz
    obtain ⟨rfl, h1, h2⟩ := newArr_rel hR hn (plainV_VR γ z hp).cells e
    refine ⟨.pointer (some ⟨W.heap.size, 0, none⟩), _, _, .inl (run_v ?_), .ptr (upd_same _ _ _), h1, h2⟩
    simp only [Instr.alloc, newVar, Sem.run_bind, zeroT_run hz, Result.andThen_ok, newRow_run, Sem.run_pure]
    rw [← cells_toList]
  · cases h

theorem box_runs {e : TypeId} {a : Act} {x : Operand} {x' : Opd} {v : Value} (hx : opd x = some x') (hT : TR γ T a.tmps) (hR : Rel γ M W) (h : step T M (.box x') = some (v, M')) :
    Runs P (do pure (Next.value (← Instr.box e (a.eval x)))) W γ M v M' := by
  simp only [step] at h
  split at h
  · rename_i r M2 hn
    cases h
    obtain ⟨rfl, h1, h2⟩ := newArr_rel hR hn (opd_ev hx hT).cells e
    refine ⟨.pointer (some ⟨W.heap.size, 0, none⟩), _, _, .inl (run_v ?_), .ptr (upd_same _ _ _), h1, h2⟩
    simp only [Instr.box, newVar, Sem.run_bind, Result.andThen_ok, newRow_run, Sem.run_pure]
    rw [← cells_toList]
  · cases h

/- Aggregates -/
theorem LR.set : ∀ {l m : List Value} (_ : LR γ l m) {a b : Value} (_ : VR γ a b) (i : Nat), LR γ (l.set i a) (m.set i b)
  | [], [], _, _, _, _, _ => trivial
  | _ :: _, _ :: _, h, _, _, k, 0 => ⟨k, h.2⟩
  | _ :: _, _ :: _, h, _, _, k, i + 1 => ⟨h.1, LR.set h.2 k i⟩
  | [], _ :: _, h, _, _, _, _ => h.elim
  | _ :: _, [], h, _, _, _, _ => h.elim
theorem LR.overlay : ∀ {l m : List Value} (_ : LR γ l m) {z cz : List Value} (_ : LR γ z cz) (o : Nat), LR γ (overlay z o l) (overlay cz o m)
  | [], [], _, _, _, k, _ => k
  | _ :: _, _ :: _, h, _, _, k, o => LR.overlay h.2 (k.set h.1 o) (o + 1)
  | [], _ :: _, h, _, _, _, _ => h.elim
  | _ :: _, [], h, _, _, _, _ => h.elim
theorem foldl_overlay : ∀ (l : List Value) (k off : Nat) (cs : Array Value), ((l.zipIdx k).foldl (fun cs (x : Value × Nat) => cs.setIfInBounds (off + x.2) x.1) cs).toList = overlay cs.toList (off + k) l
  | [], _, _, _ => rfl
  | v :: l, k, off, cs => by
    rw [List.zipIdx_cons, List.foldl_cons, foldl_overlay l (k + 1) off]
    simp [overlay, Nat.add_assoc]

def PartsR (place : Nat → Option (Nat × Nat)) : List (Nat × Operand) → List (Nat × Nat × Opd) → Prop
  | [], [] => True
  | (i, x) :: ps, (off, size, y) :: qs => place i = some (off, size) ∧ opd x = some y ∧ PartsR place ps qs
  | _, _ => False

theorem fill_run {place : Nat → Option (Nat × Nat)} {a : Act} (hT : TR γ T a.tmps) : ∀ {ps : List (Nat × Operand)} {qs : List (Nat × Nat × Opd)}, PartsR place ps qs →
    ∀ {z l : List Value} {cz : Array Value}, LR γ z cz.toList → fillL T z qs = some l → ∃ cl, Instr.fill place cz (ps.map fun p => (p.1, a.eval p.2)) = some cl ∧ LR γ l cl.toList
  | [], [], _, z, l, cz, hz, h => by cases h; exact ⟨cz, rfl, hz⟩
  | (i, x) :: ps, (off, size, y) :: qs, hp, z, l, cz, hz, h => by
    obtain ⟨h1, h2, h3⟩ := hp
    unfold fillL at h
    have hv := opd_ev h2 hT
    cases hb : (Nat.beq (cellsL (y.ev T)).length size && Nat.ble (off + size) z.length) with
    | false => simp only [hb] at h; cases h
    | true =>
      simp only [hb] at h
      have h' : fillL T (overlay z off (cellsL (y.ev T))) qs = some l := h
      rw [Bool.and_eq_true, Nat.ble_eq] at hb
      have hlen := Nat.eq_of_beq_eq_true hb.1
      have e1 : (a.eval x).cells.size = size := by rw [← Array.length_toList, cells_toList, ← hv.cells.length, hlen]
      have e2 : z.length = cz.size := by rw [hz.length]; simp
      have e3 : ((a.eval x).cells.zipIdx.foldl (fun cs (x : Value × Nat) => cs.setIfInBounds (off + x.2) x.1) cz).toList = overlay cz.toList off (cellsL (a.eval x)) := by
        rw [← Array.foldl_toList, Array.toList_zipIdx, foldl_overlay, cells_toList]; rfl
      obtain ⟨cl, k1, k2⟩ := fill_run hT h3 (z := overlay z off (cellsL (y.ev T))) (cz := (a.eval x).cells.zipIdx.foldl (fun cs (x : Value × Nat) => cs.setIfInBounds (off + x.2) x.1) cz)
        (by rw [e3]; exact hv.cells.overlay hz off) h'
      refine ⟨cl, ?_, k2⟩
      simp only [List.map_cons, Instr.fill, h1]
      rw [e1]
      have c : ¬ ((size ≠ size || off + size > cz.size) = true) := by
        simp; omega
      rw [if_neg c]
      exact k1
  | [], _ :: _, hp, _, _, _, _, _ => hp.elim
  | _ :: _, [], hp, _, _, _, _, _ => hp.elim
end Go.Ai
