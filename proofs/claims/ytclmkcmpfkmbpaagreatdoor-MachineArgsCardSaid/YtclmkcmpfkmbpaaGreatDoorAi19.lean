/-
  The abstract interpreter: regions that draw their order.
-/
import Derived.Test.YtclmkcmpfkmbpaaGreatDoorAi18
set_option linter.unusedSectionVars false
namespace Go.Ai
open Go

variable [Sig] [Know] [KOk]

section
variable {P : Program} {D : List Deferred} {nt : Nat} {ops : Array Oper} {bs : Array Nat} {ds : List (Nat × DO)} {call : Nat → List Value → Mem → RC}

theorem ext_add {γ : Gm} (M : Mem) (W : World) (o : AO) : Ext γ M W γ ⟨M.h.set M.nx o, M.nx + 1, M.lw⟩ W :=
  ⟨Le.refl γ, fun _ _ h h' => some_none h h', Nat.le_succ _, fun _ hr _ => PM.set_other _ _ (Nat.ne_of_lt hr), Nat.le_refl _, fun _ _ _ => rfl, rfl, rfl, rfl, fun _ => rfl⟩

theorem ext_real {γ0 γ : Gm} {M0 M : Mem} {W0 W : World} (h : Ext γ0 M0 W0 γ M W) {r : Nat} {g : G} (hr : γ r = none) (hlo : M0.nx ≤ r) (hg : g.blk = W.heap.size) (ob : Obj) (hth : Thaw (some ob)) : Ext γ0 M0 W0 (upd γ r g) M (W.alloc ob) := by
  refine ⟨h.le.trans (le_upd g hr), ?_, h.nx, h.quiet, by have := h.size; simp; omega, fun b hb hn => (heap_alloc_old W ob b (Nat.lt_of_lt_of_le hb h.size)).trans (h.frame b hb hn), h.tape, h.os, h.output, fun a => (froz_alloc W hth a).trans (h.froz a)⟩
  intro x gx hx hn
  by_cases e : x = r
  · subst e
    rw [upd_same] at hx
    cases hx
    exact ⟨hlo, .inl (by rw [hg]; exact h.size)⟩
  · rw [upd_other γ g e] at hx
    exact h.new x gx hx hn

theorem op_comp (F : Fit P nt ops bs ds) {x : Nat × DO} (hx : x ∈ ds) : ∃ o, ops[x.1]? = some o ∧ guardOf ops o.guard = some x.2.io.g ∧ dstOk nt o.dst = true ∧ x.2.io.dst = o.dst ∧ (x.2.io.i = .bad ∨ compI P o = some x.2.io.i) := by
  obtain ⟨o, h1, h2⟩ := F.op x hx
  obtain ⟨k1, k2, k3, k4⟩ := compO_spec h2
  exact ⟨o, h1, k1, k2, k3, k4⟩

theorem runDraw_cons (call : Nat → List Value → Mem → RC) (d : DO) (l : List DO) (e : Nat) (ls : List (Nat × I × PM Value × Value)) (T : PM Value) (M : Mem) (h : Nat.beq d.cls 3 = false) : runDraw call (d :: l) e ls T M =
    bif wanted T d.io.g then
      (match step T M d.io.i with
      | some (v, M') => runDraw call l e (bif Nat.beq d.cls 1 then (d.la, d.io.i, T, v) :: ls else ls) (put T d.io.dst v) M'
      | none => .bad)
    else runDraw call l e ls (put T d.io.dst undef) M := by
  rw [runDraw, h, cond_false]
  rfl

theorem flush (F : Fit P nt ops bs ds) {γ0 γ : Gm} {M0 : Mem} {W0 w : World} {TD : PM Value} {listed : Array Bool} {K : Nat} :
    ∀ (l pre : List (Nat × DO)) (ls : List (Nat × I × PM Value × Value)) (T : PM Value) (M : Mem) (Pd : List PE), Inv ops bs ds pre l ls T M Pd listed TD γ → Rel γ M w → Ext γ0 M0 W0 γ M w →
      K ≤ M.nx → (∀ p ∈ Pd, K ≤ p.M.nx) → runDraw call (l.map (·.2)) (acts pre).length ls T M ≠ .bad →
      ∃ pre' l' ls' T' M' Pd', Inv ops bs ds pre' l' ls' T' M' Pd' listed TD γ ∧ Rel γ M' w ∧ Ext γ0 M0 W0 γ M' w ∧ (∀ x l2, l' = x :: l2 → x.2.cls = 3) ∧ (∀ p ∈ Pd', K ≤ p.M.nx) ∧
        runDraw call (l'.map (·.2)) (acts pre').length ls' T' M' = runDraw call (l.map (·.2)) (acts pre).length ls T M ∧ Pd'.length + l'.length = Pd.length + l.length
  | [], pre, ls, T, M, Pd, h, hR, hE, _, hlow, _ => ⟨pre, [], ls, T, M, Pd, h, hR, hE, (fun x l2 e => by cases e), hlow, rfl, rfl⟩
  | x :: l, pre, ls, T, M, Pd, h, hR, hE, hK, hlow, hb => by
    by_cases hc : x.2.cls = 3
    · exact ⟨pre, x :: l, ls, T, M, Pd, h, hR, hE, (fun y l2 e => by cases e; exact hc), hlow, rfl, rfl⟩
    · have hmem : x ∈ ds := by rw [h.split]; simp
      have hact : acts (pre ++ [x]) = acts pre := by rw [acts_append, acts_one, if_neg hc, List.append_nil]
      have hcb : Nat.beq x.2.cls 3 = false := by
        cases e : Nat.beq x.2.cls 3 with
        | false => rfl
        | true => exact absurd (Nat.eq_of_beq_eq_true e) hc
      rw [List.map_cons] at hb ⊢
      rw [runDraw_cons call _ _ _ _ _ _ hcb] at hb ⊢
      have fin : ∀ {v : Value} {M' : Mem} {ls' : List (Nat × I × PM Value × Value)}, M.nx ≤ M'.nx → (∀ r, r < M.nx → M'.h.get r = M.h.get r) → (∀ y ∈ ls, y ∈ ls') → Pend γ M' ls' ⟨x.1, x.2, T, v, M, M'⟩ → Rel γ M' w → Ext γ0 M0 W0 γ M' w →
          runDraw call (l.map (·.2)) (acts pre).length ls' (put T x.2.io.dst v) M' ≠ .bad →
          ∃ pre2 l2 ls2 T2 M2 Pd2, Inv ops bs ds pre2 l2 ls2 T2 M2 Pd2 listed TD γ ∧ Rel γ M2 w ∧ Ext γ0 M0 W0 γ M2 w ∧ (∀ x l3, l2 = x :: l3 → x.2.cls = 3) ∧ (∀ p ∈ Pd2, K ≤ p.M.nx) ∧
            runDraw call (l2.map (·.2)) (acts pre2).length ls2 T2 M2 = runDraw call (l.map (·.2)) (acts pre).length ls' (put T x.2.io.dst v) M' ∧ Pd2.length + l2.length = Pd.length + (x :: l).length := by
        intro v M' ls' h1 h2 h3 h4 h5 h6 h7
        have hI := inv_wait F h hc h1 h2 h3 h4
        rw [← hact] at h7
        obtain ⟨p', l', ls2, T', M2, Pd', k1, k2, k3, k4, k5, k6, k7⟩ := flush F l _ _ _ _ _ hI h5 h6 (Nat.le_trans hK h1) (by
          intro p hp
          rcases List.mem_cons.1 hp with rfl | hp
          · exact hK
          · exact hlow p hp) h7
        refine ⟨p', l', ls2, T', M2, Pd', k1, k2, k3, k4, k5, by rw [← hact]; exact k6, ?_⟩
        rw [k7, List.length_cons, List.length_cons]; omega
      cases hw : wanted T x.2.io.g with
      | false =>
        rw [hw, cond_false] at hb
        simp only [cond_false]
        exact fin (Nat.le_refl _) (fun _ _ => rfl) (fun _ hy => hy) (.inl ⟨hw, rfl⟩) hR hE hb
      | true =>
        rw [hw, cond_true] at hb
        simp only [cond_true]
        obtain ⟨o, ho, _, _, _, hi⟩ := op_comp F hmem
        have hcls := F.cls x hmem
        have hi' : compI P o = some x.2.io.i := hi.resolve_left (by
          intro e; rw [e] at hcls; exact hc hcls)
        cases hst : step T M x.2.io.i with
        | none => rw [hst] at hb; exact absurd rfl hb
        | some vm =>
          obtain ⟨v, M'⟩ := vm
          rw [hst] at hb
          have hc' : x.2.cls = 0 ∨ x.2.cls = 1 ∨ x.2.cls = 2 := by
            rw [hcls] at hc ⊢
            generalize x.2.io.i = i at hc ⊢
            cases i <;> simp [clsI] at hc ⊢
          rcases hc' with hc0 | hc1 | hc2
          · obtain ⟨e, _⟩ := cls0_step (hcls ▸ hc0) hst
            subst e
            refine fin (Nat.le_refl _) (fun _ _ => rfl) (fun y hy => ?_) (.inr ⟨hw, hst, fun e => ?_, fun e => ?_⟩) hR hE hb
            · rw [hc0]; exact hy
            · rw [show x.2.cls = 1 from e] at hc0; cases hc0
            · rw [show x.2.cls = 2 from e] at hc0; cases hc0
          · have e := cls1_step (hcls ▸ hc1) hst
            subst e
            refine fin (Nat.le_refl _) (fun _ _ => rfl) (fun y hy => ?_) (.inr ⟨hw, hst, fun e => ?_, fun e => ?_⟩) hR hE hb
            · rw [hc1]; exact List.mem_cons_of_mem _ hy
            · rw [hc1]; exact List.mem_cons_self
            · rw [show x.2.cls = 2 from e] at hc1; cases hc1
          · obtain ⟨ob, rfl, hmk, _⟩ := make_step (hcls ▸ hc2) hi' hst
            refine fin (Nat.le_succ _) (fun r hr => PM.set_other _ _ (Nat.ne_of_lt hr)) (fun y hy => ?_) (.inr ⟨hw, hst, fun e => ?_, fun _ => ⟨hR.fresh (Nat.le_refl _), Nat.lt_succ_self _, rfl⟩⟩) (rel_add hR ob hmk) (hE.trans (ext_add M w ob)) hb
            · rw [hc2]; exact hy
            · rw [show x.2.cls = 1 from e] at hc2; cases hc2

theorem still_mem {M : Mem} {e : Nat} : ∀ {ls : List (Nat × I × PM Value × Value)}, still M e ls = true → ∀ {la : Nat} {i : I} {T : PM Value} {v : Value}, (la, i, T, v) ∈ ls → e ≤ la → ∃ M2, step T M i = some (v, M2)
  | [], _, _, _, _, _, h, _ => by cases h
  | (la', i', T', v') :: ls, hs, la, i, T, v, h, hle => by
    unfold still at hs
    rcases List.mem_cons.1 h with h | h
    · have hle' : Nat.ble e la = true := Nat.ble_eq_true_of_le hle
      cases h
      rw [hle', cond_true] at hs
      split at hs
      · rename_i u M2 hst
        have h1 : veq u v' = true := by
          cases hv : veq u v' with
          | true => rfl
          | false => rw [hv] at hs; cases hs
        exact ⟨M2, by rw [hst, veq_eq h1]⟩
      · cases hs
    · refine still_mem (ls := ls) ?_ h hle
      cases hb : Nat.ble e la' with
      | false => rw [hb, cond_false] at hs; exact hs
      | true =>
        rw [hb, cond_true] at hs
        split at hs
        · rename_i u M2 hst
          cases hv : veq u v' with
          | true => rw [hv] at hs; exact hs
          | false => rw [hv] at hs; cases hs
        · cases hs

theorem none_ready (F : Fit P nt ops bs ds) {listed : Array Bool} (hs : listed.size = ops.size) (h : Region.ready .any ops listed = []) : ∀ n j, j < n → j < ops.size → listed.getD j true = true
  | 0, _, hn, _ => absurd hn (Nat.not_lt_zero _)
  | n + 1, j, hn, hj => by
    cases hl : listed.getD j true with
    | true => rfl
    | false =>
      have : j ∈ Region.ready .any ops listed := mem_ready.2 ⟨hl, ops[j], Array.getElem?_eq_getElem hj, fun e he hb => by
        have hlt := F.down j ops[j] (Array.getElem?_eq_getElem hj) e he hb
        have := none_ready F hs h n e.on (by omega) (by omega)
        have hs' : e.on < listed.size := by omega
        simp only [Array.getD_eq_getD_getElem?, Array.getElem?_eq_getElem hs', Option.getD_some] at this ⊢
        exact this⟩
      rw [h] at this
      cases this

theorem slotsO_i {o : Itm} {s : Nat} (h : s ∈ slotsI o.i) : s ∈ slotsO o := List.mem_append_left _ h
theorem slotsO_wanted {o : Itm} {T T' : PM Value} (h : ∀ s ∈ slotsO o, tval T s = tval T' s) : wanted T o.g = wanted T' o.g :=
  wanted_congr fun s hs => h s (List.mem_append_right _ hs)

theorem draw_run (hc : CallsOk P call) (F : Fit P nt ops bs ds) {Q : Exit → Act → World → Prop} {γ0 : Gm} {M0 : Mem} {W0 : World} {r : R} (hr : r ≠ .bad) (hq : ∀ e a w, After D γ0 M0 W0 nt r e a w → Q e a w) :
    ∀ (fuel : Nat) (pre l : List (Nat × DO)) (ls : List (Nat × I × PM Value × Value)) (T : PM Value) (M : Mem) (Pd : List PE) (listed : Array Bool) (TD : PM Value) (γ : Gm) (a : Act) (w : World),
      Inv ops bs ds pre l ls T M Pd listed TD γ → (∀ x l2, l = x :: l2 → x.2.cls = 3) → (∀ p ∈ Pd, M0.nx ≤ p.M.nx) → Rel γ M w → Ext γ0 M0 W0 γ M w → TR γ TD a.tmps → a.tmps.size = nt → a.defers = D →
      runDraw call (l.map (·.2)) (acts pre).length ls T M = r → Pd.length + l.length ≤ fuel → wpAny P .any ops Q fuel listed a w := by
  intro fuel
  have done : ∀ (pre l : List (Nat × DO)) (ls : List (Nat × I × PM Value × Value)) (T : PM Value) (M : Mem) (Pd : List PE) (listed : Array Bool) (TD : PM Value) (γ : Gm) (a : Act) (w : World),
      Inv ops bs ds pre l ls T M Pd listed TD γ → Rel γ M w → Ext γ0 M0 W0 γ M w → TR γ TD a.tmps → a.tmps.size = nt → a.defers = D →
      runDraw call (l.map (·.2)) (acts pre).length ls T M = r → Region.ready .any ops listed = [] → Q .normal a w := by
    intro pre l ls T M Pd listed TD γ a w h hR hE hT hs hd hrun hre
    have all := none_ready F h.size hre
    have hP : ∀ p ∈ Pd, False := by
      intro p hp
      have hj : p.i < ops.size := fit_lt F (x := (p.i, p.d)) (by rw [h.split]; exact List.mem_append_left _ (h.frm p hp))
      exact (not_un (h := h) hj (all _ p.i (Nat.lt_succ_self _) hj)).1 p hp rfl
    have hl : l = [] := by
      cases l with
      | nil => rfl
      | cons x l =>
        have hj : x.1 < ops.size := fit_lt F (x := x) (by rw [h.split]; simp)
        exact absurd rfl ((not_un (h := h) hj (all _ x.1 (Nat.lt_succ_self _) hj)).2 x List.mem_cons_self)
    subst hl
    rw [List.map_nil] at hrun
    unfold runDraw at hrun
    cases hst : still M (acts pre).length ls with
    | false => rw [hst] at hrun; exact absurd hrun.symm hr
    | true =>
      rw [hst, cond_true] at hrun
      rw [← hrun] at hq
      refine hq .normal a w ⟨hd, hs, γ, fun i => ?_, hR, hE⟩
      rw [← h.same i fun p hp => (hP p hp).elim]
      exact hT i
  induction fuel with
  | zero =>
    intro pre l ls T M Pd listed TD γ a w h hh hlow hR hE hT hs hd hrun hf
    have hre : Region.ready .any ops listed = [] := by
      cases hre : Region.ready .any ops listed with
      | nil => rfl
      | cons j js =>
        have hj : j ∈ Region.ready .any ops listed := by rw [hre]; exact List.mem_cons_self
        obtain ⟨h1, h2, _⟩ := ready_bits F h hj
        rcases (h.un j h1).1 h2 with ⟨p, hp, _⟩ | ⟨x, hx, _⟩
        · have := List.length_pos_of_mem hp; omega
        · have := List.length_pos_of_mem hx; omega
    exact ⟨hre, done pre l ls T M Pd listed TD γ a w h hR hE hT hs hd hrun hre⟩
  | succ fuel ih =>
    intro pre l ls T M Pd listed TD γ a w h hh hlow hR hE hT hs hd hrun hf
    refine ⟨done pre l ls T M Pd listed TD γ a w h hR hE hT hs hd hrun, fun j hj => ?_⟩
    obtain ⟨hjlt, hjun, hjb⟩ := ready_bits F h hj
    have hstill : still M (acts pre).length ls = true := by
      cases l with
      | nil =>
        rw [List.map_nil] at hrun
        unfold runDraw at hrun
        cases hst : still M (acts pre).length ls with
        | false => rw [hst] at hrun; exact absurd hrun.symm hr
        | true => rfl
      | cons x l =>
        rw [List.map_cons] at hrun
        unfold runDraw at hrun
        rw [hh x l rfl] at hrun
        cases hst : still M (acts pre).length ls with
        | false => rw [hst] at hrun; exact absurd hrun.symm hr
        | true => rfl
    have hpmem : ∀ p ∈ Pd, (p.i, p.d) ∈ ds := fun p hp => by rw [h.split]; exact List.mem_append_left _ (h.frm p hp)
    have hnb : ∀ p ∈ Pd, ¬ Bt bs j p.i := fun p hp hbt => (not_un (h := h) (fit_lt F (hpmem p hp)) (hjb _ hbt)).1 p hp rfl
    rcases (h.un j hjlt).1 hjun with ⟨z, hz, rfl⟩ | ⟨x, hx, rfl⟩
    · -- one that waited
      obtain ⟨o, ho, hg, hdst, hde, hi⟩ := op_comp F (hpmem z hz)
      have hsl : ∀ s ∈ slotsO z.d.io, tval TD s = tval z.T s := fun s hs' => h.own z hz s hs' fun y hy _ => hnb y hy
      have hw := wanted_eq (o := o) hT hg
      rw [slotsO_wanted hsl] at hw
      have go : ∀ {cv : Value} {W' : World} {γ' : Gm}, VR γ' z.v cv → Rel γ' M W' → Ext γ0 M0 W0 γ' M W' → Le γ γ' →
          (∀ p ∈ Pd, p.i ≠ z.i → p.d.cls = 2 → wanted p.T p.d.io.g = true → γ p.M.nx = none → γ' p.M.nx = none) → wpAny P .any ops Q fuel (listed.setIfInBounds z.i true) (a.put o.dst cv) W' := by
        intro cv W' γ' hv hR' hE' hle hγ
        obtain ⟨p1, p2, p3⟩ := (hT.mono hle).put hs hdst hv
        have hI := inv_pick F h hz hjb hγ
        rw [hde] at hI
        refine ih pre l ls T M _ _ _ γ' _ W' hI hh (fun p hp => hlow p (List.mem_filter.1 hp).1) hR' hE' p1 p2 (p3.trans hd) hrun ?_
        have : (Pd.filter (fun p => p.i != z.i)).length < Pd.length := List.length_filter_lt_length_iff_exists.2 ⟨z, hz, by simp⟩
        omega
      have goE : ∀ {cv : Value} {W' : World} {γ' : Gm}, VR γ' z.v cv → Rel γ' M W' → Ext γ M w γ' M W' → wpAny P .any ops Q fuel (listed.setIfInBounds z.i true) (a.put o.dst cv) W' := by
        intro cv W' γ' hv hR' hE'
        refine go hv hR' (hE.trans hE') hE'.le fun p hp _ hc2 hw2 hn => ?_
        rcases h.pend p hp with ⟨k, _⟩ | ⟨_, _, _, k4⟩
        · have k' : wanted p.T p.d.io.g = false := k
          rw [hw2] at k'; cases k'
        · cases hg : γ' p.M.nx with
          | none => rfl
          | some g =>
            have := (hE'.new _ g hg hn).1
            have := (k4 hc2).2.1
            omega
      unfold wpOp
      have ho' : ops[z.i]? = some o := ho
      simp only [ho']
      rcases h.pend z hz with ⟨k1, k2⟩ | ⟨k1, k2, k3, k4⟩
      · rw [k1] at hw
        rw [if_neg (by rw [hw]; simp)]
        refine goE ?_ hR (Ext.refl γ M w)
        rw [k2]; exact VR.undef γ
      · rw [k1] at hw
        rw [if_pos hw]
        refine .inl ?_
        have hcls := F.cls _ (hpmem z hz)
        have hlow3 := h.low z hz
        have hi' : compI P o = some z.d.io.i := hi.resolve_left (by
          intro e
          have e' : z.d.io.i = .bad := e
          have hcls' : z.d.cls = clsI z.d.io.i := hcls
          rw [e'] at hcls'; exact hlow3 hcls')
        have hncall : ∀ f xs, z.d.io.i ≠ .call f xs := by
          intro f xs e
          have hcls' : z.d.cls = clsI z.d.io.i := hcls
          rw [e] at hcls'; exact hlow3 hcls'
        have hcg : ∀ N, step TD N z.d.io.i = step z.T N z.d.io.i := fun N => step_congr fun s hs' => hsl s (slotsO_i hs')
        have hc' : z.d.cls = 0 ∨ z.d.cls = 1 ∨ z.d.cls = 2 := by
          have hcls' : z.d.cls = clsI z.d.io.i := hcls
          rw [hcls'] at hlow3 ⊢
          generalize z.d.io.i = i at hlow3 ⊢
          cases i <;> simp [clsI] at hlow3 ⊢
        have hcls' : z.d.cls = clsI z.d.io.i := hcls
        rcases hc' with hc0 | hc1 | hc2
        · obtain ⟨_, hall⟩ := cls0_step (hcls' ▸ hc0) k2
          have hst : step TD M z.d.io.i = some (z.v, M) := (hcg M).trans (hall M)
          exact (step_run hi' hncall hT hR hst).wp fun cv W' γ' hv hR' hE' => goE hv hR' hE'
        · obtain ⟨M2, hst⟩ := still_mem hstill (k3 hc1) (h.la z hz hc1)
          have e := cls1_step (hcls' ▸ hc1) hst
          subst e
          exact (step_run hi' hncall hT hR ((hcg _).trans hst)).wp fun cv W' γ' hv hR' hE' => goE hv hR' hE'
        · obtain ⟨m1, m2, m3⟩ := k4 hc2
          obtain ⟨ob, hM', hown, hmk⟩ := make_step (hcls' ▸ hc2) hi' ((hcg z.M).trans k2)
          obtain ⟨cv, cob, g, hgb, hex, hob, hv⟩ := hmk γ a w hT m1
          have hget : M.h.get z.M.nx = some ob := by
            rw [m3, hM']; exact PM.set_same _ _ _
          have hth : Thaw (some cob) := by
            have := (hob M).thaw (fun a e => valid_own (hown a e))
            rw [hgb, heap_alloc_new] at this
            exact this
          unfold Oper.wp
          rw [hex, Oper.upon_value]
          refine go hv (rel_real hR m1 m2 hget cob g hgb (hob M)) (ext_real hE m1 (hlow z hz) hgb cob hth) (le_upd g m1) fun p hp hne hc2' hw2 hn => ?_
          rw [upd_other γ g (h.apart p hp z hz hne hc2' hc2 hw2 k1)]
          exact hn
    · -- an act
      have hl : ∃ l2, l = x :: l2 := by
        cases l with
        | nil => cases hx
        | cons y l2 =>
          rcases List.mem_cons.1 hx with rfl | hx'
          · exact ⟨l2, rfl⟩
          · have ho : (y :: l2).Pairwise _ := (List.pairwise_append.1 (h.split ▸ F.ord)).2.1
            have hb := ((List.pairwise_cons.1 ho).1 x hx').2.2.1 (hh y l2 rfl)
            have hy : y.1 < ops.size := fit_lt F (x := y) (by rw [h.split]; simp)
            exact absurd rfl ((not_un (h := h) hy (hjb _ hb)).2 y List.mem_cons_self)
      obtain ⟨l2, rfl⟩ := hl
      have hc3 := hh x l2 rfl
      have hmem : x ∈ ds := by rw [h.split]; simp
      have F' : Fit P nt ops bs (pre ++ x :: l2) := by rw [← h.split]; exact F
      obtain ⟨o, ho, hg, hdst, hde, hi⟩ := op_comp F hmem
      have hsl : ∀ s ∈ slotsO x.2.io, tval TD s = tval T s := fun s hs' => h.same s fun p hp hpd => by
        obtain ⟨o1, o2, _, _⟩ := fit_ord F' (h.frm p hp) (List.mem_cons_self (a := x) (l := l2))
        rcases F.slots x hmem s hs' (p.i, p.d) (hpmem p hp) hpd with t | t | t
        · exact o1 t.symm
        · exact hnb p hp t
        · exact o2 t
      have hw := wanted_eq (o := o) hT hg
      rw [slotsO_wanted hsl] at hw
      have hact : (acts (pre ++ [x])).length = (acts pre).length + 1 := by rw [acts_append, acts_one, if_pos hc3, List.length_append]; rfl
      have go : ∀ (v : Value) (M' : Mem), runDraw call (l2.map (·.2)) ((acts pre).length + 1) ls (put T x.2.io.dst v) M' = r →
          ∀ cv W' γ', VR γ' v cv → Rel γ' M' W' → Ext γ M w γ' M' W' → wpAny P .any ops Q fuel (listed.setIfInBounds x.1 true) (a.put o.dst cv) W' := by
        intro v M' hrun' cv W' γ' hv hR' hE'
        obtain ⟨p1, p2, p3⟩ := (hT.mono hE'.le).put hs hdst hv
        have hI := inv_act (v := v) F h hc3 hjb hE'
        rw [← hact] at hrun'
        obtain ⟨pre3, l3, ls3, T3, M3, Pd3, k1, k2, k3, k4, k5, k6, k7⟩ := flush (call := call) F _ _ _ _ _ _ hI hR' (hE.trans hE') (hE.trans hE').nx hlow (by rw [hrun']; exact hr)
        rw [hde] at k1
        refine ih pre3 l3 ls3 T3 M3 Pd3 _ _ γ' _ W' k1 k4 k5 k2 k3 p1 p2 (p3.trans hd) (k6.trans hrun') ?_
        rw [List.length_cons] at hf
        omega
      unfold wpOp
      simp only [ho]
      rw [List.map_cons] at hrun
      unfold runDraw at hrun
      rw [hc3, hstill] at hrun
      simp only [show Nat.beq 3 3 = true from rfl, cond_true] at hrun
      cases hwt : wanted T x.2.io.g with
      | false =>
        rw [hwt] at hw hrun
        rw [if_neg (by rw [hw]; simp)]
        exact go undef M hrun _ w γ (VR.undef γ) hR (Ext.refl γ M w)
      | true =>
        rw [hwt] at hw hrun
        rw [if_pos hw]
        refine .inl ?_
        have hi' : x.2.io.i ≠ .bad → compI P o = some x.2.io.i := fun hne => hi.resolve_left hne
        have hcg : step TD M x.2.io.i = step T M x.2.io.i := step_congr fun s hs' => hsl s (slotsO_i hs')
        have hsl' : ∀ s ∈ slotsI x.2.io.i, tval TD s = tval T s := fun s hs' => hsl s (slotsO_i hs')
        simp only [cond_true] at hrun
        generalize hii : x.2.io.i = i at hrun hi' hcg hsl'
        cases i
        case call f xs =>
          have k5 := hi' (by intro e; cases e)
          have he : xs.map (·.ev TD) = xs.map (·.ev T) := evs_congr hsl'
          refine call_wp (T := TD) hc k5 hT hR ?_ ?_ ?_
          · rw [he]
            intro e
            simp only [e] at hrun
            exact hr hrun.symm
          · intro v M' hr'
            rw [he] at hr'
            simp only [hr'] at hrun
            exact go v M' hrun
          · intro v M' hr' chain W' hth
            rw [he] at hr'
            simp only [hr'] at hrun
            rw [← hrun] at hq
            exact hq (.panic chain) a W' ⟨hd, Thrown.trans hE hth⟩
        case pan y =>
          have k5 := hi' (by intro e; cases e)
          have he : y.ev TD = y.ev T := ev_congr hsl'
          simp only at hrun
          split at hrun
          · rename_i t v hev
            refine pan_wp k5 hT hR (he.trans hev) fun chain hth => ?_
            rw [← hrun] at hq
            exact hq (.panic chain) a w ⟨hd, Thrown.trans hE hth⟩
          · exact absurd hrun.symm hr
        case bad =>
          simp only [step] at hrun
          exact absurd hrun.symm hr
        all_goals
          have k5 := hi' (by intro e; cases e)
          simp only at hrun
          split at hrun
          · rename_i v M' hst
            exact (step_run k5 (by intro f xs e; cases e) hT hR (hcg.trans hst)).wp (go v M' hrun)
          · exact absurd hrun.symm hr

theorem nodup_le : ∀ (n : Nat) (l : List Nat), l.Nodup → (∀ x ∈ l, x < n) → l.length ≤ n
  | 0, l, _, h => by
    cases l with
    | nil => exact Nat.le_refl _
    | cons x l => exact absurd (h x List.mem_cons_self) (Nat.not_lt_zero _)
  | n + 1, l, hn, h => by
    have h1 := nodup_le n (l.erase n) (hn.erase n) (fun x hx => by
      have := (hn.mem_erase_iff).1 hx
      have := h x this.2
      omega)
    have h2 : l.length ≤ (l.erase n).length + 1 := by
      rw [List.length_erase]
      split <;> omega
    omega

/-- A region that draws. -/
theorem draw_sound {l : List DO} (hm : P.follows .mixedOrders = true) (hc : CallsOk P call) {Q : Exit → Act → World → Prop} (hl : compDraw P nt ops = some l) {id : Nat}
    {T : PM Value} {M : Mem} {a : Act} {γ : Gm} {W : World} (hd : a.defers = D) (hs : a.tmps.size = nt) (hT : TR γ T a.tmps) (hR : Rel γ M W) (hb : runDraw call l 0 [] T M ≠ .bad)
    (hq : ∀ e a' w', After D γ M W nt (runDraw call l 0 [] T M) e a' w' → Q e a' w') : (Code.region id ops true).wp P Q a W := by
  obtain ⟨ds, rfl, F⟩ := compDraw_spec hl
  refine wp_region_any hm ?_
  have hR' : Rel γ M { W with drawn := W.drawn + 1 } := hR.drew
  have hE' : Ext γ M W γ M { W with drawn := W.drawn + 1 } := Ext.drew M W
  have hrep : ∀ j, j < ops.size → (Array.replicate ops.size false).getD j true = false := by
    intro j hj
    simp [hj]
  have hI : Inv ops (Region.before ops) ds [] ds [] T M [] (Array.replicate ops.size false) T γ := by
    refine ⟨rfl, ?_, ?_, ?_, ?_, ?_, by simp, ?_, ?_, ?_, ?_, fun _ _ => rfl, ?_⟩
    · intro p hp; cases hp
    · intro p hp; cases hp
    · intro p hp; cases hp
    · intro p hp; cases hp
    · intro j hj
      rw [hrep j hj]
      obtain ⟨x, hx, e⟩ := F.all j hj
      exact ⟨fun _ => .inr ⟨x, hx, e⟩, fun _ => rfl⟩
    · intro i j hi h
      rw [hrep i hi] at h; cases h
    · intro p hp; cases hp
    · intro p hp; cases hp
    · intro p hp; cases hp
    · intro p hp; cases hp
  obtain ⟨pre3, l3, ls3, T3, M3, Pd3, k1, k2, k3, k4, k5, k6, k7⟩ := flush (call := call) F ds [] [] T M [] hI hR' hE' (Nat.le_refl M.nx) (fun p hp => by cases hp) hb
  refine draw_run hc F hb hq ops.size pre3 l3 ls3 T3 M3 Pd3 _ T γ a _ k1 k4 k5 k2 k3 hT hs hd k6 ?_
  rw [k7, List.length_nil, Nat.zero_add]
  have hnd : (ds.map (·.1)).Nodup := by
    rw [List.nodup_iff_pairwise_ne, List.pairwise_map]
    exact F.ord.imp fun h e => h.1 e.symm
  have hsub : ∀ x ∈ ds.map (·.1), x < ops.size := by
    intro x hx
    obtain ⟨y, hy, rfl⟩ := List.mem_map.1 hx
    exact fit_lt F hy
  have := nodup_le _ _ hnd hsub
  simpa using this
end
end Go.Ai
