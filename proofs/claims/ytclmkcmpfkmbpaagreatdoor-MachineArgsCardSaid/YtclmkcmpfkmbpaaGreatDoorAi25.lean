/-
  Calls told piece by piece; heap.Alloc told.
-/
import Derived.Test.YtclmkcmpfkmbpaaGreatDoorAi24
set_option maxRecDepth 100000
set_option linter.unusedSectionVars false
namespace Go.Ai
open Go Go.Proofs

variable [Sig] [Know] [KOk]

/-- What a piece of code comes to. -/
def Pc (P : Program) (D : List Deferred) (nt : Nat) (c : Code) (f : PM Value → Mem → R) : Prop :=
  ∀ (T : PM Value) (M : Mem) (a : Act) (γ : Gm) (W : World), a.defers = D → a.tmps.size = nt → TR γ T a.tmps → Rel γ M W → f T M ≠ .bad → c.wp P (After D γ M W nt (f T M)) a W

section
variable {P : Program} {D : List Deferred} {nt : Nat}
theorem Pc.exec {F : PM IF} {n k : Nat} (hx : ExOk P F n) {c : Code} {ic : IC} (h : compC P nt k c = some ic) : Pc P D nt c (Ai.exec F n ic) :=
  fun T M a γ W h1 h2 h3 h4 h5 => hx D nt k c ic h T M a γ W h1 h2 h3 h4 h5
theorem Pc.seq {x y : Code} {f g : PM Value → Mem → R} (hx : Pc P D nt x f) (hy : Pc P D nt y g) : Pc P D nt (.seq x y) (fun T M => bindR (f T M) g) := by
  intro T M a γ W hd hs hT hR hb
  have hb1 : f T M ≠ .bad := by intro e; simp only [e] at hb; exact hb rfl
  refine wp_seq (Code.wp_mono (fun e a' w' he => ?_) (hx T M a γ W hd hs hT hR hb1))
  simp only at hb ⊢
  generalize f T M = r1 at he hb
  cases r1 with
  | nrm T1 M1 =>
    obtain ⟨rfl, h3, h4, γ', h5, h6, h7⟩ := he.nrm
    exact Code.wp_mono (fun e a w he => After.trans h7 he) (hy T1 M1 a' γ' w' h3 h4 h5 h6 hb)
  | bad => exact absurd rfl hb
  | ext i T1 M1 => exact then_of (he.ne (fun _ _ e => by cases e)) he
  | got i T1 M1 => exact then_of (he.ne (fun _ _ e => by cases e)) he
  | ret T1 M1 => exact then_of (he.ne (fun _ _ e => by cases e)) he
  | pan v M1 => exact then_of (he.ne (fun _ _ e => by cases e)) he

theorem compF_inv {func : Func} {fn : IF} (hc : compF P func = some fn) : ∃ c, func.body = some c ∧ compC P func.ntmps 1000 c = some fn.body ∧ resO P func.ntmps func.results.toList = some fn.results ∧ fn.ntmps = func.ntmps := by
  unfold compF at hc
  split at hc
  · rename_i c hbody
    split at hc
    · rename_i ic r hic hr
      cases hc
      exact ⟨c, hbody, hic, hr, rfl⟩
    · cases hc
  · cases hc

theorem leave_ok {func : Func} {fn : IF} (hr : resO P func.ntmps func.results.toList = some fn.results) {γ γ' : Gm} {M M1 : Mem} {W w : World} {T1 : PM Value} {tmps : Array Value} (hT : TR γ' T1 tmps) (hR : Rel γ' M1 w) (hE : Ext γ M W γ' M1 w) (hb : leave fn T1 M1 ≠ .bad) :
    ∃ v, (Go.results func tmps).run P w = .ok v w ∧ Called γ M W (leave fn T1 M1) (.returned v) w := by
  unfold leave at hb ⊢
  cases hres : results T1 M1 fn.results with
  | none => rw [hres] at hb; exact absurd rfl hb
  | some v =>
    obtain ⟨cv, h1, h2⟩ := results_run hT hR hr hres
    exact ⟨cv, h1, γ', h2, hR, hE⟩

theorem ov_of {f : FuncId} {func : Func} {fn : IF} (hf : P.funcs[f]? = some func) (hc : compF P func = some fn) (k : PM Value → Mem → R)
    (hk : ∀ c, func.body = some c → compC P func.ntmps 1000 c = some fn.body → Pc P [] func.ntmps c k) :
    OvOk P f (fun args M => bif Nat.ble args.length fn.ntmps then finish fn (k (initT args) M) else .bad) := by
  obtain ⟨c, hbody, hic, hr, hnt⟩ := compF_inv hc
  have hp := hk c hbody hic
  intro args M γ W vs hR hL hb
  simp only at hb ⊢
  cases hle : Nat.ble args.length fn.ntmps with
  | false => rw [hle] at hb; exact absurd rfl hb
  | true =>
    rw [hle] at hb
    simp only [cond_true] at hb ⊢
    have hle' := Nat.le_of_ble_eq_true hle
    rw [hnt] at hle'
    have hl := hL.length
    have hsz : (vs ++ Array.replicate (func.ntmps - vs.size) undef).size = func.ntmps := by
      have : vs.toList.length = vs.size := by simp
      simp only [Array.size_append, Array.size_replicate]; omega
    have hbad : k (initT args) M ≠ .bad := by
      intro e; rw [e] at hb; exact hb rfl
    have hw := hp (initT args) M { tmps := vs ++ Array.replicate (func.ntmps - vs.size) undef, defers := [] } γ W rfl hsz (init_TR hL _) hR hbad
    have fin : ∀ {T1 : PM Value} {M1 : Mem} {a : Act} {w : World}, Ok [] γ M W func.ntmps T1 M1 a w → leave fn T1 M1 ≠ .bad →
        a.defers = [] ∧ ∃ v, (Go.results func a.tmps).run P w = .ok v w ∧ Called γ M W (leave fn T1 M1) (.returned v) w := by
      intro T1 M1 a w ⟨hd, _, γ', hT', hR', hE'⟩ hb'
      exact ⟨hd, leave_ok hr hT' hR' hE' hb'⟩
    refine calls_of_wp hf hbody (Code.wp_mono (fun e a w he => ?_) hw)
    generalize k (initT args) M = r1 at he hb ⊢
    cases r1 with
    | nrm T1 M1 =>
      obtain ⟨rfl, ho⟩ := he.nrm
      exact fin ho hb
    | ret T1 M1 =>
      cases e <;> first | exact he.elim | exact fin he hb
    | pan v M1 =>
      cases e <;> first | exact he.elim | exact he
    | ext _ _ _ => exact absurd rfl hb
    | got _ _ _ => exact absurd rfl hb
    | bad => exact absurd rfl hb
end

theorem arrOf_arr (K : Know) {M : Mem} {r : Nat} {a : Arr} (h : M.h.get r = some (.arr a)) : @arrOf K M r = bif valid M a then some a else none := by
  unfold arrOf; rw [h]

section
variable {D : List Deferred} {nt k : Nat} {c : Code}
theorem told97 (hic : compC Tryz.prog nt k c = some (.block 1 (.loop lp97))) {T : PM Value} {M : Mem} {rh rk s : Nat} (hat : at97 T M = some (rh, rk, s)) {a : Act} {γ : Gm} {W : World} (hd : a.defers = D) (hs : a.tmps.size = nt) (hT : TR γ T a.tmps) (hR : Rel γ M W) :
    c.wp Tryz.prog (After D γ M W nt (.nrm (puts T (wl97 rh rk s)) M)) a W := by
  unfold at97 at hat
  split at hat
  · rename_i rh' h0
    split at hat
    · rename_i A hA
      split at hat
      · rename_i rk' s0 h1
        split at hat
        · rename_i s' z A' hz hA'
          obtain ⟨hc, e⟩ := cond_some hat
          cases e
          simp only [Bool.and_eq_true] at hc
          obtain ⟨⟨⟨⟨⟨c1, c2⟩, c3⟩, c4⟩, c5⟩, c6⟩ := hc
          have := Nat.eq_of_beq_eq_true c1
          subst this
          have := veq_eq c2
          subst this
          have h6 := veq_eq c3
          have h7 := veq_eq c4
          rw [blt_spec, decide_eq_true_iff] at c5
          have c6 := Nat.le_of_ble_eq_true c6
          have hlo := KOk.lo s c5
          have hhi := KOk.hi s
          obtain ⟨n, hn⟩ : ∃ n : Nat, Sig.val s = (n : Int) := ⟨(Sig.val s).toNat, by omega⟩
          obtain ⟨n1, rfl⟩ : ∃ n1, n = n1 + 1 := ⟨n - 1, by omega⟩
          have hK := knowL_ok hn
          have hnlo : @Know.lo (knowL s (n1 + 1)) s = n1 + 1 := by
            show loL97 s (n1 + 1) s = n1 + 1
            unfold loL97
            rw [Nat.beq_refl]; rfl
          have hat' : @At97 (knowL s (n1 + 1)) M rh rk s A (@zarr (knowL s (n1 + 1)) s (.int .i64 (.ofNat 0)) rk) := by
            refine @At97.mk (knowL s (n1 + 1)) _ _ _ _ _ _ ?_ h1 ?_ ?_
            · rw [arrOf_arr _ hA']
              rw [arrOf_arr _ hA'] at hA
              exact hA
            · unfold arrOf; rw [hz]
            · intro b hb
              rw [hnlo, blt_spec, decide_eq_true_iff] at hb
              show (PM.ofList .lf (List.replicate (@Know.lo (knowL s (n1 + 1)) s) (Value.int .i64 (.ofNat 0))) 0).get b = _
              rw [PM.get_ofList, List.length_replicate, hnlo, if_pos (by omega), Nat.sub_zero, List.getElem?_replicate, if_pos hb]
              rfl
          have hin : In97 T rh 0 := ⟨h0, h6, h7⟩
          have hrun := @loop97_run _ (knowL s (n1 + 1)) hK tab M rh rk s A _ hat' (n1 + 1) hnlo (by omega) (fun b => by
            show cmpL97 s (n1 + 1) s .lss true b = _
            unfold cmpL97
            rw [Nat.beq_refl]
            show some (Value.bool (ilt (b : Int) ((n1 + 1 : Nat) : Int))) = _
            rw [ilt_spec, blt_spec]
            simp
            omega) (n1 + 1) 0 T (by omega) hin 0
          have hx := @ex _ (knowL s (n1 + 1)) hK (fun f g h => by cases h) (n1 + 1 + 0 + 7 + 1)
          have heq : @exec (knowL s (n1 + 1)) tab (n1 + 1 + 0 + 7 + 1) (.block 1 (.loop lp97)) T M = .nrm (endT97 rh rk s (n1 + 1) 0 T) M := by
            refine (@ex_block (knowL s (n1 + 1)) tab _ T M 1 (.loop lp97)).trans ?_
            rw [hrun]; rfl
          have hw := hx D nt k c _ hic T M a γ W hd hs hT hR (by rw [heq]; intro e; cases e)
          rw [heq] at hw
          refine Code.wp_mono (fun e a' w' he => ?_) hw
          obtain ⟨rfl, p1, p2, γ', p3, p4, p5⟩ := he.nrm
          refine ⟨p1, p2, γ', ?_, p4, p5⟩
          have e1 := (endT97_eqv (rh := rh) (rk := rk) (s := s) n1 0 T).TR p3
          rw [Nat.zero_add] at e1
          exact (weak97 hn rfl).TR e1
        · cases hat
      · cases hat
    · cases hat
  · cases hat

theorem Pc.loop97 {N : Nat} (hx : ExOk Tryz.prog tab N) (hic : compC Tryz.prog nt k c = some (.block 1 (.loop lp97))) : Pc Tryz.prog D nt c (Ai.loop97 tab N) := by
  intro T M a γ W hd hs hT hR hb
  unfold Ai.loop97 at hb ⊢
  cases h : at97 T M with
  | some p =>
    obtain ⟨rh, rk, s⟩ := p
    exact told97 hic h hd hs hT hR
  | none =>
    rw [h] at hb
    exact Pc.exec hx hic T M a γ W hd hs hT hR hb
end

section
variable {P : Program} {nt : Nat}
theorem inv_seq {k : Nat} {c : Code} {i j : IC} (h : compC P nt k c = some (.seq i j)) : ∃ x y k', c = .seq x y ∧ compC P nt k' x = some i ∧ compC P nt k' y = some j := by
  cases k with
  | zero => unfold compC at h; cases h
  | succ k =>
    cases c <;> simp only [compC] at h
    case seq x y =>
      split at h
      · rename_i a b ha hb
        cases h
        exact ⟨x, y, k, rfl, ha, hb⟩
      · cases h
    case region id ops draw => cases draw <;> (obtain ⟨_, _, e⟩ := map_some h; cases e)
    case cond => split at h <;> cases h
    case block => obtain ⟨_, _, e⟩ := map_some h; cases e
    case loop => obtain ⟨_, _, e⟩ := map_some h; cases e
    case scope => split at h <;> cases h
    all_goals cases h
theorem inv_ops {k : Nat} {c : Code} {l : List Itm} (h : compC P nt k c = some (.ops l)) : ∃ id ops, c = .region id ops false ∧ compOs P nt ops ops.toList = some l := by
  cases k with
  | zero => unfold compC at h; cases h
  | succ k =>
    cases c <;> simp only [compC] at h
    case region id ops draw =>
      cases draw with
      | false =>
        obtain ⟨m, hm, e⟩ := map_some h
        cases e
        exact ⟨id, ops, rfl, hm⟩
      | true => obtain ⟨_, _, e⟩ := map_some h; cases e
    case seq => split at h <;> cases h
    case cond => split at h <;> cases h
    case block => obtain ⟨_, _, e⟩ := map_some h; cases e
    case loop => obtain ⟨_, _, e⟩ := map_some h; cases e
    case scope => split at h <;> cases h
    all_goals cases h
end

/-- What the body of heap.Alloc comes to. -/
def b97 [Know] (N : Nat) (T : PM Value) (M : Mem) : R :=
  bindR (exec tab N (hd ir97.body) T M) fun T M =>
  bindR (exec tab N (hd (tl ir97.body)) T M) fun T M =>
  bindR (exec tab N (hd (tl (tl ir97.body))) T M) fun T M =>
  bindR (bindR (exec tab N (hd (hd (tl (tl (tl ir97.body))))) T M) (loop97 tab N)) (exec tab N (tl (tl (tl (tl ir97.body)))))
def g97 [Know] (N : Nat) (args : List Value) (M : Mem) : RC := bif Nat.ble args.length ir97.ntmps then finish ir97 (b97 N (initT args) M) else .bad

theorem ov97 (hO : OvsOk Tryz.prog) (N : Nat) : OvOk Tryz.prog 97 (g97 N) := by
  obtain ⟨func, hf, hc⟩ := fn97_in
  refine ov_of hf hc (b97 N) fun c _ hic => ?_
  have hx := ex hO N
  rw [body97] at hic
  obtain ⟨x1, y1, k1, rfl, i1, hic⟩ := inv_seq hic
  obtain ⟨x2, y2, k2, rfl, i2, hic⟩ := inv_seq hic
  obtain ⟨x3, y3, k3, rfl, i3, hic⟩ := inv_seq hic
  obtain ⟨x4, y4, k4, rfl, i4, i5⟩ := inv_seq hic
  obtain ⟨x5, y5, k5, rfl, i6, i7⟩ := inv_seq i4
  exact (Pc.exec hx i1).seq ((Pc.exec hx i2).seq ((Pc.exec hx i3).seq (((Pc.exec hx i6).seq (Pc.loop97 hx i7)).seq (Pc.exec hx i5))))
end Go.Ai
