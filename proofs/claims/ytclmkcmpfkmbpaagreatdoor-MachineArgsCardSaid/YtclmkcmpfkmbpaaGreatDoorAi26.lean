/-
  Operations that leave two slots as they are; machine.Run's deferred closure.
-/
import Derived.Test.YtclmkcmpfkmbpaaGreatDoorAi25
import Derived.Recover
set_option maxRecDepth 100000
set_option linter.unusedSectionVars false
namespace Go.Ai
open Go Go.Proofs

/-- Two slots stay. -/
def Keep (x y : Value) (a : Act) : Prop := a.tmps.getD 4 undef = x ∧ a.tmps.getD 5 undef = y
theorem Keep.put {x y : Value} {a : Act} (h : Keep x y a) {d : Option Nat} (h4 : d ≠ some 4) (h5 : d ≠ some 5) (v : Value) : Keep x y (a.put d v) := by
  cases d with
  | none => exact h
  | some d =>
    have e4 : d ≠ 4 := fun e => h4 (by rw [e])
    have e5 : d ≠ 5 := fun e => h5 (by rw [e])
    obtain ⟨h1, h2⟩ := h
    constructor
    · rw [← h1]
      simp only [Act.put, Array.getD_eq_getD_getElem?, Array.getElem?_setIfInBounds, e4, if_false]
    · rw [← h2]
      simp only [Act.put, Array.getD_eq_getD_getElem?, Array.getElem?_setIfInBounds, e5, if_false]

variable [Sig] [Know] [KOk]

section
variable {P : Program} {D : List Deferred}
theorem runOps_keep {nt : Nat} {ops : Array Oper} {call : Nat → List Value → Mem → RC} (hc : CallsOk P call) {Q : Exit → Act → World → Prop} {p4 p5 : Value} : ∀ {os : List Oper} {l : List Itm}, compOs P nt ops os = some l → (∀ o ∈ l, o.dst ≠ some 4 ∧ o.dst ≠ some 5) →
    ∀ {T : PM Value} {M : Mem} {a : Act} {γ : Gm} {W : World}, a.defers = D → a.tmps.size = nt → TR γ T a.tmps → Rel γ M W → Keep p4 p5 a → runOps call l T M ≠ .bad →
      (∀ e a' w', After D γ M W nt (runOps call l T M) e a' w' → Keep p4 p5 a' → Q e a' w') → wpList P ops Q os a W
  | [], l, h, _, T, M, a, γ, W, hd, hs, hT, hR, hk, _, hq => by
    cases h
    exact hq .normal a W ⟨hd, hs, γ, hT, hR, Ext.refl γ M W⟩ hk
  | o :: os, l, h, hl, T, M, a, γ, W, hd, hs, hT, hR, hk, hb, hq => by
    unfold compOs at h
    split at h
    · rename_i x m hx hm
      cases h
      obtain ⟨k1, k2, k3, k4⟩ := compO_spec hx
      have hw := wanted_eq hT k1
      have hkp : ∀ v, Keep p4 p5 (a.put o.dst v) := fun v => hk.put (by rw [← k3]; exact (hl x List.mem_cons_self).1) (by rw [← k3]; exact (hl x List.mem_cons_self).2) v
      have hlm : ∀ o ∈ m, o.dst ≠ some 4 ∧ o.dst ≠ some 5 := fun o ho => hl o (List.mem_cons_of_mem _ ho)
      unfold wpList
      rw [hw]
      unfold runOps at hb hq
      cases hwt : wanted T x.g with
      | false =>
        rw [hwt] at hb hq
        rw [if_neg (by simp)]
        obtain ⟨p1, p2, p3⟩ := hT.put hs k2 (VR.undef γ)
        rw [k3] at hb hq
        exact runOps_keep hc hm hlm (p3.trans hd) p2 p1 hR (hkp _) hb hq
      | true =>
        rw [hwt] at hb hq
        rw [if_pos rfl]
        refine .inl ?_
        have go : ∀ (v : Value) (M' : Mem), runOps call m (put T x.dst v) M' ≠ .bad → (∀ γ' W', Ext γ M W γ' M' W' → ∀ e a' w', After D γ' M' W' nt (runOps call m (put T x.dst v) M') e a' w' → Keep p4 p5 a' → Q e a' w') →
            ∀ cv W' γ', VR γ' v cv → Rel γ' M' W' → Ext γ M W γ' M' W' → wpList P ops Q os (a.put o.dst cv) W' := by
          intro v M' hb' hq' cv W' γ' hv hR' hE
          obtain ⟨p1, p2, p3⟩ := (hT.mono hE.le).put hs k2 hv
          rw [k3] at hb' hq'
          exact runOps_keep hc hm hlm (p3.trans hd) p2 p1 hR' (hkp _) hb' (hq' γ' W' hE)
        obtain ⟨i, dst, g⟩ := x
        have k4' : i ≠ .bad → compI P o = some i := fun hne => k4.resolve_left hne
        cases i
        case call f xs =>
          have k5 := k4' (by intro e; cases e)
          simp only [cond_true] at hb hq
          refine call_wp hc k5 hT hR ?_ ?_ ?_
          · intro e; rw [e] at hb; exact hb rfl
          · intro v M' hr
            rw [hr] at hb hq
            exact go v M' hb (fun γ' W' hE e a' w' ha hk' => hq e a' w' (After.trans hE ha) hk')
          · intro v M' hr chain W' hth
            rw [hr] at hq
            exact hq (.panic chain) a W' ⟨hd, hth⟩ hk
        case pan y =>
          have k5 := k4' (by intro e; cases e)
          simp only [cond_true] at hb hq
          split at hb
          · rename_i t v he
            refine pan_wp k5 hT hR he fun chain hth => ?_
            rw [he] at hq
            exact hq (.panic chain) a W ⟨hd, hth⟩ hk
          · exact absurd rfl hb
        case bad =>
          simp only [cond_true, step] at hb
          exact absurd rfl hb
        all_goals
          have k5 := k4' (by intro e; cases e)
          simp only [cond_true] at hb hq
          split at hb
          · rename_i v M' hst
            rw [hst] at hq
            exact (step_run k5 (by intro f xs e; cases e) hT hR hst).wp (go v M' hb (fun γ' W' hE e a' w' ha hk' => hq e a' w' (After.trans hE ha) hk'))
          · exact absurd rfl hb
    · cases h
end

/- The closure. -/
def l27a : List Itm := [⟨.load (.t 0), some 4, none⟩, ⟨.nilck (.t 4), some 5, none⟩, ⟨.fld 18 (.t 5), some 6, none⟩, ⟨.loadn 4 (.t 6), some 7, none⟩, ⟨.store 4 (.t 1) (.t 7), none, none⟩]
def l27b : List Itm := [⟨.bad, some 8, none⟩, ⟨.mov (.t 8), some 3, none⟩]
def i27c : IC := .seq (.ops [⟨.mov (.t 3), some 9, none⟩, ⟨.ifn true (.t 9), some 10, none⟩]) (.cond (.t 10) (.ops [⟨.mov (.t 3), some 11, none⟩, ⟨.tas 97 (.t 11), some 12, none⟩, ⟨.fldv 0 none (.t 12), some 13, none⟩,
  ⟨.build [(.int .i64 (.ofNat 0)), (.int .i64 (.ofNat 0)), (.string ⟨#[]⟩), (.int .i64 (.ofNat 0)), (.int .i64 (.ofNat 0)), (.int .i64 (.ofNat 0)), (.slice none 0 0)] [(0, 1, (.t 13)), (1, 1, (.c (.int .i64 (.negSucc 0))))], some 14, none⟩, ⟨.store 7 (.t 2) (.t 14), none, none⟩]) .skip)
def ir27 : IF := ⟨15, [], .seq (.ops l27a) (.seq (.ops l27b) i27c)⟩
omit [Sig] [Know] [KOk] in
theorem ir27_ok : compF Tryz.prog Tryz.f27 = some ir27 := by kernel_rfl
def o27a : Oper := { dst := some 8, op := Op.call { callee := Callee.builtin Builtin.recover, args := #[], argTypes := #[] }, type := 20, pos := "machine.go:340", after := #[], guard := none }
def o27b : Oper := { dst := some 3, op := Op.assign (Operand.tmp 8), type := 20, pos := "machine.go:340", after := #[{ on := 0, ground := Ground.data }, { on := 0, ground := Ground.chain }, { on := 0, ground := Ground.phase }], guard := none }
omit [Sig] [Know] [KOk] in
theorem reg27 : Tryz.f27.body.map (fun c => chd (ctl c)) = some (.region 1 #[o27a, o27b] false) := by kernel_rfl
omit [Sig] [Know] [KOk] in
theorem fn27 : Tryz.prog.funcs[27]? = some Tryz.f27 := by kernel_rfl

/-- What the closure does: `r` is what is recovered. -/
def run27 [Know] (N : Nat) (A : List Value) (r : Value) (M : Mem) : Option Mem :=
  match exec tab N (.ops l27a) (initT A) M with
  | .nrm T M1 => match exec tab N i27c (put (put T (some 8) r) (some 3) r) M1 with
    | .nrm _ M2 => some M2
    | _ => none
  | _ => none

theorem e27a (a : Act) (w : World) : (execOp a.eval o27a).run Tryz.prog w = .ok .recover w := rfl
theorem e27b (a : Act) (w : World) : (execOp a.eval o27b).run Tryz.prog w = .ok (.value (a.eval (.tmp 8))) w := rfl
section
variable {P : Program} {Q : Exit → Act → List Frame → World → Prop} {ops : Array Oper} {o : Oper} {i : Nat} {rest : List Nat} {a : Act} {cs : List Frame} {w : World}
theorem wanted_none {y : Nat → Option Bool} (hg : o.guard = none) : Region.wanted o y = true := by
  unfold Region.wanted; rw [hg]
theorem recS (ho : ops[i]? = some o) (hg : o.guard = none) (hrun : (execOp a.eval o).run P w = .ok .recover w) {v : Value} {cs' : List Frame} (hrec : recoverD cs = some (v, cs') ∨ recoverD cs = none ∧ cs' = cs ∧ v = .nilIface)
    (h : wpOpsS P ops Q rest (a.put o.dst v) cs' w) : wpOpsS P ops Q (i :: rest) a cs w := by
  simp only [wpOpsS, ho, wanted_none hg, if_true, hrun]
  rcases hrec with hrec | ⟨hrec, rfl, rfl⟩
  · simp only [hrec]; exact h
  · simp only [hrec]; exact h
theorem valS (ho : ops[i]? = some o) (hg : o.guard = none) {v : Value} (hrun : (execOp a.eval o).run P w = .ok (.value v) w) (h : wpOpsS P ops Q rest (a.put o.dst v) cs w) : wpOpsS P ops Q (i :: rest) a cs w := by
  simp only [wpOpsS, ho, wanted_none hg, if_true, hrun]
  exact h
end
/-- Who recovers, and what comes of that. -/
def Rec (u u' : FrameMode) (cr : Value) : Prop := (u = .returning ∧ u' = .returning ∧ cr = .nilIface) ∨ (u = .panicking [{ v := cr, recovered := false }] ∧ u' = .panicking [{ v := cr, recovered := true }])
theorem reg27_wpS {Q : Exit → Act → List Frame → World → Prop} {a : Act} {c₀ : Frame} {cs : List Frame} {w : World} {u u' : FrameMode} {cr : Value} (hu : c₀.mode = u) (hr : Rec u u' cr)
    (hsz : 8 < a.tmps.size) (h : Q .normal ((a.put (some 8) cr).put (some 3) cr) ({ c₀ with mode := u' } :: cs) w) : (Code.region 1 #[o27a, o27b] false).wpS Tryz.prog Q a (c₀ :: cs) w := by
  refine wpS_region ?_
  have hev : (a.put (some 8) cr).eval (.tmp 8) = cr := by
    show (a.tmps.setIfInBounds 8 cr).getD 8 undef = cr
    simp [Array.getD_eq_getD_getElem?, hsz]
  have second : ∀ cs', Q .normal ((a.put (some 8) cr).put (some 3) cr) cs' w → wpOpsS Tryz.prog #[o27a, o27b] Q [1] (a.put (some 8) cr) cs' w := by
    intro cs' hq
    refine valS (o := o27b) rfl rfl (v := cr) ?_ ?_
    · rw [e27b, hev]
    · exact hq
  show wpOpsS Tryz.prog #[o27a, o27b] Q [0, 1] a (c₀ :: cs) w
  rcases hr with ⟨rfl, rfl, rfl⟩ | ⟨rfl, rfl⟩
  · have hrec : recoverD (c₀ :: cs) = none := by
      simp only [recoverD, hu]
    have hc : ({ c₀ with mode := .returning } : Frame) = c₀ := by rw [← hu]
    rw [hc] at h
    exact recS (o := o27a) rfl rfl (e27a _ _) (.inr ⟨hrec, rfl, rfl⟩) (second _ h)
  · have hrec : recoverD (c₀ :: cs) = some (cr, { c₀ with mode := .panicking [{ v := cr, recovered := true }] } :: cs) := by
      simp only [recoverD, hu]
    exact recS (o := o27a) rfl rfl (e27a _ _) (.inl hrec) (second _ h)

theorem clos27 (hO : OvsOk Tryz.prog) (N : Nat) {A : List Value} {cap : Array Value} {γ : Gm} (hcap : LR γ A cap.toList) (hlen : A.length ≤ 15) {u u' : FrameMode} {r cr : Value} (hu : Rec u u' cr) (hv : VR γ r cr) {M M' : Mem} {W : World} (hR : Rel γ M W) (h : run27 N A r M = some M') :
    CallsD Tryz.prog 27 cap u W fun e u1 w1 => (∃ v, e = .returned v) ∧ u1 = u' ∧ ∃ γ', Rel γ' M' w1 ∧ Ext γ M W γ' M' w1 := by
  obtain ⟨c, hbody, hic, hr, hnt⟩ := compF_inv ir27_ok
  have hx := ex hO N
  have hreg := reg27
  rw [hbody] at hreg
  obtain ⟨x1, y1, k1, rfl, i1, hic⟩ := inv_seq (i := .ops l27a) (j := .seq (.ops l27b) i27c) hic
  obtain ⟨x2, x3, k2, rfl, i2, i3⟩ := inv_seq hic
  have hx2 : x2 = .region 1 #[o27a, o27b] false := by
    simpa [chd, ctl] using hreg
  subst hx2
  have hn15 : Tryz.f27.ntmps = 15 := hnt.symm
  unfold run27 at h
  split at h
  · rename_i T1 M1 h1
    split at h
    · rename_i T2 M2 h2
      cases h
      refine callsD_of_wpS fn27 hbody fun c₀ cs hm => ?_
      have hsz : (cap ++ Array.replicate (Tryz.f27.ntmps - cap.size) undef).size = Tryz.f27.ntmps := by
        have h1 := hcap.length
        have : cap.toList.length = cap.size := by simp
        simp only [Array.size_append, Array.size_replicate]; omega
      refine wpS_seq (wpS_of_wp (Code.wp_mono (fun e a w he => ?_) (hx [] Tryz.f27.ntmps k1 x1 _ i1 (initT A) M { tmps := cap ++ Array.replicate (Tryz.f27.ntmps - cap.size) undef, defers := [] } γ W rfl hsz (init_TR hcap _) hR (by rw [h1]; intro e; cases e))))
      rw [h1] at he
      obtain ⟨rfl, hd, hs, γ1, hT1, hR1, hE1⟩ := he.nrm
      show (Code.seq _ x3).wpS _ _ a (c₀ :: cs) w
      refine wpS_seq (reg27_wpS hm hu (by omega) ?_)
      show x3.wpS _ _ _ _ w
      have hv1 := hv.mono hE1.le
      obtain ⟨p1, p2, p3⟩ := hT1.put hs (d := some 8) (by rw [hn15]; rfl) hv1
      obtain ⟨q1, q2, q3⟩ := p1.put p2 (d := some 3) (by rw [hn15]; rfl) hv1
      refine wpS_of_wp (Code.wp_mono (fun e a' w' he => ?_) (hx [] Tryz.f27.ntmps k2 x3 _ i3 _ M1 _ γ1 w (q3.trans (p3.trans hd)) q2 q1 hR1 (by rw [h2]; intro e; cases e)))
      rw [h2] at he
      obtain ⟨rfl, hd', hs', γ2, hT2, hR2, hE2⟩ := he.nrm
      obtain ⟨v, hres, _⟩ := leave_ok hr hT2 hR2 (Ext.refl γ2 _ w') (by intro e; cases e)
      exact ⟨hd', u', rfl, v, hres, ⟨_, rfl⟩, rfl, γ2, hR2, hE1.trans hE2⟩
    · cases h
  · cases h
end Go.Ai
