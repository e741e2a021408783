/-
  The abstract interpreter: operations in a row.
-/
import Derived.Test.YtclmkcmpfkmbpaaGreatDoorAi13
import Derived.Tactics
set_option linter.unusedSectionVars false
namespace Go.Ai
open Go

variable [Sig] [Know] [KOk]

variable {P : Program} {D : List Deferred}

theorem compI_call {o : Oper} {f : Nat} {xs : List Opd} (h : compI P o = some (.call f xs)) : ∃ c, o.op = .call c ∧ compCall P c = some (.call f xs) := by
  obtain ⟨dst, op, type, pos, after, guard⟩ := o
  cases op <;> simp only [compI] at h
  case call c => exact ⟨c, rfl, h⟩
  case unOp op t x => cases op <;> simp only at h <;> first | (cases h; done) | (obtain ⟨_, _, h⟩ := map_some h; cases h; done)
  case makeMap t r => cases r <;> cases h
  case typeAssert x xt t ok => cases ok <;> simp only at h <;> first | (cases h; done) | ((repeat' split at h) <;> first | (cases h; done) | (obtain ⟨_, _, h⟩ := map_some h; cases h; done))
  case next it s => cases s <;> simp only at h <;> first | (cases h; done) | (obtain ⟨_, _, h⟩ := map_some h; cases h; done)
  all_goals first
    | (cases h; done)
    | (obtain ⟨_, _, h⟩ := map_some h; cases h; done)
    | ((repeat' split at h) <;> first
        | (cases h; done)
        | (obtain ⟨_, _, h⟩ := map_some h; cases h; done)
        | (obtain ⟨_, h⟩ := cond_some h; cases h; done)
        | (obtain ⟨_, h⟩ := cond_opt h; obtain ⟨_, _, h⟩ := map_some h; cases h; done)
        | (obtain ⟨_, h⟩ := cond_opt h; (repeat' split at h) <;> (cases h; done)))
theorem compCall_pan {c : Call} {x' : Opd} (h : compCall P c = some (.pan x')) : False := by
  unfold compCall at h
  (repeat' split at h) <;> first
    | (cases h; done)
    | (obtain ⟨_, h⟩ := cond_some h; cases h; done)
theorem compI_pan {o : Oper} {x' : Opd} (h : compI P o = some (.pan x')) : ∃ x, o.op = .panic x ∧ opd x = some x' := by
  obtain ⟨dst, op, type, pos, after, guard⟩ := o
  cases op <;> simp only [compI] at h
  case call c => exact (compCall_pan h).elim
  case panic x => obtain ⟨y, hy, h⟩ := map_some h; cases h; exact ⟨x, rfl, hy⟩
  case unOp op t x => cases op <;> simp only at h <;> first | (cases h; done) | (obtain ⟨_, _, h⟩ := map_some h; cases h; done)
  case makeMap t r => cases r <;> cases h
  case typeAssert x xt t ok => cases ok <;> simp only at h <;> first | (cases h; done) | ((repeat' split at h) <;> first | (cases h; done) | (obtain ⟨_, _, h⟩ := map_some h; cases h; done))
  case next it s => cases s <;> simp only at h <;> first | (cases h; done) | (obtain ⟨_, _, h⟩ := map_some h; cases h; done)
  all_goals first
    | (cases h; done)
    | (obtain ⟨_, _, h⟩ := map_some h; cases h; done)
    | ((repeat' split at h) <;> first
        | (cases h; done)
        | (obtain ⟨_, _, h⟩ := map_some h; cases h; done)
        | (obtain ⟨_, h⟩ := cond_some h; cases h; done)
        | (obtain ⟨_, h⟩ := cond_opt h; obtain ⟨_, _, h⟩ := map_some h; cases h; done)
        | (obtain ⟨_, h⟩ := cond_opt h; (repeat' split at h) <;> (cases h; done)))

def Ok (D : List Deferred) (γ0 : Gm) (M0 : Mem) (W0 : World) (nt : Nat) (T : PM Value) (M : Mem) (a : Act) (w : World) : Prop :=
  a.defers = D ∧ a.tmps.size = nt ∧ ∃ γ, TR γ T a.tmps ∧ Rel γ M w ∧ Ext γ0 M0 W0 γ M w

def Thrown (γ0 : Gm) (M0 : Mem) (W0 : World) (v : Value) (M : Mem) (chain : List PanicEntry) (w : World) : Prop :=
  ∃ γ cv, chain = [{ v := cv, recovered := false }] ∧ VR γ v cv ∧ Rel γ M w ∧ Ext γ0 M0 W0 γ M w

def After (D : List Deferred) (γ0 : Gm) (M0 : Mem) (W0 : World) (nt : Nat) : R → Exit → Act → World → Prop
  | .nrm T M, .normal, a, w => Ok D γ0 M0 W0 nt T M a w
  | .ext i T M, .exit j, a, w => j = i ∧ Ok D γ0 M0 W0 nt T M a w
  | .got l T M, .goto k, a, w => k = l ∧ Ok D γ0 M0 W0 nt T M a w
  | .ret T M, .ret, a, w => Ok D γ0 M0 W0 nt T M a w
  | .pan v M, .panic chain, a, w => a.defers = D ∧ Thrown γ0 M0 W0 v M chain w
  | _, _, _, _ => False

def Called (γ0 : Gm) (M0 : Mem) (W0 : World) : RC → Ending → World → Prop
  | .ret v M, .returned cv, w => ∃ γ, VR γ v cv ∧ Rel γ M w ∧ Ext γ0 M0 W0 γ M w
  | .pan v M, .panicked chain, w => Thrown γ0 M0 W0 v M chain w
  | _, _, _ => False

def CallsOk (P : Program) (call : Nat → List Value → Mem → RC) : Prop :=
  ∀ f args M γ W (vs : Array Value), Rel γ M W → LR γ args vs.toList → call f args M ≠ .bad → Calls P f vs W (Called γ M W (call f args M))

theorem Ok.trans {γ0 γ1 : Gm} {M0 M1 : Mem} {W0 W1 : World} {nt : Nat} {T : PM Value} {M : Mem} {a : Act} {w : World} (h : Ext γ0 M0 W0 γ1 M1 W1) (k : Ok D γ1 M1 W1 nt T M a w) : Ok D γ0 M0 W0 nt T M a w := by
  obtain ⟨h1, h2, γ, h3, h4, h5⟩ := k
  exact ⟨h1, h2, γ, h3, h4, h.trans h5⟩
theorem Thrown.trans {γ0 γ1 : Gm} {M0 M1 : Mem} {W0 W1 : World} {v : Value} {M : Mem} {c : List PanicEntry} {w : World} (h : Ext γ0 M0 W0 γ1 M1 W1) (k : Thrown γ1 M1 W1 v M c w) : Thrown γ0 M0 W0 v M c w := by
  obtain ⟨γ, cv, h1, h2, h3, h4⟩ := k
  exact ⟨γ, cv, h1, h2, h3, h.trans h4⟩
theorem After.trans {γ0 γ1 : Gm} {M0 M1 : Mem} {W0 W1 : World} {nt : Nat} {r : R} {e : Exit} {a : Act} {w : World} (h : Ext γ0 M0 W0 γ1 M1 W1) (k : After D γ1 M1 W1 nt r e a w) : After D γ0 M0 W0 nt r e a w := by
  cases r <;> cases e <;> first
    | exact k.elim
    | exact Ok.trans h k
    | exact ⟨k.1, Ok.trans h k.2⟩
    | exact ⟨k.1, Thrown.trans h k.2⟩

theorem TR.mono {γ γ' : Gm} {T : PM Value} {t : Array Value} (h : TR γ T t) (hl : Le γ γ') : TR γ' T t := fun i => (h i).mono hl

theorem tval_set (T : PM Value) (d i : Nat) (v : Value) : tval (T.set d v) i = if i = d then v else tval T i := by
  unfold tval
  rw [PM.get_set]
  split <;> rfl
theorem TR.put {γ : Gm} {T : PM Value} {a : Act} {nt : Nat} (h : TR γ T a.tmps) (hs : a.tmps.size = nt) {d : Option Nat} (hd : dstOk nt d = true) {v cv : Value} (hv : VR γ v cv) :
    TR γ (Ai.put T d v) (a.put d cv).tmps ∧ (a.put d cv).tmps.size = nt ∧ (a.put d cv).defers = a.defers := by
  cases d with
  | none => exact ⟨h, hs, rfl⟩
  | some d =>
    have hlt : d < nt := by simpa [dstOk, blt_spec] using hd
    refine ⟨fun i => ?_, by simp [Act.put, hs], rfl⟩
    show VR γ (tval (T.set d v) i) ((a.tmps.setIfInBounds d cv).getD i undef)
    rw [tval_set]
    by_cases e : i = d
    · subst e
      rw [if_pos rfl]
      have : (a.tmps.setIfInBounds i cv).getD i undef = cv := by simp [hs, hlt]
      rw [this]; exact hv
    · rw [if_neg e]
      have : (a.tmps.setIfInBounds d cv).getD i undef = a.tmps.getD i undef := by
        simp only [Array.getD_eq_getD_getElem?]
        rw [Array.getElem?_setIfInBounds_ne (Ne.symm e)]
      rw [this]; exact h i

def boolOf : Value → Option Bool
  | .bool b => some b
  | _ => none
theorem VR.boolOf {γ : Gm} {x c : Value} (h : VR γ x c) : Ai.boolOf x = Ai.boolOf c := by
  cases h <;> first | rfl | (rename_i h; cases c <;> first | rfl | cases h)
theorem wanted_boolOf (T : PM Value) (d : Nat) (w : Bool) : wanted T (some (d, w)) = (boolOf (tval T d) == some w) := by
  unfold wanted
  dsimp only
  cases tval T d with
  | bool b => cases b <;> cases w <;> rfl
  | _ => rfl
theorem yielded_boolOf {ops : Array Oper} {t : Array Value} {j d : Nat} {oj : Oper} (hj : ops[j]? = some oj) (hd : oj.dst = some d) : yielded ops t j = boolOf (t.getD d undef) := by
  unfold yielded
  rw [hj]
  simp only [Option.bind_some, hd, Array.getD_eq_getD_getElem?]
  cases t[d]? with
  | none => rfl
  | some x => cases x <;> rfl

theorem wanted_eq {γ : Gm} {T : PM Value} {a : Act} {ops : Array Oper} {o : Oper} {g : Option (Nat × Bool)} (hT : TR γ T a.tmps) (h : guardOf ops o.guard = some g) : Region.wanted o (yielded ops a.tmps) = wanted T g := by
  unfold Region.wanted
  cases ho : o.guard with
  | none => rw [ho] at h; cases h; rfl
  | some jw =>
    obtain ⟨j, w⟩ := jw
    rw [ho] at h
    simp only [guardOf] at h
    split at h
    · rename_i oj hj
      split at h
      · rename_i d hd
        cases h
        rw [wanted_boolOf, (hT d).boolOf, ← yielded_boolOf hj hd]
      · cases h
    · cases h

theorem Runs.wp {o : Oper} {a : Act} {γ : Gm} {M M' : Mem} {W : World} {v : Value} {K : Act → World → Prop} {Q : Exit → Act → World → Prop} (h : Runs P (execOp a.eval o) W γ M v M')
    (k : ∀ cv W' γ', VR γ' v cv → Rel γ' M' W' → Ext γ M W γ' M' W' → K (a.put o.dst cv) W') : o.wp P a W K Q := by
  obtain ⟨cv, W', γ', h1, h2, h3, h4⟩ := h
  unfold Oper.wp
  rcases h1 with h1 | ⟨h1, rfl⟩
  · rw [h1]; exact k cv W' γ' h2 h3 h4
  · rw [h1]; exact k _ W' γ' h2 h3 h4

theorem call_wp {o : Oper} {a : Act} {γ : Gm} {M : Mem} {W : World} {T : PM Value} {K : Act → World → Prop} {Q : Exit → Act → World → Prop} {call : Nat → List Value → Mem → RC} (hc : CallsOk P call) {f : Nat} {xs : List Opd}
    (hi : compI P o = some (.call f xs)) (hT : TR γ T a.tmps) (hR : Rel γ M W) (hb : call f (xs.map (·.ev T)) M ≠ .bad)
    (kr : ∀ v M', call f (xs.map (·.ev T)) M = .ret v M' → ∀ cv W' γ', VR γ' v cv → Rel γ' M' W' → Ext γ M W γ' M' W' → K (a.put o.dst cv) W')
    (kp : ∀ v M', call f (xs.map (·.ev T)) M = .pan v M' → ∀ chain W', Thrown γ M W v M' chain W' → Q (.panic chain) a W') : o.wp P a W K Q := by
  obtain ⟨c, ho, hcc⟩ := compI_call hi
  have hrun := call_enter (a := a) (ty := o.type) hcc W
  have he : execOp a.eval o = (do let d ← resolve a.eval c o.type; invoke d.target d.args) := by unfold execOp; rw [ho]
  unfold Oper.wp
  rw [he, hrun, Oper.upon_enter]
  obtain ⟨_, hargs, _⟩ := compCall_call hcc
  have hL : LR γ (xs.map (·.ev T)) (c.args.map a.eval).toList := by
    rw [Array.toList_map]; exact opds_ev hargs hT
  refine (hc f _ M γ W _ hR hL hb).mono fun e W' he => ?_
  cases hr : call f (xs.map (·.ev T)) M with
  | ret v M' =>
    rw [hr] at he
    cases e with
    | returned cv =>
      obtain ⟨γ', h1, h2, h3⟩ := he
      exact kr v M' hr cv W' γ' h1 h2 h3
    | panicked c => exact he.elim
    | outgrown => exact he.elim
  | pan v M' =>
    rw [hr] at he
    cases e with
    | returned cv => exact he.elim
    | panicked c => exact kp v M' hr c W' he
    | outgrown => exact he.elim
  | bad => exact absurd hr hb

theorem pan_wp {o : Oper} {a : Act} {γ : Gm} {M : Mem} {W : World} {T : PM Value} {K : Act → World → Prop} {Q : Exit → Act → World → Prop} {x : Opd} {t : TypeId} {v : Value}
    (hi : compI P o = some (.pan x)) (hT : TR γ T a.tmps) (hR : Rel γ M W) (he : x.ev T = .iface t v)
    (kp : ∀ chain, Thrown γ M W (.iface t v) M chain W → Q (.panic chain) a W) : o.wp P a W K Q := by
  obtain ⟨y, ho, hy⟩ := compI_pan hi
  have hv := opd_ev hy hT
  rw [he] at hv
  obtain ⟨cv, hc, hcv⟩ := hv.iface_inv
  have hrun : (execOp a.eval o).run P W = .halt (.panic (.iface t cv)) W := by
    unfold execOp
    rw [ho]
    simp only [hc, Instr.panic, Sem.run_bind, run_goPanic, Result.andThen_halt]
  unfold Oper.wp
  rw [hrun, Oper.upon_panic]
  exact kp _ ⟨γ, .iface t cv, rfl, .iface hcv, hR, Ext.refl γ M W⟩

theorem compO_spec {nt : Nat} {ops : Array Oper} {o : Oper} {x : Itm} (h : compO P nt ops o = some x) :
    guardOf ops o.guard = some x.g ∧ dstOk nt o.dst = true ∧ x.dst = o.dst ∧ (x.i = .bad ∨ compI P o = some x.i) := by
  unfold compO at h
  split at h
  · rename_i g hg
    obtain ⟨h1, h2⟩ := cond_some h
    subst h2
    refine ⟨hg, h1, rfl, ?_⟩
    cases compI P o with
    | none => exact .inl rfl
    | some i => exact .inr rfl
  · cases h

theorem runOps_sound {nt : Nat} {ops : Array Oper} {call : Nat → List Value → Mem → RC} (hc : CallsOk P call) {Q : Exit → Act → World → Prop} : ∀ {os : List Oper} {l : List Itm}, compOs P nt ops os = some l →
    ∀ {T : PM Value} {M : Mem} {a : Act} {γ : Gm} {W : World}, a.defers = D → a.tmps.size = nt → TR γ T a.tmps → Rel γ M W → runOps call l T M ≠ .bad →
      (∀ e a' w', After D γ M W nt (runOps call l T M) e a' w' → Q e a' w') → wpList P ops Q os a W
  | [], l, h, T, M, a, γ, W, hd, hs, hT, hR, _, hq => by
    cases h
    exact hq .normal a W ⟨hd, hs, γ, hT, hR, Ext.refl γ M W⟩
  | o :: os, l, h, T, M, a, γ, W, hd, hs, hT, hR, hb, hq => by
    unfold compOs at h
    split at h
    · rename_i x m hx hm
      cases h
      obtain ⟨k1, k2, k3, k4⟩ := compO_spec hx
      have hw := wanted_eq hT k1
      unfold wpList
      rw [hw]
      unfold runOps at hb hq
      cases hwt : wanted T x.g with
      | false =>
        rw [hwt] at hb hq
        rw [if_neg (by simp)]
        obtain ⟨p1, p2, p3⟩ := hT.put hs k2 (VR.undef γ)
        rw [k3] at hb hq
        exact runOps_sound hc hm (p3.trans hd) p2 p1 hR hb hq
      | true =>
        rw [hwt] at hb hq
        rw [if_pos rfl]
        refine .inl ?_
        have go : ∀ (v : Value) (M' : Mem), runOps call m (put T x.dst v) M' ≠ .bad → (∀ γ' W', Ext γ M W γ' M' W' → ∀ e a' w', After D γ' M' W' nt (runOps call m (put T x.dst v) M') e a' w' → Q e a' w') →
            ∀ cv W' γ', VR γ' v cv → Rel γ' M' W' → Ext γ M W γ' M' W' → wpList P ops Q os (a.put o.dst cv) W' := by
          intro v M' hb' hq' cv W' γ' hv hR' hE
          obtain ⟨p1, p2, p3⟩ := (hT.mono hE.le).put hs k2 hv
          rw [k3] at hb' hq'
          exact runOps_sound hc hm (p3.trans hd) p2 p1 hR' hb' (hq' γ' W' hE)
        obtain ⟨i, dst, g⟩ := x
        have k4' : i ≠ .bad → compI P o = some i := fun hne => k4.resolve_left hne
        cases i
        case call f xs =>
          have k5 := k4' (by intro e; cases e)
          simp only [cond_true] at hb hq
          refine call_wp hc k5 hT hR ?_ ?_ ?_
          · intro e; rw [e] at hb; exact hb rfl
          · intro v M' hr
            rw [hr] at hb hq
            exact go v M' hb (fun γ' W' hE e a' w' ha => hq e a' w' (After.trans hE ha))
          · intro v M' hr chain W' hth
            rw [hr] at hq
            exact hq (.panic chain) a W' ⟨hd, hth⟩
        case pan y =>
          have k5 := k4' (by intro e; cases e)
          simp only [cond_true] at hb hq
          split at hb
          · rename_i t v he
            refine pan_wp k5 hT hR he fun chain hth => ?_
            rw [he] at hq
            exact hq (.panic chain) a W ⟨hd, hth⟩
          · exact absurd rfl hb
        case bad =>
          simp only [cond_true, step] at hb
          exact absurd rfl hb
        all_goals
          have k5 := k4' (by intro e; cases e)
          simp only [cond_true] at hb hq
          split at hb
          · rename_i v M' hst
            rw [hst] at hq
            exact (step_run k5 (by intro f xs e; cases e) hT hR hst).wp (go v M' hb (fun γ' W' hE e a' w' ha => hq e a' w' (After.trans hE ha)))
          · exact absurd rfl hb
    · cases h
end Go.Ai
