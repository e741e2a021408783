/-
  The abstract interpreter: code, and calls.
-/
import Derived.Test.YtclmkcmpfkmbpaaGreatDoorAi19
set_option linter.unusedSectionVars false
namespace Go.Ai
open Go

variable [Sig] [Know] [KOk]

section
variable {P : Program} {D : List Deferred} {Q : Exit → Act → World → Prop}

theorem rounds_mono {c : Code} {Q' : Exit → Act → World → Prop} (hq : ∀ e a w, Q e a w → Q' e a w) : ∀ (n : Nat) (a : Act) (w : World), Code.rounds P c Q n a w → Code.rounds P c Q' n a w
  | 0, _, _, h => h.elim
  | n + 1, a, w, h => Code.wp_mono (fun e a w he => by cases e <;> first | exact rounds_mono hq n a w he | exact hq _ a w he) h

/-- As `wp`, within a scope. -/
def wpScope (P : Program) (x c : Code) (Q : Exit → Act → World → Prop) (a : Act) (w : World) : Prop :=
  ∀ b k cs, ∃ e a' w', Q e a' w' ∧ Arrives P (lone (b.at a (.code x :: .inScope c :: k)) cs w) b k cs e a' w'

theorem wpScope_mono {x c : Code} {Q' : Exit → Act → World → Prop} {a : Act} {w : World} (hq : ∀ e a w, Q e a w → Q' e a w) (h : wpScope P x c Q a w) : wpScope P x c Q' a w :=
  fun b k cs => let ⟨e, a', w', q, arr⟩ := h b k cs; ⟨e, a', w', hq _ _ _ q, arr⟩

def Exit.hop (P : Program) (c : Code) (Q : Exit → Act → World → Prop) : Exit → Act → World → Prop
  | .goto l, a, w => (∃ rest, findLabel c l = some rest ∧ wpScope P rest c Q a w) ∨ (findLabel c l = none ∧ Q (.goto l) a w)
  | e, a, w => Q e a w

theorem wpScope_of {x c : Code} {a : Act} {w : World} (h : x.wp P (Exit.hop P c Q) a w) : wpScope P x c Q a w := by
  intro b k cs
  obtain ⟨e, a₁, w₁, hq, harr⟩ := h b (.inScope c :: k) cs
  cases e with
  | normal => exact ⟨.normal, a₁, w₁, hq, Steps.trans harr (.one step_inScope)⟩
  | exit id => exact ⟨.exit id, a₁, w₁, hq, fun k' hk => harr k' (by simp [exitTo, hk])⟩
  | goto l =>
    rcases hq with ⟨rest, hf, hr⟩ | ⟨hf, hq⟩
    · have hg : gotoIn l (.inScope c :: k) = some (.code rest :: .inScope c :: k) := by simp [gotoIn, hf]
      obtain ⟨e₂, a₂, w₂, hq₂, harr₂⟩ := hr b k cs
      exact ⟨e₂, a₂, w₂, hq₂, .of_steps (harr _ hg) harr₂⟩
    · exact ⟨.goto l, a₁, w₁, hq, fun k' hk => harr k' (by simp [gotoIn, hf, hk])⟩
  | ret => exact ⟨_, a₁, w₁, hq, harr⟩
  | panic ch => exact ⟨_, a₁, w₁, hq, harr⟩
  | outgrown => exact ⟨_, a₁, w₁, hq, harr⟩

theorem wp_scope_of {c : Code} {a : Act} {w : World} (h : wpScope P c c Q a w) : (Code.scope c).wp P Q a w := by
  intro b k cs
  obtain ⟨e, a₁, w₁, hq, harr⟩ := h b k cs
  exact ⟨e, a₁, w₁, hq, .of_steps (.one step_scope) harr⟩

theorem findLabel_mem : ∀ {c : Code} {l : Nat} {r : Code}, findLabel c l = some r → l ∈ labelsOf c
  | .seq a b, l, r, h => by
    unfold findLabel at h
    unfold labelsOf
    split at h
    · rename_i x hx; exact List.mem_append_left _ (findLabel_mem hx)
    · exact List.mem_append_right _ (findLabel_mem h)
  | .label k, l, r, h => by
    unfold findLabel at h
    unfold labelsOf
    split at h
    · rename_i e
      have e' : k = l := by simpa using e
      rw [e']; exact List.mem_cons_self
    · cases h
  | .skip, _, _, h => by cases h
  | .ret, _, _, h => by cases h
  | .exit _, _, _, h => by cases h
  | .goto _, _, _, h => by cases h
  | .region .., _, _, h => by cases h
  | .cond .., _, _, h => by cases h
  | .block .., _, _, h => by cases h
  | .loop .., _, _, h => by cases h
  | .scope .., _, _, h => by cases h
  | .rangeFunc .., _, _, h => by cases h
  | .refuse .., _, _, h => by cases h

theorem findL_some {nt : Nat} {c : Code} : ∀ {k : Nat} {ls : List Nat} {m : List (Nat × IC)}, compLs P nt k c ls = some m → ∀ {l : Nat} {r : IC}, findL l m = some r → ∃ rest k', findLabel c l = some rest ∧ compC P nt k' rest = some r
  | 0, _, _, h, _, _, _ => by unfold compLs at h; cases h
  | k + 1, [], m, h, l, r, hf => by unfold compLs at h; cases h; cases hf
  | k + 1, x :: ls, m, h, l, r, hf => by
    unfold compLs at h
    split at h
    · rename_i rest m' h1 h2
      split at h
      · rename_i r' hr'
        cases h
        unfold findL at hf
        cases e : Nat.beq x l with
        | true =>
          rw [e] at hf
          cases hf
          have := Nat.eq_of_beq_eq_true e
          subst this
          exact ⟨rest, k, h1, hr'⟩
        | false =>
          rw [e] at hf
          exact findL_some h2 hf
      · cases h
    · cases h
theorem findL_none {nt : Nat} {c : Code} : ∀ {k : Nat} {ls : List Nat} {m : List (Nat × IC)}, compLs P nt k c ls = some m → ∀ {l : Nat}, findL l m = none → l ∉ ls
  | 0, _, _, h, _, _ => by unfold compLs at h; cases h
  | k + 1, [], m, h, l, hf => by simp
  | k + 1, x :: ls, m, h, l, hf => by
    unfold compLs at h
    split at h
    · rename_i rest m' h1 h2
      split at h
      · rename_i r' hr'
        cases h
        unfold findL at hf
        cases e : Nat.beq x l with
        | true => rw [e] at hf; cases hf
        | false =>
          rw [e] at hf
          have := findL_none h2 hf
          intro hm
          rcases List.mem_cons.1 hm with rfl | hm
          · rw [Nat.beq_refl] at e; cases e
          · exact this hm
      · cases h
    · cases h

theorem then_of {K : Act → World → Prop} {e : Exit} (h : e ≠ .normal) {a : Act} {w : World} (hq : Q e a w) : Exit.then K Q e a w := by
  cases e <;> first | exact absurd rfl h | exact hq

theorem After.nrm {γ : Gm} {M : Mem} {W : World} {nt : Nat} {T1 : PM Value} {M1 : Mem} {e : Exit} {a : Act} {w : World} (h : After D γ M W nt (.nrm T1 M1) e a w) : e = .normal ∧ Ok D γ M W nt T1 M1 a w := by
  cases e <;> first | exact ⟨rfl, h⟩ | exact h.elim
theorem After.ext {γ : Gm} {M : Mem} {W : World} {nt i : Nat} {T1 : PM Value} {M1 : Mem} {e : Exit} {a : Act} {w : World} (h : After D γ M W nt (.ext i T1 M1) e a w) : e = .exit i ∧ Ok D γ M W nt T1 M1 a w := by
  cases e <;> first | (obtain ⟨rfl, h⟩ := h; exact ⟨rfl, h⟩) | exact h.elim
theorem After.got {γ : Gm} {M : Mem} {W : World} {nt i : Nat} {T1 : PM Value} {M1 : Mem} {e : Exit} {a : Act} {w : World} (h : After D γ M W nt (.got i T1 M1) e a w) : e = .goto i ∧ Ok D γ M W nt T1 M1 a w := by
  cases e <;> first | (obtain ⟨rfl, h⟩ := h; exact ⟨rfl, h⟩) | exact h.elim
theorem After.ne {γ : Gm} {M : Mem} {W : World} {nt : Nat} {r : R} {e : Exit} {a : Act} {w : World} (h : After D γ M W nt r e a w) (hr : ∀ T1 M1, r ≠ .nrm T1 M1) : e ≠ .normal := by
  intro he
  subst he
  cases r <;> first | exact h.elim | exact hr _ _ rfl

variable (P) in
def ExOk (F : PM IF) (n : Nat) : Prop := ∀ (D : List Deferred) nt k c ic, compC P nt k c = some ic → ∀ (T : PM Value) (M : Mem) (a : Act) (γ : Gm) (W : World), a.defers = D → a.tmps.size = nt → TR γ T a.tmps → Rel γ M W →
  exec F n ic T M ≠ .bad → c.wp P (After D γ M W nt (exec F n ic T M)) a W
variable (P) in
def LoopOk (F : PM IF) (n : Nat) : Prop := ∀ (D : List Deferred) nt k c ic, compC P nt k c = some ic → ∀ (T : PM Value) (M : Mem) (a : Act) (γ : Gm) (W : World), a.defers = D → a.tmps.size = nt → TR γ T a.tmps → Rel γ M W →
  exec F n (.loop ic) T M ≠ .bad → Code.rounds P c (After D γ M W nt (exec F n (.loop ic) T M)) n a W
variable (P) in
def ScopeOk (F : PM IF) (n : Nat) : Prop := ∀ (D : List Deferred) nt k0 c ls, compLs P nt k0 c (labelsOf c) = some ls → ∀ k x ic, compC P nt k x = some ic → ∀ (T : PM Value) (M : Mem) (a : Act) (γ : Gm) (W : World), a.defers = D → a.tmps.size = nt → TR γ T a.tmps → Rel γ M W →
  exec F n (.scope ic ls) T M ≠ .bad → wpScope P x c (After D γ M W nt (exec F n (.scope ic ls) T M)) a W

def OvOk (P : Program) (f : Nat) (g : List Value → Mem → RC) : Prop :=
  ∀ args M γ W (vs : Array Value), Rel γ M W → LR γ args vs.toList → g args M ≠ .bad → Calls P f vs W (Called γ M W (g args M))
omit [Sig] [Know] [KOk] in
/-- The table holds functions of the program. -/
def TabOk (P : Program) (F : PM IF) : Prop := ∀ f fn, F.get f = some fn → ∃ func, P.funcs[f]? = some func ∧ compF P func = some fn
/-- What other means tell of calls is so. -/
def OvsOk (P : Program) : Prop := ∀ f g, Know.ov f = some g → OvOk P f g

theorem cell_one {tmps : Array Value} {γ : Gm} {T : PM Value} {M M' : Mem} {W : World} (hT : TR γ T tmps) (hR : Rel γ M W) {t : TypeId} {x : Nat} {v : Value} (ht : aggT P t = some false) (h : step T M (.load (.t x)) = some (v, M')) :
    ∃ cv, (do loadVar t (← asAddr (tmps.getD x undef)) : Sem Value).run P W = .ok cv W ∧ VR γ v cv := by
  simp only [step] at h
  have hv : VR γ ((Opd.t x).ev T) (tmps.getD x undef) := hT x
  split at h
  · rename_i r o he
    rw [he] at hv
    obtain ⟨g, hg, hc⟩ := hv.ptr_inv
    split at h
    · rename_i arr ha
      split at h
      · rename_i u hu
        cases h
        obtain ⟨_, hh, _⟩ := arrOf_held hR hg ha
        obtain ⟨cu, h1, h2, _⟩ := hh.cell hu
        rw [hc]
        exact ⟨cu, run_load_one ht h1, h2⟩
      · cases h
    · cases h
  · cases h

theorem cell_n {n : Nat} {tmps : Array Value} {γ : Gm} {T : PM Value} {M M' : Mem} {W : World} (hT : TR γ T tmps) (hR : Rel γ M W) {t : TypeId} {x : Nat} {v : Value} (ht : aggT P t = some true) (hs : sizeT P t = some (n + 1)) (h : step T M (.loadn (n + 1) (.t x)) = some (v, M')) :
    ∃ cv, (do loadVar t (← asAddr (tmps.getD x undef)) : Sem Value).run P W = .ok cv W ∧ VR γ v cv := by
  simp only [step] at h
  have hv : VR γ ((Opd.t x).ev T) (tmps.getD x undef) := hT x
  split at h
  · rename_i r o he
    rw [he] at hv
    obtain ⟨g, hg, hc⟩ := hv.ptr_inv
    split at h
    · rename_i arr ha
      split at h
      · rename_i l hl
        cases h
        obtain ⟨_, hh, _⟩ := arrOf_held hR hg ha
        obtain ⟨cl, h1, h2, h3, _⟩ := readL_cells hh hl
        obtain ⟨d, hd, hrow⟩ := aggT_true ht
        rw [hc]
        exact ⟨_, run_loadAt_mid W g.blk (g.base + o) t cl d h3 hd hrow (hs.trans (by rw [← h1.length, h2])), VR.agg_list (by simpa using h1)⟩
      · cases h
    · cases h
  · cases h

def resF (tmps : Array Value) : ResultVar → Sem Value
  | .tmp t => pure (tmps.getD t undef)
  | .cell a t => do loadVar t (← asAddr (tmps.getD a undef))

theorem resO_run {nt : Nat} {tmps : Array Value} {γ : Gm} {T : PM Value} {M : Mem} {W : World} (hT : TR γ T tmps) (hR : Rel γ M W) : ∀ {rs : List ResultVar} {l : List (Sum Nat (Nat × Nat))}, resO P nt rs = some l → ∀ {vs : List Value}, resultsL T M l = some vs →
    ∃ cvs, (rs.mapM (resF tmps)).run P W = .ok cvs W ∧ LR γ vs cvs
  | [], l, h, vs, hv => by
    unfold resO at h
    cases h
    cases hv
    exact ⟨[], by rw [List.mapM_nil]; rfl, trivial⟩
  | .tmp t :: rs, l, h, vs, hv => by
    unfold resO at h
    obtain ⟨m, hm, rfl⟩ := map_some h
    unfold resultsL at hv
    split at hv
    · rename_i ws hw
      cases hv
      obtain ⟨cvs, h1, h2⟩ := resO_run hT hR hm hw
      refine ⟨tmps.getD t undef :: cvs, ?_, hT t, h2⟩
      simp only [List.mapM_cons, resF, Sem.run_bind, Sem.run_pure, Result.andThen_ok, h1]
    · cases hv
  | .cell x t :: rs, l, h, vs, hv => by
    unfold resO at h
    split at h
    · rename_i n m ha hn hm
      cases h
      unfold resultsL at hv
      split at hv
      · rename_i v M2 ws hst hw
        cases hv
        obtain ⟨cvs, h1, h2⟩ := resO_run hT hR hm hw
        obtain ⟨cv, h3, h4⟩ := cell_n hT hR ha hn hst
        refine ⟨cv :: cvs, ?_, h4, h2⟩
        have h3' : (resF tmps (.cell x t)).run P W = .ok cv W := h3
        simp only [List.mapM_cons, Sem.run_bind, h3', Result.andThen_ok, Sem.run_pure, h1]
      · cases hv
    · rename_i n m ha hn hm
      cases h
      unfold resultsL at hv
      split at hv
      · rename_i v M2 ws hst hw
        cases hv
        obtain ⟨cvs, h1, h2⟩ := resO_run hT hR hm hw
        obtain ⟨cv, h3, h4⟩ := cell_one hT hR ha hst
        refine ⟨cv :: cvs, ?_, h4, h2⟩
        have h3' : (resF tmps (.cell x t)).run P W = .ok cv W := h3
        simp only [List.mapM_cons, Sem.run_bind, h3', Result.andThen_ok, Sem.run_pure, h1]
      · cases hv
    · cases h

theorem results_run {nt : Nat} {fn : Func} {tmps : Array Value} {γ : Gm} {T : PM Value} {M : Mem} {W : World} (hT : TR γ T tmps) (hR : Rel γ M W) {l : List (Sum Nat (Nat × Nat))} (h : resO P nt fn.results.toList = some l) {v : Value} (hv : results T M l = some v) :
    ∃ cv, (Go.results fn tmps).run P W = .ok cv W ∧ VR γ v cv := by
  unfold results at hv
  have run : ∀ {vs : List Value}, resultsL T M l = some vs → ∃ cvs : List Value, (Go.results fn tmps).run P W = .ok (if h : cvs.toArray.size = 1 then cvs.toArray[0] else .tuple cvs.toArray) W ∧ LR γ vs cvs := by
    intro vs hvs
    obtain ⟨cvs, h1, h2⟩ := resO_run (P := P) hT hR h hvs
    refine ⟨cvs, ?_, h2⟩
    have e : Go.results fn tmps = (do let vs ← fn.results.mapM (resF tmps); pure (if h : vs.size = 1 then vs[0] else .tuple vs)) := rfl
    rw [e, Array.mapM_eq_mapM_toList]
    simp only [map_eq_pure_bind, Sem.run_bind, h1, Result.andThen_ok, Sem.run_pure]
  split at hv
  · rename_i x hx
    cases hv
    obtain ⟨cvs, h1, h2⟩ := run hx
    match cvs, h2 with
    | [c], h2 => exact ⟨c, h1, h2.1⟩
  · rename_i vs hne hx
    cases hv
    obtain ⟨cvs, h1, h2⟩ := run hx
    refine ⟨.tuple cvs.toArray, ?_, VR.tuple_list (by simpa using h2)⟩
    rw [h1, dif_neg]
    intro e
    have e' : cvs.length = 1 := by simpa using e
    have := h2.length
    match vs, hne with
    | [x], hne => exact hne x rfl
    | [], _ => rw [e'] at this; cases this
    | _ :: _ :: _, _ => rw [e'] at this; simp at this
  · cases hv

theorem init_TR {γ : Gm} {args : List Value} {vs : Array Value} (h : LR γ args vs.toList) (k : Nat) : TR γ (initT args) (vs ++ Array.replicate k undef) := by
  intro i
  unfold initT tval
  rw [PM.get_ofList]
  have hl := h.length
  by_cases hi : i < args.length
  · rw [if_pos ⟨Nat.zero_le _, by omega⟩, Nat.sub_zero, List.getElem?_eq_getElem hi]
    obtain ⟨y, hy, hv⟩ := h.get i _ (List.getElem?_eq_getElem hi)
    have : (vs ++ Array.replicate k undef).getD i undef = y := by
      have hlt : i < vs.size := by simpa [hl] using hi
      simp only [Array.getD_eq_getD_getElem?, Array.getElem?_append, hlt, if_true]
      have : vs[i]? = some y := by simpa using hy
      rw [this]; rfl
    rw [this]; exact hv
  · rw [if_neg (by omega), PM.get_lf]
    have : (vs ++ Array.replicate k undef).getD i undef = undef := by
      have hlt : ¬ i < vs.size := by simpa [hl] using hi
      simp only [Array.getD_eq_getD_getElem?, Array.getElem?_append, hlt, if_false]
      by_cases hk : i - vs.size < k
      · simp [hk]
      · simp [hk]
    rw [this]; exact VR.undef γ

theorem calls_ok {F : PM IF} {n : Nat} (hF : TabOk P F) (hO : OvsOk P) (hx : ExOk P F n) : CallsOk P (callW (exec F n) F) := by
  intro f args M γ W vs hR hL hb
  unfold callW at hb ⊢
  cases hov : Know.ov f with
  | some g =>
    rw [hov] at hb
    exact hO f g hov args M γ W vs hR hL hb
  | none =>
  rw [hov] at hb
  simp only at hb ⊢
  cases hg : F.get f with
  | none => rw [hg] at hb; exact absurd rfl hb
  | some fn =>
    rw [hg] at hb
    obtain ⟨func, hfn, hc⟩ := hF f fn hg
    unfold compF at hc
    split at hc
    · rename_i c hbody
      split at hc
      · rename_i ic r hic hr
        cases hc
        simp only at hb ⊢
        cases hle : Nat.ble args.length func.ntmps with
        | false => exact absurd (by rw [hle]; rfl) hb
        | true =>
          simp only [hle, cond_true] at hb ⊢
          have hle' := Nat.le_of_ble_eq_true hle
          have hl := hL.length
          have hsz : (vs ++ Array.replicate (func.ntmps - vs.size) undef).size = func.ntmps := by
            have : vs.toList.length = vs.size := by simp
            simp only [Array.size_append, Array.size_replicate]; omega
          have hbad : exec F n ic (initT args) M ≠ .bad := by
            intro e; rw [e] at hb; exact hb rfl
          have hw := hx [] func.ntmps 1000 c ic hic (initT args) M { tmps := vs ++ Array.replicate (func.ntmps - vs.size) undef, defers := [] } γ W rfl hsz (init_TR hL _) hR hbad
          have fin : ∀ {T1 : PM Value} {M1 : Mem} {a : Act} {w : World}, Ok [] γ M W func.ntmps T1 M1 a w → leave ⟨func.ntmps, r, ic⟩ T1 M1 ≠ .bad →
              a.defers = [] ∧ ∃ v, (Go.results func a.tmps).run P w = .ok v w ∧ Called γ M W (leave ⟨func.ntmps, r, ic⟩ T1 M1) (.returned v) w := by
            intro T1 M1 a w ⟨hd, _, γ', hT', hR', hE'⟩ hb'
            unfold leave at hb' ⊢
            cases hres : results T1 M1 r with
            | none => rw [hres] at hb'; exact absurd rfl hb'
            | some v =>
              obtain ⟨cv, h1, h2⟩ := results_run hT' hR' hr hres
              exact ⟨hd, cv, h1, γ', h2, hR', hE'⟩
          refine calls_of_wp hfn hbody (Code.wp_mono (fun e a w he => ?_) hw)
          generalize exec F n ic (initT args) M = r1 at he hb ⊢
          cases r1 with
          | nrm T1 M1 =>
            obtain ⟨rfl, ho⟩ := he.nrm
            exact fin ho hb
          | ret T1 M1 =>
            cases e <;> first | exact he.elim | exact fin he hb
          | pan v M1 =>
            cases e <;> first | exact he.elim | exact he
          | ext _ _ _ => exact absurd rfl hb
          | got _ _ _ => exact absurd rfl hb
          | bad => exact absurd rfl hb
      · cases hc
    · cases hc

theorem scope_ok {F : PM IF} {n : Nat} (hx : ExOk P F n) (hs : ScopeOk P F n) : ScopeOk P F (n + 1) := by
  intro D nt k0 c ls hls k x ic hic T M a γ W hd hsz hT hR hb
  have hb1 : exec F n ic T M ≠ .bad := by
    intro e
    apply hb
    unfold exec
    simp only [e]
  refine wpScope_of (Code.wp_mono (fun e a' w' he => ?_) (hx D nt k x ic hic T M a γ W hd hsz hT hR hb1))
  have eq : exec F (n + 1) (.scope ic ls) T M = (match exec F n ic T M with
      | .got l T M => match findL l ls with
        | some r => exec F n (.scope r ls) T M
        | none => .got l T M
      | r => r) := by rw [exec] <;> rfl
  rw [eq] at hb ⊢
  generalize exec F n ic T M = r1 at he hb
  cases r1 with
  | got l T1 M1 =>
    obtain ⟨rfl, ho⟩ := he.got
    simp only at hb ⊢
    cases hf : findL l ls with
    | none =>
      refine .inr ⟨?_, ⟨rfl, ho⟩⟩
      cases hfl : findLabel c l with
      | none => rfl
      | some r => exact absurd (findLabel_mem hfl) (findL_none hls hf)
    | some r =>
      rw [hf] at hb
      obtain ⟨rest, k', h1, h2⟩ := findL_some hls hf
      obtain ⟨h3, h4, γ', h5, h6, h7⟩ := ho
      exact .inl ⟨rest, h1, wpScope_mono (fun e a w he => After.trans h7 he) (hs D nt k0 c ls hls k' rest r h2 T1 M1 a' γ' w' h3 h4 h5 h6 hb)⟩
  | nrm T1 M1 => obtain ⟨rfl, ho⟩ := he.nrm; exact ho
  | ext i T1 M1 => obtain ⟨rfl, ho⟩ := he.ext; exact ⟨rfl, ho⟩
  | ret T1 M1 => cases e <;> first | exact he.elim | exact he
  | pan v M1 => cases e <;> first | exact he.elim | exact he
  | bad => exact absurd rfl hb

theorem loop_ok {F : PM IF} {n : Nat} (hx : ExOk P F n) (hl : LoopOk P F n) : LoopOk P F (n + 1) := by
  intro D nt k c ic hic T M a γ W hd hsz hT hR hb
  have hb1 : exec F n ic T M ≠ .bad := by
    intro e
    apply hb
    unfold exec
    simp only [e]
  rw [rounds_succ]
  refine Code.wp_mono (fun e a' w' he => ?_) (hx D nt k c ic hic T M a γ W hd hsz hT hR hb1)
  have eq : exec F (n + 1) (.loop ic) T M = (match exec F n ic T M with
      | .nrm T M => exec F n (.loop ic) T M
      | r => r) := by rw [exec] <;> rfl
  rw [eq] at hb ⊢
  generalize exec F n ic T M = r1 at he hb
  cases r1 with
  | nrm T1 M1 =>
    obtain ⟨rfl, h3, h4, γ', h5, h6, h7⟩ := he.nrm
    exact rounds_mono (fun e a w he => After.trans h7 he) n _ _ (hl D nt k c ic hic T1 M1 a' γ' w' h3 h4 h5 h6 hb)
  | bad => exact absurd rfl hb
  | ext i T1 M1 => exact then_of (he.ne (fun _ _ e => by cases e)) he
  | got i T1 M1 => exact then_of (he.ne (fun _ _ e => by cases e)) he
  | ret T1 M1 => exact then_of (he.ne (fun _ _ e => by cases e)) he
  | pan v M1 => exact then_of (he.ne (fun _ _ e => by cases e)) he

theorem exec_ok {F : PM IF} {n : Nat} (hm : P.follows .mixedOrders = true) (hF : TabOk P F) (hO : OvsOk P) (hx : ExOk P F n) (hl : LoopOk P F (n + 1)) (hs : ScopeOk P F (n + 1)) : ExOk P F (n + 1) := by
  intro D nt k c ic hic T M a γ W hd hsz hT hR hb
  have hc := calls_ok hF hO hx
  have ok : Ok D γ M W nt T M a W := ⟨hd, hsz, γ, hT, hR, Ext.refl γ M W⟩
  cases k with
  | zero => unfold compC at hic; cases hic
  | succ k =>
    cases c <;> simp only [compC] at hic
    case skip => cases hic; exact wp_skip ok
    case label l => cases hic; exact wp_label ok
    case ret => cases hic; exact wp_ret ok
    case exit id => cases hic; exact wp_exit ⟨rfl, ok⟩
    case goto l => cases hic; exact wp_goto ⟨rfl, ok⟩
    case rangeFunc => cases hic; exact absurd (by rw [exec]) hb
    case refuse => cases hic; exact absurd (by rw [exec]) hb
    case region id ops draw =>
      cases draw with
      | false =>
        obtain ⟨l, hl', rfl⟩ := map_some hic
        have eq : exec F (n + 1) (.ops l) T M = runOps (callW (exec F n) F) l T M := by rw [exec] <;> rfl
        rw [eq] at hb ⊢
        exact wp_region_list (runOps_sound hc hl' hd hsz hT hR hb fun e a' w' h => h)
      | true =>
        obtain ⟨l, hl', rfl⟩ := map_some hic
        have eq : exec F (n + 1) (.draw l) T M = runDraw (callW (exec F n) F) l 0 [] T M := by rw [exec] <;> rfl
        rw [eq] at hb ⊢
        exact draw_sound hm hc hl' hd hsz hT hR hb fun e a' w' h => h
    case seq x y =>
      split at hic
      · rename_i i j hi hj
        cases hic
        have eq : exec F (n + 1) (.seq i j) T M = (match exec F n i T M with
          | .nrm T M => exec F n j T M
          | r => r) := by rw [exec] <;> rfl
        have hb1 : exec F n i T M ≠ .bad := by intro e; rw [eq, e] at hb; exact hb rfl
        refine wp_seq (Code.wp_mono (fun e a' w' he => ?_) (hx D nt k x i hi T M a γ W hd hsz hT hR hb1))
        rw [eq] at hb ⊢
        generalize exec F n i T M = r1 at he hb
        cases r1 with
        | nrm T1 M1 =>
          obtain ⟨rfl, h3, h4, γ', h5, h6, h7⟩ := he.nrm
          exact Code.wp_mono (fun e a w he => After.trans h7 he) (hx D nt k y j hj T1 M1 a' γ' w' h3 h4 h5 h6 hb)
        | bad => exact absurd rfl hb
        | ext i T1 M1 => exact then_of (he.ne (fun _ _ e => by cases e)) he
        | got i T1 M1 => exact then_of (he.ne (fun _ _ e => by cases e)) he
        | ret T1 M1 => exact then_of (he.ne (fun _ _ e => by cases e)) he
        | pan v M1 => exact then_of (he.ne (fun _ _ e => by cases e)) he
      · cases hic
    case cond c x y =>
      split at hic
      · rename_i o i j ho hi hj
        cases hic
        have eq : exec F (n + 1) (.cond o i j) T M = (match o.ev T with
          | .bool true => exec F n i T M
          | .bool false => exec F n j T M
          | _ => .bad) := by rw [exec] <;> rfl
        have hv := opd_ev ho hT
        rw [eq] at hb ⊢
        split at hb
        · rename_i he
          rw [he] at hv
          exact wp_cond_true hv.bool (hx D nt k x i hi T M a γ W hd hsz hT hR hb)
        · rename_i he
          rw [he] at hv
          exact wp_cond_false hv.bool (hx D nt k y j hj T M a γ W hd hsz hT hR hb)
        · exact absurd rfl hb
      · cases hic
    case block id x =>
      obtain ⟨i, hi, rfl⟩ := map_some hic
      have eq : exec F (n + 1) (.block id i) T M = (match exec F n i T M with
        | .ext k T M => bif Nat.beq k id then .nrm T M else .ext k T M
        | r => r) := by rw [exec] <;> rfl
      have hb1 : exec F n i T M ≠ .bad := by intro e; rw [eq, e] at hb; exact hb rfl
      refine wp_block (Code.wp_mono (fun e a' w' he => ?_) (hx D nt k x i hi T M a γ W hd hsz hT hR hb1))
      rw [eq] at hb ⊢
      generalize exec F n i T M = r1 at he hb
      cases r1 with
      | ext j T1 M1 =>
        obtain ⟨rfl, ho⟩ := he.ext
        show if j = id then _ else _
        by_cases e : j = id
        · subst e
          rw [if_pos rfl]
          simp only [Nat.beq_refl, cond_true]
          exact ho
        · rw [if_neg e]
          have : Nat.beq j id = false := by
            cases h : Nat.beq j id with
            | false => rfl
            | true => exact absurd (Nat.eq_of_beq_eq_true h) e
          simp only [this, cond_false]
          exact ⟨rfl, ho⟩
      | nrm T1 M1 => obtain ⟨rfl, ho⟩ := he.nrm; exact ho
      | got j T1 M1 => obtain ⟨rfl, ho⟩ := he.got; exact ⟨rfl, ho⟩
      | ret T1 M1 => cases e <;> first | exact he.elim | exact he
      | pan v M1 => cases e <;> first | exact he.elim | exact he
      | bad => exact absurd rfl hb
    case loop x =>
      obtain ⟨i, hi, rfl⟩ := map_some hic
      exact wp_loop_rounds (n + 1) (hl D nt k x i hi T M a γ W hd hsz hT hR hb)
    case scope x =>
      split at hic
      · rename_i i ls hi hls
        cases hic
        exact wp_scope_of (hs D nt k x ls hls k x i hi T M a γ W hd hsz hT hR hb)
      · cases hic

theorem all_ok {F : PM IF} (hm : P.follows .mixedOrders = true) (hF : TabOk P F) (hO : OvsOk P) : ∀ n, ExOk P F n ∧ LoopOk P F n ∧ ScopeOk P F n
  | 0 => by
    refine ⟨?_, ?_, ?_⟩ <;> (intro; intros; rename_i h; exact absurd (by rw [exec]) h)
  | n + 1 =>
    let ⟨h1, h2, h3⟩ := all_ok hm hF hO n
    let l := loop_ok h1 h2
    let s := scope_ok h1 h3
    ⟨exec_ok hm hF hO h1 l s, l, s⟩

/-- What the abstract interpreter says of a call holds of the call. -/
theorem callF_sound {F : PM IF} (hm : P.follows .mixedOrders = true) (hF : TabOk P F) (hO : OvsOk P) (n : Nat) : CallsOk P (callF F n) :=
  calls_ok hF hO (all_ok hm hF hO n).1
end
end Go.Ai
