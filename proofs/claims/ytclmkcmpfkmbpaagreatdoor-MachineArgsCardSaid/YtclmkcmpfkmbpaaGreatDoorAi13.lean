/-
  The abstract interpreter: every instruction does what the model's operation does.
-/
import Derived.Test.YtclmkcmpfkmbpaaGreatDoorAi12
set_option linter.unusedSectionVars false
namespace Go.Ai
open Go

variable [Sig] [Know] [KOk]

variable {P : Program} {γ : Gm} {M M' : Mem} {W : World} {T : PM Value} {a : Act} {v : Value}

theorem map_some {α β : Type} {x : Option α} {f : α → β} {b : β} (h : x.map f = some b) : ∃ y, x = some y ∧ b = f y := by
  cases x with
  | none => cases h
  | some y => cases h; exact ⟨y, rfl, rfl⟩

theorem opdO_some {x : Option Operand} {y : Opd} (h : opdO x = some (some y)) : ∃ z, x = some z ∧ opd z = some y := by
  cases x with
  | none => cases h
  | some z =>
    simp only [opdO] at h
    split at h
    · rename_i w hw; cases h; exact ⟨z, rfl, hw⟩
    · cases h
theorem opdO_none {x : Option Operand} (h : opdO x = some none) : x = none := by
  cases x with
  | none => rfl
  | some z =>
    simp only [opdO] at h
    split at h <;> cases h

/-- A call of a function: what is entered. -/
theorem compCall_call {c : Call} {f : Nat} {xs : List Opd} (h : compCall P c = some (.call f xs)) :
    c.callee = .value (.func f) ∧ opds c.args.toList = some xs ∧ ∃ fn, P.funcs[f]? = some fn ∧ fn.body.isSome = true ∧ ¬ (fn.name = "runtime.NumGoroutine") := by
  unfold compCall at h
  split at h
  · rename_i f' h1
    split at h
    · rename_i fn ys h4 h5
      obtain ⟨h6, h7⟩ := cond_some h
      cases h7
      rw [Bool.and_eq_true, Bool.not_eq_true'] at h6
      exact ⟨h1, h5, fn, h4, h6.1, by simpa using h6.2⟩
    · cases h
  all_goals (repeat' split at h) <;> first | (cases h; done) | (obtain ⟨_, h⟩ := cond_some h; cases h; done)

theorem call_enter {c : Call} {f : Nat} {xs : List Opd} {ty : TypeId} (h : compCall P c = some (.call f xs)) (W : World) :
    (do let d ← resolve a.eval c ty; invoke d.target d.args : Sem Next).run P W = .ok (.enter f (c.args.map a.eval)) W := by
  obtain ⟨h1, _, fn, h3, h4, h5⟩ := compCall_call h
  have e : resolve a.eval c ty = pure ({ target := .fn (.func f) #[], args := #[] ++ c.args.map a.eval } : Deferred) := by
    unfold resolve
    rw [h1]
    rfl
  rw [e]
  obtain ⟨b, hb⟩ := Option.isSome_iff_exists.1 h4
  simp [invoke, callFunc, h3, h5, hb]

theorem builtin_eq (b : Builtin) (xs : List Operand) (ats : Array TypeId) (ty : TypeId) (h : ∀ t c args, builtin b ats t c args = builtin b ats t #[] args) :
    (do let d ← resolve a.eval { callee := .builtin b, args := xs.toArray, argTypes := ats } ty; invoke d.target d.args : Sem Next) = builtin b ats ty #[] (xs.map a.eval).toArray := by
  have e : resolve a.eval { callee := .builtin b, args := xs.toArray, argTypes := ats } ty =
      pure ({ target := .builtin b ats ty ((xs.toArray).map fun | .const _ => true | _ => false), args := xs.toArray.map a.eval } : Deferred) := rfl
  rw [e]
  show builtin b ats ty _ (xs.toArray.map a.eval) = _
  rw [h, List.map_toArray]

theorem builtin_runs {c : Call} {i : I} {ty : TypeId} (hi : compCall P c = some i) (hn : ∀ f xs, i ≠ .call f xs) (hT : TR γ T a.tmps) (hR : Rel γ M W) (h : step T M i = some (v, M')) :
    Runs P (do let d ← resolve a.eval c ty; invoke d.target d.args) W γ M v M' := by
  obtain ⟨callee, args, ats⟩ := c
  unfold compCall at hi
  obtain ⟨args⟩ := args
  obtain ⟨ats⟩ := ats
  dsimp only at hi
  split at hi
  · split at hi
    · obtain ⟨_, h7⟩ := cond_some hi
      exact absurd h7.symm (hn _ _)
    · cases hi
  · rename_i x t
    rw [builtin_eq .len [x] #[t] ty (fun _ _ _ => rfl)]
    split at hi
    · rename_i y hu hy
      cases hi
      exact lenS_runs hu hy hT hR h
    · rename_i y e hu hy
      cases hi
      exact lenL_runs hu hy hT hR h
    · rename_i y k e hu hy
      cases hi
      exact mlen_runs hu hy hT hR h
    · cases hi
  · rename_i s x t u
    rw [builtin_eq .append [s, x] #[t, u] ty (fun _ _ _ => rfl)]
    split at hi
    · rename_i e s' x' hu hs hx
      split at hi
      · rename_i n b z h1 h2 h3
        obtain ⟨h4, h5⟩ := cond_some hi
        cases h5
        simp only [Bool.and_eq_true] at h4
        obtain ⟨⟨⟨h4, h5⟩, h6⟩, h7⟩ := h4
        have h7 := Nat.eq_of_beq_eq_true h7
        subst h7
        rw [blt_spec, decide_eq_true_iff] at h6
        exact app_runs hu h1 h2 h3 (Nat.eq_of_beq_eq_true h4) h6 hs hx hT hR h
      · cases hi
    · cases hi
  · rename_i d s t u
    rw [builtin_eq .copy [d, s] #[t, u] ty (fun _ _ _ => rfl)]
    split at hi
    · rename_i e d' s' hu hd hs
      split at hi
      · rename_i n h1
        cases hi
        exact cpy_runs hu h1 hd hs hT hR h
      · cases hi
    · cases hi
  · rename_i x y t u
    rw [builtin_eq .max [x, y] #[t, u] ty (fun _ _ _ => rfl)]
    split at hi
    · rename_i k x' y' hu hx hy
      cases hi
      obtain ⟨rfl, j, p, q, e1, e2, rfl⟩ := mx_runs hx hy hT h
      show Runs P (do pure (Next.value (← Builtin.max_ #[t, u] ty [a.eval x, a.eval y].toArray))) W γ M' _ M'
      rw [e1, e2]
      refine Runs.v (cv := .int j (if p < q then q else p)) (by simp [Builtin.max_, Builtin.max2]) (.atom rfl) hR
    · cases hi
  · rename_i x y t u
    rw [builtin_eq .min [x, y] #[t, u] ty (fun _ _ _ => rfl)]
    split at hi
    · rename_i k x' y' hu hx hy
      cases hi
      obtain ⟨rfl, j, p, q, e1, e2, rfl⟩ := mx_runs hx hy hT h
      show Runs P (do pure (Next.value (← Builtin.min_ #[t, u] ty [a.eval x, a.eval y].toArray))) W γ M' _ M'
      rw [e1, e2]
      refine Runs.v (cv := .int j (if p < q then p else q)) ?_ (.atom rfl) hR
      have : (if q < p then q else p) = (if p < q then p else q) := by split <;> split <;> omega
      simp [Builtin.min_, Builtin.min2, this]
    · cases hi
  · cases hi

theorem step_run {o : Oper} {i : I} (hi : compI P o = some i) (hn : ∀ f xs, i ≠ .call f xs) (hT : TR γ T a.tmps) (hR : Rel γ M W) (h : step T M i = some (v, M')) : Runs P (execOp a.eval o) W γ M v M' := by
  obtain ⟨dst, op, type, pos, after, guard⟩ := o
  cases op <;> simp only [compI] at hi <;> try (cases hi; done)
  case move x =>
    obtain ⟨y, hy, rfl⟩ := map_some hi
    exact mov_runs hy hT hR h
  case assign x =>
    obtain ⟨y, hy, rfl⟩ := map_some hi
    exact mov_runs hy hT hR h
  case pick c x y =>
    split at hi
    · rename_i h1 h2 h3
      cases hi
      exact pick_runs h1 h2 h3 hT hR h
    · cases hi
  case alloc e =>
    split at hi
    · rename_i z hz
      cases hi
      exact new_runs hz hR h
    · cases hi
  case box e x =>
    obtain ⟨y, hy, rfl⟩ := map_some hi
    exact box_runs hy hT hR h
  case build t ps =>
    split at hi
    · rename_i z fs hz hu
      obtain ⟨h1, h2⟩ := cond_opt hi
      obtain ⟨qs, hq, rfl⟩ := map_some h2
      exact buildS_runs hz hu h1 hq hT hR h
    · rename_i z n e hz hu
      split at hi
      · rename_i s hs
        obtain ⟨qs, hq, rfl⟩ := map_some hi
        exact buildA_runs hz hu hs hq hT hR h
      · cases hi
    · cases hi
  case buildSlice t n ps =>
    split at hi
    · rename_i e hu
      split at hi
      · rename_i s z hs hz
        obtain ⟨h1, h2⟩ := cond_opt hi
        rw [Bool.and_eq_true, Nat.ble_eq] at h1
        obtain ⟨qs, hq, rfl⟩ := map_some h2
        exact bslice_runs hu hs hz (Nat.eq_of_beq_eq_true h1.2) h1.1 hq hT hR h
      · cases hi
    · cases hi
  case insert t m k x =>
    split at hi
    · rename_i kt et m' k' x' hu hm hk hx
      obtain ⟨s, hs, rfl⟩ := map_some hi
      exact mset_runs hu hs hm hk hx hT hR h
    · cases hi
  case load t x =>
    split at hi
    · rename_i n x' ha hs hx
      cases hi
      exact loadn_runs ha hs hx hT hR h
    · rename_i n x' ha hs hx
      cases hi
      exact load_runs ha hx hT hR h
    · cases hi
  case store t x y =>
    split at hi
    · rename_i n x' y' hs hx hy
      cases hi
      exact store_runs hs hx hy hT hR h
    · cases hi
  case nilCheck x =>
    obtain ⟨y, hy, rfl⟩ := map_some hi
    obtain ⟨b, hb, hr⟩ := nilck_runs hy hT hR h
    show Runs P (match a.eval x with
      | .pointer none | .nilIface | .nilFunc => runtimePanic .nilDeref
      | .func (.method name) first captured => _
      | x => pure (.value x)) W γ M v M'
    rw [hb]
    rw [hb] at hr
    exact hr
  case binOp op t x y yt =>
    split at hi
    · rename_i k x' y' hu hx hy
      cases hi
      exact bin_runs hx hy hT hR h
    · rename_i x' y' hu hx hy
      cases hi
      exact bin_runs hx hy hT hR h
    · rename_i e x' y' hu hx hy
      split at hi
      · cases hi
        exact eqp_runs (neg := false) hu rfl hx hy hT hR h
      · cases hi
        exact eqp_runs (neg := true) hu rfl hx hy hT hR h
      · cases hi
    · rename_i fs x' y' hu hx hy
      obtain ⟨h1, hi⟩ := cond_opt hi
      split at hi
      · cases hi
        exact eqa_runs (neg := false) h1 rfl hx hy hT hR h
      · cases hi
        exact eqa_runs (neg := true) h1 rfl hx hy hT hR h
      · cases hi
    · rename_i ms x' hu hx hy
      split at hi
      · cases hi
        exact ifn_runs (neg := false) hu rfl hx hy hT hR h
      · cases hi
        exact ifn_runs (neg := true) hu rfl hx hy hT hR h
      · cases hi
    · cases hi
  case unOp op t x =>
    cases op <;> simp only at hi <;> try (cases hi; done)
    · obtain ⟨y, hy, rfl⟩ := map_some hi
      first | exact not_runs hy hT hR h | exact neg_runs hy hT hR h
    · obtain ⟨y, hy, rfl⟩ := map_some hi
      first | exact not_runs hy hT hR h | exact neg_runs hy hT hR h
  case convert s d x =>
    split at hi
    · rename_i j k hs hd
      obtain ⟨y, hy, rfl⟩ := map_some hi
      exact conv_runs hs hd hy hT hR h
    · cases hi
  case makeInterface t x =>
    split at hi
    · cases hi
    · rename_i d hd hne
      obtain ⟨y, hy, rfl⟩ := map_some hi
      exact iface_runs hne (fun ms e => hd ms (by rw [e])) hy hT hR h
    · cases hi
  case typeAssert x xt t ok =>
    cases ok with
    | true => cases hi
    | false =>
      simp only at hi
      split at hi
      · cases hi
      · rename_i d hd hne
        obtain ⟨y, hy, rfl⟩ := map_some hi
        exact tas_runs hne (fun ms e => hd ms (by rw [e])) hy hT hR h
      · cases hi
  case makeFunc fn first captured =>
    split at hi
    · rename_i f xs ys h1 h2
      cases hi
      exact mkf_runs h1 h2 hT hR h
    · cases hi
  case makeMap t r =>
    cases r with
    | none => cases hi; exact mkmap_runs hR h
    | some r => cases hi
  case makeSlice t l c =>
    split at hi
    · rename_i e hu
      split at hi
      · rename_i s b z l' c' hs hb hz hl hc
        obtain ⟨h1, h2⟩ := cond_some hi
        cases h2
        rw [Bool.and_eq_true] at h1
        exact mslice_runs hu hs hb hz (Nat.eq_of_beq_eq_true h1.1) hl hc hT hR h
      · cases hi
    · cases hi
  case slice t x lo hi' mx =>
    split at hi
    · rename_i x' lo' hi2 hu hx hlo hhi hmx
      cases hi
      rw [opdO_none hmx]
      exact slS_runs hu hx hlo hhi hT hR h
    · rename_i e x' lo' hi2 hu hx hlo hhi hmx
      obtain ⟨s, hs, rfl⟩ := map_some hi
      rw [opdO_none hmx]
      exact sl_runs hu hs hx hlo hhi hT hR h
    · rename_i e x' lo' hi2 mx' hu hx hlo hhi hmx
      obtain ⟨s, hs, rfl⟩ := map_some hi
      obtain ⟨z, rfl, hz⟩ := opdO_some hmx
      obtain ⟨y, rfl, hy⟩ := opdO_some hhi
      exact sl3_runs hu hs hx hlo hy hz hT hR h
    · cases hi
  case fieldAddr s x f =>
    split at hi
    · rename_i fs x' hu hx
      split at hi
      · rename_i fl hf
        split at hi
        · rename_i n hn'
          cases hi
          exact fld_runs hu hf hn' hx hT hR h
        · cases hi
      · cases hi
    · cases hi
  case field t x f =>
    split at hi
    · rename_i fs x' hu hx
      split at hi
      · rename_i fl hf
        split at hi
        · rename_i n ha hn'
          cases hi
          exact fldv_runs (ag := true) hu hf ha hn' hx hT hR h
        · rename_i n ha hn'
          cases hi
          exact fldv_runs (ag := false) hu hf ha hn' hx hT hR h
        · cases hi
      · cases hi
    · cases hi
  case indexAddr t x ix =>
    split at hi
    · rename_i e x' i' hu hx hii
      obtain ⟨s, hs, rfl⟩ := map_some hi
      exact idxS_runs hu hs hx hii hT hR h
    · rename_i n e x' i' hu hx hii
      obtain ⟨s, hs, rfl⟩ := map_some hi
      exact idxA_runs hu hs hx hii hT hR h
    · cases hi
  case index t x ix =>
    split at hi
    · rename_i x' i' hu hx hii
      cases hi
      exact chr_runs hu hx hii hT hR h
    · cases hi
  case lookup t m k ok =>
    split at hi
    · rename_i kt et m' k' hu hm hk
      split at hi
      · rename_i z hz
        obtain ⟨s, hs, rfl⟩ := map_some hi
        exact look_runs hu hs hz hm hk hT hR h
      · cases hi
    · cases hi
  case mapUpdate t m k x =>
    split at hi
    · rename_i kt et m' k' x' hu hm hk hx
      obtain ⟨s, hs, rfl⟩ := map_some hi
      exact mset_runs hu hs hm hk hx hT hR h
    · cases hi
  case mapEntry t m k =>
    split at hi
    · rename_i kt et m' k' hu hm hk
      split at hi
      · rename_i z hz
        obtain ⟨s, hs, rfl⟩ := map_some hi
        exact ment_runs hu hs hz hm hk hT hR h
      · cases hi
    · cases hi
  case entryStore t m s x =>
    split at hi
    · rename_i m' s' x' hm hs hx
      cases hi
      exact mest_runs hm hs hx hT hR h
    · cases hi
  case range t x =>
    split at hi
    · rename_i kt et hu
      obtain ⟨y, hy, rfl⟩ := map_some hi
      exact range_runs hu hy hT hR h
    · cases hi
  case next it s =>
    cases s with
    | true => cases hi
    | false =>
      obtain ⟨y, hy, rfl⟩ := map_some hi
      exact next_runs hy hT hR h
  case extract x ix =>
    obtain ⟨y, hy, rfl⟩ := map_some hi
    exact ext_runs hy hT hR h
  case call c => exact builtin_runs hi hn hT hR h
  case panic x =>
    obtain ⟨y, hy, rfl⟩ := map_some hi
    cases h
end Go.Ai
