/-
  The abstract interpreter: what an instruction looks at; what it needs of the memory; what is made may be made later.
-/
import Derived.Test.YtclmkcmpfkmbpaaGreatDoorAi14
set_option linter.unusedSectionVars false
namespace Go.Ai
open Go

variable [Sig] [Know] [KOk]

variable {P : Program}

theorem ev_congr {T T' : PM Value} {x : Opd} (h : ∀ s ∈ opdSlot x, tval T s = tval T' s) : x.ev T = x.ev T' := by
  cases x with
  | t i => exact h i (by simp [opdSlot])
  | c v => rfl
theorem optNat_congr {T T' : PM Value} {d : Nat} {x : Option Opd} (h : ∀ s ∈ optSlot x, tval T s = tval T' s) : optNat T d x = optNat T' d x := by
  cases x with
  | none => rfl
  | some y => exact congrArg natArg (ev_congr h)
theorem evs_congr {T T' : PM Value} : ∀ {l : List Opd}, (∀ s ∈ l.flatMap opdSlot, tval T s = tval T' s) → l.map (·.ev T) = l.map (·.ev T')
  | [], _ => rfl
  | x :: l, h => by
    rw [List.map_cons, List.map_cons, ev_congr (fun s hs => h s (by simp [hs])), evs_congr (l := l) (fun s hs => h s (by
      rw [List.flatMap_cons]; exact List.mem_append_right _ hs))]
theorem fillL_congr {T T' : PM Value} : ∀ {ps : List (Nat × Nat × Opd)} {z : List Value}, (∀ s ∈ ps.flatMap (fun p => opdSlot p.2.2), tval T s = tval T' s) → fillL T z ps = fillL T' z ps
  | [], _, _ => rfl
  | (off, size, x) :: ps, z, h => by
    have e := ev_congr (T := T) (T' := T') (x := x) (fun s hs => h s (by simp [hs]))
    unfold fillL
    rw [e]
    have := fun z => fillL_congr (T := T) (T' := T') (ps := ps) (z := z) (fun s hs => h s (by rw [List.flatMap_cons]; exact List.mem_append_right _ hs))
    simp only [this]

theorem step_congr {T T' : PM Value} {M : Mem} {i : I} (h : ∀ s ∈ slotsI i, tval T s = tval T' s) : step T M i = step T' M i := by
  cases i <;> simp only [slotsI, List.mem_append] at h
  case pick c a b => simp only [step, ev_congr (x := c) (fun s hs => h s (.inl (.inl hs))), ev_congr (x := a) (fun s hs => h s (.inl (.inr hs))), ev_congr (x := b) (fun s hs => h s (.inr hs))]
  case new => rfl
  case mkmap => rfl
  case bad => rfl
  case build z ps => simp only [step, fillL_congr h]
  case bslice es n z ps => simp only [step, fillL_congr h]
  case call f xs => rfl
  case mkf fn a b => simp only [step, evs_congr (l := a) (fun s hs => h s (.inl hs)), evs_congr (l := b) (fun s hs => h s (.inr hs))]
  case slS x l hi => simp only [step, ev_congr (x := x) (fun s hs => h s (.inl (.inl hs))), optNat_congr (x := l) (fun s hs => h s (.inl (.inr hs))), optNat_congr (x := hi) (fun s hs => h s (.inr hs))]
  case sl es x l hi mx =>
    have hm : (match mx with | none => (none : Option Nat) | some m => natArg (m.ev T)) = (match mx with | none => none | some m => natArg (m.ev T')) := by
      cases mx with
      | none => rfl
      | some m => exact congrArg natArg (ev_congr (x := m) (fun s hs => h s (.inr hs)))
    cases mx with
    | none => simp only [step, ev_congr (x := x) (fun s hs => h s (.inl (.inl (.inl hs)))), optNat_congr (x := l) (fun s hs => h s (.inl (.inl (.inr hs)))), optNat_congr (x := hi) (fun s hs => h s (.inl (.inr hs)))]
    | some m =>
      simp only at hm
      simp only [step, ev_congr (x := x) (fun s hs => h s (.inl (.inl (.inl hs)))), optNat_congr (x := l) (fun s hs => h s (.inl (.inl (.inr hs)))), optNat_congr (x := hi) (fun s hs => h s (.inl (.inr hs))), hm]
  case mset s a b c => simp only [step, ev_congr (x := a) (fun s hs => h s (.inl (.inl hs))), ev_congr (x := b) (fun s hs => h s (.inl (.inr hs))), ev_congr (x := c) (fun s hs => h s (.inr hs))]
  case mest a b c => simp only [step, ev_congr (x := a) (fun s hs => h s (.inl (.inl hs))), ev_congr (x := b) (fun s hs => h s (.inl (.inr hs))), ev_congr (x := c) (fun s hs => h s (.inr hs))]
  case store n a b => simp only [step, ev_congr (x := a) (fun s hs => h s (.inl hs)), ev_congr (x := b) (fun s hs => h s (.inr hs))]
  case bin op a b => simp only [step, ev_congr (x := a) (fun s hs => h s (.inl hs)), ev_congr (x := b) (fun s hs => h s (.inr hs))]
  case eqp ng a b => simp only [step, ev_congr (x := a) (fun s hs => h s (.inl hs)), ev_congr (x := b) (fun s hs => h s (.inr hs))]
  case eqa ng a b => simp only [step, ev_congr (x := a) (fun s hs => h s (.inl hs)), ev_congr (x := b) (fun s hs => h s (.inr hs))]
  case mslice p q r a b => simp only [step, ev_congr (x := a) (fun s hs => h s (.inl hs)), ev_congr (x := b) (fun s hs => h s (.inr hs))]
  case idxS es a b => simp only [step, ev_congr (x := a) (fun s hs => h s (.inl hs)), ev_congr (x := b) (fun s hs => h s (.inr hs))]
  case idxA n es a b => simp only [step, ev_congr (x := a) (fun s hs => h s (.inl hs)), ev_congr (x := b) (fun s hs => h s (.inr hs))]
  case chr a b => simp only [step, ev_congr (x := a) (fun s hs => h s (.inl hs)), ev_congr (x := b) (fun s hs => h s (.inr hs))]
  case mx ng a b => simp only [step, ev_congr (x := a) (fun s hs => h s (.inl hs)), ev_congr (x := b) (fun s hs => h s (.inr hs))]
  case app p q a b => simp only [step, ev_congr (x := a) (fun s hs => h s (.inl hs)), ev_congr (x := b) (fun s hs => h s (.inr hs))]
  case cpy p a b => simp only [step, ev_congr (x := a) (fun s hs => h s (.inl hs)), ev_congr (x := b) (fun s hs => h s (.inr hs))]
  case look p q r a b => simp only [step, ev_congr (x := a) (fun s hs => h s (.inl hs)), ev_congr (x := b) (fun s hs => h s (.inr hs))]
  case ment p q a b => simp only [step, ev_congr (x := a) (fun s hs => h s (.inl hs)), ev_congr (x := b) (fun s hs => h s (.inr hs))]
  case pan x => rfl
  case ext x k => simp only [step, ev_congr (x := x) h]
  all_goals (rename_i x; simp only [step, ev_congr (x := x) h])

theorem wanted_congr {T T' : PM Value} {g : Option (Nat × Bool)} (h : ∀ s ∈ (match g with | none => [] | some (s, _) => [s] : List Nat), tval T s = tval T' s) : wanted T g = wanted T' g := by
  cases g with
  | none => rfl
  | some p =>
    obtain ⟨s, w⟩ := p
    rw [wanted_boolOf, wanted_boolOf, h s (by simp)]

/-- What needs no memory. -/
theorem cls0_step {T : PM Value} {M M' : Mem} {i : I} {v : Value} (hc : clsI i = 0) (h : step T M i = some (v, M')) : M' = M ∧ ∀ N, step T N i = some (v, N) := by
  cases i <;> simp only [clsI] at hc <;> try (cases hc; done)
  all_goals
    simp only [step] at h ⊢
  all_goals first
    | (cases h; exact ⟨rfl, fun _ => rfl⟩)
    | ((repeat' split at h) <;> first
        | (cases h; done)
        | (cases h; exact ⟨rfl, fun N => by simp only [*]⟩)
        | (obtain ⟨h1, h2⟩ := cond_some h; cases h2; exact ⟨rfl, fun N => by simp only [*]; rfl⟩))

/-- What reads leaves the memory. -/
theorem cls1_step {T : PM Value} {M M' : Mem} {i : I} {v : Value} (hc : clsI i = 1) (h : step T M i = some (v, M')) : M' = M := by
  cases i <;> simp only [clsI] at hc <;> try (cases hc; done)
  case load a =>
    simp only [step] at h
    (repeat' split at h) <;> first | (cases h; done) | (cases h; rfl)
  case loadn n a =>
    simp only [step] at h
    (repeat' split at h) <;> first | (cases h; done) | (cases h; rfl)
  case mlen x =>
    simp only [step] at h
    (repeat' split at h) <;> first | (cases h; done) | (cases h; rfl)
  case look s z ok m k =>
    simp only [step] at h
    obtain ⟨_, h⟩ := cond_opt h
    (repeat' split at h) <;> first | (cases h; done) | (cases h; rfl)
  case sl es x lo hi mx =>
    simp only [step] at h
    split at h
    · split at h
      · obtain ⟨_, h⟩ := cond_opt h
        split at h
        · cases h; rfl
        · split at h
          · obtain ⟨_, h⟩ := cond_some h
            cases h; rfl
          · cases h
      · cases h
    · split at h
      · cases h; rfl
      · cases h
    · cases h

theorem veq_eq {a b : Value} (h : veq a b = true) : a = b := by
  have one : ∀ {a b : Value}, veq1 a b = true → a = b := by
    intro a b h
    unfold veq1 at h
    split at h
    · rename_i k n j m
      cases hk : keq k j with
      | false => rw [hk] at h; cases h
      | true =>
        rw [hk] at h
        have h' : ieq n m = true := h
        rw [ieq_spec, beq_iff_eq] at h'
        rw [keq_spec hk, h']
    · rename_i x y
      cases x <;> cases y <;> first | rfl | cases h
    · rename_i s t
      rw [beqL_spec, beq_iff_eq] at h
      rw [h]
    · rfl
    · rename_i a1 b1 c1 d1
      cases hk : Nat.beq a1 c1 with
      | false => rw [hk] at h; cases h
      | true =>
        rw [hk] at h
        rw [Nat.eq_of_beq_eq_true hk, Nat.eq_of_beq_eq_true h]
    · rename_i l c m d
      cases hk : Nat.beq l m with
      | false => rw [hk] at h; cases h
      | true =>
        rw [hk] at h
        rw [Nat.eq_of_beq_eq_true hk, Nat.eq_of_beq_eq_true h]
    · rename_i a1 b1 l x c1 d1 m y
      cases h1 : Nat.beq a1 c1 with
      | false => rw [h1] at h; cases h
      | true =>
        rw [h1] at h
        cases h2 : Nat.beq b1 d1 with
        | false => rw [h2] at h; cases h
        | true =>
          rw [h2] at h
          cases h3 : Nat.beq l m with
          | false => rw [h3] at h; cases h
          | true =>
            rw [h3] at h
            rw [Nat.eq_of_beq_eq_true h1, Nat.eq_of_beq_eq_true h2, Nat.eq_of_beq_eq_true h3, Nat.eq_of_beq_eq_true h]
    · rfl
    · rw [Nat.eq_of_beq_eq_true h]
    · rfl
    · rfl
    · rw [Nat.eq_of_beq_eq_true h]
    · rename_i a1 b1 c1 d1
      cases hk : Nat.beq a1 c1 with
      | false => rw [hk] at h; cases h
      | true =>
        rw [hk] at h
        rw [Nat.eq_of_beq_eq_true hk, Nat.eq_of_beq_eq_true h]
    · cases h
  have list : ∀ {l m : List Value}, veqL l m = true → l = m := by
    intro l
    induction l with
    | nil => intro m h; cases m with
      | nil => rfl
      | cons _ _ => cases h
    | cons a l ih =>
      intro m h
      cases m with
      | nil => cases h
      | cons b m =>
        unfold veqL at h
        cases hk : veq1 a b with
        | false => rw [hk] at h; cases h
        | true =>
          rw [hk] at h
          rw [one hk, ih h]
  unfold veq at h
  split at h
  · rw [list h]
  · rw [list h]
  · exact one h

/-- An object that is in the memory, and of which nothing lies in the world, gets its block. -/
theorem rel_real {γ : Gm} {M : Mem} {W : World} (h : Rel γ M W) {r : Nat} (hr : γ r = none) (hlt : r < M.nx) {o : AO} (hget : M.h.get r = some o) (ob : Obj) (g : G) (hg : g.blk = W.heap.size) (ho : ObjR (upd γ r g) M (W.alloc ob) g o) :
    Rel (upd γ r g) M (W.alloc ob) := by
  have hle : Le γ (upd γ r g) := le_upd g hr
  have hold : ∀ i, i < W.heap.size → (W.alloc ob).heap[i]? = W.heap[i]? := heap_alloc_old W ob
  refine ⟨?_, ?_, ?_, h.svle⟩
  · intro x gx hx
    by_cases e : x = r
    · subst e
      rw [upd_same] at hx
      cases hx
      exact ⟨hlt, by rw [hg]; simp⟩
    · rw [upd_other γ g e] at hx
      obtain ⟨a, b⟩ := h.dom x gx hx
      exact ⟨a, by simp; omega⟩
  · intro x gx hx
    by_cases e : x = r
    · subst e
      rw [upd_same] at hx
      cases hx
      exact ⟨o, hget, ho⟩
    · rw [upd_other γ g e] at hx
      obtain ⟨y, h1, h2⟩ := h.obj x gx hx
      exact ⟨y, h1, h2.keep hle (fun _ _ hv => hv) (hold _ (h.dom x gx hx).2)⟩
  · intro x y gx gy hx hy hne hb
    by_cases e : x = r
    · subst e
      rw [upd_same] at hx
      cases hx
      rw [upd_other γ g (Ne.symm hne)] at hy
      have := (h.dom y gy hy).2
      omega
    · rw [upd_other γ g e] at hx
      by_cases e' : y = r
      · subst e'
        rw [upd_same] at hy
        cases hy
        have := (h.dom x gx hx).2
        omega
      · rw [upd_other γ g e'] at hy
        exact h.alone x y gx gy hx hy hne hb

/-- An object joins the memory, of which nothing lies in the world yet. -/
theorem rel_add {γ : Gm} {M : Mem} {W : World} (h : Rel γ M W) (o : AO) (ho : ∀ a, o = .arr a → a.own = true) : Rel γ ⟨M.h.set M.nx o, M.nx + 1, M.lw⟩ W := by
  have hne : ∀ x g, γ x = some g → x ≠ M.nx := fun x g hx => Nat.ne_of_lt (h.dom x g hx).1
  refine ⟨fun x g hx => ⟨Nat.lt_succ_of_lt (h.dom x g hx).1, (h.dom x g hx).2⟩, ?_, ?_, ?_⟩
  · intro x g hx
    obtain ⟨y, h1, h2⟩ := h.obj x g hx
    exact ⟨y, (PM.set_other _ _ (hne x g hx)).trans h1, h2.keep (Le.refl γ) (fun _ _ hv => hv) rfl⟩
  · intro x y gx gy hx hy hn hb
    obtain ⟨a, a', k1, k2, k3⟩ := h.alone x y gx gy hx hy hn hb
    exact ⟨a, a', (PM.set_other _ _ (hne x gx hx)).trans k1, (PM.set_other _ _ (hne y gy hy)).trans k2, k3⟩
  · intro x a hx hf
    by_cases e : x = M.nx
    · subst e
      have : (M.h.set M.nx o).get M.nx = some o := PM.set_same _ _ _
      rw [show (⟨M.h.set M.nx o, M.nx + 1, M.lw⟩ : Mem).h = M.h.set M.nx o from rfl, this] at hx
      cases hx
      rw [ho a rfl] at hf
      cases hf
    · exact h.svle x a ((PM.set_other _ _ e).symm.trans hx) hf
end Go.Ai
