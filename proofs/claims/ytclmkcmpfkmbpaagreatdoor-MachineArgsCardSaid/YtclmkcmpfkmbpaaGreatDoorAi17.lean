/-
  The abstract interpreter: what the plan of a region that draws holds.
-/
import Derived.Test.YtclmkcmpfkmbpaaGreatDoorAi16
import Derived.Orders
set_option linter.unusedSectionVars false
namespace Go.Ai
open Go

variable [Sig] [Know] [KOk]

def bOne (acc : Array Nat) (o : Oper) : Nat := o.after.foldl (fun s e => if Region.binds .any e then s ||| 2 ^ e.on ||| acc.getD e.on 0 else s) 0

theorem before_def (ops : Array Oper) : Region.before ops = ops.toList.foldl (fun acc o => acc.push (bOne acc o)) #[] := by
  unfold Region.before
  rw [← Array.foldl_toList]
  rfl

theorem bOne_bit {acc : Array Nat} {o : Oper} {j : Nat} (h : (bOne acc o).testBit j = true) : ∃ e ∈ o.after, Region.binds .any e = true ∧ (e.on = j ∨ (acc.getD e.on 0).testBit j = true) := by
  unfold bOne at h
  rw [← Array.foldl_toList] at h
  have key : ∀ (l : List Edge) (s : Nat), (l.foldl (fun s e => if Region.binds .any e then s ||| 2 ^ e.on ||| acc.getD e.on 0 else s) s).testBit j = true →
      s.testBit j = true ∨ ∃ e ∈ l, Region.binds .any e = true ∧ (e.on = j ∨ (acc.getD e.on 0).testBit j = true) := by
    intro l
    induction l with
    | nil => intro s h; exact .inl h
    | cons e l ih =>
      intro s h
      rw [List.foldl_cons] at h
      rcases ih _ h with h | ⟨e', he, hb⟩
      · cases hb : Region.binds .any e with
        | false => rw [hb] at h; exact .inl h
        | true =>
          rw [hb, if_pos rfl, Nat.testBit_or, Nat.testBit_or, Bool.or_eq_true, Bool.or_eq_true, Nat.testBit_two_pow] at h
          rcases h with (h | h) | h
          · exact .inl h
          · exact .inr ⟨e, List.mem_cons_self, hb, .inl (by simpa using h)⟩
          · exact .inr ⟨e, List.mem_cons_self, hb, .inr h⟩
      · exact .inr ⟨e', List.mem_cons_of_mem _ he, hb⟩
  rcases key o.after.toList 0 h with h | ⟨e, he, hb⟩
  · simp at h
  · exact ⟨e, Array.mem_toList_iff.1 he, hb⟩

theorem before_look : ∀ (l : List Oper) (A : Array Nat),
    (l.foldl (fun acc o => acc.push (bOne acc o)) A).size = A.size + l.length ∧
    (∀ i, i < A.size → (l.foldl (fun acc o => acc.push (bOne acc o)) A).getD i 0 = A.getD i 0) ∧
    (∀ (k : Nat) o, l[k]? = some o → ∃ B : Array Nat, (l.foldl (fun acc o => acc.push (bOne acc o)) A).getD (A.size + k) 0 = bOne B o ∧
      ∀ i, i < A.size + k → B.getD i 0 = (l.foldl (fun acc o => acc.push (bOne acc o)) A).getD i 0)
  | [], A => ⟨rfl, fun _ _ => rfl, fun k o h => by cases h⟩
  | o :: l, A => by
    obtain ⟨h1, h2, h3⟩ := before_look l (A.push (bOne A o))
    rw [Array.size_push] at h1 h2 h3
    have hpush : ∀ i, i < A.size → (A.push (bOne A o)).getD i 0 = A.getD i 0 := by
      intro i hi
      simp only [Array.getD_eq_getD_getElem?, Array.getElem?_push, Nat.ne_of_lt hi, if_false]
    refine ⟨by rw [List.foldl_cons, h1, List.length_cons]; omega, fun i hi => ?_, fun k o' hk => ?_⟩
    · rw [List.foldl_cons, h2 i (by omega), hpush i hi]
    · cases k with
      | zero =>
        cases hk
        refine ⟨A, ?_, fun i hi => ?_⟩
        · rw [List.foldl_cons, Nat.add_zero, h2 A.size (by omega)]
          simp [Array.getD_eq_getD_getElem?]
        · rw [List.foldl_cons, h2 i (by omega), hpush i (by omega)]
      | succ k =>
        obtain ⟨B, k1, k2⟩ := h3 k o' hk
        refine ⟨B, ?_, fun i hi => ?_⟩
        · rw [List.foldl_cons, show A.size + (k + 1) = A.size + 1 + k by omega]; exact k1
        · rw [List.foldl_cons]; exact k2 i (by omega)

def Bt (bs : Array Nat) (i j : Nat) : Prop := (bs.getD i 0).testBit j = true

theorem before_clos {ops : Array Oper} (hd : down ops = true) {i j : Nat} {o : Oper} (hi : ops[i]? = some o) (h : Bt (Region.before ops) i j) :
    ∃ e ∈ o.after, Region.binds .any e = true ∧ (e.on = j ∨ Bt (Region.before ops) e.on j) := by
  unfold Bt at h ⊢
  rw [before_def] at h ⊢
  obtain ⟨_, _, h3⟩ := before_look ops.toList #[]
  obtain ⟨B, k1, k2⟩ := h3 i o (by simpa using hi)
  rw [show (#[] : Array Nat).size + i = i by simp] at k1 k2
  rw [k1] at h
  obtain ⟨e, he, hb, h⟩ := bOne_bit h
  refine ⟨e, he, hb, ?_⟩
  rcases h with h | h
  · exact .inl h
  · refine .inr ?_
    have hlt : e.on < i := by
      unfold down at hd
      rw [List.all_eq_true] at hd
      have := hd i (List.mem_range.2 (Array.getElem?_eq_some_iff.1 hi).1)
      rw [hi] at this
      have := List.all_eq_true.1 this e (Array.mem_toList_iff.2 he)
      rw [hb] at this
      simpa [blt_spec] using this
    rw [← k2 e.on hlt]
    exact h

def acts (ds : List (Nat × DO)) : List Nat := (ds.filter fun d => Nat.beq d.2.cls 3).map (·.1)

/-- What the plan holds. -/
structure Fit (P : Program) (nt : Nat) (ops : Array Oper) (bs : Array Nat) (ds : List (Nat × DO)) : Prop where
  cls : ∀ x ∈ ds, x.2.cls = clsI x.2.io.i
  op : ∀ x ∈ ds, ∃ o, ops[x.1]? = some o ∧ compO P nt ops o = some x.2.io
  slots : ∀ d ∈ ds, ∀ s ∈ slotsO d.2.io, ∀ x ∈ ds, x.2.io.dst = some s → x.1 = d.1 ∨ Bt bs d.1 x.1 ∨ Bt bs x.1 d.1
  ord : ds.Pairwise fun d x => x.1 ≠ d.1 ∧ ¬ Bt bs d.1 x.1 ∧ (d.2.cls = 3 → Bt bs x.1 d.1) ∧ (∀ s, d.2.io.dst = some s → x.2.io.dst ≠ some s)
  last : ∀ d ∈ ds, ∀ q, (acts ds)[d.2.la]? = some q → Bt bs q d.1
  all : ∀ i, i < ops.size → ∃ d ∈ ds, d.1 = i
  clos : ∀ i o, ops[i]? = some o → ∀ j, Bt bs i j → ∃ e ∈ o.after, Region.binds .any e = true ∧ (e.on = j ∨ Bt bs e.on j)
  down : ∀ i o, ops[i]? = some o → ∀ e ∈ o.after, Region.binds .any e = true → e.on < i

theorem plans_mem {bs : Array Nat} {es : List Nat} : ∀ {l : List Itm} {k : Nat} {x : Nat × Nat × DO}, x ∈ plans bs es l k → ∃ n, l[n]? = some x.2.2.io ∧ x.1 = k + n ∧ x.2.2.cls = clsI x.2.2.io.i
  | [], _, _, h => by cases h
  | o :: l, k, x, h => by
    unfold plans at h
    rcases List.mem_cons.1 h with h | h
    · subst h; exact ⟨0, rfl, rfl, rfl⟩
    · obtain ⟨n, h1, h2, h3⟩ := plans_mem h
      exact ⟨n + 1, h1, by omega, h3⟩
theorem levels_mem {ds : List (Nat × Nat × DO)} : ∀ {n e : Nat} {x : Nat × Nat × DO}, x ∈ levels ds n e → x ∈ ds
  | 0, _, _, h => by cases h
  | n + 1, e, x, h => by
    unfold levels at h
    rcases List.mem_append.1 h with h | h
    · rcases List.mem_append.1 h with h | h
      · exact (List.mem_filter.1 h).1
      · exact (List.mem_filter.1 h).1
    · exact levels_mem h
theorem compOs_get {P : Program} {nt : Nat} {ops : Array Oper} : ∀ {os : List Oper} {l : List Itm}, compOs P nt ops os = some l → ∀ {n : Nat} {x : Itm}, l[n]? = some x → ∃ o, os[n]? = some o ∧ compO P nt ops o = some x
  | [], l, h, n, x, hx => by cases h; cases hx
  | o :: os, l, h, n, x, hx => by
    unfold compOs at h
    split at h
    · rename_i y m hy hm
      cases h
      cases n with
      | zero => cases hx; exact ⟨o, rfl, hy⟩
      | succ n => exact compOs_get hm hx
    · cases h

theorem ordFit_spec {bs : Array Nat} : ∀ {ds : List (Nat × DO)}, ordFit bs ds = true →
    ds.Pairwise fun d x => x.1 ≠ d.1 ∧ ¬ Bt bs d.1 x.1 ∧ (d.2.cls = 3 → Bt bs x.1 d.1) ∧ (∀ s, d.2.io.dst = some s → x.2.io.dst ≠ some s)
  | [], _ => .nil
  | d :: l, h => by
    unfold ordFit at h
    rw [Bool.and_eq_true, List.all_eq_true] at h
    refine .cons (fun x hx => ?_) (ordFit_spec h.2)
    have k := h.1 x hx
    simp only [Bool.and_eq_true, Bool.or_eq_true, Bool.not_eq_true', beq_iff_eq, bne_iff_ne, ne_eq] at k
    obtain ⟨⟨⟨k1, k2⟩, k3⟩, k4⟩ := k
    refine ⟨fun e => ?_, ?_, fun e => ?_, fun s hs e => ?_⟩
    · rw [e, Nat.beq_refl] at k1; cases k1
    · unfold Bt; rw [k2]; simp
    · rcases k3 with k3 | k3
      · rw [e] at k3; cases k3
      · exact k3
    · rcases k4 with k4 | k4
      · rw [hs] at k4; cases k4
      · exact k4 (e.trans hs.symm)

theorem compDraw_spec {P : Program} {nt : Nat} {ops : Array Oper} {l : List DO} (h : compDraw P nt ops = some l) : ∃ ds, l = ds.map (·.2) ∧ Fit P nt ops (Region.before ops) ds := by
  unfold compDraw at h
  split at h
  · rename_i il hil
    obtain ⟨hf, h⟩ := cond_some h
    subst h
    refine ⟨_, rfl, ?_⟩
    generalize hds : (levels (plans (Region.before ops) (actsAt il 0) il 0) ((actsAt il 0).length + 1) 0).map (fun d => (d.1, d.2.2)) = ds at hf
    unfold planFit at hf
    simp only [Bool.and_eq_true] at hf
    obtain ⟨⟨⟨⟨f1, f2⟩, f3⟩, f4⟩, f5⟩ := hf
    have hmem : ∀ x ∈ ds, x.2.cls = clsI x.2.io.i ∧ ∃ o, ops[x.1]? = some o ∧ compO P nt ops o = some x.2.io := by
      intro x hx
      rw [← hds] at hx
      obtain ⟨y, hy, rfl⟩ := List.mem_map.1 hx
      obtain ⟨n, h1, h2, h3⟩ := plans_mem (levels_mem hy)
      obtain ⟨o, h4, h5⟩ := compOs_get hil h1
      refine ⟨h3, o, ?_, h5⟩
      rw [Nat.zero_add] at h2
      rw [h2]; simpa using h4
    refine ⟨fun x hx => (hmem x hx).1, fun x hx => (hmem x hx).2, ?_, ordFit_spec f2, ?_, ?_, fun i o hi j hb => before_clos f5 hi hb, ?_⟩
    · intro d hd s hs x hx hdst
      unfold slotsFit at f1
      have := List.all_eq_true.1 (List.all_eq_true.1 (List.all_eq_true.1 f1 d hd) s hs) x hx
      simp only [Bool.or_eq_true, bne_iff_ne, ne_eq] at this
      rcases this with ((t | t) | t) | t
      · exact absurd hdst t
      · exact .inl (Nat.eq_of_beq_eq_true t)
      · exact .inr (.inl t)
      · exact .inr (.inr t)
    · intro d hd q hq
      unfold lastFit at f3
      have := List.all_eq_true.1 f3 d hd
      unfold acts at hq
      simp only [hq] at this
      exact this
    · intro i hi
      unfold allIn at f4
      have := List.all_eq_true.1 f4 i (List.mem_range.2 hi)
      obtain ⟨d, hd, he⟩ := List.any_eq_true.1 this
      exact ⟨d, hd, Nat.eq_of_beq_eq_true he⟩
    · intro i o hi e he hb
      unfold Go.Ai.down at f5
      rw [List.all_eq_true] at f5
      have := f5 i (List.mem_range.2 (Array.getElem?_eq_some_iff.1 hi).1)
      rw [hi] at this
      have := List.all_eq_true.1 this e (Array.mem_toList_iff.2 he)
      rw [hb] at this
      simpa [blt_spec] using this
  · cases h
end Go.Ai
