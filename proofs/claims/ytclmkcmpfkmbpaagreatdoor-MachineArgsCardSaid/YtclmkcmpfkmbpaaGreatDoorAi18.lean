/-
  The abstract interpreter: a region that draws its order comes to what the canonical order comes to.
-/
import Derived.Test.YtclmkcmpfkmbpaaGreatDoorAi17
set_option linter.unusedSectionVars false
namespace Go.Ai
open Go

variable [Sig] [Know] [KOk]

structure PE where
  i : Nat
  d : DO
  T : PM Value
  v : Value
  M : Mem
  M' : Mem

def Pend (γ : Gm) (M : Mem) (ls : List (Nat × I × PM Value × Value)) (p : PE) : Prop :=
  (wanted p.T p.d.io.g = false ∧ p.v = undef) ∨
  (wanted p.T p.d.io.g = true ∧ step p.T p.M p.d.io.i = some (p.v, p.M') ∧ (p.d.cls = 1 → (p.d.la, p.d.io.i, p.T, p.v) ∈ ls) ∧
    (p.d.cls = 2 → γ p.M.nx = none ∧ p.M.nx < M.nx ∧ M.h.get p.M.nx = p.M'.h.get p.M.nx))

structure Inv (ops : Array Oper) (bs : Array Nat) (ds pre l : List (Nat × DO)) (ls : List (Nat × I × PM Value × Value)) (T : PM Value) (M : Mem) (Pd : List PE) (listed : Array Bool) (TD : PM Value) (γ : Gm) : Prop where
  split : ds = pre ++ l
  pend : ∀ p ∈ Pd, Pend γ M ls p
  frm : ∀ p ∈ Pd, (p.i, p.d) ∈ pre
  low : ∀ p ∈ Pd, p.d.cls ≠ 3
  la : ∀ p ∈ Pd, p.d.cls = 1 → (acts pre).length ≤ p.d.la
  un : ∀ j, j < ops.size → (listed.getD j true = false ↔ (∃ p ∈ Pd, p.i = j) ∨ ∃ x ∈ l, x.1 = j)
  size : listed.size = ops.size
  closed : ∀ i j, i < ops.size → listed.getD i true = true → Bt bs i j → listed.getD j true = true
  apart : ∀ p ∈ Pd, ∀ q ∈ Pd, p.i ≠ q.i → p.d.cls = 2 → q.d.cls = 2 → wanted p.T p.d.io.g = true → wanted q.T q.d.io.g = true → p.M.nx ≠ q.M.nx
  val : ∀ z ∈ Pd, ∀ s, z.d.io.dst = some s → tval T s = z.v
  fed : ∀ z ∈ Pd, ∀ p ∈ Pd, ∀ s ∈ slotsO p.d.io, z.d.io.dst = some s → Bt bs p.i z.i → tval p.T s = z.v
  same : ∀ s, (∀ p ∈ Pd, p.d.io.dst ≠ some s) → tval TD s = tval T s
  own : ∀ p ∈ Pd, ∀ s ∈ slotsO p.d.io, (∀ y ∈ Pd, y.d.io.dst = some s → ¬ Bt bs p.i y.i) → tval TD s = tval p.T s

theorem tval_put (T : PM Value) (d : Option Nat) (v : Value) (s : Nat) : tval (put T d v) s = if d = some s then v else tval T s := by
  cases d with
  | none => rfl
  | some d =>
    show tval (T.set d v) s = _
    rw [tval_set]
    by_cases h : s = d
    · rw [if_pos h, if_pos (by rw [h])]
    · rw [if_neg h, if_neg (by intro e; cases e; exact h rfl)]

section
variable {P : Program} {nt : Nat} {ops : Array Oper} {bs : Array Nat} {ds pre l : List (Nat × DO)} {ls : List (Nat × I × PM Value × Value)} {T TD : PM Value} {M : Mem} {Pd : List PE} {listed : Array Bool} {γ : Gm}

theorem bt_lt (F : Fit P nt ops bs ds) : ∀ (n i j : Nat), i < n → i < ops.size → Bt bs i j → j < i
  | 0, _, _, h, _, _ => absurd h (Nat.not_lt_zero _)
  | n + 1, i, j, h, hi, hb => by
    obtain ⟨e, he, hbd, hh⟩ := F.clos i ops[i] (Array.getElem?_eq_getElem hi) j hb
    have hlt := F.down i ops[i] (Array.getElem?_eq_getElem hi) e he hbd
    rcases hh with rfl | hh
    · exact hlt
    · exact Nat.lt_trans (bt_lt F n e.on j (by omega) (by omega) hh) hlt

theorem fit_lt (F : Fit P nt ops bs ds) {x : Nat × DO} (hx : x ∈ ds) : x.1 < ops.size := by
  obtain ⟨o, h, _⟩ := F.op x hx
  exact (Array.getElem?_eq_some_iff.1 h).1

theorem fit_ord (F : Fit P nt ops bs (pre ++ l)) {x y : Nat × DO} (hx : x ∈ pre) (hy : y ∈ l) : y.1 ≠ x.1 ∧ ¬ Bt bs x.1 y.1 ∧ (x.2.cls = 3 → Bt bs y.1 x.1) ∧ (∀ s, x.2.io.dst = some s → y.2.io.dst ≠ some s) :=
  (List.pairwise_append.1 F.ord).2.2 x hx y hy

theorem fit_uni (F : Fit P nt ops bs ds) {x y : Nat × DO} (hx : x ∈ ds) (hy : y ∈ ds) (h : x.1 = y.1) : x = y := by
  have key : ∀ {ds : List (Nat × DO)}, (ds.Pairwise fun d x => x.1 ≠ d.1) → ∀ x ∈ ds, ∀ y ∈ ds, x.1 = y.1 → x = y := by
    intro ds
    induction ds with
    | nil => intro _ x hx; cases hx
    | cons d l ih =>
      intro hp x hx y hy he
      obtain ⟨h1, h2⟩ := List.pairwise_cons.1 hp
      rcases List.mem_cons.1 hx with e | hx'
      · rcases List.mem_cons.1 hy with e' | hy'
        · rw [e, e']
        · exact absurd (e ▸ he.symm) (h1 y hy')
      · rcases List.mem_cons.1 hy with e' | hy'
        · exact absurd (e' ▸ he) (h1 x hx')
        · exact ih h2 x hx' y hy' he
  exact key (F.ord.imp fun h => h.1) x hx y hy h

theorem acts_append (a b : List (Nat × DO)) : acts (a ++ b) = acts a ++ acts b := by unfold acts; rw [List.filter_append, List.map_append]
theorem acts_mem {x : Nat} {a : List (Nat × DO)} (h : x ∈ acts a) : ∃ y ∈ a, y.1 = x ∧ y.2.cls = 3 := by
  unfold acts at h
  obtain ⟨y, hy, rfl⟩ := List.mem_map.1 h
  obtain ⟨h1, h2⟩ := List.mem_filter.1 hy
  exact ⟨y, h1, rfl, Nat.eq_of_beq_eq_true h2⟩
theorem acts_one {x : Nat × DO} : acts [x] = if x.2.cls = 3 then [x.1] else [] := by
  unfold acts
  rw [List.filter_cons, List.filter_nil]
  by_cases h : x.2.cls = 3
  · rw [if_pos h, h]; rfl
  · rw [if_neg h, if_neg (by intro e; exact h (Nat.eq_of_beq_eq_true e))]; rfl

/-- What is ready: all ahead of it is listed. -/
theorem ready_bits (F : Fit P nt ops bs ds) (h : Inv ops bs ds pre l ls T M Pd listed TD γ) {j : Nat} (hj : j ∈ Region.ready .any ops listed) : j < ops.size ∧ listed.getD j true = false ∧ ∀ k, Bt bs j k → listed.getD k true = true := by
  obtain ⟨h0, o, ho, hall⟩ := mem_ready.1 hj
  have hlt := (Array.getElem?_eq_some_iff.1 ho).1
  refine ⟨hlt, h0, fun k hb => ?_⟩
  obtain ⟨e, he, hbd, hh⟩ := F.clos j o ho k hb
  have hlt' := F.down j o ho e he hbd
  have h1 : listed.getD e.on true = true := by
    have := hall e he hbd
    have hs : e.on < listed.size := by rw [h.size]; omega
    simp only [Array.getD_eq_getD_getElem?, Array.getElem?_eq_getElem hs, Option.getD_some] at this ⊢
    exact this
  rcases hh with rfl | hh
  · exact h1
  · exact h.closed _ _ (by omega) h1 hh

theorem listed_set (hs : listed.size = ops.size) {i j : Nat} (hj : j < ops.size) : (listed.setIfInBounds i true).getD j true = if j = i then true else listed.getD j true := by
  by_cases e : j = i
  · subst e
    rw [if_pos rfl]
    simp [hs, hj]
  · rw [if_neg e, getD_set_ne true (Ne.symm e)]

theorem listed_mono {i j : Nat} (h : listed.getD j true = true) : (listed.setIfInBounds i true).getD j true = true := by
  by_cases e : i = j
  · subst e
    by_cases hlt : i < listed.size
    · simp [hlt]
    · simp [hlt]
  · rw [getD_set_ne true e]; exact h

theorem not_un {h : Inv ops bs ds pre l ls T M Pd listed TD γ} {j : Nat} (hj : j < ops.size) (ht : listed.getD j true = true) : (∀ p ∈ Pd, p.i ≠ j) ∧ ∀ x ∈ l, x.1 ≠ j := by
  refine ⟨fun p hp e => ?_, fun x hx e => ?_⟩
  · have := (h.un j hj).2 (.inl ⟨p, hp, e⟩)
    rw [ht] at this; cases this
  · have := (h.un j hj).2 (.inr ⟨x, hx, e⟩)
    rw [ht] at this; cases this

theorem closed_set (h : Inv ops bs ds pre l ls T M Pd listed TD γ) {j : Nat} (hb : ∀ k, Bt bs j k → listed.getD k true = true) :
    ∀ i k, i < ops.size → (listed.setIfInBounds j true).getD i true = true → Bt bs i k → (listed.setIfInBounds j true).getD k true = true := by
  intro i k hi hl hbt
  rw [listed_set h.size hi] at hl
  by_cases e : i = j
  · subst e; exact listed_mono (hb k hbt)
  · rw [if_neg e] at hl
    exact listed_mono (h.closed i k hi hl hbt)

/-- An operation that does not act joins those that wait. -/
theorem inv_wait {x : Nat × DO} {v : Value} {M' : Mem} {ls' : List (Nat × I × PM Value × Value)} (F : Fit P nt ops bs ds) (h : Inv ops bs ds pre (x :: l) ls T M Pd listed TD γ) (hc : x.2.cls ≠ 3)
    (hnx : M.nx ≤ M'.nx) (hget : ∀ r, r < M.nx → M'.h.get r = M.h.get r) (hls : ∀ y ∈ ls, y ∈ ls')
    (hp : Pend γ M' ls' ⟨x.1, x.2, T, v, M, M'⟩) : Inv ops bs ds (pre ++ [x]) l ls' (put T x.2.io.dst v) M' (⟨x.1, x.2, T, v, M, M'⟩ :: Pd) listed TD γ := by
  obtain ⟨i, d⟩ := x
  have hsplit := h.split
  have F' : Fit P nt ops bs (pre ++ (i, d) :: l) := by rw [← hsplit]; exact F
  have hact : acts (pre ++ [(i, d)]) = acts pre := by rw [acts_append, acts_one, if_neg hc, List.append_nil]
  have ord : ∀ p ∈ Pd, i ≠ p.i ∧ ¬ Bt bs p.i i ∧ ∀ s, p.d.io.dst = some s → d.io.dst ≠ some s := by
    intro p hp
    obtain ⟨h1, h2, _, h4⟩ := fit_ord F' (h.frm p hp) (List.mem_cons_self (a := (i, d)) (l := l))
    exact ⟨h1, h2, h4⟩
  have hmem : (i, d) ∈ ds := by rw [hsplit]; simp
  have hmemP : ∀ p ∈ Pd, (p.i, p.d) ∈ ds := fun p hp => by rw [hsplit]; exact List.mem_append_left _ (h.frm p hp)
  refine ⟨by rw [hsplit]; simp, ?_, ?_, ?_, ?_, ?_, h.size, h.closed, ?_, ?_, ?_, ?_, ?_⟩
  · intro p hp'
    rcases List.mem_cons.1 hp' with rfl | hp'
    · exact hp
    · rcases h.pend p hp' with k | ⟨k1, k2, k3, k4⟩
      · exact .inl k
      · exact .inr ⟨k1, k2, fun e => hls _ (k3 e), fun e => by
          obtain ⟨m1, m2, m3⟩ := k4 e
          exact ⟨m1, Nat.lt_of_lt_of_le m2 hnx, (hget _ m2).trans m3⟩⟩
  · intro p hp'
    rcases List.mem_cons.1 hp' with rfl | hp'
    · simp
    · exact List.mem_append_left _ (h.frm p hp')
  · intro p hp'
    rcases List.mem_cons.1 hp' with rfl | hp'
    · exact hc
    · exact h.low p hp'
  · intro p hp' hc1
    rw [hact]
    rcases List.mem_cons.1 hp' with rfl | hp'
    · rcases Nat.lt_or_ge d.la (acts pre).length with hlt | hge
      · have hq : (acts ds)[d.la]? = some (acts pre)[d.la] := by
          rw [hsplit, acts_append, List.getElem?_append_left hlt, List.getElem?_eq_getElem hlt]
        have hb := F.last (i, d) hmem _ hq
        obtain ⟨y, hy, hye, _⟩ := acts_mem (List.getElem_mem hlt)
        rw [← hye] at hb
        exact absurd hb (fit_ord F' hy (List.mem_cons_self (a := (i, d)) (l := l))).2.1
      · exact hge
    · exact h.la p hp' hc1
  · intro j hj
    rw [h.un j hj]
    constructor
    · rintro (⟨p, hp', e⟩ | ⟨y, hy, e⟩)
      · exact .inl ⟨p, List.mem_cons_of_mem _ hp', e⟩
      · rcases List.mem_cons.1 hy with rfl | hy
        · exact .inl ⟨_, List.mem_cons_self, e⟩
        · exact .inr ⟨y, hy, e⟩
    · rintro (⟨p, hp', e⟩ | ⟨y, hy, e⟩)
      · rcases List.mem_cons.1 hp' with rfl | hp'
        · exact .inr ⟨(i, d), List.mem_cons_self, e⟩
        · exact .inl ⟨p, hp', e⟩
      · exact .inr ⟨y, List.mem_cons_of_mem _ hy, e⟩
  · intro p hp' q hq hne hc1 hc2 hw1 hw2
    have low : ∀ p ∈ Pd, p.d.cls = 2 → wanted p.T p.d.io.g = true → p.M.nx < M.nx := by
      intro p hp' hc hw
      rcases h.pend p hp' with ⟨k, _⟩ | ⟨_, _, _, k4⟩
      · rw [hw] at k; cases k
      · exact (k4 hc).2.1
    rcases List.mem_cons.1 hp' with rfl | hp'
    · rcases List.mem_cons.1 hq with rfl | hq
      · exact absurd rfl hne
      · have := low q hq hc2 hw2
        show M.nx ≠ q.M.nx
        omega
    · rcases List.mem_cons.1 hq with rfl | hq
      · have := low p hp' hc1 hw1
        show p.M.nx ≠ M.nx
        omega
      · exact h.apart p hp' q hq hne hc1 hc2 hw1 hw2
  · intro z hz s hs
    rw [tval_put]
    rcases List.mem_cons.1 hz with rfl | hz
    · rw [if_pos hs]
    · rw [if_neg ((ord z hz).2.2 s hs)]
      exact h.val z hz s hs
  · intro z hz p hp' s hs hd hb
    rcases List.mem_cons.1 hz with rfl | hz
    · rcases List.mem_cons.1 hp' with rfl | hp'
      · exact absurd (bt_lt F (i + 1) i i (Nat.lt_succ_self i) (fit_lt F hmem) hb) (Nat.lt_irrefl _)
      · exact absurd hb (ord p hp').2.1
    · rcases List.mem_cons.1 hp' with rfl | hp'
      · exact h.val z hz s hd
      · exact h.fed z hz p hp' s hs hd hb
  · intro s hs
    rw [tval_put, if_neg (hs _ List.mem_cons_self)]
    exact h.same s fun p hp' => hs p (List.mem_cons_of_mem _ hp')
  · intro p hp' s hs hy
    rcases List.mem_cons.1 hp' with rfl | hp'
    · refine h.same s fun y hyP hyd => ?_
      rcases F.slots (i, d) hmem s hs (y.i, y.d) (hmemP y hyP) hyd with t | t | t
      · exact (ord y hyP).1 t.symm
      · exact hy y (List.mem_cons_of_mem _ hyP) hyd t
      · exact (ord y hyP).2.1 t
    · exact h.own p hp' s hs fun y hyP => hy y (List.mem_cons_of_mem _ hyP)

/-- The act at the head is done. -/
theorem inv_act {x : Nat × DO} {v : Value} {M' : Mem} {γ' : Gm} {W W' : World} (F : Fit P nt ops bs ds) (h : Inv ops bs ds pre (x :: l) ls T M Pd listed TD γ) (hc : x.2.cls = 3)
    (hb : ∀ k, Bt bs x.1 k → listed.getD k true = true) (hE : Ext γ M W γ' M' W') :
    Inv ops bs ds (pre ++ [x]) l ls (put T x.2.io.dst v) M' Pd (listed.setIfInBounds x.1 true) (put TD x.2.io.dst v) γ' := by
  obtain ⟨i, d⟩ := x
  have hsplit := h.split
  have F' : Fit P nt ops bs (pre ++ (i, d) :: l) := by rw [← hsplit]; exact F
  have hact : acts (pre ++ [(i, d)]) = acts pre ++ [i] := by rw [acts_append, acts_one, if_pos hc]
  have ord : ∀ p ∈ Pd, i ≠ p.i ∧ ¬ Bt bs p.i i ∧ ∀ s, p.d.io.dst = some s → d.io.dst ≠ some s := by
    intro p hp
    obtain ⟨h1, h2, _, h4⟩ := fit_ord F' (h.frm p hp) (List.mem_cons_self (a := (i, d)) (l := l))
    exact ⟨h1, h2, h4⟩
  have hmem : (i, d) ∈ ds := by rw [hsplit]; simp
  have hmemP : ∀ p ∈ Pd, (p.i, p.d) ∈ ds := fun p hp => by rw [hsplit]; exact List.mem_append_left _ (h.frm p hp)
  have nbt : ∀ p ∈ Pd, ¬ Bt bs i p.i := fun p hp hbt => (not_un (h := h) (fit_lt F (hmemP p hp)) (hb _ hbt)).1 p hp rfl
  have hlt : i < ops.size := fit_lt F hmem
  refine ⟨by rw [hsplit]; simp, ?_, fun p hp => List.mem_append_left _ (h.frm p hp), h.low, ?_, ?_, by simp [h.size], closed_set h hb, h.apart, ?_, h.fed, ?_, ?_⟩
  · intro p hp'
    rcases h.pend p hp' with k | ⟨k1, k2, k3, k4⟩
    · exact .inl k
    · refine .inr ⟨k1, k2, k3, fun e => ?_⟩
      obtain ⟨m1, m2, m3⟩ := k4 e
      refine ⟨?_, Nat.lt_of_lt_of_le m2 hE.nx, (hE.quiet _ m2 m1).trans m3⟩
      cases hg : γ' p.M.nx with
      | none => rfl
      | some g =>
        have := (hE.new _ g hg m1).1
        omega
  · intro p hp' hc1
    rw [hact, List.length_append, List.length_singleton]
    have h1 := h.la p hp' hc1
    rcases Nat.lt_or_ge (acts pre).length p.d.la with hlt | hge
    · omega
    · have e : p.d.la = (acts pre).length := by omega
      have hq : (acts ds)[p.d.la]? = some i := by
        have e2 : acts ((i, d) :: l) = i :: acts l := by
          rw [show (i, d) :: l = [(i, d)] ++ l from rfl, acts_append, acts_one, if_pos hc]; rfl
        rw [hsplit, acts_append, e, e2, List.getElem?_append_right (Nat.le_refl _), Nat.sub_self]
        rfl
      exact absurd (F.last (p.i, p.d) (hmemP p hp') _ hq) (nbt p hp')
  · intro j hj
    rw [listed_set h.size hj]
    by_cases e : j = i
    · subst e
      rw [if_pos rfl]
      constructor
      · intro h; cases h
      · rintro (⟨p, hp', e⟩ | ⟨y, hy, e⟩)
        · exact absurd e.symm (ord p hp').1
        · have := (List.pairwise_cons.1 (List.pairwise_append.1 F'.ord).2.1).1 y hy
          exact absurd e this.1
    · rw [if_neg e, h.un j hj]
      constructor
      · rintro (h | ⟨y, hy, e'⟩)
        · exact .inl h
        · rcases List.mem_cons.1 hy with rfl | hy
          · exact absurd e'.symm e
          · exact .inr ⟨y, hy, e'⟩
      · rintro (h | ⟨y, hy, e'⟩)
        · exact .inl h
        · exact .inr ⟨y, List.mem_cons_of_mem _ hy, e'⟩
  · intro z hz s hs
    rw [tval_put, if_neg ((ord z hz).2.2 s hs)]
    exact h.val z hz s hs
  · intro s hs
    rw [tval_put, tval_put, h.same s hs]
  · intro p hp' s hs hy
    have : d.io.dst ≠ some s := by
      intro hd
      rcases F.slots (p.i, p.d) (hmemP p hp') s hs (i, d) hmem hd with t | t | t
      · exact (ord p hp').1 t
      · exact (ord p hp').2.1 t
      · exact nbt p hp' t
    rw [tval_put, if_neg this]
    exact h.own p hp' s hs hy

/-- One that waited is done. -/
theorem inv_pick {z : PE} {γ' : Gm} (F : Fit P nt ops bs ds) (h : Inv ops bs ds pre l ls T M Pd listed TD γ) (hz : z ∈ Pd)
    (hb : ∀ k, Bt bs z.i k → listed.getD k true = true) (hγ : ∀ p ∈ Pd, p.i ≠ z.i → p.d.cls = 2 → wanted p.T p.d.io.g = true → γ p.M.nx = none → γ' p.M.nx = none) :
    Inv ops bs ds pre l ls T M (Pd.filter (fun p => p.i != z.i)) (listed.setIfInBounds z.i true) (put TD z.d.io.dst z.v) γ' := by
  have hsplit := h.split
  have F' : Fit P nt ops bs (pre ++ l) := by rw [← hsplit]; exact F
  have hin : ∀ {p}, p ∈ Pd.filter (fun p => p.i != z.i) → p ∈ Pd ∧ p.i ≠ z.i := by
    intro p hp
    obtain ⟨h1, h2⟩ := List.mem_filter.1 hp
    exact ⟨h1, by simpa using h2⟩
  have hmemP : ∀ p ∈ Pd, (p.i, p.d) ∈ ds := fun p hp => by rw [hsplit]; exact List.mem_append_left _ (h.frm p hp)
  have nbt : ∀ p ∈ Pd, ¬ Bt bs z.i p.i := fun p hp hbt => (not_un (h := h) (fit_lt F (hmemP p hp)) (hb _ hbt)).1 p hp rfl
  refine ⟨hsplit, ?_, fun p hp => h.frm p (hin hp).1, fun p hp => h.low p (hin hp).1, fun p hp => h.la p (hin hp).1, ?_, by simp [h.size], closed_set h hb,
    fun p hp q hq => h.apart p (hin hp).1 q (hin hq).1, fun y hy => h.val y (hin hy).1, fun y hy p hp => h.fed y (hin hy).1 p (hin hp).1, ?_, ?_⟩
  · intro p hp'
    obtain ⟨hp1, hp2⟩ := hin hp'
    rcases h.pend p hp1 with k | ⟨k1, k2, k3, k4⟩
    · exact .inl k
    · exact .inr ⟨k1, k2, k3, fun e => ⟨hγ p hp1 hp2 e k1 (k4 e).1, (k4 e).2⟩⟩
  · intro j hj
    rw [listed_set h.size hj]
    by_cases e : j = z.i
    · subst e
      rw [if_pos rfl]
      constructor
      · intro h; cases h
      · rintro (⟨p, hp', e⟩ | ⟨y, hy, e⟩)
        · exact absurd e (hin hp').2
        · exact absurd e (fit_ord F' (h.frm z hz) hy).1
    · rw [if_neg e, h.un j hj]
      constructor
      · rintro (⟨p, hp', e'⟩ | h)
        · exact .inl ⟨p, List.mem_filter.2 ⟨hp', by simpa [e'] using e⟩, e'⟩
        · exact .inr h
      · rintro (⟨p, hp', e'⟩ | h)
        · exact .inl ⟨p, (hin hp').1, e'⟩
        · exact .inr h
  · intro s hs
    rw [tval_put]
    by_cases e : z.d.io.dst = some s
    · rw [if_pos e, h.val z hz s e]
    · rw [if_neg e]
      refine h.same s fun p hp' hd => ?_
      by_cases e' : p.i = z.i
      · have := fit_uni F (hmemP p hp') (hmemP z hz) e'
        have hd' : p.d = z.d := congrArg Prod.snd this
        exact e (hd' ▸ hd)
      · exact hs p (List.mem_filter.2 ⟨hp', by simpa using e'⟩) hd
  · intro p hp' s hs hy
    obtain ⟨hp1, hp2⟩ := hin hp'
    rw [tval_put]
    by_cases e : z.d.io.dst = some s
    · rw [if_pos e]
      rcases F.slots (p.i, p.d) (hmemP p hp1) s hs (z.i, z.d) (hmemP z hz) e with t | t | t
      · exact absurd t.symm hp2
      · exact (h.fed z hz p hp1 s hs e t).symm
      · exact absurd t (nbt p hp1)
    · rw [if_neg e]
      refine h.own p hp1 s hs fun y hyP hyd => ?_
      by_cases e' : y.i = z.i
      · have := fit_uni F (hmemP y hyP) (hmemP z hz) e'
        have hd' : y.d = z.d := congrArg Prod.snd this
        exact absurd (hd' ▸ hyd) e
      · exact hy y (List.mem_filter.2 ⟨hyP, by simpa using e'⟩) hyd
end
end Go.Ai
