/-
  The abstract interpreter: the relation between its memory and the model's world, and what each way of writing does to it.
-/
import Derived.Test.YtclmkcmpfkmbpaaGreatDoorAi5
set_option linter.unusedSectionVars false
namespace Go.Ai
open Go

theorem some_none {α : Type} {x : Option α} {a : α} {p : Prop} (h : x = some a) (h' : x = none) : p := by rw [h] at h'; cases h'

def lwOf (M : Mem) (g : Nat) : Nat := (M.lw.get g).getD 0

variable [Sig]

def ER (γ : Gm) : List MapEntry → List MapEntry → Prop
  | [], [] => True
  | e :: l, f :: m => VR γ e.key f.key ∧ VR γ e.val f.val ∧ e.born = f.born ∧ ER γ l m
  | _, _ => False
theorem ER.mono {γ γ' : Gm} (hl : Le γ γ') : ∀ {l m : List MapEntry}, ER γ l m → ER γ' l m
  | [], [], _ => trivial
  | _ :: _, _ :: _, h => ⟨h.1.mono hl, h.2.1.mono hl, h.2.2.1, ER.mono hl h.2.2.2⟩
  | [], _ :: _, h => h.elim
  | _ :: _, [], h => h.elim

/-- The cells of a row lie where they should. -/
def Held (γ : Gm) (W : World) (g : G) (a : Arr) : Prop :=
  ∃ c e, W.heap[g.blk]? = some (.cells c e (0, 0)) ∧ g.base + g.room ≤ c.size ∧ a.n ≤ g.room ∧
    ∀ i v, a.cells.get i = some v → i < a.n ∧ v.oneCell' = true ∧ ∃ u, c[g.base + i]? = some u ∧ VR γ v u

def ObjR (γ : Gm) (M : Mem) (W : World) (g : G) : AO → Prop
  | .arr a => a.es = g.es ∧ (valid M a = true → Held γ W g a)
  | .map es clk => g.base = 0 ∧ ∃ es' : Array MapEntry, W.heap[g.blk]? = some (.map es' clk) ∧ ER γ es es'.toList
  | .miter m since seen st => g.base = 0 ∧ ∃ m', W.heap[g.blk]? = some (.mapIter m' since seen.toArray st) ∧
      ((m = none ∧ m' = none) ∨ ∃ r g', m = some r ∧ γ r = some g' ∧ m' = some g'.blk)
  | .zer s z => g.base = 0 ∧ g.es = 1 ∧ isNum z = true ∧ ∃ c e, W.heap[g.blk]? = some (.cells c e (0, 0)) ∧ (c.size : Int) = Sig.val s ∧ g.room = c.size ∧ ∀ i, i < c.size → c[i]? = some z

/-- Two rows in one block. -/
def Mates (M : Mem) (g : G) (a : Arr) (g' : G) (a' : Arr) : Prop :=
  a.grp = a'.grp ∧ (a.own = true → a.shared = true ∧ a'.own = false ∧ (valid M a' = true → g'.base + a'.n ≤ g.base + a.n))

structure Rel (γ : Gm) (M : Mem) (W : World) : Prop where
  dom : ∀ r g, γ r = some g → r < M.nx ∧ g.blk < W.heap.size
  obj : ∀ r g, γ r = some g → ∃ o, M.h.get r = some o ∧ ObjR γ M W g o
  alone : ∀ r r' g g', γ r = some g → γ r' = some g' → r ≠ r' → g.blk = g'.blk →
    ∃ a a', M.h.get r = some (.arr a) ∧ M.h.get r' = some (.arr a') ∧ Mates M g a g' a'
  svle : ∀ r a, M.h.get r = some (.arr a) → a.own = false → a.sv ≤ lwOf M a.grp

structure Ext (γ : Gm) (M : Mem) (W : World) (γ' : Gm) (M' : Mem) (W' : World) : Prop where
  le : Le γ γ'
  new : ∀ r g, γ' r = some g → γ r = none → M.nx ≤ r ∧ (W.heap.size ≤ g.blk ∨ ∃ r0 g0, γ r0 = some g0 ∧ g0.blk = g.blk)
  nx : M.nx ≤ M'.nx
  quiet : ∀ r, r < M.nx → γ r = none → M'.h.get r = M.h.get r
  size : W.heap.size ≤ W'.heap.size
  frame : ∀ b, b < W.heap.size → (∀ r g, γ r = some g → g.blk ≠ b) → W'.heap[b]? = W.heap[b]?
  tape : W'.tape = W.tape
  os : W'.os = W.os
  output : W'.output = W.output
  froz : ∀ a, W'.frozen? a = W.frozen? a

theorem Ext.refl (γ : Gm) (M : Mem) (W : World) : Ext γ M W γ M W :=
  ⟨Le.refl γ, fun _ _ h h' => some_none h h', Nat.le_refl _, fun _ _ _ => rfl, Nat.le_refl _, fun _ _ _ => rfl, rfl, rfl, rfl, fun _ => rfl⟩

theorem Ext.trans {γ γ1 γ2 : Gm} {M M1 M2 : Mem} {W W1 W2 : World} (h : Ext γ M W γ1 M1 W1) (k : Ext γ1 M1 W1 γ2 M2 W2) : Ext γ M W γ2 M2 W2 := by
  refine ⟨h.le.trans k.le, ?_, Nat.le_trans h.nx k.nx, ?_, Nat.le_trans h.size k.size, ?_, k.tape.trans h.tape, k.os.trans h.os, k.output.trans h.output, fun a => (k.froz a).trans (h.froz a)⟩
  · intro r g hr hn
    cases h1 : γ1 r with
    | some g1 =>
      have := k.le r g1 h1
      rw [hr] at this
      cases this
      exact h.new r g h1 hn
    | none =>
      obtain ⟨a, b⟩ := k.new r g hr h1
      refine ⟨Nat.le_trans h.nx a, ?_⟩
      rcases b with b | ⟨r0, g0, h0, e0⟩
      · exact .inl (Nat.le_trans h.size b)
      · cases h2 : γ r0 with
        | some g2 =>
          have := h.le r0 g2 h2
          rw [h0] at this
          cases this
          exact .inr ⟨r0, g0, h2, e0⟩
        | none =>
          obtain ⟨_, c⟩ := h.new r0 g0 h0 h2
          rw [e0] at c
          exact c
  · intro r hr hn
    have h1 : γ1 r = none := by
      cases e : γ1 r with
      | none => rfl
      | some g => have := (h.new r g e hn).1; omega
    rw [k.quiet r (Nat.lt_of_lt_of_le hr h.nx) h1, h.quiet r hr hn]
  · intro b hb hf
    have : ∀ r g, γ1 r = some g → g.blk ≠ b := by
      intro r g hr he
      cases h2 : γ r with
      | some g2 =>
        have := h.le r g2 h2
        rw [hr] at this
        cases this
        exact hf r g h2 he
      | none =>
        rcases (h.new r g hr h2).2 with c | ⟨r0, g0, h0, e0⟩
        · omega
        · exact hf r0 g0 h0 (e0.trans he)
    rw [k.frame b (Nat.lt_of_lt_of_le hb h.size) this, h.frame b hb hf]

/-- What a validity hangs on. -/
theorem valid_iff {M : Mem} {a : Arr} : valid M a = true ↔ a.own = true ∨ a.sv = lwOf M a.grp := by
  unfold valid lwOf
  rw [Bool.or_eq_true]
  constructor
  · rintro (h | h)
    · exact .inl h
    · exact .inr (Nat.eq_of_beq_eq_true h)
  · rintro (h | h)
    · exact .inl h
    · refine .inr ?_
      rw [h]
      exact Nat.beq_refl _

theorem ObjR.keep {γ γ' : Gm} {M M' : Mem} {W W' : World} {g : G} {o : AO} (h : ObjR γ M W g o) (hl : Le γ γ')
    (hv : ∀ a, o = .arr a → valid M' a = true → valid M a = true) (hb : W'.heap[g.blk]? = W.heap[g.blk]?) : ObjR γ' M' W' g o := by
  cases o with
  | arr a =>
    refine ⟨h.1, fun hva => ?_⟩
    obtain ⟨c, e, h1, h2, h3, h4⟩ := h.2 (hv a rfl hva)
    exact ⟨c, e, hb.trans h1, h2, h3, fun i v hi => by
      obtain ⟨a1, a2, u, a3, a4⟩ := h4 i v hi
      exact ⟨a1, a2, u, a3, a4.mono hl⟩⟩
  | map es clk =>
    obtain ⟨h0, es', h1, h2⟩ := h
    exact ⟨h0, es', hb.trans h1, h2.mono hl⟩
  | miter m since seen st =>
    obtain ⟨h0, m', h1, h2⟩ := h
    refine ⟨h0, m', hb.trans h1, ?_⟩
    rcases h2 with h2 | ⟨r, g', e1, e2, e3⟩
    · exact .inl h2
    · exact .inr ⟨r, g', e1, hl _ _ e2, e3⟩
  | zer s z =>
    obtain ⟨h0, h1, hz, c, e, h2, h3⟩ := h
    exact ⟨h0, h1, hz, c, e, hb.trans h2, h3⟩

def upd (γ : Gm) (r : Nat) (g : G) : Gm := fun x => if x = r then some g else γ x
theorem upd_same (γ : Gm) (r : Nat) (g : G) : upd γ r g r = some g := if_pos rfl
theorem upd_other (γ : Gm) {r x : Nat} (g : G) (h : x ≠ r) : upd γ r g x = γ x := if_neg h
theorem le_upd {γ : Gm} {r : Nat} (g : G) (h : γ r = none) : Le γ (upd γ r g) := fun x y hx => by
  rw [upd_other γ g]
  · exact hx
  · rintro rfl; rw [h] at hx; cases hx
theorem Rel.fresh {γ : Gm} {M : Mem} {W : World} (h : Rel γ M W) {r : Nat} (hr : M.nx ≤ r) : γ r = none := by
  cases e : γ r with
  | none => rfl
  | some g => have := (h.dom r g e).1; omega

/-- A block that no program text lies in. -/
def Thaw (o : Option Obj) : Prop := ∀ c t fr, o = some (.cells c t fr) → fr = (0, 0)
theorem frozen_thaw {w : World} {a : Addr} (h : Thaw w.heap[a.block]?) : w.frozen? a = false := by
  unfold World.frozen?
  split
  · rename_i c t lo hi e
    have := h _ _ _ e
    cases this
    simp
  · rfl
theorem froz_alloc (W : World) {ob : Obj} (h : Thaw (some ob)) (a : Addr) : (W.alloc ob).frozen? a = W.frozen? a := by
  by_cases e : a.block = W.heap.size
  · rw [frozen_thaw (w := W.alloc ob) (by rw [e, heap_alloc_new W ob]; exact h), frozen_thaw (w := W) (by rw [e]; intro c t fr hh; simp at hh)]
  · exact World.frozen?_alloc_old _ _ _ e
theorem froz_at {W w : World} {b : Nat} (h1 : Thaw W.heap[b]?) (h2 : Thaw w.heap[b]?) (ho : ∀ k, k ≠ b → w.heap[k]? = W.heap[k]?) (a : Addr) : w.frozen? a = W.frozen? a := by
  by_cases e : a.block = b
  · rw [frozen_thaw (w := w) (by rw [e]; exact h2), frozen_thaw (w := W) (by rw [e]; exact h1)]
  · exact World.frozen?_of_block (ho _ e)
theorem thaw_cells {o : Option Obj} {c : Array Value} {t : TypeId} (h : o = some (.cells c t (0, 0))) : Thaw o := by
  intro c' t' fr e
  rw [h] at e
  cases e; rfl
theorem ObjR.thaw {γ : Gm} {M : Mem} {W : World} {g : G} {o : AO} (h : ObjR γ M W g o) (hv : ∀ a, o = .arr a → valid M a = true) : Thaw W.heap[g.blk]? := by
  cases o with
  | arr a =>
    obtain ⟨c, e, h1, _⟩ := h.2 (hv a rfl)
    exact thaw_cells h1
  | map es clk =>
    obtain ⟨_, es', h1, _⟩ := h
    intro c t fr e
    rw [h1] at e; cases e
  | miter m since seen st =>
    obtain ⟨_, m', h1, _⟩ := h
    intro c t fr e
    rw [h1] at e; cases e
  | zer s z =>
    obtain ⟨_, _, _, c, e, h1, _⟩ := h
    exact thaw_cells h1
theorem valid_own {M : Mem} {a : Arr} (h : a.own = true) : valid M a = true := by
  unfold valid; rw [h]; rfl

/-- A new object in a new block. -/
theorem rel_new {γ : Gm} {M : Mem} {W : World} (h : Rel γ M W) (o : AO) (ob : Obj) (g : G) (hg : g.blk = W.heap.size)
    (ho : ObjR (upd γ M.nx g) ⟨M.h.set M.nx o, M.nx + 1, M.lw⟩ (W.alloc ob) g o) (hown : ∀ a, o = .arr a → a.own = true) :
    Rel (upd γ M.nx g) ⟨M.h.set M.nx o, M.nx + 1, M.lw⟩ (W.alloc ob) ∧ Ext γ M W (upd γ M.nx g) ⟨M.h.set M.nx o, M.nx + 1, M.lw⟩ (W.alloc ob) := by
  have hs : ∀ a, o = .arr a → a.own = false → a.sv ≤ lwOf M a.grp := fun a e f => by rw [hown a e] at f; cases f
  have hth : Thaw (some ob) := by
    have := ho.thaw (fun a e => valid_own (hown a e))
    rw [hg, heap_alloc_new W ob] at this
    exact this
  have hf := h.fresh (Nat.le_refl M.nx)
  have hle : Le γ (upd γ M.nx g) := le_upd g hf
  have hold : ∀ i, i < W.heap.size → (W.alloc ob).heap[i]? = W.heap[i]? := heap_alloc_old W ob
  refine ⟨⟨?_, ?_, ?_, ?_⟩, ⟨hle, ?_, Nat.le_succ _, ?_, by simp, fun b hb _ => hold b hb, rfl, rfl, rfl, froz_alloc W hth⟩⟩
  · intro r g' hr
    by_cases e : r = M.nx
    · subst e
      rw [upd_same] at hr
      cases hr
      exact ⟨Nat.lt_succ_self _, by rw [hg]; simp⟩
    · rw [upd_other γ g e] at hr
      obtain ⟨a, b⟩ := h.dom r g' hr
      exact ⟨Nat.lt_succ_of_lt a, by simp; omega⟩
  · intro r g' hr
    by_cases e : r = M.nx
    · subst e
      rw [upd_same] at hr
      cases hr
      exact ⟨o, PM.set_same _ _ _, ho⟩
    · rw [upd_other γ g e] at hr
      obtain ⟨x, hx, hxr⟩ := h.obj r g' hr
      refine ⟨x, (PM.set_other _ _ e).trans hx, hxr.keep hle (fun a _ hv => hv) (hold _ (h.dom r g' hr).2)⟩
  · intro r r' g1 g2 h1 h2 hne hb
    by_cases e : r = M.nx
    · subst e
      rw [upd_same] at h1
      cases h1
      rw [upd_other γ g (Ne.symm hne)] at h2
      have := (h.dom r' g2 h2).2
      omega
    · rw [upd_other γ g e] at h1
      by_cases e' : r' = M.nx
      · subst e'
        rw [upd_same] at h2
        cases h2
        have := (h.dom r g1 h1).2
        omega
      · rw [upd_other γ g e'] at h2
        obtain ⟨a, a', k1, k2, k3⟩ := h.alone r r' g1 g2 h1 h2 hne hb
        exact ⟨a, a', (PM.set_other _ _ e).trans k1, (PM.set_other _ _ e').trans k2, k3⟩
  · intro r a hr
    by_cases e : r = M.nx
    · subst e
      have : (M.h.set M.nx o).get M.nx = some o := PM.set_same _ _ _
      rw [show (⟨M.h.set M.nx o, M.nx + 1, M.lw⟩ : Mem).h = M.h.set M.nx o from rfl, this] at hr
      cases hr
      exact hs a rfl
    · exact h.svle r a ((PM.set_other _ _ e).symm.trans hr)
  · intro r g' hr hn
    by_cases e : r = M.nx
    · subst e
      rw [upd_same] at hr
      cases hr
      exact ⟨Nat.le_refl _, .inl (by omega)⟩
    · rw [upd_other γ g e, hn] at hr
      cases hr
  · intro r hr _
    exact PM.set_other _ _ (Nat.ne_of_lt hr)

/-- A new row of cells. -/
theorem rel_row {γ : Gm} {M : Mem} {W : World} (h : Rel γ M W) (a : Arr) (c : Array Value) (e : TypeId) (room : Nat) (hown : a.own = true) (hc : room ≤ c.size) (hn : a.n ≤ room)
    (hcell : ∀ i v, a.cells.get i = some v → i < a.n ∧ v.oneCell' = true ∧ ∃ u, c[i]? = some u ∧ VR γ v u) :
    Rel (upd γ M.nx ⟨W.heap.size, 0, room, a.es⟩) ⟨M.h.set M.nx (.arr a), M.nx + 1, M.lw⟩ (W.alloc (.cells c e)) ∧
      Ext γ M W (upd γ M.nx ⟨W.heap.size, 0, room, a.es⟩) ⟨M.h.set M.nx (.arr a), M.nx + 1, M.lw⟩ (W.alloc (.cells c e)) := by
  refine rel_new h (.arr a) (.cells c e) _ rfl ⟨rfl, fun _ => ?_⟩ (fun a' he => ?_)
  · refine ⟨c, e, heap_alloc_new W _, by simpa using hc, hn, fun i v hi => ?_⟩
    obtain ⟨h1, h2, u, h3, h4⟩ := hcell i v hi
    exact ⟨h1, h2, u, by simpa using h3, h4.mono (le_upd _ (h.fresh (Nat.le_refl _)))⟩
  · cases he
    exact hown

theorem cells_ofList {γ : Gm} {L cL : List Value} {c : Array Value} (hr : LR γ L cL) (h1 : ∀ v ∈ L, v.oneCell' = true) (hc : ∀ i, i < cL.length → c[i]? = cL[i]?) :
    ∀ i v, (PM.ofList .lf L 0).get i = some v → i < L.length ∧ v.oneCell' = true ∧ ∃ u, c[i]? = some u ∧ VR γ v u := by
  intro i v hi
  rw [PM.get_ofList] at hi
  split at hi
  · rename_i hlt
    rw [Nat.sub_zero] at hi
    obtain ⟨u, hu, hv⟩ := hr.get i v hi
    have hlt' : i < L.length := by omega
    exact ⟨hlt', h1 v (List.mem_of_getElem? hi), u, (hc i (by rw [← hr.length]; exact hlt')).trans hu, hv⟩
  · cases hi

theorem allOne_mem : ∀ {l : List Value}, allOne l = true → ∀ v ∈ l, v.oneCell' = true
  | [], _, v, hv => by cases hv
  | a :: l, h, v, hv => by
    unfold allOne at h
    cases ha : a.oneCell' with
    | false => rw [ha] at h; cases h
    | true =>
      rw [ha] at h
      rcases List.mem_cons.1 hv with rfl | hv
      · exact ha
      · exact allOne_mem h v hv
theorem LR.one {γ : Gm} : ∀ {l m : List Value}, LR γ l m → (∀ v ∈ l, v.oneCell' = true) → ∀ v ∈ m, v.oneCell' = true
  | [], [], _, _, v, hv => by cases hv
  | a :: l, b :: m, h, k, v, hv => by
    rcases List.mem_cons.1 hv with rfl | hv
    · rw [h.1.one]; exact k a (by simp)
    · exact LR.one h.2 (fun x hx => k x (by simp [hx])) v hv
  | [], _ :: _, h, _, _, _ => h.elim
  | _ :: _, [], h, _, _, _ => h.elim

/-- `newArr`, with more cells behind. -/
theorem newArr_more {γ : Gm} {M : Mem} {W : World} (h : Rel γ M W) {L cL : List Value} {es r : Nat} {M' : Mem} (hn : newArr M L es = some (r, M')) (hr : LR γ L cL) (more : List Value) (e : TypeId) :
    r = M.nx ∧ Rel (upd γ r ⟨W.heap.size, 0, cL.length + more.length, es⟩) M' (W.alloc (.cells (cL ++ more).toArray e)) ∧
      Ext γ M W (upd γ r ⟨W.heap.size, 0, cL.length + more.length, es⟩) M' (W.alloc (.cells (cL ++ more).toArray e)) := by
  unfold newArr at hn
  cases ha : allOne L with
  | false => rw [ha] at hn; cases hn
  | true =>
    rw [ha] at hn
    cases hn
    refine ⟨rfl, rel_row h ⟨PM.ofList .lf L 0, L.length, es, true, false, M.nx, 0⟩ _ e _ rfl (by simp) (by rw [hr.length]; exact Nat.le_add_right _ _) ?_⟩
    exact cells_ofList hr (allOne_mem ha) (fun i hi => by simp [List.getElem?_append_left hi])
theorem newArr_rel {γ : Gm} {M : Mem} {W : World} (h : Rel γ M W) {L cL : List Value} {es r : Nat} {M' : Mem} (hn : newArr M L es = some (r, M')) (hr : LR γ L cL) (e : TypeId) :
    r = M.nx ∧ Rel (upd γ r ⟨W.heap.size, 0, cL.length, es⟩) M' (W.alloc (.cells cL.toArray e)) ∧
      Ext γ M W (upd γ r ⟨W.heap.size, 0, cL.length, es⟩) M' (W.alloc (.cells cL.toArray e)) := by
  have := newArr_more h hn hr [] e
  simpa using this

/-- A draw. -/
theorem Rel.drew {γ : Gm} {M : Mem} {W : World} (h : Rel γ M W) : Rel γ M W.drew :=
  ⟨h.dom, fun r g hr => by
    obtain ⟨o, h1, h2⟩ := h.obj r g hr
    exact ⟨o, h1, h2.keep (Le.refl γ) (fun _ _ hv => hv) rfl⟩, h.alone, h.svle⟩
theorem Ext.drew {γ : Gm} (M : Mem) (W : World) : Ext γ M W γ M W.drew :=
  ⟨Le.refl γ, fun _ _ h h' => some_none h h', Nat.le_refl _, fun _ _ _ => rfl, Nat.le_refl _, fun _ _ _ => rfl, rfl, rfl, rfl, fun _ => rfl⟩

/-- A row that may be written is written anew, in its block. -/
theorem rel_store {γ : Gm} {M : Mem} {W : World} (h : Rel γ M W) {r : Nat} {g : G} {a : Arr} (hr : γ r = some g) (ha : M.h.get r = some (.arr a)) (hown : a.own = true)
    (c' : PM Value) (cur' : Array Value) (hh : Held γ (W.setRow g.blk cur') g { a with cells := c' }) :
    Rel γ (putArr M r { a with cells := c' }) (W.setRow g.blk cur') ∧ Ext γ M W γ (putArr M r { a with cells := c' }) (W.setRow g.blk cur') := by
  have hother : ∀ b, b ≠ g.blk → (W.setRow g.blk cur').heap[b]? = W.heap[b]? := fun b hb => setRow_other W g.blk b cur' hb
  have hsize : (W.setRow g.blk cur').heap.size = W.heap.size := by simp [World.setRow]
  have hth2 : Thaw (W.setRow g.blk cur').heap[g.blk]? := by
    obtain ⟨c, e, h1, _⟩ := hh
    exact thaw_cells h1
  have hth1 : Thaw W.heap[g.blk]? := by
    obtain ⟨o, k1, k2⟩ := h.obj r g hr
    rw [ha] at k1
    cases k1
    exact k2.thaw (fun a' e => by cases e; exact valid_own hown)
  have hlw : ∀ k, lwOf M k ≤ lwOf (putArr M r { a with cells := c' }) k := by
    intro k
    unfold putArr lwOf
    dsimp only
    cases a.shared with
    | false => exact Nat.le_refl _
    | true =>
      show _ ≤ ((M.lw.set a.grp _).get k).getD 0
      rw [PM.get_set]
      split
      · rename_i e; subst e; simp
      · exact Nat.le_refl _
  have hval : ∀ x : Arr, (x.own = false → x.sv ≤ lwOf M x.grp) → valid (putArr M r { a with cells := c' }) x = true → valid M x = true := by
    intro x hx hv
    rw [valid_iff] at hv ⊢
    rcases hv with hv | hv
    · exact .inl hv
    · cases ho : x.own with
      | true => exact .inl rfl
      | false =>
        have h1 := hx ho
        have h2 := hlw x.grp
        exact .inr (by omega)
  have hdead : ∀ x : Arr, x.own = false → x.sv ≤ lwOf M x.grp → a.grp = x.grp → a.shared = true → valid (putArr M r { a with cells := c' }) x = false := by
    intro x ho hx hg hs
    cases hv : valid (putArr M r { a with cells := c' }) x with
    | false => rfl
    | true =>
      rw [valid_iff] at hv
      rcases hv with hv | hv
      · rw [ho] at hv; cases hv
      · exfalso
        have : lwOf (putArr M r { a with cells := c' }) x.grp = lwOf M x.grp + 1 := by
          unfold putArr lwOf
          dsimp only
          rw [hs, ← hg]
          show ((M.lw.set a.grp _).get a.grp).getD 0 = _
          rw [PM.set_same]; rfl
        omega
  have hget : ∀ x, x ≠ r → (putArr M r { a with cells := c' }).h.get x = M.h.get x := fun x hx => PM.set_other _ _ hx
  have hgetr : (putArr M r { a with cells := c' }).h.get r = some (.arr { a with cells := c' }) := PM.set_same _ _ _
  refine ⟨⟨fun x gx hx => ⟨(h.dom x gx hx).1, by rw [hsize]; exact (h.dom x gx hx).2⟩, ?_, ?_, ?_⟩,
    ⟨Le.refl γ, fun _ _ h1 h2 => some_none h1 h2, Nat.le_refl _, ?_, by rw [hsize]; exact Nat.le_refl _, ?_, rfl, rfl, rfl, froz_at hth1 hth2 hother⟩⟩
  · intro x gx hx
    by_cases ex : x = r
    · subst ex
      rw [hr] at hx
      cases hx
      obtain ⟨o, h1, h2⟩ := h.obj x g hr
      rw [ha] at h1
      cases h1
      exact ⟨_, hgetr, h2.1, fun _ => hh⟩
    · obtain ⟨o, h1, h2⟩ := h.obj x gx hx
      refine ⟨o, (hget x ex).trans h1, ?_⟩
      by_cases eb : gx.blk = g.blk
      · obtain ⟨a1, a2, k1, k2, k3⟩ := h.alone r x g gx hr hx (Ne.symm ex) eb.symm
        rw [ha] at k1
        cases k1
        rw [h1] at k2
        cases k2
        obtain ⟨m1, m2⟩ := k3
        obtain ⟨m3, m4, _⟩ := m2 hown
        refine ⟨h2.1, fun hv => ?_⟩
        rw [hdead a2 m4 (h.svle x a2 h1 m4) m1 m3] at hv
        cases hv
      · exact h2.keep (Le.refl γ) (fun a3 e3 hv => hval a3 (fun ho => by subst e3; exact h.svle x a3 h1 ho) hv) (hother _ eb)
  · intro x y gx gy hx hy hne hbl
    obtain ⟨a1, a2, k1, k2, k3⟩ := h.alone x y gx gy hx hy hne hbl
    have key : ∀ z az, M.h.get z = some (.arr az) → ∃ az', (putArr M r { a with cells := c' }).h.get z = some (.arr az') ∧ az'.n = az.n ∧ az'.own = az.own ∧ az'.shared = az.shared ∧ az'.grp = az.grp ∧ az'.sv = az.sv := by
      intro z az hz
      by_cases ez : z = r
      · subst ez
        rw [ha] at hz
        cases hz
        exact ⟨_, hgetr, rfl, rfl, rfl, rfl, rfl⟩
      · exact ⟨az, (hget z ez).trans hz, rfl, rfl, rfl, rfl, rfl⟩
    obtain ⟨b1, q1, n1, o1, s1, g1, v1⟩ := key x a1 k1
    obtain ⟨b2, q2, n2, o2, s2, g2, v2⟩ := key y a2 k2
    refine ⟨b1, b2, q1, q2, by rw [g1, g2]; exact k3.1, fun ho => ?_⟩
    obtain ⟨m3, m4, m5⟩ := k3.2 (o1 ▸ ho)
    refine ⟨s1.trans m3, o2.trans m4, fun hv => ?_⟩
    rw [n1, n2]
    refine m5 ?_
    have : valid (putArr M r { a with cells := c' }) a2 = true := by
      rw [valid_iff] at hv ⊢
      rw [o2, v2, g2] at hv
      exact hv
    exact hval a2 (fun ho => h.svle y a2 k2 ho) this
  · intro x ax hx ho
    by_cases ex : x = r
    · subst ex
      rw [hgetr] at hx
      cases hx
      rw [hown] at ho
      cases ho
    · rw [hget x ex] at hx
      exact Nat.le_trans (h.svle x ax hx ho) (hlw _)
  · intro x hx hn
    refine hget x ?_
    rintro rfl
    rw [hr] at hn
    cases hn
  · intro b hb1 hf
    exact hother b (fun e => hf r g hr e.symm)

/-- The memory in which a row is an elder one: `bump`: it, and its like, are no more read. -/
def snap (M : Mem) (r : Nat) (a : Arr) (bump : Bool) : Mem :=
  ⟨M.h.set r (.arr { a with own := false, sv := lwOf M a.grp }), M.nx, bif bump then M.lw.set a.grp (lwOf M a.grp + 1) else M.lw⟩

theorem snap_lw {M : Mem} {r : Nat} {a : Arr} {bump : Bool} (k : Nat) : lwOf M k ≤ lwOf (snap M r a bump) k := by
  unfold snap
  cases bump with
  | false => exact Nat.le_refl _
  | true =>
    show lwOf M k ≤ ((M.lw.set a.grp _).get k).getD 0
    rw [PM.get_set]
    split
    · rename_i e; subst e; simp
    · exact Nat.le_refl _
theorem snap_bump {M : Mem} {r : Nat} {a : Arr} : lwOf (snap M r a true) a.grp = lwOf M a.grp + 1 := by
  show ((M.lw.set a.grp _).get a.grp).getD 0 = _
  rw [PM.set_same]; rfl

theorem rel_snap {γ : Gm} {M : Mem} {W : World} (h : Rel γ M W) {r : Nat} {g : G} {a : Arr} (hr : γ r = some g) (ha : M.h.get r = some (.arr a)) (hown : a.own = true) (bump : Bool) :
    Rel γ (snap M r a bump) W ∧ Ext γ M W γ (snap M r a bump) W ∧
    (∀ x gx, γ x = some gx → gx.blk = g.blk → ∃ ax, (snap M r a bump).h.get x = some (.arr ax) ∧ ax.own = false ∧ ax.grp = a.grp ∧
      (valid (snap M r a bump) ax = true → bump = false ∧ gx.base + ax.n ≤ g.base + a.n)) := by
  have hval : ∀ x : Arr, (x.own = false → x.sv ≤ lwOf M x.grp) → valid (snap M r a bump) x = true → valid M x = true := by
    intro x hx hv
    rw [valid_iff] at hv ⊢
    rcases hv with hv | hv
    · exact .inl hv
    · cases ho : x.own with
      | true => exact .inl rfl
      | false =>
        have h1 := hx ho
        have h2 : lwOf M x.grp ≤ lwOf (snap M r a bump) x.grp := snap_lw x.grp
        exact .inr (by omega)
  have hnob : ∀ x : Arr, x.own = false → x.sv ≤ lwOf M x.grp → x.grp = a.grp → valid (snap M r a bump) x = true → bump = false := by
    intro x ho hx hg hv
    cases bump with
    | false => rfl
    | true =>
      rw [valid_iff, ho, hg, snap_bump] at hv
      rw [hg] at hx
      rcases hv with hv | hv
      · cases hv
      · omega
  have hget : ∀ x, x ≠ r → (snap M r a bump).h.get x = M.h.get x := fun x hx => PM.set_other _ _ hx
  have hgetr : (snap M r a bump).h.get r = some (.arr { a with own := false, sv := lwOf M a.grp }) := PM.set_same _ _ _
  have hheld : Held γ W g a := by
    obtain ⟨o, h1, h2⟩ := h.obj r g hr
    rw [ha] at h1
    cases h1
    exact h2.2 (by rw [valid_iff]; exact .inl hown)
  have hes : a.es = g.es := by
    obtain ⟨o, h1, h2⟩ := h.obj r g hr
    rw [ha] at h1
    cases h1
    exact h2.1
  refine ⟨⟨h.dom, ?_, ?_, ?_⟩, ⟨Le.refl γ, fun _ _ h1 h2 => some_none h1 h2, Nat.le_refl _, ?_, Nat.le_refl _, fun _ _ _ => rfl, rfl, rfl, rfl, fun _ => rfl⟩, ?_⟩
  · intro x gx hx
    by_cases ex : x = r
    · subst ex
      rw [hr] at hx
      cases hx
      exact ⟨_, hgetr, hes, fun _ => hheld⟩
    · obtain ⟨o, h1, h2⟩ := h.obj x gx hx
      exact ⟨o, (hget x ex).trans h1, h2.keep (Le.refl γ) (fun a3 e3 hv => hval a3 (fun ho => by subst e3; exact h.svle x a3 h1 ho) hv) rfl⟩
  · intro x y gx gy hx hy hne hbl
    obtain ⟨a1, a2, k1, k2, k3⟩ := h.alone x y gx gy hx hy hne hbl
    by_cases ex : x = r
    · subst ex
      rw [ha] at k1
      cases k1
      refine ⟨_, a2, hgetr, (hget y (Ne.symm hne)).trans k2, k3.1, fun ho => by cases ho⟩
    · by_cases ey : y = r
      · subst ey
        rw [ha] at k2
        cases k2
        refine ⟨a1, _, (hget x ex).trans k1, hgetr, k3.1, fun ho => ?_⟩
        obtain ⟨_, m4, _⟩ := k3.2 ho
        rw [hown] at m4
        cases m4
      · refine ⟨a1, a2, (hget x ex).trans k1, (hget y ey).trans k2, k3.1, fun ho => ?_⟩
        obtain ⟨m3, m4, m5⟩ := k3.2 ho
        exact ⟨m3, m4, fun hv => m5 (hval a2 (fun ho => h.svle y a2 k2 ho) hv)⟩
  · intro x ax hx ho
    by_cases ex : x = r
    · subst ex
      rw [hgetr] at hx
      cases hx
      exact snap_lw _
    · rw [hget x ex] at hx
      exact Nat.le_trans (h.svle x ax hx ho) (snap_lw _)
  · intro x hx hn
    refine hget x ?_
    rintro rfl
    rw [hr] at hn
    cases hn
  · intro x gx hx hbl
    by_cases ex : x = r
    · subst ex
      rw [hr] at hx
      cases hx
      exact ⟨_, hgetr, rfl, rfl, fun hv => ⟨hnob { a with own := false, sv := lwOf M a.grp } rfl (Nat.le_refl _) rfl hv, Nat.le_refl _⟩⟩
    · obtain ⟨a1, a2, k1, k2, k3⟩ := h.alone r x g gx hr hx (Ne.symm ex) hbl.symm
      rw [ha] at k1
      cases k1
      obtain ⟨_, m4, m5⟩ := k3.2 hown
      exact ⟨a2, (hget x ex).trans k2, m4, k3.1.symm, fun hv => ⟨hnob a2 m4 (h.svle x a2 k2 m4) k3.1.symm hv, m5 (hval a2 (fun ho => h.svle x a2 k2 ho) hv)⟩⟩

/-- A new row that goes on in the block of elder ones: what they hold of it stands. -/
theorem rel_extend {γ : Gm} {M : Mem} {W : World} (h : Rel γ M W) {b grp lim : Nat} (hlt : b < W.heap.size)
    (hmates : ∀ x gx, γ x = some gx → gx.blk = b → ∃ ax, M.h.get x = some (.arr ax) ∧ ax.own = false ∧ ax.grp = grp ∧ (valid M ax = true → gx.base + ax.n ≤ lim))
    (hin : ∃ r0 g0, γ r0 = some g0 ∧ g0.blk = b)
    (a : Arr) (g : G) (hg : g.blk = b) (hes : a.es = g.es) (hown : a.own = true) (hsh : a.shared = true) (hgrp : a.grp = grp) (hend : lim ≤ g.base + a.n)
    (cur cur' : Array Value) (e : TypeId) (hb : W.heap[b]? = some (.cells cur e (0, 0))) (hsz : cur'.size = cur.size) (hag : ∀ i, i < lim → cur'[i]? = cur[i]?)
    (hh : Held (upd γ M.nx g) (W.setRow b cur') g a) :
    Rel (upd γ M.nx g) ⟨M.h.set M.nx (.arr a), M.nx + 1, M.lw⟩ (W.setRow b cur') ∧ Ext γ M W (upd γ M.nx g) ⟨M.h.set M.nx (.arr a), M.nx + 1, M.lw⟩ (W.setRow b cur') := by
  have hf := h.fresh (Nat.le_refl M.nx)
  have hle : Le γ (upd γ M.nx g) := le_upd g hf
  have hother : ∀ k, k ≠ b → (W.setRow b cur').heap[k]? = W.heap[k]? := fun k hk => setRow_other W b k cur' hk
  have hsize : (W.setRow b cur').heap.size = W.heap.size := by simp [World.setRow]
  have hrow : (W.setRow b cur').heap[b]? = some (.cells cur' e (0, 0)) := setRow_heap W b cur cur' e (0, 0) hb
  have hget : ∀ x, x ≠ M.nx → (M.h.set M.nx (.arr a)).get x = M.h.get x := fun x hx => PM.set_other _ _ hx
  have hgetn : (M.h.set M.nx (.arr a)).get M.nx = some (.arr a) := PM.set_same _ _ _
  refine ⟨⟨?_, ?_, ?_, ?_⟩, ⟨hle, ?_, Nat.le_succ _, ?_, by rw [hsize]; exact Nat.le_refl _, ?_, rfl, rfl, rfl, froz_at (thaw_cells hb) (thaw_cells hrow) hother⟩⟩
  · intro x gx hx
    by_cases ex : x = M.nx
    · subst ex
      rw [upd_same] at hx
      cases hx
      exact ⟨Nat.lt_succ_self _, by rw [hsize, hg]; exact hlt⟩
    · rw [upd_other γ g ex] at hx
      exact ⟨Nat.lt_succ_of_lt (h.dom x gx hx).1, by rw [hsize]; exact (h.dom x gx hx).2⟩
  · intro x gx hx
    by_cases ex : x = M.nx
    · subst ex
      rw [upd_same] at hx
      cases hx
      exact ⟨_, hgetn, hes, fun _ => hh⟩
    · rw [upd_other γ g ex] at hx
      obtain ⟨o, h1, h2⟩ := h.obj x gx hx
      refine ⟨o, (hget x ex).trans h1, ?_⟩
      by_cases eb : gx.blk = b
      · obtain ⟨ax, k1, _, _, k4⟩ := hmates x gx hx eb
        rw [h1] at k1
        cases k1
        refine ⟨h2.1, fun hv => ?_⟩
        have hv' : valid M ax = true := hv
        obtain ⟨c, e2, c1, c2, c3, c4⟩ := h2.2 hv'
        rw [eb, hb] at c1
        cases c1
        refine ⟨cur', e, by rw [eb]; exact hrow, by rw [hsz]; exact c2, c3, fun i v hi => ?_⟩
        obtain ⟨d1, d2, u, d3, d4⟩ := c4 i v hi
        have := k4 hv'
        exact ⟨d1, d2, u, by rw [hag _ (by omega)]; exact d3, d4.mono hle⟩
      · exact h2.keep hle (fun _ _ hv => hv) (hother _ eb)
  · intro x y gx gy hx hy hne hbl
    by_cases ex : x = M.nx
    · subst ex
      rw [upd_same] at hx
      cases hx
      rw [upd_other γ g (Ne.symm hne)] at hy
      obtain ⟨ay, k1, k2, k3, k4⟩ := hmates y gy hy (hbl.symm.trans hg)
      exact ⟨a, ay, hgetn, (hget y (Ne.symm hne)).trans k1, hgrp.trans k3.symm, fun _ => ⟨hsh, k2, fun hv => Nat.le_trans (k4 hv) hend⟩⟩
    · rw [upd_other γ g ex] at hx
      by_cases ey : y = M.nx
      · subst ey
        rw [upd_same] at hy
        cases hy
        obtain ⟨ax, k1, k2, k3, _⟩ := hmates x gx hx (hbl.trans hg)
        exact ⟨ax, a, (hget x ex).trans k1, hgetn, k3.trans hgrp.symm, fun ho => by rw [k2] at ho; cases ho⟩
      · rw [upd_other γ g ey] at hy
        obtain ⟨a1, a2, k1, k2, k3⟩ := h.alone x y gx gy hx hy hne hbl
        exact ⟨a1, a2, (hget x ex).trans k1, (hget y ey).trans k2, k3⟩
  · intro x ax hx ho
    by_cases ex : x = M.nx
    · subst ex
      rw [show (⟨M.h.set M.nx (.arr a), M.nx + 1, M.lw⟩ : Mem).h = M.h.set M.nx (.arr a) from rfl, hgetn] at hx
      cases hx
      rw [hown] at ho
      cases ho
    · exact h.svle x ax ((hget x ex).symm.trans hx) ho
  · intro x gx hx hn
    by_cases ex : x = M.nx
    · subst ex
      rw [upd_same] at hx
      cases hx
      obtain ⟨r0, g0, h0, e0⟩ := hin
      exact ⟨Nat.le_refl _, .inr ⟨r0, g0, h0, e0.trans hg.symm⟩⟩
    · rw [upd_other γ g ex] at hx
      exact some_none hx hn
  · intro x hx _
    exact hget x (Nat.ne_of_lt hx)
  · intro k _ hk
    obtain ⟨r0, g0, h0, e0⟩ := hin
    exact hother k (fun e => hk r0 g0 h0 (e0.trans e.symm))

/-- A map, or an iterator, is written anew. -/
theorem rel_put {γ : Gm} {M : Mem} {W : World} (h : Rel γ M W) {r : Nat} {g : G} {o o' : AO} (hr : γ r = some g) (ho : M.h.get r = some o) (hno : ∀ a, o ≠ .arr a) (hno' : ∀ a, o' ≠ .arr a)
    (ob : Obj) (hh : ObjR γ ⟨M.h.set r o', M.nx, M.lw⟩ { W with heap := W.heap.setIfInBounds g.blk ob } g o') :
    Rel γ ⟨M.h.set r o', M.nx, M.lw⟩ { W with heap := W.heap.setIfInBounds g.blk ob } ∧ Ext γ M W γ ⟨M.h.set r o', M.nx, M.lw⟩ { W with heap := W.heap.setIfInBounds g.blk ob } := by
  have hother : ∀ k, k ≠ g.blk → (W.heap.setIfInBounds g.blk ob)[k]? = W.heap[k]? := fun k hk => Array.getElem?_setIfInBounds_ne (Ne.symm hk)
  have hget : ∀ x, x ≠ r → (M.h.set r o').get x = M.h.get x := fun x hx => PM.set_other _ _ hx
  have hgetr : (M.h.set r o').get r = some o' := PM.set_same _ _ _
  have hth2 : Thaw (W.heap.setIfInBounds g.blk ob)[g.blk]? := hh.thaw (fun a e => absurd e (hno' a))
  have hth1 : Thaw W.heap[g.blk]? := by
    obtain ⟨o1, k1, k2⟩ := h.obj r g hr
    rw [ho] at k1
    cases k1
    exact k2.thaw (fun a e => absurd e (hno a))
  have lonely : ∀ x gx, γ x = some gx → x ≠ r → gx.blk ≠ g.blk := by
    intro x gx hx hne hbl
    obtain ⟨a1, _, k1, _⟩ := h.alone r x g gx hr hx (Ne.symm hne) hbl.symm
    rw [ho] at k1
    cases k1
    exact hno a1 rfl
  refine ⟨⟨fun x gx hx => ⟨(h.dom x gx hx).1, by simpa using (h.dom x gx hx).2⟩, ?_, ?_, ?_⟩,
    ⟨Le.refl γ, fun _ _ h1 h2 => some_none h1 h2, Nat.le_refl _, ?_, by simp, ?_, rfl, rfl, rfl, froz_at hth1 hth2 hother⟩⟩
  · intro x gx hx
    by_cases ex : x = r
    · subst ex
      rw [hr] at hx
      cases hx
      exact ⟨o', hgetr, hh⟩
    · obtain ⟨y, h1, h2⟩ := h.obj x gx hx
      exact ⟨y, (hget x ex).trans h1, h2.keep (Le.refl γ) (fun _ _ hv => hv) (hother _ (lonely x gx hx ex))⟩
  · intro x y gx gy hx hy hne hbl
    have ex : x ≠ r := by
      rintro rfl
      rw [hr] at hx
      cases hx
      exact lonely y gy hy (Ne.symm hne) hbl.symm
    have ey : y ≠ r := by
      rintro rfl
      rw [hr] at hy
      cases hy
      exact lonely x gx hx hne hbl
    obtain ⟨a1, a2, k1, k2, k3⟩ := h.alone x y gx gy hx hy hne hbl
    exact ⟨a1, a2, (hget x ex).trans k1, (hget y ey).trans k2, k3⟩
  · intro x ax hx hf
    by_cases ex : x = r
    · subst ex
      rw [show (⟨M.h.set x o', M.nx, M.lw⟩ : Mem).h = M.h.set x o' from rfl, hgetr] at hx
      cases hx
      exact absurd rfl (hno' ax)
    · exact h.svle x ax ((hget x ex).symm.trans hx) hf
  · intro x _ hn
    refine hget x ?_
    rintro rfl
    exact some_none hr hn
  · intro k _ hk
    exact hother k (fun e => hk r g hr e.symm)
end Go.Ai
