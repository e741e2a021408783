/-
  The symbols of MachineArgs, and what is known of them in a class of inputs.
-/
import Derived.Test.YtclmkcmpfkmbpaaGreatDoorAi28
set_option maxRecDepth 100000
set_option linter.unusedSectionVars false
namespace Go.Ai
open Go Go.Proofs

structure Inp where
  words : Int
  stack : Int
  marks : Int
  fuel : Int
def blk (w : Int) : Int := if 32 ≤ w ∧ w ≤ 65536 then w / 32 else 1
/-- What the symbols stand for: the four inputs; the heap's blocks, words and words with the first one; and those of a heap of 65536 words. -/
def valOf (x : Inp) (i : Nat) : Int :=
  bif Nat.beq i 0 then x.words else bif Nat.beq i 1 then x.stack else bif Nat.beq i 2 then x.marks else bif Nat.beq i 3 then x.fuel else
  bif Nat.beq i 10 then blk x.words else bif Nat.beq i 11 then blk x.words * 32 else bif Nat.beq i 12 then 1 + blk x.words * 32 else
  bif Nat.beq i 20 then 65536 else bif Nat.beq i 21 then 2048 else bif Nat.beq i 22 then 65536 else bif Nat.beq i 23 then 65537 else 0
@[reducible] def sig (x : Inp) : Sig := ⟨valOf x⟩

structure Bd where
  lo : Int
  hi : Int
def Bd.has (b : Bd) (v : Int) : Prop := b.lo ≤ v ∧ v ≤ b.hi
structure Cls where
  w : Bd
  s : Bd
  m : Bd
  f : Bd
def Cls.bd (c : Cls) (i : Nat) : Bd :=
  bif Nat.beq i 0 then c.w else bif Nat.beq i 1 then c.s else bif Nat.beq i 2 then c.m else bif Nat.beq i 3 then c.f else
  bif Nat.beq i 10 then ⟨1, 2048⟩ else bif Nat.beq i 11 then ⟨32, 65536⟩ else bif Nat.beq i 12 then ⟨33, 65537⟩ else
  bif Nat.beq i 20 then ⟨65536, 65536⟩ else bif Nat.beq i 21 then ⟨1, 2048⟩ else bif Nat.beq i 22 then ⟨32, 65536⟩ else bif Nat.beq i 23 then ⟨33, 65537⟩ else ⟨0, 0⟩
def Cls.has (c : Cls) (x : Inp) : Prop := c.w.has x.words ∧ c.s.has x.stack ∧ c.m.has x.marks ∧ c.f.has x.fuel

def ltS (b : Bd) (k : Int) : Option Bool := bif ilt b.hi k then some true else bif ilt b.lo k then none else some false
def gtS (b : Bd) (k : Int) : Option Bool := bif ilt k b.lo then some true else bif ilt k b.hi then none else some false
def yes (o : Option Bool) : Option Value := match o with
  | some t => some (.bool t)
  | none => none
def no (o : Option Bool) : Option Value := match o with
  | some t => some (.bool (!t))
  | none => none
def cmpB (b : Bd) (op : BinOp) (sw : Bool) (k : Int) : Option Value :=
  match op with
  | .lss => yes (bif sw then gtS b k else ltS b k)
  | .geq => no (bif sw then gtS b k else ltS b k)
  | .gtr => yes (bif sw then ltS b k else gtS b k)
  | .leq => no (bif sw then ltS b k else gtS b k)
  | _ => none
def symA (c : Cls) (i : Nat) (op : BinOp) (sw : Bool) (k : Int) : Option Nat :=
  match op with
  | .quo => bif !sw && ieq k 32 then (bif Nat.beq i 0 && !(ilt c.w.lo 32) && !(ilt 65536 c.w.hi) then some 10 else bif Nat.beq i 20 then some 21 else none) else none
  | .mul => bif ieq k 32 then (bif Nat.beq i 10 then some 11 else bif Nat.beq i 21 then some 22 else none) else none
  | .add => bif ieq k 1 then (bif Nat.beq i 11 then some 12 else bif Nat.beq i 22 then some 23 else none) else none
  | _ => none
def cmpC (c : Cls) (i : Nat) (op : BinOp) (sw : Bool) (k : Int) : Option Value :=
  match symA c i op sw k with
  | some j => some (.float .f32 j)
  | none => cmpB (c.bd i) op sw k
def natOf : Int → Nat
  | .ofNat n => n
  | .negSucc _ => 0
/-- What is known in a class; no call is told. -/
@[reducible] def know (c : Cls) (ov : Nat → Option (List Value → Mem → RC)) : Know where
  cmp := cmpC c
  lo := fun i => natOf (c.bd i).lo
  hi := fun i => natOf (c.bd i).hi
  ov := ov

theorem ltS_ok {b : Bd} {v k : Int} (h : b.has v) {t : Bool} (e : ltS b k = some t) : t = decide (v < k) := by
  unfold ltS at e
  rw [ilt_spec, ilt_spec] at e
  obtain ⟨h1, h2⟩ := h
  by_cases a : b.hi < k
  · simp only [a, decide_true, cond_true] at e
    cases e
    symm; rw [decide_eq_true_iff]; omega
  · simp only [a, decide_false, cond_false] at e
    by_cases a2 : b.lo < k
    · simp [a2] at e
    · simp only [a2, decide_false, cond_false] at e
      cases e
      symm; rw [decide_eq_false_iff_not]; omega
theorem gtS_ok {b : Bd} {v k : Int} (h : b.has v) {t : Bool} (e : gtS b k = some t) : t = decide (k < v) := by
  unfold gtS at e
  rw [ilt_spec, ilt_spec] at e
  obtain ⟨h1, h2⟩ := h
  by_cases a : k < b.lo
  · simp only [a, decide_true, cond_true] at e
    cases e
    symm; rw [decide_eq_true_iff]; omega
  · simp only [a, decide_false, cond_false] at e
    by_cases a2 : k < b.hi
    · simp [a2] at e
    · simp only [a2, decide_false, cond_false] at e
      cases e
      symm; rw [decide_eq_false_iff_not]; omega
theorem yes_some {o : Option Bool} {v : Value} (h : yes o = some v) : ∃ t, o = some t ∧ v = .bool t := by
  cases o with
  | none => cases h
  | some t => cases h; exact ⟨t, rfl, rfl⟩
theorem no_some {o : Option Bool} {v : Value} (h : no o = some v) : ∃ t, o = some t ∧ v = .bool (!t) := by
  cases o with
  | none => cases h
  | some t => cases h; exact ⟨t, rfl, rfl⟩
theorem cmpB_ok {b : Bd} {v k : Int} (h : b.has v) {op : BinOp} {r : Value} :
    (cmpB b op false k = some r → bin op (.int .i64 v) (.int .i64 k) = some r ∧ atomV r = true) ∧ (cmpB b op true k = some r → bin op (.int .i64 k) (.int .i64 v) = some r ∧ atomV r = true) := by
  constructor
  · intro e
    unfold cmpB at e
    cases op <;> simp only [cond_false] at e <;> try (cases e; done)
    case lss =>
      obtain ⟨t, h1, rfl⟩ := yes_some e
      rw [ltS_ok h h1]
      exact ⟨by show some (Value.bool (ilt v k)) = _; rw [ilt_spec], rfl⟩
    case geq =>
      obtain ⟨t, h1, rfl⟩ := no_some e
      rw [ltS_ok h h1]
      exact ⟨by show some (Value.bool (!(ilt v k))) = _; rw [ilt_spec], rfl⟩
    case gtr =>
      obtain ⟨t, h1, rfl⟩ := yes_some e
      rw [gtS_ok h h1]
      exact ⟨by show some (Value.bool (ilt k v)) = _; rw [ilt_spec], rfl⟩
    case leq =>
      obtain ⟨t, h1, rfl⟩ := no_some e
      rw [gtS_ok h h1]
      exact ⟨by show some (Value.bool (!(ilt k v))) = _; rw [ilt_spec], rfl⟩
  · intro e
    unfold cmpB at e
    cases op <;> simp only [cond_true] at e <;> try (cases e; done)
    case lss =>
      obtain ⟨t, h1, rfl⟩ := yes_some e
      rw [gtS_ok h h1]
      exact ⟨by show some (Value.bool (ilt k v)) = _; rw [ilt_spec], rfl⟩
    case geq =>
      obtain ⟨t, h1, rfl⟩ := no_some e
      rw [gtS_ok h h1]
      exact ⟨by show some (Value.bool (!(ilt k v))) = _; rw [ilt_spec], rfl⟩
    case gtr =>
      obtain ⟨t, h1, rfl⟩ := yes_some e
      rw [ltS_ok h h1]
      exact ⟨by show some (Value.bool (ilt v k)) = _; rw [ilt_spec], rfl⟩
    case leq =>
      obtain ⟨t, h1, rfl⟩ := no_some e
      rw [ltS_ok h h1]
      exact ⟨by show some (Value.bool (!(ilt v k))) = _; rw [ilt_spec], rfl⟩

theorem fit64 (m : Nat) (h : m < 9223372036854775808) : fitv .i64 (m : Int) = some (.int .i64 m) := by
  have : fitI .i64 (Int.ofNat m) = true := by simp only [fitI, blt_spec, decide_eq_true_iff]; exact h
  show fitv .i64 (Int.ofNat m) = _
  unfold fitv
  rw [this]; rfl
theorem beqN {a b : Nat} (h : Nat.beq a b = true) : a = b := Nat.eq_of_beq_eq_true h
theorem ieqI {a b : Int} (h : ieq a b = true) : a = b := by rw [ieq_spec] at h; simpa using h

theorem has_cond {t : Bool} {a b : Bd} {u v : Int} (h1 : a.has u) (h2 : b.has v) : (bif t then a else b).has (bif t then u else v) := by
  cases t
  · exact h2
  · exact h1
theorem bd_has {c : Cls} {x : Inp} (h : c.has x) (i : Nat) : (c.bd i).has (valOf x i) := by
  obtain ⟨h1, h2, h3, h4⟩ := h
  have hb : 1 ≤ blk x.words ∧ blk x.words ≤ 2048 := by
    unfold blk
    split <;> omega
  exact has_cond h1 (has_cond h2 (has_cond h3 (has_cond h4 (has_cond hb (has_cond ⟨by show (32 : Int) ≤ _; omega, by show _ ≤ (65536 : Int); omega⟩ (has_cond ⟨by show (33 : Int) ≤ _; omega, by show _ ≤ (65537 : Int); omega⟩
    (has_cond ⟨by decide, by decide⟩ (has_cond ⟨by decide, by decide⟩ (has_cond ⟨by decide, by decide⟩ (has_cond ⟨by decide, by decide⟩ ⟨by decide, by decide⟩))))))))))

/-- The symbols that come of symbols. -/
theorem symA_ok {c : Cls} {x : Inp} (h : c.has x) {i j : Nat} {op : BinOp} {k : Int} :
    (symA c i op false k = some j → bin op (.int .i64 (valOf x i)) (.int .i64 k) = some (.int .i64 (valOf x j))) ∧ (symA c i op true k = some j → bin op (.int .i64 k) (.int .i64 (valOf x i)) = some (.int .i64 (valOf x j))) := by
  have hw := h.1
  have hb : 1 ≤ blk x.words ∧ blk x.words ≤ 2048 := by
    unfold blk
    split <;> omega
  obtain ⟨b, hbn⟩ : ∃ b : Nat, blk x.words = (b : Int) := ⟨(blk x.words).toNat, by omega⟩
  have v10 : valOf x 10 = (b : Int) := hbn
  have v11 : valOf x 11 = ((b * 32 : Nat) : Int) := by show blk x.words * 32 = _; rw [hbn]; omega
  have v12 : valOf x 12 = ((1 + b * 32 : Nat) : Int) := by show 1 + blk x.words * 32 = _; rw [hbn]; omega
  have quo : ∀ n : Nat, n < 100000 → bin .quo (.int .i64 (n : Int)) (.int .i64 32) = some (.int .i64 ((n / 32 : Nat) : Int)) := fun n hn => fit64 (n / 32) (by omega)
  have mul1 : ∀ n : Nat, n < 100000 → bin .mul (.int .i64 (n : Int)) (.int .i64 32) = some (.int .i64 ((n * 32 : Nat) : Int)) := fun n hn => by
    have := fit64 (n * 32) (by omega)
    rw [Int.natCast_mul] at this ⊢
    exact this
  have mul2 : ∀ n : Nat, n < 100000 → bin .mul (.int .i64 32) (.int .i64 (n : Int)) = some (.int .i64 ((n * 32 : Nat) : Int)) := fun n hn => by
    have := fit64 (n * 32) (by omega)
    rw [Nat.mul_comm, Int.natCast_mul] at this ⊢
    exact this
  have add1 : ∀ n : Nat, n < 100000 → bin .add (.int .i64 (n : Int)) (.int .i64 1) = some (.int .i64 ((1 + n : Nat) : Int)) := fun n hn => by
    have := fit64 (1 + n) (by omega)
    rw [Nat.add_comm, Int.natCast_add] at this ⊢
    exact this
  have add2 : ∀ n : Nat, n < 100000 → bin .add (.int .i64 1) (.int .i64 (n : Int)) = some (.int .i64 ((1 + n : Nat) : Int)) := fun n hn => by
    have := fit64 (1 + n) (by omega)
    rw [Int.natCast_add] at this ⊢
    exact this
  have hb2 : b ≤ 2048 := by omega
  constructor
  · intro e
    unfold symA at e
    cases op <;> simp only at e <;> try (cases e; done)
    case quo =>
      obtain ⟨e1, e⟩ := cond_opt e
      simp only [Bool.not_false, Bool.true_and] at e1
      rw [ieqI e1]
      cases hi : (Nat.beq i 0 && !(ilt c.w.lo 32) && !(ilt 65536 c.w.hi)) with
      | true =>
        rw [hi] at e
        cases e
        simp only [Bool.and_eq_true, Bool.not_eq_true', ilt_spec, decide_eq_false_iff_not] at hi
        obtain ⟨⟨h0, h1⟩, h2⟩ := hi
        rw [beqN h0, v10]
        have hw1 := hw.1
        have hw2 := hw.2
        obtain ⟨n, hn⟩ : ∃ n : Nat, x.words = (n : Int) := ⟨x.words.toNat, by omega⟩
        have e0 : valOf x 0 = (n : Int) := hn
        have : blk x.words = x.words / 32 := by unfold blk; rw [if_pos (by omega)]
        rw [e0, quo n (by omega)]
        congr 2
        omega
      | false =>
        rw [hi] at e
        obtain ⟨h0, h1⟩ := cond_some e
        rw [beqN h0, ← h1]
        rfl
    case mul =>
      obtain ⟨e1, e⟩ := cond_opt e
      rw [ieqI e1]
      cases hi : Nat.beq i 10 with
      | true =>
        rw [hi] at e
        cases e
        rw [beqN hi, v10, v11]
        exact mul1 b (by omega)
      | false =>
        rw [hi] at e
        obtain ⟨h0, h1⟩ := cond_some e
        rw [beqN h0, ← h1]
        rfl
    case add =>
      obtain ⟨e1, e⟩ := cond_opt e
      rw [ieqI e1]
      cases hi : Nat.beq i 11 with
      | true =>
        rw [hi] at e
        cases e
        rw [beqN hi, v11, v12]
        exact add1 (b * 32) (by omega)
      | false =>
        rw [hi] at e
        obtain ⟨h0, h1⟩ := cond_some e
        rw [beqN h0, ← h1]
        rfl
  · intro e
    unfold symA at e
    cases op <;> simp only at e <;> try (cases e; done)
    case mul =>
      obtain ⟨e1, e⟩ := cond_opt e
      rw [ieqI e1]
      cases hi : Nat.beq i 10 with
      | true =>
        rw [hi] at e
        cases e
        rw [beqN hi, v10, v11]
        exact mul2 b (by omega)
      | false =>
        rw [hi] at e
        obtain ⟨h0, h1⟩ := cond_some e
        rw [beqN h0, ← h1]
        rfl
    case add =>
      obtain ⟨e1, e⟩ := cond_opt e
      rw [ieqI e1]
      cases hi : Nat.beq i 11 with
      | true =>
        rw [hi] at e
        cases e
        rw [beqN hi, v11, v12]
        exact add2 (b * 32) (by omega)
      | false =>
        rw [hi] at e
        obtain ⟨h0, h1⟩ := cond_some e
        rw [beqN h0, ← h1]
        rfl

theorem know_ok {c : Cls} {x : Inp} (h : c.has x) (ov : Nat → Option (List Value → Mem → RC)) : @KOk (sig x) (know c ov) := by
  refine @KOk.mk (sig x) (know c ov) ?_ ?_ ?_ ?_
  · intro i op k b hb
    have hb : cmpC c i op false k = some b := hb
    unfold cmpC at hb
    split at hb
    · rename_i j hj
      cases hb
      exact ⟨_, (symA_ok h).1 hj, fun γ => @VR.symI (sig x) γ j⟩
    · obtain ⟨h1, h2⟩ := (cmpB_ok (bd_has h i)).1 hb
      exact ⟨b, h1, fun γ => @VR.atom (sig x) γ b h2⟩
  · intro i op k b hb
    have hb : cmpC c i op true k = some b := hb
    unfold cmpC at hb
    split at hb
    · rename_i j hj
      cases hb
      exact ⟨_, (symA_ok h).2 hj, fun γ => @VR.symI (sig x) γ j⟩
    · obtain ⟨h1, h2⟩ := (cmpB_ok (bd_has h i)).2 hb
      exact ⟨b, h1, fun γ => @VR.atom (sig x) γ b h2⟩
  · intro i hi
    have hi : 0 < natOf (c.bd i).lo := hi
    show ((natOf (c.bd i).lo : Nat) : Int) ≤ valOf x i
    have := (bd_has h i).1
    generalize (c.bd i).lo = l at hi this
    cases l with
    | ofNat n => exact this
    | negSucc n => simp [natOf] at hi
  · intro i
    show valOf x i ≤ ((natOf (c.bd i).hi : Nat) : Int)
    have := (bd_has h i).2
    generalize (c.bd i).hi = l at this
    cases l with
    | ofNat n => exact this
    | negSucc n =>
      have h0 := Int.negSucc_lt_zero n
      simp only [natOf]
      omega
end Go.Ai
