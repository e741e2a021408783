/-
  The abstract interpreter: its instructions on numbers and texts answer as the model's.
-/
import Derived.Test.YtclmkcmpfkmbpaaGreatDoorAi6
import Derived.Laws.Strings2
import Derived.IntWalk
import Derived.Laws.Concat
set_option linter.unusedSectionVars false
namespace Go.Ai
open Go

theorem ieq_spec (a b : Int) : ieq a b = (a == b) := by
  cases a with
  | ofNat m => cases b with
    | ofNat n =>
      show Nat.beq m n = (Int.ofNat m == Int.ofNat n)
      rw [Bool.eq_iff_iff, beq_iff_eq, Int.ofNat.injEq]
      exact ⟨Nat.eq_of_beq_eq_true, fun h => by subst h; exact Nat.beq_refl _⟩
    | negSucc n =>
      show false = (Int.ofNat m == Int.negSucc n)
      rw [eq_comm, beq_eq_false_iff_ne]
      intro h; cases h
  | negSucc m => cases b with
    | ofNat n =>
      show false = (Int.negSucc m == Int.ofNat n)
      rw [eq_comm, beq_eq_false_iff_ne]
      intro h; cases h
    | negSucc n =>
      show Nat.beq m n = (Int.negSucc m == Int.negSucc n)
      rw [Bool.eq_iff_iff, beq_iff_eq, Int.negSucc.injEq]
      exact ⟨Nat.eq_of_beq_eq_true, fun h => by subst h; exact Nat.beq_refl _⟩
theorem blt_spec (m n : Nat) : Nat.blt m n = decide (m < n) := by
  rw [Bool.eq_iff_iff, decide_eq_true_iff]
  show Nat.ble (m + 1) n = true ↔ _
  rw [Nat.ble_eq]; rfl
theorem ilt_spec (a b : Int) : ilt a b = decide (a < b) := by
  cases a with
  | ofNat m => cases b with
    | ofNat n =>
      show Nat.blt m n = _
      rw [blt_spec, Bool.eq_iff_iff, decide_eq_true_iff, decide_eq_true_iff]
      exact Int.ofNat_lt.symm
    | negSucc n =>
      show false = _
      rw [eq_comm, decide_eq_false_iff_not]
      intro h; have := Int.negSucc_lt_zero n; simp only [Int.ofNat_eq_natCast] at *; omega
  | negSucc m => cases b with
    | ofNat n =>
      show true = _
      rw [eq_comm, decide_eq_true_iff]
      have := Int.negSucc_lt_zero m; simp only [Int.ofNat_eq_natCast] at *; omega
    | negSucc n =>
      show Nat.blt n m = _
      rw [blt_spec, Bool.eq_iff_iff, decide_eq_true_iff, decide_eq_true_iff]
      rw [Int.negSucc_eq, Int.negSucc_eq]; omega
theorem keq_spec {k j : IntKind} (h : keq k j = true) : k = j := by
  cases k <;> cases j <;> first | rfl | (simp [keq] at h; done)

theorem fit_wrap {k : IntKind} {n : Int} (h : fitI k n = true) : k.wrap n = n := by
  unfold fitI at h
  split at h <;> first | (simp at h; done) | (rw [blt_spec, decide_eq_true_iff] at h; unfold IntKind.wrap IntKind.bits IntKind.signed; simp only [Int.ofNat_eq_natCast, Int.negSucc_eq] at *; simp; omega)
theorem fitv_spec {k : IntKind} {n : Int} {v : Value} (h : fitv k n = some v) : v = .int k (k.wrap n) := by
  unfold fitv at h
  cases hf : fitI k n with
  | false => rw [hf] at h; cases h
  | true => rw [hf] at h; cases h; rw [fit_wrap hf]

theorem ofInt_small {n m : Nat} (h : m < 2 ^ n) : (BitVec.ofInt n (m : Int)).toNat = m := by
  rw [BitVec.toNat_ofInt]
  have : ((m : Int) % ((2 ^ n : Nat) : Int)) = m := Int.emod_eq_of_lt (by omega) (by exact_mod_cast h)
  rw [this]; rfl

theorem wrap_nat {k : IntKind} {n : Nat} (h : n < 9223372036854775808) (hk : k = .i64 ∨ k = .u64) : k.wrap (n : Int) = n := by
  rcases hk with rfl | rfl <;> exact fit_wrap (by show fitI _ (Int.ofNat n) = true; simp only [fitI, blt_spec, decide_eq_true_iff]; omega)
theorem wrap_u64 {n : Nat} (h : n < 18446744073709551616) : IntKind.u64.wrap (n : Int) = n :=
  fit_wrap (by show fitI _ (Int.ofNat n) = true; simp only [fitI, blt_spec, decide_eq_true_iff]; omega)

variable {P : Program}

theorem run_eqGuard_flat {op : BinOp} {t : TypeId} {x y : Operand} {a b : Value} (W : World) (ha : ∀ c, a ≠ .agg c) (hn : a ≠ .nilIface) : (eqGuard op t x y a b).run P W = .ok () W := by
  cases a <;> cases op <;> first | rfl | exact absurd rfl hn | exact absurd rfl (ha _)

theorem cond_some {α : Type} {c : Bool} {x v : α} (h : (bif c then some x else none) = some v) : c = true ∧ x = v := by
  cases c with
  | false => cases h
  | true => cases h; exact ⟨rfl, rfl⟩
theorem cond_opt {α : Type} {c : Bool} {x : Option α} {v : α} (h : (bif c then x else none) = some v) : c = true ∧ x = some v := by
  cases c with
  | false => cases h
  | true => exact ⟨rfl, h⟩
theorem binInt_atom {op : BinOp} {k : IntKind} {a b : Int} {v : Value} (h : binInt op k a b = some v) : atomV v = true := by
  unfold binInt at h
  cases op <;> simp only at h
  all_goals first
    | (rw [fitv_spec h]; rfl)
    | (cases h; rfl)
    | (cases h; done)
    | (split at h <;> first | (rw [fitv_spec h]; rfl) | (obtain ⟨_, rfl⟩ := cond_some h; rfl) | (cases h; rfl) | (cases h; done))
theorem shiftInt_atom {op : BinOp} {k : IntKind} {a b : Int} {v : Value} (h : shiftInt op k a b = some v) : atomV v = true := by
  unfold shiftInt at h
  split at h
  · rename_i m n
    cases hc : (Nat.ble n 32 && Nat.ble n k.bits) with
    | false => rw [hc] at h; cases h
    | true =>
      rw [hc] at h
      cases op <;> first | (have h' : fitv _ _ = some v := h; rw [fitv_spec h']; rfl) | (cases h; rfl) | (cases h; done)
  · cases h

theorem binInt_run {op : BinOp} {t : TypeId} {k : IntKind} {a b : Int} {v : Value} (W : World) (h : binInt op k a b = some v) : (binOp op t (.int k a) (.int k b)).run P W = .ok v W := by
  unfold binInt at h
  cases op <;> simp only at h
  case add => rw [fitv_spec h]; simp [binOp, Op.intArith]
  case sub => rw [fitv_spec h]; simp [binOp, Op.intArith]
  case mul => rw [fitv_spec h]; simp [binOp, Op.intArith]
  case eql => cases h; simp [binOp, Op.intCmp, ieq_spec]
  case neq => cases h; simp [binOp, Op.intCmp, ieq_spec, bne]
  case lss => cases h; simp [binOp, Op.intCmp, ilt_spec]
  case gtr => cases h; simp [binOp, Op.intCmp, ilt_spec]
  case leq => cases h; rw [ilt_spec, show (!decide (b < a)) = decide (a ≤ b) from by rw [Bool.eq_iff_iff]; simp]; simp [binOp, Op.intCmp]
  case geq => cases h; rw [ilt_spec, show (!decide (a < b)) = decide (a ≥ b) from by rw [Bool.eq_iff_iff]; simp]; simp [binOp, Op.intCmp]
  case quo =>
    split at h
    · rename_i m n
      rw [fitv_spec h]
      have hne : ¬ (Int.ofNat (n + 1) = 0) := by simp only [Int.ofNat_eq_natCast]; omega
      have ht : (Int.ofNat m).tdiv (Int.ofNat (n + 1)) = Int.ofNat (m / (n + 1)) := rfl
      simp only [binOp, Op.intDiv, ne_eq, not_true_eq_false, if_false, hne, ht]
      rfl
    · cases h
  case rem =>
    split at h
    · rename_i m n
      cases h
      have hne : ¬ (Int.ofNat (n + 1) = 0) := by simp only [Int.ofNat_eq_natCast]; omega
      have ht : (Int.ofNat m).tmod (Int.ofNat (n + 1)) = Int.ofNat (m % (n + 1)) := rfl
      simp only [binOp, Op.intDiv, ne_eq, not_true_eq_false, if_false, hne, ht]
      rfl
    · cases h
  case and =>
    split at h
    · rename_i m n
      cases hc : (Nat.blt m 9223372036854775808 && Nat.blt n 9223372036854775808) with
      | false => rw [hc] at h; cases h
      | true =>
        rw [hc] at h; cases h
        simp only [Bool.and_eq_true, blt_spec, decide_eq_true_iff] at hc
        simp only [binOp, Op.intBits, ne_eq, not_true_eq_false, if_false, Int.ofNat_eq_natCast]
        rw [BitVec.toNat_and, ofInt_small (by show m < 2 ^ 64; omega), ofInt_small (by show n < 2 ^ 64; omega)]
        rw [wrap_nat (Nat.lt_of_le_of_lt Nat.and_le_left hc.1) (.inl rfl)]
        rfl
    · rename_i m n
      cases hc : (Nat.blt m 18446744073709551616 && Nat.blt n 18446744073709551616) with
      | false => rw [hc] at h; cases h
      | true =>
        rw [hc] at h; cases h
        simp only [Bool.and_eq_true, blt_spec, decide_eq_true_iff] at hc
        simp only [binOp, Op.intBits, ne_eq, not_true_eq_false, if_false, Int.ofNat_eq_natCast]
        rw [BitVec.toNat_and, ofInt_small (by show m < 2 ^ 64; omega), ofInt_small (by show n < 2 ^ 64; omega)]
        rw [wrap_u64 (Nat.lt_of_le_of_lt Nat.and_le_left hc.1)]
        rfl
    · cases h
  case or =>
    split at h
    · rename_i m n
      cases hc : (Nat.blt m 9223372036854775808 && Nat.blt n 9223372036854775808) with
      | false => rw [hc] at h; cases h
      | true =>
        rw [hc] at h; cases h
        simp only [Bool.and_eq_true, blt_spec, decide_eq_true_iff] at hc
        simp only [binOp, Op.intBits, ne_eq, not_true_eq_false, if_false, Int.ofNat_eq_natCast]
        rw [BitVec.toNat_or, ofInt_small (by show m < 2 ^ 64; omega), ofInt_small (by show n < 2 ^ 64; omega)]
        rw [wrap_nat (Nat.or_lt_two_pow (n := 63) hc.1 hc.2) (.inl rfl)]
        rfl
    · rename_i m n
      cases hc : (Nat.blt m 18446744073709551616 && Nat.blt n 18446744073709551616) with
      | false => rw [hc] at h; cases h
      | true =>
        rw [hc] at h; cases h
        simp only [Bool.and_eq_true, blt_spec, decide_eq_true_iff] at hc
        simp only [binOp, Op.intBits, ne_eq, not_true_eq_false, if_false, Int.ofNat_eq_natCast]
        rw [BitVec.toNat_or, ofInt_small (by show m < 2 ^ 64; omega), ofInt_small (by show n < 2 ^ 64; omega)]
        rw [wrap_u64 (Nat.or_lt_two_pow (n := 64) hc.1 hc.2)]
        rfl
    · cases h
  all_goals cases h

theorem shiftInt_run {op : BinOp} {t : TypeId} {k j : IntKind} {a b : Int} {v : Value} (W : World) (hop : op = .shl ∨ op = .shr) (h : shiftInt op k a b = some v) :
    (binOp op t (.int k a) (.int j b)).run P W = .ok v W := by
  unfold shiftInt at h
  split at h
  · rename_i m n
    cases hc : (Nat.ble n 32 && Nat.ble n k.bits) with
    | false => rw [hc] at h; cases h
    | true =>
      rw [hc] at h
      simp only [Bool.and_eq_true, Nat.ble_eq] at hc
      have hmin : min (Int.ofNat n).toNat k.bits = n := by simp only [Int.ofNat_eq_natCast, Int.toNat_natCast]; omega
      have hneg : ¬ (Int.ofNat n < 0) := by simp only [Int.ofNat_eq_natCast]; omega
      rcases hop with rfl | rfl
      · have h' : fitv k (.ofNat (m * 2 ^ n)) = some v := h
        rw [fitv_spec h']
        simp only [binOp, Op.shift, hneg, if_false, hmin]
        simp only [Int.ofNat_eq_natCast, Int.natCast_mul, Int.natCast_pow]
        rfl
      · cases h
        simp only [binOp, Op.shift, hneg, if_false, hmin]
        have : (Int.ofNat m).fdiv (2 ^ n) = Int.ofNat (m / 2 ^ n) := by
          rw [show ((2 : Int) ^ n) = ((2 ^ n : Nat) : Int) from by rw [Int.natCast_pow]; rfl]
          simp only [Int.ofNat_eq_natCast]
          rw [Int.fdiv_eq_ediv_of_nonneg _ (Int.natCast_nonneg _)]
          exact (Int.natCast_ediv m (2 ^ n)).symm
        rw [this]
        rfl
  · cases h

theorem beqL_spec : ∀ (s t : List UInt8), beqL s t = (s == t)
  | [], [] => rfl
  | [], _ :: _ => rfl
  | _ :: _, [] => rfl
  | a :: x, b :: y => by
    have e : u8eq a b = (a == b) := by
      rw [Bool.eq_iff_iff, beq_iff_eq]
      exact ⟨fun h => UInt8.toNat_inj.1 (Nat.eq_of_beq_eq_true h), fun h => by subst h; exact Nat.beq_refl _⟩
    unfold beqL
    rw [e, beqL_spec x y, List.cons_beq_cons]
    cases a == b <;> rfl

variable [Sig]
theorem bin_run {op : BinOp} {t : TypeId} {x y v : Value} (W : World) (h : bin op x y = some v) : (binOp op t x y).run P W = .ok v W ∧ (∀ c, x ≠ .agg c) ∧ x ≠ .nilIface ∧ ∀ γ, VR γ v v := by
  unfold bin at h
  split at h
  · rename_i k a j b
    refine ⟨?_, (fun c e => by cases e), (fun e => by cases e), ?_⟩
    · split at h
      · exact shiftInt_run W (.inl rfl) h
      · exact shiftInt_run W (.inr rfl) h
      · cases hk : keq k j with
        | false => rw [hk] at h; cases h
        | true =>
          rw [hk] at h
          have := keq_spec hk
          subst this
          exact binInt_run W h
    · intro γ
      refine .atom ?_
      split at h
      · exact shiftInt_atom h
      · exact shiftInt_atom h
      · have e : binInt op k a b = some v := by
          cases hk : keq k j with
          | false => rw [hk] at h; cases h
          | true => rw [hk] at h; exact h
        exact binInt_atom e
  · rename_i s t'
    refine ⟨?_, (fun c e => by cases e), (fun e => by cases e), ?_⟩
    · split at h
      · cases h
        rw [binOp_string_eql]
        simp only [Sem.run_pure, ByteArray.toList_mk, beqL_spec]
      · cases h
        rw [binOp_string_neq]
        simp only [Sem.run_pure, ByteArray.toList_mk, beqL_spec]
      · cases hc : Nat.blt (s.length + t'.length) 1000000000 with
        | false => rw [hc] at h; cases h
        | true =>
          rw [hc] at h
          cases h
          rw [blt_spec, decide_eq_true_iff] at hc
          rw [binOp_string_add]
          exact (run_string_add_sum W _ _ (by simp [ByteArray.size]; omega)).trans (by rw [show (⟨⟨s⟩⟩ : ByteArray) = ⟨s.toArray⟩ from rfl, show (⟨⟨t'⟩⟩ : ByteArray) = ⟨t'.toArray⟩ from rfl, ByteArray.mk_append_mk])
      · cases h
    · intro γ
      split at h
      · cases h; exact .atom rfl
      · cases h; exact .atom rfl
      · revert h; generalize Nat.blt _ _ = c; intro h; cases c <;> cases h; exact .atom rfl
      · cases h
  · cases h

variable [Know]
/-- What is said to be known of the symbols is so. -/
class KOk : Prop where
  cmpL : ∀ i op c b, Know.cmp i op false c = some b → ∃ cv, bin op (.int .i64 (Sig.val i)) (.int .i64 c) = some cv ∧ ∀ γ, VR γ b cv
  cmpR : ∀ i op c b, Know.cmp i op true c = some b → ∃ cv, bin op (.int .i64 c) (.int .i64 (Sig.val i)) = some cv ∧ ∀ γ, VR γ b cv
  lo : ∀ i, 0 < Know.lo i → (Know.lo i : Int) ≤ Sig.val i
  hi : ∀ i, Sig.val i ≤ (Know.hi i : Int)
end Go.Ai
